import Derived.Test.YtimlfdihodoolaaGreatZp8
import Derived.Test.YtimlfdihodoolaaGreatZp2
import Derived.Deep.LoopGhost
/-
  The small readers: order.small, order.name, log.small, log.inst, post.small; the rows of numbers log.nums, post.nums. No condition.
-/
namespace Go.Proofs.YtimlfdihodoolaaGreat
set_option linter.unusedVariables false
set_option linter.unusedSimpArgs false
open Go.RowKit
def SPost (w : World) (g B : Nat) (r : Int × RS) (en : Ending) (w' : World) : Prop := en = .returned (.int .i64 r.1) ∧ Rdr w' g B r.2.2 r.2.1 ∧ Mod (only g) w w'
def NmPost (w : World) (g B : Nat) (r : List UInt8 × RS) (en : Ending) (w' : World) : Prop := en = .returned (.string (txt r.1)) ∧ Rdr w' g B r.2.2 r.2.1 ∧ Mod (only g) w w'
theorem osmall_ok (w : World) (g B e : Nat) (l : List UInt8) (most : Int) (h : Rdr w g B l e) : Calls Tryz.prog 72 #[.pointer (some ⟨g, 0, none⟩), .int .i64 most] w (SPost w g B (qg 0 most (e, l))) := by
  have kc := range_ok w g B e l 0 most h
  replace h := Lib.hid h
  go_enter Tryz.func72, Tryz.ntmps72
  go_wp2_with fail
  refine kc.mono ?_
  rintro en w1 ⟨rfl, hR, hm⟩
  dsimp only
  replace hR := Lib.hid hR
  replace hm := Lib.hid hm
  go_wp2_with fail
  go_ret
  exact ⟨rfl, hR.out, hm.out⟩
theorem lsmall_ok (w : World) (g B e : Nat) (l : List UInt8) (most : Int) (h : Rdr w g B l e) : Calls Tryz.prog 19 #[.pointer (some ⟨g, 0, none⟩), .int .i64 most] w (SPost w g B (qg 0 most (e, l))) := by
  have kc := range_ok w g B e l 0 most h
  replace h := Lib.hid h
  go_enter Tryz.func19, Tryz.ntmps19
  go_wp2_with fail
  refine kc.mono ?_
  rintro en w1 ⟨rfl, hR, hm⟩
  dsimp only
  replace hR := Lib.hid hR
  replace hm := Lib.hid hm
  go_wp2_with fail
  go_ret
  exact ⟨rfl, hR.out, hm.out⟩
theorem oname_ok (w : World) (g B e : Nat) (l : List UInt8) (h : Rdr w g B l e) : Calls Tryz.prog 73 #[.pointer (some ⟨g, 0, none⟩)] w (NmPost w g B (qt 8 (e, l))) := by
  have kc := rtext_ok w g B e l 8 h (by omega)
  replace h := Lib.hid h
  go_enter Tryz.func73, Tryz.ntmps73
  go_wp2_with fail
  refine kc.mono ?_
  rintro en w1 ⟨rfl, hR, hm⟩
  dsimp only
  replace hR := Lib.hid hR
  replace hm := Lib.hid hm
  go_wp2_with fail
  go_ret
  exact ⟨rfl, hR.out, hm.out⟩
def InPost (w : World) (g B : Nat) (r : Is × RS) (en : Ending) (w' : World) : Prop := en = .returned (.agg #[.int .i64 r.1.r, .int .i64 r.1.n]) ∧ Rdr w' g B r.2.2 r.2.1 ∧ Mod (only g) w w'
theorem Mod.only_of {w w1 : World} (h : Mod none_ w w1) (g : Nat) : Mod (only g) w w1 := h.any _
set_option maxRecDepth 100000 in
theorem inst_size : (Tryz.prog.info? 25).map (·.size) = some 2 := by kernel_rfl
set_option maxRecDepth 100000 in
theorem inst_ok (w : World) (g B e : Nat) (l : List UInt8) (h : Rdr w g B l e) (hBl : B < w.heap.size) : Calls Tryz.prog 18 #[.pointer (some ⟨g, 0, none⟩)] w (InPost w g B (rdIs (e, l))) := by
  have hm0 := (Mod.refl none_ w).alloc (.cells #[.int .i64 0, .int .i64 0] 25)
  have hb0 := Blk.new w 25 #[.int .i64 0, .int .i64 0]
  have hR0 := h.mod0 hm0
  have hgl := h.lt
  have hgl2 : ¬ only g w.heap.size := fun hh => by have : w.heap.size = g := hh; omega
  obtain ⟨r, e1, l1, h1⟩ := tri_ (qg 0 6 (e, l))
  obtain ⟨n, e2, l2, h2⟩ := tri_ (qg 0 10000 (e1, l1))
  have hres : Hid (rdIs (e, l) = (⟨r, n⟩, e2, l2)) := Lib.hid (by unfold rdIs; rw [bd_of h1, bd_of h2] <;> rfl)
  have k1 := lsmall_ok _ g B e l 6 hR0
  rw [h1] at k1
  have k2 := Lib.hid (fun W (h : Rdr W g B l1 e1) => by have := lsmall_ok W g B e1 l1 10000 h; rw [h2] at this; exact this)
  clear h1 h2 h hR0
  replace hb0 := Lib.hid hb0
  replace hm0 := Lib.hid hm0
  replace hgl := Lib.hid hgl
  replace hgl2 := Lib.hid hgl2
  go_enter Tryz.func18, Tryz.ntmps18
  go_wp2_with fail
  refine k1.mono ?_
  rintro en w1 ⟨rfl, hR, hm⟩
  dsimp only at hR ⊢
  have hb1 := Lib.hid (hb0.out.mod hm hgl2.out)
  have hm1 := Lib.hid ((hm0.out.only_of g).trans hm)
  clear hm
  go_wp2_with fail
  refine (k2.out _ hR).mono ?_
  rintro en w2 ⟨rfl, hR2, hm⟩
  dsimp only at hR2 ⊢
  have hb2 := hb1.out.mod hm hgl2.out
  have hm2 := Lib.hid (hm1.out.trans hm)
  clear hm hR
  obtain ⟨s0, s1, s2, s3⟩ := hb2.two
  have hbl := hb2.lt
  have hm3 := Lib.hid (((hm2.out.setCell (p := ⟨w.heap.size, 0, none⟩) (.inr (Nat.le_refl _)) (.int .i64 r))).setCell (p := ⟨w.heap.size, 1, none⟩) (.inr (Nat.le_refl _)) (.int .i64 n))
  have hR3 := Lib.hid (hR2.mod (((Mod.refl (fun k => k = w.heap.size) w2).setCell (p := ⟨w.heap.size, 0, none⟩) (.inl rfl) (.int .i64 r)).setCell (p := ⟨w.heap.size, 1, none⟩) (.inl rfl) (.int .i64 n)) (fun hh => by have := hgl.out; omega) (fun hh => by omega))
  replace hb2 := Lib.hid hb2
  replace hR2 := Lib.hid hR2
  go_wp2_with fail
  refine ret_row rfl w.heap.size rfl ((hb2.out.set_ 0 _).set_ 1 _) Tryz.underlying25 rfl inst_size rfl ?_
  rw [hres.out]
  exact ⟨rfl, hR3.out, hm3.out⟩
set_option maxRecDepth 100000 in
set_option maxHeartbeats 1000000 in
theorem lnums_ok (w : World) (A : Option Addr) (n c : Nat) (xs : List Int) (h : RdI w A n xs) (hn : n ≤ 1000) (hin : ∀ x ∈ xs, in64 x) : Calls Tryz.prog 58 #[.slice A n c] w (BytesPost w (xs.flatMap nb)) := by
  have hl := h.len
  replace h := Lib.hid h
  replace hl := Lib.hid hl
  replace hin := Lib.hid hin
  go_enter Tryz.func58, Tryz.ntmps58
  go_wp2_with fail
  go_loopw [3, 8] (fun v x wr => ∃ j : Nat, x = .int .i64 j ∧ j ≤ n ∧ ∃ B t d, v = .slice B t d ∧ OwB wr 5 B t d ((xs.take j).flatMap nb) ∧ Fresh w B ∧ Mod none_ w wr ∧ t ≤ 10 * j) (fun _ x _ => n - (intOf x).toNat)
  case atStart => exact ⟨0, rfl, by omega, none, 0, 0, rfl, Ow.nil _ _ _, (fun _ h => by cases h), Mod.refl _ _, by omega⟩
  case round =>
    obtain ⟨j, rfl, hj, B, t, d, rfl, ho, hf, hm, ht⟩ := hrel
    replace ho := Lib.hid ho
    replace hf := Lib.hid hf
    replace hm := Lib.hid hm
    by_cases hlt : j < n
    · obtain ⟨b, o, x, rfl, hx, hcell⟩ := rdi_at (Rd.mod0 h.out hm.out) hlt
      have hxi := hin.out x (List.mem_of_getElem? hx)
      replace hx := Lib.hid hx
      replace hxi := Lib.hid hxi
      go_wp2_with fail
      refine (numB_ok _ x hxi.out).mono ?_
      rintro e w2 ⟨C, d2, rfl, ho2, hf2, hm2⟩
      dsimp only
      clear hcell
      have hk2 := nb_len x
      have ho' := ho.out.mod0 hm2
      have hmm := hm.out.trans hm2
      generalize hk : (nb x).length = k2 at *
      replace ho2 := Lib.hid ho2
      replace hf2 := Lib.hid hf2
      replace hm2 := Lib.hid hm2
      replace ho' := Lib.hid ho'
      replace hmm := Lib.hid hmm
      replace hk := Lib.hid hk
      go_wp2_with (at_builtin; go_loud (refine app8 rfl (.tmp 12) (.tmp 14) rfl rfl ho'.out rfl ho2.out.rd (by omega) ?_; intro A' c' w' h1 h2 h3; replace h1 := Lib.hid h1; replace h2 := Lib.hid h2; replace h3 := Lib.hid h3))
      go_roundw
      case rel =>
        refine ⟨j + 1, by go_num, by omega, A', t + k2, c', rfl, ?_, Fresh.app hf.out hmm.out.size h3.out, hmm.out.app hf.out h2.out, by omega⟩
        have e : xs.take (j + 1) = xs.take j ++ [x] := by rw [List.take_add_one, hx.out] <;> rfl
        have := h1.out
        rw [e, List.flatMap_append]
        simpa using this
      case measure => simp [intOf]; omega
    · have e : Hid ((xs.take j).flatMap nb = xs.flatMap nb) := by
        refine Lib.hid ?_
        rw [List.take_of_length_le (by have := hl.out; omega)]
      go_wp2_with fail
      go_ret
      have h1 := ho.out
      rw [e.out] at h1
      have h2 := h1.len
      exact ⟨B, d, by rw [h2] <;> rfl, by rw [h2]; exact h1, hf.out, hm.out⟩
end Go.Proofs.YtimlfdihodoolaaGreat
/-
  append of legs and of Insts; what a reader's values are bounded by. No condition.
-/
namespace Go.Proofs.YtimlfdihodoolaaGreat
set_option linter.unusedVariables false
set_option linter.unusedSimpArgs false
open Go.RowKit
theorem lgs_one (ls : List Lg) : ∀ u ∈ lgs ls, u.oneCell' = true := by
  intro u hu
  unfold lgs at hu
  rw [List.mem_flatMap] at hu
  obtain ⟨a, _, ha⟩ := hu
  simp only [List.mem_cons, List.not_mem_nil, or_false] at ha
  rcases ha with rfl | rfl <;> rfl
theorem iss_one (ls : List Is) : ∀ u ∈ iss ls, u.oneCell' = true := by
  intro u hu
  unfold iss at hu
  rw [List.mem_flatMap] at hu
  obtain ⟨a, _, ha⟩ := hu
  simp only [List.mem_cons, List.not_mem_nil, or_false] at ha
  rcases ha with rfl | rfl <;> rfl
def zeroL : Value := .agg #[.string ⟨#[]⟩, .int .i64 0]
theorem lginfo : (Tryz.prog.info? 96).map (fun i => (i.zero, i.size, i.bytes)) = some (some zeroL, 2, 24) := by kernel_rfl
def zeroI : Value := .agg #[.int .i64 0, .int .i64 0]
theorem isinfo : (Tryz.prog.info? 25).map (fun i => (i.zero, i.size, i.bytes)) = some (some zeroI, 2, 16) := by kernel_rfl
theorem leg_size : (Tryz.prog.info? 96).map (·.size) = some 2 := by kernel_rfl
def OwL (w : World) (A : Option Addr) (n c : Nat) (ls : List Lg) : Prop := Ow w 96 2 A n c (lgs ls)
def OwP (w : World) (A : Option Addr) (n c : Nat) (ls : List Is) : Prop := Ow w 25 2 A n c (iss ls)
theorem appL {w : World} {ops : Array Oper} {rest : List Oper} {o : Oper} {a : Act} {Q : Exit → Act → World → Prop} (hgd : o.guard = none) (s x : Operand)
    (ho : o.op = .call { callee := .builtin .append, args := #[s, x], argTypes := #[28, 28] })
    {A : Option Addr} {n c : Nat} {xs : List Lg} (hs : a.eval s = .slice A n c) (hown : OwL w A n c xs)
    {S : Option Addr} {m d : Nat} {news : List Lg} (hx : a.eval x = .slice S m d) (hr : RdL w S m news) (hb : (n + m) * 24 ≤ 140737488355328)
    (h : ∀ A' c' w', OwL w' A' (n + m) c' (xs ++ news) → Mod (fp A) w w' → (A' = A ∨ A' = some ⟨w.heap.size, 0, none⟩) → wpList Tryz.prog ops Q rest (a.put o.dst (.slice A' (n + m) c')) w') : wpList Tryz.prog ops Q (o :: rest) a w := by
  obtain ⟨i0, hi, hz0, hz1, hz2⟩ := info_parts lginfo
  refine wpList_append_ow hgd s x 28 ho 96 i0 _ 2 24 Tryz.underlying28 hi hz0 hz1 hz2 rfl (by omega) A n c (lgs xs) hs hown S m d (lgs news) hx hr (lgs_one _) (by omega) (by omega) ?_
  intro A' c' w' h1
  rw [← lgs_append] at h1
  exact h A' c' w' h1
theorem rdl_one (w : World) (e : TypeId) (g : Nat) (hg : g = w.heap.size) (l : Lg) : RdL (w.alloc (.cells #[.string (txt l.n), .int .i64 l.x] e)) (some ⟨g, 0, none⟩) 1 [l] := by
  subst hg
  exact rdn w e 2 1 w.heap.size #[.string (txt l.n), .int .i64 l.x] (0, 0) rfl rfl
theorem rdp_one (w : World) (e : TypeId) (g : Nat) (hg : g = w.heap.size) (l : Is) : RdP (w.alloc (.cells #[.int .i64 l.r, .int .i64 l.n] e)) (some ⟨g, 0, none⟩) 1 [l] := by
  subst hg
  exact rdn w e 2 1 w.heap.size #[.int .i64 l.r, .int .i64 l.n] (0, 0) rfl rfl
theorem run_appP (w : World) (ty : TypeId) {A : Option Addr} {n c : Nat} {xs : List Is} (hown : OwP w A n c xs) {S : Option Addr} {m d : Nat} {news : List Is} (hr : RdP w S m news) (hb : (n + m) * 16 ≤ 140737488355328) :
    ∃ A' c' w', (Builtin.append_ #[31, 31] ty #[.slice A n c, .slice S m d]).run Tryz.prog w = .ok (.slice A' (n + m) c') w' ∧ OwP w' A' (n + m) c' (xs ++ news) ∧ Mod (fp A) w w' ∧ (A' = A ∨ A' = some ⟨w.heap.size, 0, none⟩) := by
  obtain ⟨i0, hi, hz0, hz1, hz2⟩ := info_parts isinfo
  obtain ⟨A', c', w', h1, h2, h3, h4⟩ := run_append_ow (P := Tryz.prog) w 31 ty 25 i0 _ 2 16 Tryz.underlying31 hi hz0 hz1 hz2 rfl (by omega) A n c (iss xs) hown S m d (iss news) hr (iss_one _) (by omega) (by omega)
  rw [← iss_append] at h2
  exact ⟨A', c', w', h1, h2, h3, h4⟩
/-- what a reader's values are, even behind an error -/
theorem rn_in {l : List UInt8} {e : Nat} {v : Int} {r : RS} (h : rn l e = (v, r)) : in64 v := by
  unfold rn at h
  by_cases h1 : e ≠ 0
  · rw [if_pos h1] at h; simp only [Prod.mk.injEq] at h; rw [← h.1]; exact ⟨by omega, by omega⟩
  · rw [if_neg h1] at h
    by_cases h2 : (rdNum l).1 = 0
    · rw [if_pos h2] at h
      obtain ⟨c, m, k, hr⟩ := tri_ (rdNum l)
      rw [hr] at h h2
      simp only [Prod.mk.injEq] at h
      dsimp only at h2
      subst h2
      rw [← h.1]
      exact unzig_in (rdNum_once hr).2.2.2
    · rw [if_neg h2] at h; simp only [Prod.mk.injEq] at h; rw [← h.1]; exact ⟨by omega, by omega⟩
theorem qn_in {s : RS} {v : Int} {r : RS} (h : qn s = (v, r)) : in64 v := rn_in h
theorem qg_in {lo hi : Int} {s : RS} {v : Int} {r : RS} (h : qg lo hi s = (v, r)) : v = 0 ∨ lo ≤ v ∧ v ≤ hi := by
  unfold qg rg at h
  by_cases h1 : (rn s.2 s.1).2.1 ≠ 0
  · rw [if_pos h1] at h
    simp only [Prod.mk.injEq] at h
    exact .inl h.1.symm
  · rw [if_neg h1] at h
    by_cases h2 : (rn s.2 s.1).1 < lo ∨ hi < (rn s.2 s.1).1
    · rw [if_pos h2] at h
      simp only [Prod.mk.injEq] at h
      exact .inl h.1.symm
    · rw [if_neg h2] at h
      rw [h] at h2
      exact .inr ⟨by omega, by omega⟩
theorem qt_in {most : Int} {s : RS} {v : List UInt8} {r : RS} (h : qt most s = (v, r)) (h0 : 0 ≤ most) : (v.length : Int) ≤ most := by
  unfold qt rt at h
  obtain ⟨k, e, q, hr⟩ := tri_ (rg 0 most s.2 s.1)
  rw [hr] at h
  dsimp only at h
  by_cases h1 : e ≠ 0
  · rw [if_pos h1] at h; simp only [Prod.mk.injEq] at h; rw [← h.1]; exact h0
  · rw [if_neg h1] at h
    by_cases h2 : (q.length : Int) < k
    · rw [if_pos h2] at h; simp only [Prod.mk.injEq] at h; rw [← h.1]; exact h0
    · rw [if_neg h2] at h
      simp only [Prod.mk.injEq] at h
      have := qg_in (s := s) hr
      rw [← h.1, List.length_take]
      omega
theorem rdList_in {α : Type} {p : PR α} {ok : α → Prop} (hp : ∀ s v r, p s = (v, r) → ok v) : ∀ (n : Nat) (s : RS) (vs : List α) (r : RS), rdList p n s = (vs, r) → vs.length = n ∧ ∀ v ∈ vs, ok v := by
  intro n
  induction n with
  | zero =>
    intro s vs r h
    simp only [rdList, pu, Prod.mk.injEq] at h
    rw [← h.1]
    exact ⟨rfl, fun v hv => by cases hv⟩
  | succ n ih =>
    intro s vs r h
    obtain ⟨re, rt⟩ := r
    obtain ⟨x, s1, h1, h⟩ := bd_inv h
    obtain ⟨xs, s2, h2, h⟩ := bd_inv h
    simp only [pu, Prod.mk.injEq] at h
    obtain ⟨rfl, rfl⟩ := h
    obtain ⟨k1, k2⟩ := ih _ _ _ h2
    refine ⟨by simp [k1], fun v hv => ?_⟩
    rcases List.mem_cons.1 hv with rfl | hv
    · exact hp _ _ _ h1
    · exact k2 v hv
theorem rdLeg_in (s : RS) (v : Lg) (r : RS) (h : rdLeg s = (v, r)) : okLg v := by
  obtain ⟨re, rt⟩ := r
  unfold rdLeg at h
  obtain ⟨n, s1, h1, h⟩ := bd_inv h
  obtain ⟨x, s2, h2, h⟩ := bd_inv h
  simp only [pu, Prod.mk.injEq] at h
  rw [← h.1]
  exact ⟨by have := qt_in h1 (by omega); dsimp only; omega, qn_in h2⟩
theorem rdIs_in (s : RS) (v : Is) (r : RS) (h : rdIs s = (v, r)) : okIs v := by
  obtain ⟨re, rt⟩ := r
  unfold rdIs at h
  obtain ⟨a, s1, h1, h⟩ := bd_inv h
  obtain ⟨b, s2, h2, h⟩ := bd_inv h
  simp only [pu, Prod.mk.injEq] at h
  rw [← h.1]
  have := qg_in h1
  have := qg_in h2
  exact ⟨by dsimp only; omega, by dsimp only; omega⟩
theorem wf_of64 {x : Int} (h : in64 x) : (Lit.int .i64 x).wf = true := by
  have h1 : IntKind.i64.min = -9223372036854775808 := by decide
  have h2 : IntKind.i64.max = 9223372036854775807 := by decide
  show (decide (IntKind.i64.min ≤ x) && decide (x ≤ IntKind.i64.max)) = true
  rw [h1, h2, decide_eq_true h.1, decide_eq_true h.2] <;> rfl
theorem txt_small {l : List UInt8} (h : l.length ≤ 1000) : (txt l).size ≤ maxLen := by rw [txt_len]; simp only [maxLen]; omega
/- the readers' contracts, at a result that has a name -/
theorem osmall_r {w : World} {g B e : Nat} {l : List UInt8} {most : Int} {r : Int × RS} (h1 : qg 0 most (e, l) = r) (h : Rdr w g B l e) : Calls Tryz.prog 72 #[.pointer (some ⟨g, 0, none⟩), .int .i64 most] w (SPost w g B r) := h1 ▸ osmall_ok w g B e l most h
theorem lsmall_r {w : World} {g B e : Nat} {l : List UInt8} {most : Int} {r : Int × RS} (h1 : qg 0 most (e, l) = r) (h : Rdr w g B l e) : Calls Tryz.prog 19 #[.pointer (some ⟨g, 0, none⟩), .int .i64 most] w (SPost w g B r) := h1 ▸ lsmall_ok w g B e l most h
theorem oname_r {w : World} {g B e : Nat} {l : List UInt8} {r : List UInt8 × RS} (h1 : qt 8 (e, l) = r) (h : Rdr w g B l e) : Calls Tryz.prog 73 #[.pointer (some ⟨g, 0, none⟩)] w (NmPost w g B r) := h1 ▸ oname_ok w g B e l h
theorem rnum_r {w : World} {g B e : Nat} {l : List UInt8} {r : Int × RS} (h1 : qn (e, l) = r) (h : Rdr w g B l e) : Calls Tryz.prog 71 #[.pointer (some ⟨g, 0, none⟩)] w (RPost w g B r) := h1 ▸ rnum_ok w g B e l h
theorem rtext_r {w : World} {g B e : Nat} {l : List UInt8} {most : Int} {r : List UInt8 × RS} (h1 : qt most (e, l) = r) (hm : most ≤ 9223372036854775807) (h : Rdr w g B l e) : Calls Tryz.prog 42 #[.pointer (some ⟨g, 0, none⟩), .int .i64 most] w (TPost w g B r) := h1 ▸ rtext_ok w g B e l most h hm
theorem inst_r {w : World} {g B e : Nat} {l : List UInt8} {r : Is × RS} (h1 : rdIs (e, l) = r) (h : Rdr w g B l e) (hB : B < w.heap.size) : Calls Tryz.prog 18 #[.pointer (some ⟨g, 0, none⟩)] w (InPost w g B r) := h1 ▸ inst_ok w g B e l h hB
end Go.Proofs.YtimlfdihodoolaaGreat
/-
  order.Read. No condition.
-/
namespace Go.Proofs.YtimlfdihodoolaaGreat
set_option linter.unusedVariables false
set_option linter.unusedSimpArgs false
open Go.RowKit
def RdOPost (w : World) (r : Od × Nat) (en : Ending) (w' : World) : Prop :=
  ∃ (o : Od) (f : Nat) (L : SV), r = (o, f) ∧ en = .returned (.tuple #[.agg #[.int .i64 o.c, .int .i64 o.s, .int .i64 o.k, .string (txt o.acct), .string (txt o.peer), .int .i64 o.sum, .slice L.a L.n L.c, .int .i64 o.per, .int .i64 o.hold, .string (txt o.note)], .int .i64 (f : Int)]) ∧ OdM w' o L ∧ Fresh w L.a ∧ Mod none_ w w'
def zeroO : Array Value := #[.int .i64 0, .int .i64 0, .int .i64 0, .string ⟨#[]⟩, .string ⟨#[]⟩, .int .i64 0, .slice none 0 0, .int .i64 0, .int .i64 0, .string ⟨#[]⟩]
/-- a loop that reads a list -/
def ListRel {α : Type} (p : PR α) (all : List α) (fin : RS) (left : Nat) (pre : List α) (s : RS) : Prop := ∃ rest, rdList p left s = (rest, fin) ∧ pre ++ rest = all
theorem ListRel.step {α : Type} {p : PR α} {all pre : List α} {fin s s1 : RS} {n : Nat} {x : α} (h : ListRel p all fin (n + 1) pre s) (h1 : p s = (x, s1)) : ListRel p all fin n (pre ++ [x]) s1 := by
  obtain ⟨rest, h2, h3⟩ := h
  exact rdList_step h1 h2 h3
theorem ListRel.done {α : Type} {p : PR α} {all pre : List α} {fin s : RS} (h : ListRel p all fin 0 pre s) : pre = all ∧ s = fin := by
  obtain ⟨rest, h2, h3⟩ := h
  simp only [rdList, pu, Prod.mk.injEq] at h2
  obtain ⟨rfl, h2⟩ := h2
  exact ⟨by simpa using h3, h2⟩
/-- a reader of a struct at work: the reader, the result's variable, the variable that is filled -/
structure FillSt (w : World) (t : TypeId) (z : Array Value) (g B q : Nat) (W : World) (cs : Array Value) (e : Nat) (l : List UInt8) : Prop where
  rd : Rdr W g B l e
  res : Blk W w.heap.size t z
  var : Blk W q t cs
  mod : Mod none_ w W
  gw : w.heap.size < g
  bw : w.heap.size < B
  qw : w.heap.size < q
  qg : q ≠ g
  qb : q ≠ B
  bl : B < W.heap.size
section
variable {w : World} {t : TypeId} {z : Array Value} {g B q : Nat} {W W' : World} {cs : Array Value} {e e' : Nat} {l l' : List UInt8}
theorem FillSt.call (h : FillSt w t z g B q W cs e l) (hm : Mod (only g) W W') (hr : Rdr W' g B l' e') : FillSt w t z g B q W' cs e' l' :=
  ⟨hr, h.res.mod hm (fun hh => by have : w.heap.size = g := hh; have := h.gw; omega), h.var.mod hm (fun hh => h.qg hh), h.mod.in_new (Nat.le_of_lt h.gw) hm, h.gw, h.bw, h.qw, h.qg, h.qb, Nat.lt_of_lt_of_le h.bl hm.size⟩
theorem FillSt.mod0 (h : FillSt w t z g B q W cs e l) (hm : Mod none_ W W') : FillSt w t z g B q W' cs e l :=
  ⟨h.rd.mod0 hm, h.res.mod hm (fun hh => hh), h.var.mod hm (fun hh => hh), h.mod.trans hm, h.gw, h.bw, h.qw, h.qg, h.qb, Nat.lt_of_lt_of_le h.bl hm.size⟩
theorem FillSt.alloc (h : FillSt w t z g B q W cs e l) (o : Obj) : FillSt w t z g B q (W.alloc o) cs e l := h.mod0 ((Mod.refl none_ W).alloc o)
theorem FillSt.drew (h : FillSt w t z g B q W cs e l) : FillSt w t z g B q W.drew cs e l := h.mod0 (Mod.refl none_ W).drew
/-- what another block of the call's own undergoes -/
theorem FillSt.own (h : FillSt w t z g B q W cs e l) {F : Nat → Prop} (hm : Mod F W W') (h1 : ¬ F g) (h2 : ¬ F B) (h3 : ¬ F q) (h4 : ∀ k, F k → w.heap.size < k) : FillSt w t z g B q W' cs e l :=
  ⟨h.rd.mod hm h1 h2, h.res.mod hm (fun hh => by have := h4 _ hh; omega), h.var.mod hm h3, h.mod.then hm (fun i hi hk => by have := h4 _ hk; omega), h.gw, h.bw, h.qw, h.qg, h.qb, Nat.lt_of_lt_of_le h.bl hm.size⟩
theorem FillSt.store (h : FillSt w t z g B q W cs e l) (o : Nat) (v : Value) : FillSt w t z g B q (W.setCell ⟨q, o, none⟩ v) (cs.setIfInBounds o v) e l :=
  have hm := (Mod.refl (only q) W).set_only o v
  ⟨h.rd.mod hm (fun hh => h.qg hh.symm) (fun hh => h.qb hh.symm), h.res.mod hm (fun hh => by have : w.heap.size = q := hh; have := h.qw; omega), h.var.set_ o v, h.mod.in_new (Nat.le_of_lt h.qw) hm, h.gw, h.bw, h.qw, h.qg, h.qb, Nat.lt_of_lt_of_le h.bl hm.size⟩
/-- whatever the variable undergoes -/
theorem FillSt.turn (h : FillSt w t z g B q W cs e l) {cs' : Array Value} (hm : Mod (only q) W W') (hv : Blk W' q t cs') : FillSt w t z g B q W' cs' e l :=
  ⟨h.rd.mod hm (fun hh => h.qg hh.symm) (fun hh => h.qb hh.symm), h.res.mod hm (fun hh => by have : w.heap.size = q := hh; have := h.qw; omega), hv, h.mod.in_new (Nat.le_of_lt h.qw) hm, h.gw, h.bw, h.qw, h.qg, h.qb, Nat.lt_of_lt_of_le h.bl hm.size⟩
end
/-- the list that is read lies in memory of its own -/
structure ListOwn (w : World) (t : TypeId) (size g B q : Nat) (W : World) (A : Option Addr) (m cp : Nat) (xs : List Value) : Prop where
  ow : Ow W t size A m cp xs
  fr : ∀ k, fp A k → w.heap.size < k
  ng : ¬ fp A g
  nb : ¬ fp A B
  nq : ¬ fp A q
theorem ListOwn.nil (w : World) (t : TypeId) (size g B q : Nat) (W : World) : ListOwn w t size g B q W none 0 0 [] :=
  ⟨Ow.nil _ _ _, (fun k h => by obtain ⟨a, ha, _⟩ := h; cases ha), (fun h => by obtain ⟨a, ha, _⟩ := h; cases ha), (fun h => by obtain ⟨a, ha, _⟩ := h; cases ha), (fun h => by obtain ⟨a, ha, _⟩ := h; cases ha)⟩
theorem ListOwn.mod {w : World} {t : TypeId} {size g B q : Nat} {W W' : World} {A : Option Addr} {m cp : Nat} {xs : List Value} (h : ListOwn w t size g B q W A m cp xs) {F : Nat → Prop} (hm : Mod F W W') (hF : ∀ k, fp A k → ¬ F k) : ListOwn w t size g B q W' A m cp xs :=
  ⟨h.ow.mod hm hF, h.fr, h.ng, h.nb, h.nq⟩
theorem ListOwn.call {w : World} {t : TypeId} {size g B q : Nat} {W W' : World} {A : Option Addr} {m cp : Nat} {xs : List Value} (h : ListOwn w t size g B q W A m cp xs) (hm : Mod (only g) W W') : ListOwn w t size g B q W' A m cp xs :=
  h.mod hm (fun k hk hh => by have : k = g := hh; subst this; exact h.ng hk)
theorem ListOwn.turn {w : World} {t : TypeId} {size g B q : Nat} {W W' : World} {A : Option Addr} {m cp : Nat} {xs : List Value} (h : ListOwn w t size g B q W A m cp xs) (hm : Mod (only q) W W') : ListOwn w t size g B q W' A m cp xs :=
  h.mod hm (fun k hk hh => by have : k = q := hh; subst this; exact h.nq hk)
theorem ListOwn.mod0 {w : World} {t : TypeId} {size g B q : Nat} {W W' : World} {A : Option Addr} {m cp : Nat} {xs : List Value} (h : ListOwn w t size g B q W A m cp xs) (hm : Mod none_ W W') : ListOwn w t size g B q W' A m cp xs :=
  h.mod hm (fun k hk hh => hh)
/-- append: the list grows, the rest stands -/
theorem ListOwn.app {w : World} {t t' : TypeId} {z cs : Array Value} {size g B q e : Nat} {l : List UInt8} {W W' : World} {A A' : Option Addr} {m cp m' cp' : Nat} {xs xs' : List Value} (h : ListOwn w t size g B q W A m cp xs) (st : FillSt w t' z g B q W cs e l)
    (ho : Ow W' t size A' m' cp' xs') (hm : Mod (fp A) W W') (hA : A' = A ∨ A' = some ⟨W.heap.size, 0, none⟩) : ListOwn w t size g B q W' A' m' cp' xs' ∧ FillSt w t' z g B q W' cs e l := by
  refine ⟨?_, st.own hm h.ng h.nb h.nq h.fr⟩
  rcases hA with rfl | rfl
  · exact ⟨ho, h.fr, h.ng, h.nb, h.nq⟩
  · have h1 := st.rd.lt
    have h2 := st.bl
    have h3 := st.var.lt
    have h4 := st.res.lt
    refine ⟨ho, ?_, ?_, ?_, ?_⟩
    · rintro k ⟨a, ha, rfl⟩; cases ha; exact h4
    · rintro ⟨a, ha, hk⟩; cases ha; simp only at hk; omega
    · rintro ⟨a, ha, hk⟩; cases ha; simp only at hk; omega
    · rintro ⟨a, ha, hk⟩; cases ha; simp only at hk; omega
theorem FillSt.new_ne {w : World} {t : TypeId} {z : Array Value} {g B q : Nat} {W : World} {cs : Array Value} {e : Nat} {l : List UInt8} (h : FillSt w t z g B q W cs e l) : w.heap.size < W.heap.size ∧ g < W.heap.size ∧ B < W.heap.size ∧ q < W.heap.size := ⟨h.res.lt, h.rd.lt, h.bl, h.var.lt⟩
set_option maxRecDepth 100000 in
set_option maxHeartbeats 8000000 in
theorem orderRead_ok (w : World) (A : Option Addr) (n c : Nat) (b : List UInt8) (h : RdB w A n b) (hn : n ≤ 1000000) : Calls Tryz.prog 43 #[.slice A n c] w (RdOPost w (rdOrd b)) := by
  have hb0 := Blk.new w 30 #[.int .i64 0, .int .i64 0, .int .i64 0, .string ⟨#[]⟩, .string ⟨#[]⟩, .int .i64 0, .slice none 0 0, .int .i64 0, .int .i64 0, .string ⟨#[]⟩]
  have hm0 := (Mod.refl none_ w).alloc (.cells #[.int .i64 0, .int .i64 0, .int .i64 0, .string ⟨#[]⟩, .string ⟨#[]⟩, .int .i64 0, .slice none 0 0, .int .i64 0, .int .i64 0, .string ⟨#[]⟩] 30)
  have kN := new_ok _ A n c b (Rd.mod0 h hm0) (by omega)
  have hs0 : (w.alloc (.cells #[.int .i64 0, .int .i64 0, .int .i64 0, .string ⟨#[]⟩, .string ⟨#[]⟩, .int .i64 0, .slice none 0 0, .int .i64 0, .int .i64 0, .string ⟨#[]⟩] 30)).heap.size = w.heap.size + 1 := by simp
  obtain ⟨x1, e1, l1, h1⟩ := tri_ (qg 0 9 (0, b))
  obtain ⟨x2, e2, l2, h2⟩ := tri_ (qg 0 999 (e1, l1))
  obtain ⟨x3, e3, l3, h3⟩ := tri_ (qg 0 7 (e2, l2))
  obtain ⟨x4, e4, l4, h4⟩ := tri_ (qt 8 (e3, l3))
  obtain ⟨x5, e5, l5, h5⟩ := tri_ (qt 8 (e4, l4))
  obtain ⟨x6, e6, l6, h6⟩ := tri_ (qn (e5, l5))
  obtain ⟨x7, e7, l7, h7⟩ := tri_ (qg 0 6 (e6, l6))
  obtain ⟨ls, e8, l8, h8⟩ := tri_ (rdList rdLeg x7.toNat (e7, l7))
  obtain ⟨x9, e9, l9, h9⟩ := tri_ (qg 0 1000 (e8, l8))
  obtain ⟨x10, e10, l10, h10⟩ := tri_ (qg 0 9999 (e9, l9))
  obtain ⟨x11, e11, l11, h11⟩ := tri_ (qt 20 (e10, l10))
  have hrd : rdO (0, b) = (⟨x1, x2, x3, x4, x5, x6, ls, x9, x10, x11⟩, e11, l11) := by
    unfold rdO
    rw [bd_of h1, bd_of h2, bd_of h3, bd_of h4, bd_of h5, bd_of h6, bd_of h7, bd_of h8, bd_of h9, bd_of h10, bd_of h11]
    rfl
  have hfin : Hid (rdOrd b = if dn l11 e11 ≠ 0 ∨ rightO ⟨x1, x2, x3, x4, x5, x6, ls, x9, x10, x11⟩ = false then (od0, 3) else (⟨x1, x2, x3, x4, x5, x6, ls, x9, x10, x11⟩, 0)) := Lib.hid (by unfold rdOrd; rw [hrd])
  have hx3 := qg_in h3
  have hx7 := qg_in h7
  obtain ⟨hll, hlo⟩ := rdList_in rdLeg_in _ _ _ _ h8
  obtain ⟨k, rfl⟩ : ∃ k : Nat, x7 = (k : Int) := ⟨x7.toNat, by omega⟩
  have hk6 : k ≤ 6 := by omega
  have hl0 : Hid (ListRel rdLeg ls (e8, l8) k [] (e7, l7)) := Lib.hid ⟨ls, by simpa using h8, rfl⟩
  have hwk : Hid ((Lit.int .i64 x3).wf = true) := Lib.hid (wf_of64 ⟨by omega, by omega⟩)
  have hlz : Hid (∀ l ∈ ls, (txt l.n).size ≤ maxLen) := Lib.hid (fun l hl => txt_small (by have := (hlo l hl).1; omega))
  have hll2 : Hid (ls.length = k) := Lib.hid (by simpa using hll)
  clear hrd h h8 hx7 hx3 hlo hll hs0
  replace h1 := Lib.hid h1
  replace h2 := Lib.hid h2
  replace h3 := Lib.hid h3
  replace h4 := Lib.hid h4
  replace h5 := Lib.hid h5
  replace h6 := Lib.hid h6
  replace h7 := Lib.hid h7
  replace h9 := Lib.hid h9
  replace h10 := Lib.hid h10
  replace h11 := Lib.hid h11
  replace hb0 := Lib.hid hb0
  replace hm0 := Lib.hid hm0
  go_enter Tryz.func43, Tryz.ntmps43
  go_wp2_with fail
  refine kN.mono ?_
  rintro en w1 ⟨g, B, rfl, hR, hg, hB, hB', hm⟩
  dsimp only
  clear kN
  simp only [World.size_alloc] at hg hB
  have hng : ¬ only g w.heap.size := fun hh => by have : w.heap.size = g := hh; omega
  have hgB : ¬ only g B := fun hh => by
    obtain ⟨_, _, _, _, _, _, _, _, hne⟩ := hR
    exact hne hh.symm
  have hbr := hb0.out.mod hm (fun h => h)
  have hM := hm0.out.trans hm
  have hg0 : w.heap.size ≤ g := by omega
  clear hm
  replace hbr := Lib.hid hbr
  replace hM := Lib.hid hM
  replace hng := Lib.hid hng
  replace hgB := Lib.hid hgB
  go_wp2_with fail
  refine (osmall_r h1.out hR).mono ?_; rintro en w2 ⟨rfl, hR1, hm⟩; dsimp only at hR1 ⊢
  replace hbr := Lib.hid (hbr.out.mod hm hng.out); replace hM := Lib.hid (hM.out.in_new hg0 hm); have hsz := hm.size; clear hm hR
  go_wp2_with fail
  refine (osmall_r h2.out hR1).mono ?_; rintro en w3 ⟨rfl, hR2, hm⟩; dsimp only at hR2 ⊢
  replace hbr := Lib.hid (hbr.out.mod hm hng.out); replace hM := Lib.hid (hM.out.in_new hg0 hm); have hsz2 := hm.size; clear hm hR1
  go_wp2_with fail
  refine (osmall_r h3.out hR2).mono ?_; rintro en w4 ⟨rfl, hR3, hm⟩; dsimp only at hR3 ⊢
  replace hbr := Lib.hid (hbr.out.mod hm hng.out); replace hM := Lib.hid (hM.out.in_new hg0 hm); have hsz3 := hm.size; clear hm hR2
  have hgl := hR3.lt
  have st0 : FillSt w 30 #[.int .i64 0, .int .i64 0, .int .i64 0, .string ⟨#[]⟩, .string ⟨#[]⟩, .int .i64 0, .slice none 0 0, .int .i64 0, .int .i64 0, .string ⟨#[]⟩] g B w4.heap.size (w4.alloc (.cells #[.int .i64 x1, .int .i64 x2, .int .i64 x3, .string ⟨#[]⟩, .string ⟨#[]⟩, .int .i64 0, .slice none 0 0, .int .i64 0, .int .i64 0, .string ⟨#[]⟩] 30)) #[.int .i64 x1, .int .i64 x2, .int .i64 x3, .string ⟨#[]⟩, .string ⟨#[]⟩, .int .i64 0, .slice none 0 0, .int .i64 0, .int .i64 0, .string ⟨#[]⟩] e3 l3 :=
    ⟨hR3.mod0 ((Mod.refl none_ w4).alloc _), hbr.out.alloc _, Blk.new w4 _ _, hM.out.alloc _, by omega, by omega, by omega, by omega, by omega, by simp only [World.size_alloc]; omega⟩
  clear hR3 hsz hsz2 hsz3 hgl hB'
  generalize hq : w4.heap.size = q at st0
  replace hbr := Lib.hid hbr
  replace hM := Lib.hid hM
  clear hbr hM
  replace st0 := Lib.hid st0
  go_wp2_with fail

  replace hq := Lib.hid hq
  refine (oname_r h4.out st0.out.rd).mono ?_; rintro en w5 ⟨rfl, hR, hm⟩; dsimp only at hR ⊢
  have st := Lib.hid (st0.out.call hm hR); clear hm hR st0
  go_wp2_with fail
  refine (oname_r h5.out st.out.rd).mono ?_; rintro en w6 ⟨rfl, hR, hm⟩; dsimp only at hR ⊢
  replace st := Lib.hid (st.out.call hm hR); clear hm hR
  have i0 : w6.cell? ⟨q, 3, none⟩ = some (.string ⟨#[]⟩) := st.out.var.cell_ rfl
  have i1 : w6.cell? ⟨q, 4, none⟩ = some (.string ⟨#[]⟩) := st.out.var.cell_ rfl
  have f0 : w6.frozen? ⟨q, 3, none⟩ = false := st.out.var.frozen 3
  have f1 : w6.frozen? ⟨q, 4, none⟩ = false := st.out.var.frozen 4
  have st2 : Hid (FillSt w 30 #[.int .i64 0, .int .i64 0, .int .i64 0, .string ⟨#[]⟩, .string ⟨#[]⟩, .int .i64 0, .slice none 0 0, .int .i64 0, .int .i64 0, .string ⟨#[]⟩] g B q ((w6.setCell ⟨q, 3, none⟩ (.string (txt x4))).setCell ⟨q, 4, none⟩ (.string (txt x5))) #[.int .i64 x1, .int .i64 x2, .int .i64 x3, .string (txt x4), .string (txt x5), .int .i64 0, .slice none 0 0, .int .i64 0, .int .i64 0, .string ⟨#[]⟩] e5 l5) := Lib.hid ((st.out.store 3 (.string (txt x4))).store 4 (.string (txt x5)))
  go_wp2_with fail
  refine (rnum_r h6.out st2.out.rd).mono ?_; rintro en w7 ⟨rfl, hR, hm⟩; dsimp only at hR ⊢
  replace st := Lib.hid (st2.out.call hm hR); clear hm hR st2 i0 i1 f0 f1
  have i0 : w7.cell? ⟨q, 5, none⟩ = some (.int .i64 0) := st.out.var.cell_ rfl
  have f0 : w7.frozen? ⟨q, 5, none⟩ = false := st.out.var.frozen 5
  have st2 : Hid (FillSt w 30 #[.int .i64 0, .int .i64 0, .int .i64 0, .string ⟨#[]⟩, .string ⟨#[]⟩, .int .i64 0, .slice none 0 0, .int .i64 0, .int .i64 0, .string ⟨#[]⟩] g B q (w7.setCell ⟨q, 5, none⟩ (.int .i64 x6)) #[.int .i64 x1, .int .i64 x2, .int .i64 x3, .string (txt x4), .string (txt x5), .int .i64 x6, .slice none 0 0, .int .i64 0, .int .i64 0, .string ⟨#[]⟩] e6 l6) := Lib.hid (st.out.store 5 (.int .i64 x6))
  go_wp2_with fail
  refine (osmall_r h7.out st2.out.rd).mono ?_; rintro en w8 ⟨rfl, hR, hm⟩; dsimp only at hR ⊢
  replace st := Lib.hid (st2.out.call hm hR); clear hm hR st2 i0 f0
  go_wp2_with fail
  go_loopw [31] (fun v wr => ∃ j : Nat, v = .int .i64 j ∧ j ≤ k ∧ ∃ A cp pre e l, FillSt w 30 #[.int .i64 0, .int .i64 0, .int .i64 0, .string ⟨#[]⟩, .string ⟨#[]⟩, .int .i64 0, .slice none 0 0, .int .i64 0, .int .i64 0, .string ⟨#[]⟩] g B q wr #[.int .i64 x1, .int .i64 x2, .int .i64 x3, .string (txt x4), .string (txt x5), .int .i64 x6, .slice A j cp, .int .i64 0, .int .i64 0, .string ⟨#[]⟩] e l ∧ ListOwn w 96 2 g B q wr A j cp (lgs pre) ∧ ListRel rdLeg ls (e8, l8) (k - j) pre (e, l)) (fun v _ => k - (intOf v).toNat)
  case atStart => exact ⟨0, rfl, by omega, none, 0, [], e7, l7, st.out, ListOwn.nil _ _ _ _ _ _ _, hl0.out⟩
  case round =>
    obtain ⟨j, rfl, hj, A9, cp, pre, e, l, st, lo, lr⟩ := hrel
    by_cases hlt : j < k
    · obtain ⟨xn, ea, la, ha⟩ := tri_ (qt 8 (e, l))
      obtain ⟨xs, eb, lb, hb⟩ := tri_ (qn (ea, la))
      have hleg : rdLeg (e, l) = (⟨xn, xs⟩, eb, lb) := by unfold rdLeg; rw [bd_of ha, bd_of hb] <;> rfl
      rw [show k - j = (k - (j + 1)) + 1 by omega] at lr
      have lr2 := Lib.hid (lr.step hleg)
      clear lr hleg
      replace ha := Lib.hid ha
      replace hb := Lib.hid hb
      replace st := Lib.hid st
      replace lo := Lib.hid lo
      go_wp2_with fail
      refine (oname_r ha.out st.out.rd).mono ?_; rintro en w9 ⟨rfl, hR, hm⟩; dsimp only at hR ⊢
      replace lo := Lib.hid (lo.out.call hm)
      replace st := Lib.hid (st.out.call hm hR); clear hm hR
      have hr6 := Lib.hid (Blk.new w9 96 #[.string (txt xn), .int .i64 0])
      obtain ⟨n1, n2, n3, n4⟩ := st.out.new_ne
      have hal := Lib.hid (lo.out.ow.lt)
      replace lo := Lib.hid (lo.out.mod0 ((Mod.refl none_ w9).alloc (.cells #[.string (txt xn), .int .i64 0] 96)))
      replace st := Lib.hid (st.out.alloc (.cells #[.string (txt xn), .int .i64 0] 96))
      go_wp2_with fail
      refine (rnum_r hb.out st.out.rd).mono ?_; rintro en w10 ⟨rfl, hR, hm⟩; dsimp only at hR ⊢
      replace lo := Lib.hid (lo.out.call hm)
      replace hr6 := Lib.hid (hr6.out.mod hm (fun hh => by have : w9.heap.size = g := hh; omega))
      replace st := Lib.hid (st.out.call hm hR); clear hm hR
      have hmS := Lib.hid ((Mod.refl (only w9.heap.size) w10).set_only 1 (.int .i64 xs))
      replace lo := Lib.hid (lo.out.mod hmS.out (fun k hk hh => by have : k = w9.heap.size := hh; have := hal.out k hk; omega))
      have i0 : w10.cell? ⟨w9.heap.size, 0, none⟩ = some (.string (txt xn)) := hr6.out.cell_ rfl
      have i1 : w10.cell? ⟨w9.heap.size, 1, none⟩ = some (.int .i64 0) := hr6.out.cell_ rfl
      have i2 : w10.cell? ⟨q, 6, none⟩ = some (.slice A9 j cp) := st.out.var.cell_ rfl
      have f1 : w10.frozen? ⟨w9.heap.size, 1, none⟩ = false := hr6.out.frozen 1
      have hq1 : ¬ q = w9.heap.size := by omega
      have hq2 : ¬ w9.heap.size = q := by omega
      replace st := Lib.hid (st.out.own hmS.out (fun hh => by have : g = w9.heap.size := hh; omega) (fun hh => by have : B = w9.heap.size := hh; omega) (fun hh => by have : q = w9.heap.size := hh; omega) (fun k hk => by have : k = w9.heap.size := hk; omega))
      have sa := Lib.hid (st.out.alloc (.cells #[.string (txt xn), .int .i64 xs] 96))
      have la2 := Lib.hid (lo.out.mod0 ((Mod.refl none_ (w10.setCell ⟨w9.heap.size, 1, none⟩ (.int .i64 xs))).alloc (.cells #[.string (txt xn), .int .i64 xs] 96)))
      clear st lo hmS hal
      go_wp2_with (at_builtin; go_loud (refine appL rfl (.tmp 43) (.tmp 45) rfl rfl la2.out.ow rfl (rdl_one _ _ _ (by simp) ⟨xn, xs⟩) (by omega) ?_; intro A11 c11 w11 ho hmA hA; obtain ⟨lo, st⟩ := la2.out.app sa.out ho hmA hA; have j2 := st.var.cell_ (i := 6) rfl; have f2 := st.var.frozen 6; clear ho hmA hA; replace lo := Lib.hid lo; replace st := Lib.hid st))
      go_roundw
      case rel => exact ⟨j + 1, by go_num, by omega, A11, c11, pre ++ [⟨xn, xs⟩], eb, lb, st.out.store 6 _, lo.out.turn ((Mod.refl (only q) w11).set_only 6 _), lr2.out⟩
      case measure => simp [intOf]; omega
    · obtain rfl : j = k := by omega
      rw [Nat.sub_self] at lr
      obtain ⟨rfl, hel⟩ := lr.done
      simp only [Prod.mk.injEq] at hel
      obtain ⟨rfl, rfl⟩ := hel
      clear lr hl0
      replace st := Lib.hid st
      replace lo := Lib.hid lo
      go_wp2_with fail
      refine (osmall_r h9.out st.out.rd).mono ?_; rintro en w9 ⟨rfl, hR, hm⟩; dsimp only at hR ⊢
      replace lo := Lib.hid (lo.out.call hm)
      replace st := Lib.hid (st.out.call hm hR); clear hm hR
      go_wp2_with fail
      refine (osmall_r h10.out st.out.rd).mono ?_; rintro en w10 ⟨rfl, hR, hm⟩; dsimp only at hR ⊢
      replace lo := Lib.hid (lo.out.call hm)
      replace st := Lib.hid (st.out.call hm hR); clear hm hR
      have i0 : w10.cell? ⟨q, 7, none⟩ = some (.int .i64 0) := st.out.var.cell_ rfl
      have i1 : w10.cell? ⟨q, 8, none⟩ = some (.int .i64 0) := st.out.var.cell_ rfl
      have f0 : w10.frozen? ⟨q, 7, none⟩ = false := st.out.var.frozen 7
      have f1 : w10.frozen? ⟨q, 8, none⟩ = false := st.out.var.frozen 8
      have st2 : Hid (FillSt w 30 #[.int .i64 0, .int .i64 0, .int .i64 0, .string ⟨#[]⟩, .string ⟨#[]⟩, .int .i64 0, .slice none 0 0, .int .i64 0, .int .i64 0, .string ⟨#[]⟩] g B q ((w10.setCell ⟨q, 7, none⟩ (.int .i64 x9)).setCell ⟨q, 8, none⟩ (.int .i64 x10)) #[.int .i64 x1, .int .i64 x2, .int .i64 x3, .string (txt x4), .string (txt x5), .int .i64 x6, .slice A9 j cp, .int .i64 x9, .int .i64 x10, .string ⟨#[]⟩] e10 l10) := Lib.hid ((st.out.store 7 (.int .i64 x9)).store 8 (.int .i64 x10))
      replace lo := Lib.hid (lo.out.turn (((Mod.refl (only q) w10).set_only 7 (.int .i64 x9)).set_only 8 (.int .i64 x10)))
      clear st
      go_wp2_with fail
      refine (rtext_r h11.out (by omega) st2.out.rd).mono ?_; rintro en w11 ⟨rfl, hR, hm⟩; dsimp only at hR ⊢
      replace lo := Lib.hid (lo.out.call hm)
      replace st := Lib.hid (st2.out.call hm hR); clear hm hR i0 i1 f0 f1 st2
      have i0 : w11.cell? ⟨q, 9, none⟩ = some (.string ⟨#[]⟩) := st.out.var.cell_ rfl
      have f0 : w11.frozen? ⟨q, 9, none⟩ = false := st.out.var.frozen 9
      have st2 : Hid (FillSt w 30 #[.int .i64 0, .int .i64 0, .int .i64 0, .string ⟨#[]⟩, .string ⟨#[]⟩, .int .i64 0, .slice none 0 0, .int .i64 0, .int .i64 0, .string ⟨#[]⟩] g B q (w11.setCell ⟨q, 9, none⟩ (.string (txt x11))) #[.int .i64 x1, .int .i64 x2, .int .i64 x3, .string (txt x4), .string (txt x5), .int .i64 x6, .slice A9 j cp, .int .i64 x9, .int .i64 x10, .string (txt x11)] e11 l11) := Lib.hid (st.out.store 9 (.string (txt x11)))
      replace lo := Lib.hid (lo.out.turn ((Mod.refl (only q) w11).set_only 9 (.string (txt x11))))
      clear st
      go_wp2_with fail
      refine (done_ok _ g B e11 l11 st2.out.rd).mono ?_; rintro en w12 ⟨rfl, hm⟩; dsimp only
      have hbr := Lib.hid (st2.out.res.mod hm (fun hh => by have : w.heap.size = g := hh; have := st2.out.gw; omega))
      have hbq := Lib.hid (st2.out.var.mod hm (fun hh => st2.out.qg hh))
      replace lo := Lib.hid (lo.out.call hm)
      have hM := Lib.hid (st2.out.mod.in_new (Nat.le_of_lt st2.out.gw) hm)
      have hqw := st2.out.qw
      clear hm st2 i0 f0
      generalize hdn : dn l11 e11 = d at *
      replace hdn := Lib.hid hdn
      have hsz := hM.out.size
      by_cases hd : d = 0
      · subst hd
        have hO : Hid (∀ W, Mod none_ w12 W → OdM W ⟨x1, x2, x3, x4, x5, x6, pre, x9, x10, x11⟩ ⟨A9, j, cp⟩) := Lib.hid (fun W hW => ⟨Rd.mod0 lo.out.ow.rd hW, lo.out.ow.2.1⟩)
        have kR := Lib.hid (rightO_ok w12 ⟨x1, x2, x3, x4, x5, x6, pre, x9, x10, x11⟩ ⟨A9, j, cp⟩ (hO.out _ (Mod.refl _ _)) (by dsimp only; omega) hwk.out hlz.out)
        have hfr : Hid (Fresh w A9) := Lib.hid (fun a ha => Nat.le_of_lt (lo.out.fr a.block ⟨a, ha, rfl⟩))
        go_wp2_with (refine wpList_step (fun K hK => ?_); rw [if_pos (by rfl)]; refine wp_load_row 30 (.tmp 5) rfl q rfl _ _ _ _ hbq.out Tryz.underlying30 rfl order_size ?_; refine hK _ _ ?_)
        with_reducible refine kR.out.mono ?_
        rintro en w13 ⟨rfl, hm⟩
        dsimp only
        have hbr1 := Lib.hid (hbr.out.mod hm (fun h => h))
        have hbq1 := Lib.hid (hbq.out.mod hm (fun h => h))
        have hO1 : Hid (∀ W, Mod none_ w13 W → OdM W ⟨x1, x2, x3, x4, x5, x6, pre, x9, x10, x11⟩ ⟨A9, j, cp⟩) := Lib.hid (fun W hW => hO.out W (hm.trans hW))
        have hM1 := Lib.hid (hM.out.trans hm)
        have hnr := Lib.hid (show w.heap.size < q from hqw)
        clear hm hbr hbq hM hO
        cases hr : rightO ⟨x1, x2, x3, x4, x5, x6, pre, x9, x10, x11⟩ with
        | false =>
          have hf : Hid (rdOrd b = (od0, 3)) := Lib.hid (by rw [hfin.out, hr]; simp)
          clear hr
          go_wp2_with (refine wpList_store_blk rfl 30 (.tmp 2) (.tmp 69) rfl w.heap.size 0 _ rfl rfl hbr1.out (by simp) order_size (by rfl) #[.int .i64 0, .int .i64 0, .int .i64 0, .string ⟨#[]⟩, .string ⟨#[]⟩, .int .i64 0, .slice none 0 0, .int .i64 0, .int .i64 0, .string ⟨#[]⟩] rfl ?_; intro w14 hb14 hm14; replace hb14 := Lib.hid hb14; replace hm14 := Lib.hid hm14)
          refine ret_row_tmp rfl w.heap.size rfl hb14.out Tryz.underlying30 rfl order_size (.int .i64 3) rfl rfl ?_
          exact ⟨od0, 3, ⟨none, 0, 0⟩, hf.out, rfl, od0_mem _, (fun a ha => by cases ha), hM1.out.in_new (Nat.le_refl _) hm14.out⟩
        | true =>
          have hf : Hid (rdOrd b = (⟨x1, x2, x3, x4, x5, x6, pre, x9, x10, x11⟩, 0)) := Lib.hid (by rw [hfin.out, hr]; simp)
          clear hr
          go_wp2_with (first | (refine wpList_load_row rfl 30 (.tmp 5) rfl q rfl _ _ _ _ hbq1.out Tryz.underlying30 rfl order_size ?_) | (refine wpList_store_blk rfl 30 (.tmp 2) (.tmp 70) rfl w.heap.size 0 _ rfl rfl hbr1.out (by simp) order_size (by rfl) #[.int .i64 x1, .int .i64 x2, .int .i64 x3, .string (txt x4), .string (txt x5), .int .i64 x6, .slice A9 j cp, .int .i64 x9, .int .i64 x10, .string (txt x11)] rfl ?_; intro w14 hb14 hm14; replace hb14 := Lib.hid hb14; replace hm14 := Lib.hid hm14))
          refine ret_row_tmp rfl w.heap.size rfl hb14.out Tryz.underlying30 rfl order_size (.int .i64 0) rfl rfl ?_
          have hO2 : OdM w14 ⟨x1, x2, x3, x4, x5, x6, pre, x9, x10, x11⟩ ⟨A9, j, cp⟩ := ⟨Rd.mod (hO1.out _ (Mod.refl _ _)).rd hm14.out (fun k hk hh => by have : k = w.heap.size := hh; obtain ⟨a, ha, hka⟩ := hk; have := lo.out.fr a.block ⟨a, ha, rfl⟩; omega), (hO1.out _ (Mod.refl _ _)).cap⟩
          exact ⟨⟨x1, x2, x3, x4, x5, x6, pre, x9, x10, x11⟩, 0, ⟨A9, j, cp⟩, hf.out, rfl, hO2, hfr.out, hM1.out.in_new (Nat.le_refl _) hm14.out⟩
      · have hd2 : ((d : Int) != 0) = true := by simp; omega
        have hf : Hid (rdOrd b = (od0, 3)) := Lib.hid (by rw [hfin.out, if_pos (.inl hd)])
        go_wp2_with (refine wpList_store_blk rfl 30 (.tmp 2) (.tmp 69) rfl w.heap.size 0 _ rfl rfl hbr.out (by simp) order_size (by rfl) #[.int .i64 0, .int .i64 0, .int .i64 0, .string ⟨#[]⟩, .string ⟨#[]⟩, .int .i64 0, .slice none 0 0, .int .i64 0, .int .i64 0, .string ⟨#[]⟩] rfl ?_; intro w14 hb14 hm14; replace hb14 := Lib.hid hb14; replace hm14 := Lib.hid hm14)
        refine ret_row_tmp rfl w.heap.size rfl hb14.out Tryz.underlying30 rfl order_size (.int .i64 3) rfl rfl ?_
        exact ⟨od0, 3, ⟨none, 0, 0⟩, hf.out, rfl, od0_mem _, (fun a ha => by cases ha), hM.out.in_new (Nat.le_refl _) hm14.out⟩
end Go.Proofs.YtimlfdihodoolaaGreat
/-
  log.Bytes. No condition.
-/
namespace Go.Proofs.YtimlfdihodoolaaGreat
set_option linter.unusedVariables false
set_option linter.unusedSimpArgs false
open Go.RowKit
theorem slot_size : (Tryz.prog.info? 35).map (·.size) = some 15 := by kernel_rfl
theorem rdi_row (w : World) (e : TypeId) (g : Nat) (hg : g = w.heap.size) (xs : List Int) : RdI (w.alloc (.cells (ivs xs).toArray e)) (some ⟨g, 0, none⟩) xs.length xs :=
  rdn w e 1 xs.length g (ivs xs).toArray (0, 0) hg (by simp [ivs])
/-- numbers' bytes, of a row that the call has made -/
theorem lnums_row (w : World) (e : TypeId) (g : Nat) (hg : g = w.heap.size) (xs : List Int) (n : Nat) (hn : xs.length = n) (hn2 : n ≤ 1000) (hin : ∀ x ∈ xs, in64 x) (cs : Array Value) (hcs : (ivs xs).toArray = cs) :
    Calls Tryz.prog 58 #[.slice (some ⟨g, 0, none⟩) n n] (w.alloc (.cells cs e)) (BytesPost (w.alloc (.cells cs e)) (xs.flatMap nb)) := by
  subst hcs hn hg
  exact lnums_ok _ _ _ _ _ (rdi_row w e _ rfl xs) hn2 hin
theorem ByAt.conv {w : World} {s : SV} {l : List UInt8} (h : ByAt w s l) : (convert 22 9 (.slice s.a s.n s.c)).run Tryz.prog w = .ok (.string (txt l)) w :=
  run_string_of_bytes w _ _ 5 Tryz.underlying22 Tryz.underlying5 Tryz.underlying9 s.a s.n s.c l h.rd
/-- bytes of the call's own -/
structure OwnB (w W : World) (A : Option Addr) (n c : Nat) (l : List UInt8) : Prop where
  ow : OwB W 5 A n c l
  fr : Fresh w A
  sm : n ≤ 100000000
theorem OwnB.mod0 {w W W' : World} {A : Option Addr} {n c : Nat} {l : List UInt8} (h : OwnB w W A n c l) (hm : Mod none_ W W') : OwnB w W' A n c l := ⟨h.ow.mod0 hm, h.fr, h.sm⟩
theorem OwnB.at_ {w W : World} {A : Option Addr} {n c : Nat} {l : List UInt8} (h : OwnB w W A n c l) : ByAt W ⟨A, n, c⟩ l := ⟨h.ow.rd, h.sm⟩
theorem OwnB.of {w w1 W : World} {A : Option Addr} {c : Nat} {l : List UInt8} (h : OwB W 5 A l.length c l) (hf : Fresh w1 A) (hm : Mod none_ w w1) (hl : l.length ≤ 100000000) : OwnB w W A l.length c l := ⟨h, hf.later hm.size, hl⟩
theorem OwnB.app {w W W' : World} {A A' : Option Addr} {n c m c' : Nat} {l l' : List UInt8} (h : OwnB w W A n c l) (hM : Mod none_ w W) (ho : OwB W' 5 A' (n + m) c' (l ++ l')) (hm : Mod (fp A) W W') (hA : A' = A ∨ A' = some ⟨W.heap.size, 0, none⟩) (hs : n + m ≤ 100000000) :
    OwnB w W' A' (n + m) c' (l ++ l') ∧ Mod none_ w W' := ⟨⟨ho, h.fr.app hM.size hA, hs⟩, hM.app h.fr hm⟩
theorem flat3_len (xs : List Is) : (xs.flatMap isB).length ≤ xs.length * 20 := flat_le isB 20 xs fun i _ => by
  have := nb_len i.r
  have := nb_len i.n
  unfold isB; rw [List.length_append]; omega
theorem headB_flat (r : Rc) : [r.i.r, r.i.n, r.bal, r.st, r.by_].flatMap nb = headB r := by simp [headB]
theorem headB_len (r : Rc) : (headB r).length ≤ 50 := by
  have := nb_len r.i.r
  have := nb_len r.i.n
  have := nb_len r.bal
  have := nb_len r.st
  have := nb_len r.by_
  unfold headB
  simp only [List.length_append]
  omega
/-- bytes that grow, beside a variable -/
structure BufSt (w : World) (t : TypeId) (q : Nat) (cs : Array Value) (W : World) (A : Option Addr) (n c : Nat) (l : List UInt8) : Prop where
  own : OwnB w W A n c l
  mod : Mod none_ w W
  blk : Blk W q t cs
  aq : ∀ k, fp A k → q < k
section
variable {w : World} {t : TypeId} {q : Nat} {cs : Array Value} {W W' : World} {A A' : Option Addr} {n c m c' : Nat} {l l' : List UInt8}
theorem BufSt.mod0 (h : BufSt w t q cs W A n c l) (hm : Mod none_ W W') : BufSt w t q cs W' A n c l := ⟨h.own.mod0 hm, h.mod.trans hm, h.blk.mod hm (fun h => h), h.aq⟩
theorem BufSt.app (h : BufSt w t q cs W A n c l) (ho : OwB W' 5 A' (n + m) c' (l ++ l')) (hm : Mod (fp A) W W') (hA : A' = A ∨ A' = some ⟨W.heap.size, 0, none⟩) (hs : n + m ≤ 100000000) : BufSt w t q cs W' A' (n + m) c' (l ++ l') := by
  obtain ⟨h1, h2⟩ := h.own.app h.mod ho hm hA hs
  refine ⟨h1, h2, h.blk.mod hm (fun hh => by have := h.aq _ hh; omega), ?_⟩
  rcases hA with rfl | rfl
  · exact h.aq
  · rintro k ⟨a, ha, rfl⟩; cases ha; exact h.blk.lt
theorem BufSt.len (h : BufSt w t q cs W A n c l) : l.length = n := h.own.ow.len
theorem BufSt.new (hm : Mod none_ w W) (hb : Blk W q t cs) (ho : OwB W' 5 A l.length c l) (hf : Fresh W A) (hm2 : Mod none_ W W') (hl : l.length ≤ 100000000) : BufSt w t q cs W' A l.length c l :=
  ⟨OwnB.of ho hf hm hl, hm.trans hm2, hb.mod hm2 (fun h => h), fun k hk => by obtain ⟨a, ha, rfl⟩ := hk; have := hf a ha; have := hb.lt; omega⟩
end
set_option maxRecDepth 100000 in
set_option maxHeartbeats 8000000 in
theorem logBytes_ok (w : World) (r : Rc) (L D : SV) (hE : EnM w r.e L D) (hL : L.n ≤ 140737488355328) (hD : D.n ≤ 140737488355328) (hk : (Lit.int .i64 r.e.o.k).wf = true) (hz : ∀ l ∈ r.e.o.legs, (txt l.n).size ≤ maxLen) (hn : numsE r.e) :
    Calls Tryz.prog 30 #[.agg #[.int .i64 r.i.r, .int .i64 r.i.n, .int .i64 r.bal, .int .i64 r.st, .int .i64 r.by_, .int .i64 r.e.o.c, .int .i64 r.e.o.s, .int .i64 r.e.o.k, .string (txt r.e.o.acct), .string (txt r.e.o.peer), .int .i64 r.e.o.sum, .slice L.a L.n L.c, .int .i64 r.e.o.per, .int .i64 r.e.o.hold, .string (txt r.e.o.note), .bool r.e.none, .slice D.a D.n D.c]] w (BPost w (rightR r) (recB r)) := by
  have hB := Blk.new w 37 #[.int .i64 r.i.r, .int .i64 r.i.n, .int .i64 r.bal, .int .i64 r.st, .int .i64 r.by_, .int .i64 r.e.o.c, .int .i64 r.e.o.s, .int .i64 r.e.o.k, .string (txt r.e.o.acct), .string (txt r.e.o.peer), .int .i64 r.e.o.sum, .slice L.a L.n L.c, .int .i64 r.e.o.per, .int .i64 r.e.o.hold, .string (txt r.e.o.note), .bool r.e.none, .slice D.a D.n D.c]
  have hm0 := (Mod.refl none_ w).alloc (.cells #[.int .i64 r.i.r, .int .i64 r.i.n, .int .i64 r.bal, .int .i64 r.st, .int .i64 r.by_, .int .i64 r.e.o.c, .int .i64 r.e.o.s, .int .i64 r.e.o.k, .string (txt r.e.o.acct), .string (txt r.e.o.peer), .int .i64 r.e.o.sum, .slice L.a L.n L.c, .int .i64 r.e.o.per, .int .i64 r.e.o.hold, .string (txt r.e.o.note), .bool r.e.none, .slice D.a D.n D.c] 37)
  have kR := Lib.hid (rightR_ok _ r L D (hE.mod0 hm0) hL hD hk hz)
  have kO := Lib.hid (fun W (h : Mod none_ w W) => orderBytes_ok W r.e.o L (hE.od.mod0 h) hL hk hz hn)
  have hrdD := Lib.hid hE.rd
  have hdl := Lib.hid hE.rd.len
  replace hB := Lib.hid hB
  replace hm0 := Lib.hid hm0
  replace hz := Lib.hid hz
  go_enter Tryz.func30, Tryz.ntmps30
  go_wp2_with (refine wpList_load_row rfl 37 (.tmp 1) rfl w.heap.size rfl _ _ _ _ hB.out Tryz.underlying37 rfl record_size ?_)
  with_reducible refine kR.out.mono ?_
  rintro e w1 ⟨rfl, hm1⟩
  dsimp only
  cases hr : rightR r with
  | false =>
    replace hr := Lib.hid hr
    replace hm1 := Lib.hid hm1
    go_wp2_with fail
    go_ret2
    exact .inr ⟨hr.out, rfl, hm0.out.trans hm1.out⟩
  | true =>
    have hok := rightR_okRc hr hn
    obtain ⟨⟨⟨k1, k1'⟩, ⟨k2, k2'⟩⟩, ⟨k3, k3'⟩, ⟨k4, k4'⟩, ⟨k5, k5'⟩, k6⟩ := hok
    have hB1 := hB.out.mod hm1 (fun h => h)
    have hmm := Lib.hid (hm0.out.trans hm1)
    have hBs := Blk.new w1 35 #[.int .i64 r.bal, .int .i64 r.st, .int .i64 r.by_, .int .i64 r.e.o.c, .int .i64 r.e.o.s, .int .i64 r.e.o.k, .string (txt r.e.o.acct), .string (txt r.e.o.peer), .int .i64 r.e.o.sum, .slice L.a L.n L.c, .int .i64 r.e.o.per, .int .i64 r.e.o.hold, .string (txt r.e.o.note), .bool r.e.none, .slice D.a D.n D.c]
    have c0 : w1.cell? ⟨w.heap.size, 0, none⟩ = some (.int .i64 r.i.r) := hB1.cell_ rfl
    have c1 : w1.cell? ⟨w.heap.size, 1, none⟩ = some (.int .i64 r.i.n) := hB1.cell_ rfl
    have hwl := hB1.lt
    have kn := lnums_row (w1.alloc (.cells #[.int .i64 r.bal, .int .i64 r.st, .int .i64 r.by_, .int .i64 r.e.o.c, .int .i64 r.e.o.s, .int .i64 r.e.o.k, .string (txt r.e.o.acct), .string (txt r.e.o.peer), .int .i64 r.e.o.sum, .slice L.a L.n L.c, .int .i64 r.e.o.per, .int .i64 r.e.o.hold, .string (txt r.e.o.note), .bool r.e.none, .slice D.a D.n D.c] 35)) 3 (w1.heap.size + 1) (by simp) [r.i.r, r.i.n, r.bal, r.st, r.by_] 5 rfl (by omega) (fun x hx => by simp at hx; rcases hx with rfl | rfl | rfl | rfl | rfl <;> exact in64_mk (by omega) (by omega)) #[.int .i64 r.i.r, .int .i64 r.i.n, .int .i64 r.bal, .int .i64 r.st, .int .i64 r.by_] rfl
    rw [headB_flat] at kn
    replace hr := Lib.hid hr
    replace hm1 := Lib.hid hm1
    replace hB1 := Lib.hid hB1
    replace hBs := Lib.hid hBs
    replace k6 := Lib.hid k6
    replace kn := Lib.hid kn
    replace hn := Lib.hid hn
    clear hB
    go_wp2_with (refine wpList_load_blk rfl 35 (.tmp 13) rfl w.heap.size 2 rfl hB1.out [.int .i64 r.bal, .int .i64 r.st, .int .i64 r.by_, .int .i64 r.e.o.c, .int .i64 r.e.o.s, .int .i64 r.e.o.k, .string (txt r.e.o.acct), .string (txt r.e.o.peer), .int .i64 r.e.o.sum, .slice L.a L.n L.c, .int .i64 r.e.o.per, .int .i64 r.e.o.hold, .string (txt r.e.o.note), .bool r.e.none, .slice D.a D.n D.c] rfl Tryz.underlying35 rfl slot_size ?_)
    refine kn.out.mono ?_; rintro e w5 ⟨A5, c5, rfl, ho5, hf5, hm5⟩; dsimp only
    have hhl := headB_len r
    have zb5 := Lib.hid (BufSt.new (hmm.out.alloc _) hBs.out ho5 (hf5.later (by simp)) (((Mod.refl none_ _).alloc _).trans hm5) (by omega))
    generalize hq : w1.heap.size = q at *
    generalize hg5 : (headB r).length = n5 at *
    have s1 : w5.cell? ⟨q, 1, none⟩ = some (.int .i64 r.st) := zb5.out.blk.cell_ rfl
    have s13 : w5.cell? ⟨q, 13, none⟩ = some (.bool r.e.none) := zb5.out.blk.cell_ rfl
    clear ho5 hf5 hm5 kn hB1 hBs c0 c1 hmm hwl hm1 hm0
    replace hq := Lib.hid hq
    replace hg5 := Lib.hid hg5
    by_cases hs : r.st = 0
    · rw [hs] at s1
      have hrec : Hid (headB r = recB r) := Lib.hid (by unfold recB; rw [if_pos hs, List.append_nil])
      replace hs := Lib.hid hs
      go_wp2_with fail
      go_ret2
      have h1 := zb5.out
      rw [hrec.out] at h1
      have h2 := h1.len
      subst h2
      exact .inl ⟨hr.out, A5, c5, rfl, h1.own.ow, h1.own.fr, h1.mod⟩
    · have k6 := k6.out
      rw [if_neg hs] at k6
      obtain ⟨k7, k8, k9⟩ := k6
      have hst2 : (r.st == 0) = false := by simp; exact hs
      have hdk := Lib.hid k9
      have hD100 : D.n ≤ 100 := by rw [← hdl.out]; exact k8
      have hrec0 : recB r = headB r ++ entB r.e := by unfold recB; rw [if_neg hs]
      clear k8 k9
      replace hs := Lib.hid hs
      cases hnn : r.e.none with
      | true =>
        rw [hnn] at s13 k7
        have hrec : Hid (recB r = headB r ++ (nb 1 ++ (nb (r.e.deps.length : Int) ++ r.e.deps.flatMap isB))) := Lib.hid (by rw [hrec0]; unfold entB; rw [hnn]; simp)
        clear hrec0 k7
        replace hnn := Lib.hid hnn
        have kn := lnums_row w5 3 w5.heap.size rfl [1] 1 rfl (by omega) (fun x hx => by simp at hx; subst hx; exact in64_mk (by omega) (by omega)) #[.int .i64 1] rfl
        have hfl : [(1 : Int)].flatMap nb = nb 1 := by simp
        rw [hfl] at kn
        clear hfl
        go_wp2_with fail
        refine kn.mono ?_; rintro e w6 ⟨A6, c6, rfl, ho6, hf6, hm6⟩; dsimp only
        have zb6 := Lib.hid (zb5.out.mod0 (((Mod.refl none_ w5).alloc (.cells #[.int .i64 1] 3)).trans hm6))
        have hl6 := nb_len 1
        generalize hg6 : (nb 1).length = n6 at *
        clear hm6 kn hf6 zb5 s1 s13
        replace ho6 := Lib.hid ho6
        replace hg6 := Lib.hid hg6
        go_upto_region 11 with (at_builtin; go_loud (refine app8 rfl (.tmp 53) (.tmp 55) rfl rfl zb6.out.own.ow rfl ho6.out.rd (by omega) ?_; intro Ab cb W ho7 hm7 hA7; have zb := Lib.hid (zb6.out.app ho7 hm7 hA7 (by omega)); clear ho7 hm7 hA7))
        -- what it waits for
        have ss : W.cell? ⟨q, 14, none⟩ = some (.slice D.a D.n D.c) := zb.out.blk.cell_ rfl
        have kn := lnums_row W 3 W.heap.size rfl [(D.n : Int)] 1 rfl (by omega) (fun x hx => by simp at hx; subst hx; exact in64_mk (by omega) (by omega)) #[.int .i64 (D.n : Int)] rfl
        have hfl6 : [(D.n : Int)].flatMap nb = nb (D.n : Int) := by simp
        rw [hfl6] at kn
        clear hfl6
        go_wp2_with fail
        refine kn.mono ?_; rintro e w6 ⟨A6, c6, rfl, ho6, hf6, hm6⟩; dsimp only
        have zb6 := Lib.hid (zb.out.mod0 (((Mod.refl none_ W).alloc (.cells #[.int .i64 (D.n : Int)] 3)).trans hm6))
        have hl6 := nb_len (D.n : Int)
        generalize hg6 : (nb (D.n : Int)).length = n6 at *
        clear hm6 kn hf6 ss zb
        replace ho6 := Lib.hid ho6
        replace hg6 := Lib.hid hg6
        go_wp2_with (at_builtin; go_loud (refine app8 rfl (.tmp 57) (.tmp 63) rfl rfl zb6.out.own.ow rfl ho6.out.rd (by omega) ?_; intro A7 c7 w7 ho7 hm7 hA7; have zb7 := Lib.hid (zb6.out.app ho7 hm7 hA7 (by omega)); have s7 := zb7.out.blk.cell_ (i := 14) (v := .slice D.a D.n D.c) rfl; clear ho7 hm7 hA7))
        clear s7
        go_loopw [5, 69] (fun v x wr => ∃ j : Nat, x = .int .i64 j ∧ j ≤ D.n ∧ ∃ A n c, v = .slice A n c ∧ n ≤ 70 + j * 20 ∧ BufSt w 35 q #[.int .i64 r.bal, .int .i64 r.st, .int .i64 r.by_, .int .i64 r.e.o.c, .int .i64 r.e.o.s, .int .i64 r.e.o.k, .string (txt r.e.o.acct), .string (txt r.e.o.peer), .int .i64 r.e.o.sum, .slice L.a L.n L.c, .int .i64 r.e.o.per, .int .i64 r.e.o.hold, .string (txt r.e.o.note), .bool r.e.none, .slice D.a D.n D.c] wr A n c (((headB r ++ nb 1) ++ nb (D.n : Int)) ++ (r.e.deps.take j).flatMap isB)) (fun _ x _ => D.n - (intOf x).toNat)
        case atStart => exact ⟨0, rfl, by omega, A7, _, c7, rfl, by omega, by simpa using zb7.out⟩
        case round =>
          obtain ⟨j, rfl, hj, A, n, c, rfl, hnj, zb⟩ := hrel
          by_cases hlt : j < D.n
          · obtain ⟨b, p, d, hDa, hdm, hdj, x1, x2⟩ := rdp_get (hrdD.out.mod0 zb.mod) hlt
            have hdi := hdk.out d hdm
            rw [hDa]
            have kn := lnums_row (wr.alloc (.cells #[.int .i64 d.r, .int .i64 d.n] 25)) 3 (wr.heap.size + 1) (by simp) [d.r, d.n] 2 rfl (by omega) (fun x hx => by simp at hx; rcases hx with rfl | rfl <;> exact in64_mk (by have := hdi.1; have := hdi.2; omega) (by have := hdi.1; have := hdi.2; omega)) #[.int .i64 d.r, .int .i64 d.n] rfl
            have hfl6 : [d.r, d.n].flatMap nb = isB d := by simp [isB]
            rw [hfl6] at kn
            clear hfl6
            replace zb := Lib.hid zb
            replace hdm := Lib.hid hdm
            replace hdj := Lib.hid hdj
            replace hdi := Lib.hid hdi
            go_wp2_with fail
            refine kn.mono ?_; rintro e w8 ⟨A8, c8, rfl, ho8, hf8, hm8⟩; dsimp only
            have zb8 := Lib.hid (zb.out.mod0 ((((Mod.refl none_ wr).alloc (.cells #[.int .i64 d.r, .int .i64 d.n] 25)).alloc (.cells #[.int .i64 d.r, .int .i64 d.n] 3)).trans hm8))
            have hl8 : (isB d).length ≤ 20 := by have := nb_len d.r; have := nb_len d.n; unfold isB; rw [List.length_append]; omega
            generalize hg8 : (isB d).length = n8 at *
            clear hm8 kn hf8 zb
            replace ho8 := Lib.hid ho8
            replace hg8 := Lib.hid hg8
            go_wp2_with (at_builtin; go_loud (refine app8 rfl (.tmp 73) (.tmp 79) rfl rfl zb8.out.own.ow rfl ho8.out.rd (by omega) ?_; intro A9 c9 w9 ho9 hm9 hA9; have zb9 := Lib.hid (zb8.out.app ho9 hm9 hA9 (by omega)); clear ho9 hm9 hA9))
            go_roundw
            case rel =>
              refine ⟨j + 1, by go_num, by omega, A9, _, c9, rfl, by omega, ?_⟩
              have e1 : (r.e.deps.take (j + 1)).flatMap isB = (r.e.deps.take j).flatMap isB ++ isB d := by rw [List.take_add_one, hdj.out]; simp
              rw [e1, ← List.append_assoc]
              have h9 := zb9.out
              rw [hDa] at h9
              exact h9
            case measure => simp [intOf]; omega
          · have hjl : j = D.n := by omega
            subst hjl
            rw [List.take_of_length_le (by have := hdl.out; omega)] at zb
            have hlist : ((headB r ++ nb 1) ++ nb (D.n : Int)) ++ r.e.deps.flatMap isB = recB r := by rw [hrec.out, ← hdl.out]; simp
            rw [hlist] at zb
            have hlen := zb.len
            subst hlen
            clear hlist
            replace zb := Lib.hid zb
            generalize hlo : recB r = lo at *
            replace hlo := Lib.hid hlo
            go_wp2_with fail
            go_ret2
            exact .inl ⟨hr.out, A, c, rfl, zb.out.own.ow, zb.out.own.fr, zb.out.mod⟩
      | false =>
        rw [hnn] at s13 k7
        simp only [Bool.false_eq_true, if_false] at k7
        obtain ⟨k7, k8⟩ := k7
        have hol := orderB_len k8
        have hrec : Hid (recB r = headB r ++ ((nb 0 ++ txtB (orderB r.e.o)) ++ (nb (r.e.deps.length : Int) ++ r.e.deps.flatMap isB))) := Lib.hid (by rw [hrec0]; unfold entB; rw [hnn]; simp)
        clear hrec0 k8
        have kO5 := kO.out w5 zb5.out.mod
        rw [k7] at kO5
        replace hnn := Lib.hid hnn
        replace k7 := Lib.hid k7
        go_wp2_with (refine wpList_load_blk rfl 30 (.tmp 31) rfl q 3 rfl zb5.out.blk [.int .i64 r.e.o.c, .int .i64 r.e.o.s, .int .i64 r.e.o.k, .string (txt r.e.o.acct), .string (txt r.e.o.peer), .int .i64 r.e.o.sum, .slice L.a L.n L.c, .int .i64 r.e.o.per, .int .i64 r.e.o.hold, .string (txt r.e.o.note)] rfl Tryz.underlying30 rfl order_size ?_)
        with_reducible refine kO5.mono ?_
        rintro e w6 hpost
        obtain ⟨A6, c6, rfl, ho6, hf6, hm6⟩ : ∃ A c, e = .returned (.tuple #[.slice A (orderB r.e.o).length c, .int .i64 0]) ∧ OwB w6 5 A (orderB r.e.o).length c (orderB r.e.o) ∧ Fresh w5 A ∧ Mod none_ w5 w6 := by
          rcases hpost with ⟨_, h⟩ | ⟨h, _⟩
          · exact h
          · cases h
        dsimp only
        have zb6 := Lib.hid (zb5.out.mod0 hm6)
        have zo6 := Lib.hid (ByAt.of_ow ho6 (by omega))
        generalize hgo : (orderB r.e.o).length = m6 at *
        replace hgo := Lib.hid hgo
        clear hpost ho6 hf6 hm6 kO5 s1 s13 zb5
        go_wp2_with fail
        have hM0 := Lib.hid ((Mod.refl none_ w6).drew)
        have kC6 := Lib.hid (fun W (h : Mod none_ w6 W) => ByAt.conv (zo6.out.mod0 h))
        dsimp only at kC6
        refine wp_region_held_drew (S := fun W => Mod none_ w6 W) (by kernel_rfl) hM0.out (fun hHeld => ?_)
        refine wpAnyH_take (i := 0) (v := ?_) rfl (by kernel_rfl) (by kernel_rfl) (by kernel_rfl) (fun _ _ _ h => h) (Or.inl ⟨by rfl, ?_⟩) (by assumption) ?_
        rotate_left
        · intro W hSw; (try dsimp only at hSw); go_simp; (try with_reducible rfl)
        try simp only [Act.put, List.getElem_toArray, List.getElem_cons_zero, List.getElem_cons_succ, List.setIfInBounds_toArray, List.set_cons_zero, List.set_cons_succ]
        refine wpAnyH_take (i := 3) (v := ?_) rfl (by kernel_rfl) (by kernel_rfl) (by kernel_rfl) (fun _ _ _ h => h) (Or.inl ⟨by rfl, ?_⟩) (by assumption) ?_
        rotate_left
        · intro W hSw; (try dsimp only at hSw); go_simp; (try with_reducible rfl)
        try simp only [Act.put, List.getElem_toArray, List.getElem_cons_zero, List.getElem_cons_succ, List.setIfInBounds_toArray, List.set_cons_zero, List.set_cons_succ]
        refine wpAnyH_take (i := 4) (v := ?_) rfl (by kernel_rfl) (by kernel_rfl) (by kernel_rfl) (fun _ _ _ h => h) (Or.inl ⟨by rfl, ?_⟩) (by assumption) ?_
        rotate_left
        · intro W hSw; have hcv := kC6.out W hSw; go_simp; (try with_reducible rfl)
        try simp only [Act.put, List.getElem_toArray, List.getElem_cons_zero, List.getElem_cons_succ, List.setIfInBounds_toArray, List.set_cons_zero, List.set_cons_succ]
        refine wpAnyH_ready (rs := [1]) (by kernel_rfl) (by simp) ?_
        refine AllReadyH.cons rfl (fun K hK => ?_) AllReadyH.nil
        go_simp
        refine hK.out _ _ (((Mod.refl none_ w6).alloc (.cells #[.int .i64 0] 3)).drew) (fun hHeld => ?_)
        clear hK K
        try simp only [Act.put, List.getElem_toArray, List.getElem_cons_zero, List.getElem_cons_succ, List.setIfInBounds_toArray, List.set_cons_zero, List.set_cons_succ]
        have kn := lnums_ok (w6.alloc (.cells #[.int .i64 0] 3)).drew (some ⟨w6.heap.size, 0, none⟩) 1 1 [0] (rdi_row w6 3 _ rfl [0]) (by omega) (fun x hx => by simp at hx; subst hx; exact in64_mk (by omega) (by omega))
        have hfl : [(0 : Int)].flatMap nb = nb 0 := by simp
        rw [hfl] at kn
        refine wpAnyH_ready (rs := [2]) (by kernel_rfl) (by simp) ?_
        refine AllReadyH.cons rfl (fun K hK => ?_) AllReadyH.nil
        go_simp
        (with_reducible refine kn.mono ?_); rintro e2 w7 ⟨A7, c7, rfl, ho7, hf7, hm7⟩; dsimp only
        have hM7 := Lib.hid ((((Mod.refl none_ w6).alloc (.cells #[.int .i64 0] 3)).drew).trans hm7)
        have z7 := Lib.hid (ByAt.of_ow ho7 (nb_small _))
        clear kn hm7 hf7 ho7 hfl
        go_wp2_with fail
        refine hK.out _ _ (hM7.out) (fun hHeld => ?_)
        clear hK K
        try simp only [Act.put, List.getElem_toArray, List.getElem_cons_zero, List.getElem_cons_succ, List.setIfInBounds_toArray, List.set_cons_zero, List.set_cons_succ]
        refine wpAnyH_ready (rs := [5]) (by kernel_rfl) (by simp) ?_
        refine AllReadyH.cons rfl (fun K hK => ?_) AllReadyH.nil
        go_simp
        (with_reducible refine (text_ok _ (orderB r.e.o) (by have := hgo.out; omega)).mono ?_); rintro e2 w8 ⟨A8, c8, rfl, ho8, hf8, hm8⟩; dsimp only
        have hM8 := Lib.hid (hM7.out.trans hm8)
        replace z7 := Lib.hid (z7.out.mod0 hm8)
        have htl := txtB_len (orderB r.e.o)
        have z8 := Lib.hid (ByAt.of_ow ho8 (by have := hgo.out; omega))
        clear hm8 hf8 ho8
        go_wp2_with fail
        refine hK.out _ _ (hM8.out) (fun hHeld => ?_)
        clear hK K
        try simp only [Act.put, List.getElem_toArray, List.getElem_cons_zero, List.getElem_cons_succ, List.setIfInBounds_toArray, List.set_cons_zero, List.set_cons_succ]
        have z5 := Lib.hid ((zb6.out.own.at_).mod0 hM8.out)
        have hbs : Hid (BsAt (w8.alloc (.cells #[.slice A5 n5 c5, .slice A7 (nb 0).length c7, .slice A8 (txtB (orderB r.e.o)).length c8] 22)) (some ⟨w8.heap.size, 0, none⟩) 3 [⟨A5, n5, c5⟩, ⟨A7, (nb 0).length, c7⟩, ⟨A8, (txtB (orderB r.e.o)).length, c8⟩] [headB r, nb 0, txtB (orderB r.e.o)]) :=
          Lib.hid (bsAt_all w8 22 [⟨A5, n5, c5⟩, ⟨A7, (nb 0).length, c7⟩, ⟨A8, (txtB (orderB r.e.o)).length, c8⟩] [headB r, nb 0, txtB (orderB r.e.o)] ⟨z5.out, z7.out, z8.out, trivial⟩)
        refine wpAnyH_ready (rs := [6]) (by kernel_rfl) (by simp) ?_
        refine AllReadyH.cons rfl (fun K hK => ?_) AllReadyH.nil
        go_simp
        refine hK.out _ _ (hM8.out.alloc _) (fun hHeld => ?_)
        clear hK K
        try simp only [Act.put, List.getElem_toArray, List.getElem_cons_zero, List.getElem_cons_succ, List.setIfInBounds_toArray, List.set_cons_zero, List.set_cons_succ]
        have hfl : [headB r, nb 0, txtB (orderB r.e.o)].flatten = headB r ++ (nb 0 ++ txtB (orderB r.e.o)) := by simp
        have kc := concatB_ok _ _ 3 3 _ _ hbs.out (by omega)
        rw [hfl] at kc
        have hle : (headB r ++ (nb 0 ++ txtB (orderB r.e.o))).length ≤ 600 := by
          have := nb_len 0
          have := hgo.out
          have := hg5.out
          simp only [List.length_append]; omega
        obtain ⟨lc, hlc⟩ : ∃ lc, lc = headB r ++ (nb 0 ++ txtB (orderB r.e.o)) := ⟨_, rfl⟩
        rw [← hlc] at kc hle
        replace hlc := Lib.hid hlc
        refine wpAnyH_ready (rs := [7]) (by kernel_rfl) (by simp) ?_
        refine AllReadyH.cons rfl (fun K hK => ?_) AllReadyH.nil
        go_simp
        (with_reducible refine kc.mono ?_); rintro e2 W ⟨Ab, cb, rfl, ho9, hf9, hm9⟩; dsimp only
        have hM9 := Lib.hid ((hM8.out.alloc _).trans hm9)
        have zb := Lib.hid (BufSt.new zb6.out.mod zb6.out.blk ho9 (hf9.later (hM8.out.alloc _).size) hM9.out (by omega))
        clear hm9 ho9 hf9 hbs kc hfl z5 z7 z8 htl
        go_wp2_with fail
        refine hK.out _ _ (hM9.out) (fun hHeld => ?_)
        clear hK K
        try simp only [Act.put, List.getElem_toArray, List.getElem_cons_zero, List.getElem_cons_succ, List.setIfInBounds_toArray, List.set_cons_zero, List.set_cons_succ]
        refine wpAnyH_take (i := 8) (v := ?_) rfl (by kernel_rfl) (by kernel_rfl) (by kernel_rfl) (fun _ _ _ h => h) (Or.inl ⟨by rfl, ?_⟩) (by assumption) ?_
        rotate_left
        · intro W hSw; (try dsimp only at hSw); go_simp; (try with_reducible rfl)
        try simp only [Act.put, List.getElem_toArray, List.getElem_cons_zero, List.getElem_cons_succ, List.setIfInBounds_toArray, List.set_cons_zero, List.set_cons_succ]
        refine wpAnyH_done (by kernel_rfl) ?_ _
        generalize hnb : lc.length = nb' at *
        rw [hlc.out] at zb
        replace hnb := Lib.hid hnb
        clear hHeld hM0 hM7 hM8 hM9 kC6 zo6 zb6
        -- what it waits for
        have ss : W.cell? ⟨q, 14, none⟩ = some (.slice D.a D.n D.c) := zb.out.blk.cell_ rfl
        have kn := lnums_row W 3 W.heap.size rfl [(D.n : Int)] 1 rfl (by omega) (fun x hx => by simp at hx; subst hx; exact in64_mk (by omega) (by omega)) #[.int .i64 (D.n : Int)] rfl
        have hfl6 : [(D.n : Int)].flatMap nb = nb (D.n : Int) := by simp
        rw [hfl6] at kn
        clear hfl6
        go_wp2_with fail
        refine kn.mono ?_; rintro e w6 ⟨A6, c6, rfl, ho6, hf6, hm6⟩; dsimp only
        have zb6 := Lib.hid (zb.out.mod0 (((Mod.refl none_ W).alloc (.cells #[.int .i64 (D.n : Int)] 3)).trans hm6))
        have hl6 := nb_len (D.n : Int)
        generalize hg6 : (nb (D.n : Int)).length = n6 at *
        clear hm6 kn hf6 ss zb
        replace ho6 := Lib.hid ho6
        replace hg6 := Lib.hid hg6
        go_wp2_with (at_builtin; go_loud (refine app8 rfl (.tmp 57) (.tmp 63) rfl rfl zb6.out.own.ow rfl ho6.out.rd (by omega) ?_; intro A7 c7 w7 ho7 hm7 hA7; have zb7 := Lib.hid (zb6.out.app ho7 hm7 hA7 (by omega)); have s7 := zb7.out.blk.cell_ (i := 14) (v := .slice D.a D.n D.c) rfl; clear ho7 hm7 hA7))
        clear s7
        go_loopw [5, 69] (fun v x wr => ∃ j : Nat, x = .int .i64 j ∧ j ≤ D.n ∧ ∃ A n c, v = .slice A n c ∧ n ≤ 620 + j * 20 ∧ BufSt w 35 q #[.int .i64 r.bal, .int .i64 r.st, .int .i64 r.by_, .int .i64 r.e.o.c, .int .i64 r.e.o.s, .int .i64 r.e.o.k, .string (txt r.e.o.acct), .string (txt r.e.o.peer), .int .i64 r.e.o.sum, .slice L.a L.n L.c, .int .i64 r.e.o.per, .int .i64 r.e.o.hold, .string (txt r.e.o.note), .bool r.e.none, .slice D.a D.n D.c] wr A n c (((headB r ++ (nb 0 ++ txtB (orderB r.e.o))) ++ nb (D.n : Int)) ++ (r.e.deps.take j).flatMap isB)) (fun _ x _ => D.n - (intOf x).toNat)
        case atStart => exact ⟨0, rfl, by omega, A7, _, c7, rfl, by omega, by simpa using zb7.out⟩
        case round =>
          obtain ⟨j, rfl, hj, A, n, c, rfl, hnj, zb⟩ := hrel
          by_cases hlt : j < D.n
          · obtain ⟨b, p, d, hDa, hdm, hdj, x1, x2⟩ := rdp_get (hrdD.out.mod0 zb.mod) hlt
            have hdi := hdk.out d hdm
            rw [hDa]
            have kn := lnums_row (wr.alloc (.cells #[.int .i64 d.r, .int .i64 d.n] 25)) 3 (wr.heap.size + 1) (by simp) [d.r, d.n] 2 rfl (by omega) (fun x hx => by simp at hx; rcases hx with rfl | rfl <;> exact in64_mk (by have := hdi.1; have := hdi.2; omega) (by have := hdi.1; have := hdi.2; omega)) #[.int .i64 d.r, .int .i64 d.n] rfl
            have hfl6 : [d.r, d.n].flatMap nb = isB d := by simp [isB]
            rw [hfl6] at kn
            clear hfl6
            replace zb := Lib.hid zb
            replace hdm := Lib.hid hdm
            replace hdj := Lib.hid hdj
            replace hdi := Lib.hid hdi
            go_wp2_with fail
            refine kn.mono ?_; rintro e w8 ⟨A8, c8, rfl, ho8, hf8, hm8⟩; dsimp only
            have zb8 := Lib.hid (zb.out.mod0 ((((Mod.refl none_ wr).alloc (.cells #[.int .i64 d.r, .int .i64 d.n] 25)).alloc (.cells #[.int .i64 d.r, .int .i64 d.n] 3)).trans hm8))
            have hl8 : (isB d).length ≤ 20 := by have := nb_len d.r; have := nb_len d.n; unfold isB; rw [List.length_append]; omega
            generalize hg8 : (isB d).length = n8 at *
            clear hm8 kn hf8 zb
            replace ho8 := Lib.hid ho8
            replace hg8 := Lib.hid hg8
            go_wp2_with (at_builtin; go_loud (refine app8 rfl (.tmp 73) (.tmp 79) rfl rfl zb8.out.own.ow rfl ho8.out.rd (by omega) ?_; intro A9 c9 w9 ho9 hm9 hA9; have zb9 := Lib.hid (zb8.out.app ho9 hm9 hA9 (by omega)); clear ho9 hm9 hA9))
            go_roundw
            case rel =>
              refine ⟨j + 1, by go_num, by omega, A9, _, c9, rfl, by omega, ?_⟩
              have e1 : (r.e.deps.take (j + 1)).flatMap isB = (r.e.deps.take j).flatMap isB ++ isB d := by rw [List.take_add_one, hdj.out]; simp
              rw [e1, ← List.append_assoc]
              have h9 := zb9.out
              rw [hDa] at h9
              exact h9
            case measure => simp [intOf]; omega
          · have hjl : j = D.n := by omega
            subst hjl
            rw [List.take_of_length_le (by have := hdl.out; omega)] at zb
            have hlist : ((headB r ++ (nb 0 ++ txtB (orderB r.e.o))) ++ nb (D.n : Int)) ++ r.e.deps.flatMap isB = recB r := by rw [hrec.out, ← hdl.out]; simp
            rw [hlist] at zb
            have hlen := zb.len
            subst hlen
            clear hlist
            replace zb := Lib.hid zb
            generalize hlo : recB r = lo at *
            replace hlo := Lib.hid hlo
            go_wp2_with fail
            go_ret2
            exact .inl ⟨hr.out, A, c, rfl, zb.out.own.ow, zb.out.own.fr, zb.out.mod⟩
end Go.Proofs.YtimlfdihodoolaaGreat
/-
  A reader of a struct at work inside a call that is handed the reader: the reader, the result's variable, the variable that is filled. No condition.
-/
namespace Go.Proofs.YtimlfdihodoolaaGreat
set_option linter.unusedVariables false
set_option linter.unusedSimpArgs false
open Go.RowKit
structure FillC (w : World) (t : TypeId) (z : Array Value) (g B q : Nat) (W : World) (cs : Array Value) (e : Nat) (l : List UInt8) : Prop where
  rd : Rdr W g B l e
  res : Blk W w.heap.size t z
  var : Blk W q t cs
  mod : Mod (only g) w W
  gw : w.heap.size ≠ g
  bw : w.heap.size ≠ B
  qw : w.heap.size < q
  qg : q ≠ g
  qb : q ≠ B
  bl : B < W.heap.size
section
variable {w : World} {t : TypeId} {z : Array Value} {g B q : Nat} {W W' : World} {cs : Array Value} {e e' : Nat} {l l' : List UInt8}
theorem Mod.join {w w1 w2 : World} {g : Nat} {F : Nat → Prop} (h : Mod (only g) w w1) (k : Mod F w1 w2) (hF : ∀ i, F i → w.heap.size ≤ i) : Mod (only g) w w2 :=
  h.then k fun i hi hk => by have := hF i hk; omega
theorem FillC.call (h : FillC w t z g B q W cs e l) (hm : Mod (only g) W W') (hr : Rdr W' g B l' e') : FillC w t z g B q W' cs e' l' :=
  ⟨hr, h.res.mod hm (fun hh => h.gw hh), h.var.mod hm (fun hh => h.qg hh), h.mod.trans hm, h.gw, h.bw, h.qw, h.qg, h.qb, Nat.lt_of_lt_of_le h.bl hm.size⟩
theorem FillC.mod0 (h : FillC w t z g B q W cs e l) (hm : Mod none_ W W') : FillC w t z g B q W' cs e l :=
  ⟨h.rd.mod0 hm, h.res.mod hm (fun hh => hh), h.var.mod hm (fun hh => hh), h.mod.trans (hm.any _), h.gw, h.bw, h.qw, h.qg, h.qb, Nat.lt_of_lt_of_le h.bl hm.size⟩
theorem FillC.alloc (h : FillC w t z g B q W cs e l) (o : Obj) : FillC w t z g B q (W.alloc o) cs e l := h.mod0 ((Mod.refl none_ W).alloc o)
theorem FillC.drew (h : FillC w t z g B q W cs e l) : FillC w t z g B q W.drew cs e l := h.mod0 (Mod.refl none_ W).drew
theorem FillC.own (h : FillC w t z g B q W cs e l) {F : Nat → Prop} (hm : Mod F W W') (h1 : ¬ F g) (h2 : ¬ F B) (h3 : ¬ F q) (h4 : ∀ k, F k → w.heap.size < k) : FillC w t z g B q W' cs e l :=
  ⟨h.rd.mod hm h1 h2, h.res.mod hm (fun hh => by have := h4 _ hh; omega), h.var.mod hm h3, h.mod.join hm (fun i hk => Nat.le_of_lt (h4 _ hk)), h.gw, h.bw, h.qw, h.qg, h.qb, Nat.lt_of_lt_of_le h.bl hm.size⟩
theorem FillC.turn (h : FillC w t z g B q W cs e l) {cs' : Array Value} (hm : Mod (only q) W W') (hv : Blk W' q t cs') : FillC w t z g B q W' cs' e l :=
  ⟨h.rd.mod hm (fun hh => h.qg hh.symm) (fun hh => h.qb hh.symm), h.res.mod hm (fun hh => by have : w.heap.size = q := hh; have := h.qw; omega), hv, h.mod.join hm (fun i hi => by have : i = q := hi; have := h.qw; omega), h.gw, h.bw, h.qw, h.qg, h.qb, Nat.lt_of_lt_of_le h.bl hm.size⟩
theorem FillC.store (h : FillC w t z g B q W cs e l) (o : Nat) (v : Value) : FillC w t z g B q (W.setCell ⟨q, o, none⟩ v) (cs.setIfInBounds o v) e l :=
  h.turn ((Mod.refl (only q) W).set_only o v) (h.var.set_ o v)
theorem FillC.new_ne (h : FillC w t z g B q W cs e l) : w.heap.size < W.heap.size ∧ g < W.heap.size ∧ B < W.heap.size ∧ q < W.heap.size := ⟨h.res.lt, h.rd.lt, h.bl, h.var.lt⟩
theorem ListOwn.appC {t' : TypeId} {size : Nat} {A A' : Option Addr} {m cp m' cp' : Nat} {xs xs' : List Value} (h : ListOwn w t' size g B q W A m cp xs) (st : FillC w t z g B q W cs e l)
    (ho : Ow W' t' size A' m' cp' xs') (hm : Mod (fp A) W W') (hA : A' = A ∨ A' = some ⟨W.heap.size, 0, none⟩) : ListOwn w t' size g B q W' A' m' cp' xs' ∧ FillC w t z g B q W' cs e l := by
  refine ⟨?_, st.own hm h.ng h.nb h.nq h.fr⟩
  rcases hA with rfl | rfl
  · exact ⟨ho, h.fr, h.ng, h.nb, h.nq⟩
  · have h1 := st.rd.lt
    have h2 := st.bl
    have h3 := st.var.lt
    have h4 := st.res.lt
    refine ⟨ho, ?_, ?_, ?_, ?_⟩
    · rintro k ⟨a, ha, rfl⟩; cases ha; exact h4
    · rintro ⟨a, ha, hk⟩; cases ha; simp only at hk; omega
    · rintro ⟨a, ha, hk⟩; cases ha; simp only at hk; omega
    · rintro ⟨a, ha, hk⟩; cases ha; simp only at hk; omega
end
theorem entry_size : (Tryz.prog.info? 33).map (·.size) = some 12 := by kernel_rfl
theorem rdOrd_in {b : List UInt8} {o : Od} {f : Nat} (h : rdOrd b = (o, f)) : o = od0 ∨ okOd o := by
  rcases rdOrd_two b with h1 | h1
  · rw [h] at h1
    dsimp only at h1
    subst h1
    exact .inr (rdOrd_yes h).2.2
  · rw [h] at h1
    simp only [Prod.mk.injEq] at h1
    exact .inl h1.1
/-- what Right asks of an order to be so -/
theorem od_facts {o : Od} (h : o = od0 ∨ okOd o) : o.legs.length ≤ 6 ∧ (Lit.int .i64 o.k).wf = true ∧ ∀ l ∈ o.legs, (txt l.n).size ≤ maxLen := by
  rcases h with rfl | h
  · exact ⟨by decide, by decide, fun l hl => by cases hl⟩
  · obtain ⟨_, _, h3, _, _, _, h7, h8, _⟩ := h
    exact ⟨h7, wf_of64 ⟨by omega, by omega⟩, fun l hl => txt_small (by have := (h8 l hl).1; omega)⟩
theorem rdEn_in {s : RS} {v : En} {f : Nat} {r : RS} (h : rdEn s = ((v, f), r)) : (v.o = od0 ∨ okOd v.o) ∧ v.deps.length ≤ 100 := by
  obtain ⟨re, rt⟩ := r
  unfold rdEn at h
  obtain ⟨x, s1, h1, h⟩ := bd_inv h
  by_cases hx : x = 1
  · rw [if_pos hx] at h
    obtain ⟨k, s2, h2, h⟩ := bd_inv h
    obtain ⟨ds, s3, h3, h⟩ := bd_inv h
    simp only [pu, Prod.mk.injEq] at h
    have := qg_in h2
    have := (rdList_in rdIs_in _ _ _ _ h3).1
    rw [← h.1.1]
    exact ⟨.inl rfl, by dsimp only; omega⟩
  · rw [if_neg hx] at h
    obtain ⟨b, s2, h2, h⟩ := bd_inv h
    obtain ⟨o, f', ho⟩ := duo_ (rdOrd b)
    rw [ho] at h
    dsimp only at h
    unfold rdEnO at h
    by_cases hf : f' ≠ 0
    · rw [if_pos hf] at h
      simp only [pu, Prod.mk.injEq] at h
      rw [← h.1.1]
      exact ⟨.inl rfl, by simp⟩
    · rw [if_neg hf] at h
      obtain ⟨k, s3, h3, h⟩ := bd_inv h
      obtain ⟨ds, s4, h4, h⟩ := bd_inv h
      simp only [pu, Prod.mk.injEq] at h
      have := qg_in h3
      have := (rdList_in rdIs_in _ _ _ _ h4).1
      rw [← h.1.1]
      exact ⟨rdOrd_in ho, by dsimp only; omega⟩
def EnPost (w : World) (g B : Nat) (r : (En × Nat) × RS) (en : Ending) (w' : World) : Prop :=
  ∃ (v : En) (f e : Nat) (l : List UInt8) (L D : SV), r = ((v, f), e, l) ∧ en = .returned (.tuple #[.agg #[.int .i64 v.o.c, .int .i64 v.o.s, .int .i64 v.o.k, .string (txt v.o.acct), .string (txt v.o.peer), .int .i64 v.o.sum, .slice L.a L.n L.c, .int .i64 v.o.per, .int .i64 v.o.hold, .string (txt v.o.note), .bool v.none, .slice D.a D.n D.c], .int .i64 (f : Int)]) ∧ EnM w' v L D ∧ Fresh w L.a ∧ Fresh w D.a ∧ Rdr w' g B l e ∧ Mod (only g) w w'
end Go.Proofs.YtimlfdihodoolaaGreat
/-
  log.entry. No condition.
-/
namespace Go.Proofs.YtimlfdihodoolaaGreat
set_option linter.unusedVariables false
set_option linter.unusedSimpArgs false
open Go.RowKit
/-- an order's legs, safe from what changes -/
structure LegsSafe (N g q : Nat) (W : World) (o : Od) (L : SV) : Prop where
  m : OdM W o L
  safe : 0 < L.n → ∀ k, fp L.a k → k < N ∧ k ≠ g ∧ k ≠ q
theorem LegsSafe.mod {N g q : Nat} {W W' : World} {o : Od} {L : SV} (h : LegsSafe N g q W o L) {F : Nat → Prop} (hm : Mod F W W') (hF : ∀ k, F k → k = g ∨ k = q ∨ N ≤ k) : LegsSafe N g q W' o L :=
  ⟨⟨Rd.mod' h.m.rd hm (fun h0 k hk hf => by have := h.safe h0 k hk; have := hF k hf; omega), h.m.cap⟩, h.safe⟩
theorem LegsSafe.call {N g q : Nat} {W W' : World} {o : Od} {L : SV} (h : LegsSafe N g q W o L) (hm : Mod (only g) W W') : LegsSafe N g q W' o L := h.mod hm (fun k hk => .inl hk)
theorem LegsSafe.turn {N g q : Nat} {W W' : World} {o : Od} {L : SV} (h : LegsSafe N g q W o L) (hm : Mod (only q) W W') : LegsSafe N g q W' o L := h.mod hm (fun k hk => .inr (.inl hk))
theorem LegsSafe.mod0 {N g q : Nat} {W W' : World} {o : Od} {L : SV} (h : LegsSafe N g q W o L) (hm : Mod none_ W W') : LegsSafe N g q W' o L := h.mod hm (fun k hk => hk.elim)
theorem LegsSafe.zero (N g q : Nat) (W : World) : LegsSafe N g q W od0 ⟨none, 0, 0⟩ := ⟨od0_mem W, fun h => absurd h (by simp)⟩
theorem newer {W : World} {A A' : Option Addr} {N : Nat} (h : ∀ k, fp A k → N ≤ k) (hA : A' = A ∨ A' = some ⟨W.heap.size, 0, none⟩) (hN : N ≤ W.heap.size) : ∀ k, fp A' k → N ≤ k := by
  rcases hA with rfl | rfl
  · exact h
  · rintro k ⟨a, ha, rfl⟩; cases ha; exact hN
theorem step_appP {w : World} {ops : Array Oper} {o : Oper} {a : Act} {K : Act → World → Prop} {Q : Exit → Act → World → Prop} {E : Prop} (hgd : o.guard = none) (s x : Operand)
    (ho : o.op = .call { callee := .builtin .append, args := #[s, x], argTypes := #[31, 31] })
    {A : Option Addr} {n c : Nat} {xs : List Is} (hs : a.eval s = .slice A n c) (hown : OwP w A n c xs)
    {S : Option Addr} {m d : Nat} {news : List Is} (hx : a.eval x = .slice S m d) (hr : RdP w S m news) (hb : (n + m) * 16 ≤ 140737488355328)
    (h : ∀ A' c' w', OwP w' A' (n + m) c' (xs ++ news) → Mod (fp A) w w' → (A' = A ∨ A' = some ⟨w.heap.size, 0, none⟩) → K (a.put o.dst (.slice A' (n + m) c')) w') : if Region.wanted o (yielded ops a.tmps) = true then Oper.wp Tryz.prog o a w K Q else E := by
  obtain ⟨i0, hi, hz0, hz1, hz2⟩ := info_parts isinfo
  refine step_append_ow hgd s x 31 ho 25 i0 _ 2 16 Tryz.underlying31 hi hz0 hz1 hz2 rfl (by omega) A n c (iss xs) hs hown S m d (iss news) hx hr (iss_one _) (by omega) (by omega) ?_
  intro A' c' w' h1
  rw [← iss_append] at h1
  exact h A' c' w' h1
theorem Rd.blt {w : World} {size n : Nat} {A : Option Addr} {xs : List Value} (h : Rd w size A n xs) (hn : 0 < n) (hs : 0 < size) : ∀ k, fp A k → k < w.heap.size := by
  rintro k ⟨a, e, rfl⟩
  obtain ⟨b, o, e', hc⟩ := h.form hn hs
  have hl : 0 < xs.length := by rw [h.1]; exact Nat.mul_pos hn hs
  have := hc 0 _ (List.getElem?_eq_getElem hl)
  rw [e] at e'
  cases e'
  exact World.block_lt_of_cell? w _ this
theorem LegsSafe.of {N g q : Nat} {w1 W : World} {o : Od} {L : SV} (h : OdM W o L) (hf : Fresh w1 L.a) (hg : g < w1.heap.size) (hq : q < w1.heap.size) (hN : W.heap.size ≤ N) : LegsSafe N g q W o L :=
  ⟨h, fun h0 k hk => by
    have h1 := h.rd.blt h0 (by omega) k hk
    obtain ⟨a, ha, rfl⟩ := hk
    have := hf a ha
    omega⟩
set_option maxRecDepth 100000 in
set_option maxHeartbeats 8000000 in
theorem entry_t (w : World) (g B e0 : Nat) (l0 : List UInt8) (h : Rdr w g B l0 e0) (hBl : B < w.heap.size) (e1 : Nat) (l1 : List UInt8) (h1 : qg 0 1 (e0, l0) = (1, e1, l1)) : Calls Tryz.prog 20 #[.pointer (some ⟨g, 0, none⟩)] w (EnPost w g B (rdEn (e0, l0))) := by
  obtain ⟨k0, e3, l3, h3⟩ := tri_ (qg 0 100 (e1, l1))
  obtain ⟨ds, e4, l4, h4⟩ := tri_ (rdList rdIs k0.toNat (e3, l3))
  have hfin : Hid (rdEn (e0, l0) = ((⟨od0, true, ds⟩, 0), e4, l4)) := Lib.hid (by unfold rdEn; rw [bd_of h1, if_pos rfl, bd_of h3, bd_of h4] <;> rfl)
  have hk := qg_in h3
  obtain ⟨k, rfl⟩ : ∃ k : Nat, k0 = (k : Int) := ⟨k0.toNat, by omega⟩
  have hk100 : k ≤ 100 := by omega
  have hl0 : Hid (ListRel rdIs ds (e4, l4) k [] (e3, l3)) := Lib.hid ⟨ds, by simpa using h4, rfl⟩
  have hb0 := Blk.new w 33 #[.int .i64 0, .int .i64 0, .int .i64 0, .string ⟨#[]⟩, .string ⟨#[]⟩, .int .i64 0, .slice none 0 0, .int .i64 0, .int .i64 0, .string ⟨#[]⟩, .bool false, .slice none 0 0]
  have hm0 := (Mod.refl none_ w).alloc (.cells #[.int .i64 0, .int .i64 0, .int .i64 0, .string ⟨#[]⟩, .string ⟨#[]⟩, .int .i64 0, .slice none 0 0, .int .i64 0, .int .i64 0, .string ⟨#[]⟩, .bool false, .slice none 0 0] 33)
  have hR0 := h.mod0 hm0
  have hgl := h.lt
  have hng : ¬ w.heap.size = g := by omega
  clear h4 h hk
  replace h1 := Lib.hid h1
  replace h3 := Lib.hid h3
  replace hb0 := Lib.hid hb0
  replace hm0 := Lib.hid hm0
  go_enter Tryz.func20, Tryz.ntmps20
  go_wp2_with fail
  refine (lsmall_r h1.out hR0).mono ?_; rintro en w2 ⟨rfl, hR, hm⟩; dsimp only at hR ⊢
  have hbr := hb0.out.mod hm (fun hh => hng hh)
  have hM := (hm0.out.any (only g)).trans hm
  have hsz := hm.size
  simp only [World.size_alloc] at hsz
  have st : FillC w 33 #[.int .i64 0, .int .i64 0, .int .i64 0, .string ⟨#[]⟩, .string ⟨#[]⟩, .int .i64 0, .slice none 0 0, .int .i64 0, .int .i64 0, .string ⟨#[]⟩, .bool false, .slice none 0 0] g B w2.heap.size (w2.alloc (.cells #[.int .i64 0, .int .i64 0, .int .i64 0, .string ⟨#[]⟩, .string ⟨#[]⟩, .int .i64 0, .slice none 0 0, .int .i64 0, .int .i64 0, .string ⟨#[]⟩, .bool true, .slice none 0 0] 33)) #[.int .i64 0, .int .i64 0, .int .i64 0, .string ⟨#[]⟩, .string ⟨#[]⟩, .int .i64 0, .slice none 0 0, .int .i64 0, .int .i64 0, .string ⟨#[]⟩, .bool true, .slice none 0 0] e1 l1 :=
    ⟨hR.mod0 ((Mod.refl none_ w2).alloc _), hbr.alloc _, Blk.new w2 _ _, hM.alloc _, by omega, by omega, by omega, by omega, by omega, by simp only [World.size_alloc]; omega⟩
  obtain ⟨N, hN0⟩ : ∃ N, N = (w2.alloc (.cells #[.int .i64 0, .int .i64 0, .int .i64 0, .string ⟨#[]⟩, .string ⟨#[]⟩, .int .i64 0, .slice none 0 0, .int .i64 0, .int .i64 0, .string ⟨#[]⟩, .bool true, .slice none 0 0] 33)).heap.size := ⟨_, rfl⟩
  have hN : N ≤ (w2.alloc (.cells #[.int .i64 0, .int .i64 0, .int .i64 0, .string ⟨#[]⟩, .string ⟨#[]⟩, .int .i64 0, .slice none 0 0, .int .i64 0, .int .i64 0, .string ⟨#[]⟩, .bool true, .slice none 0 0] 33)).heap.size := by omega
  clear hR hm hbr hM hsz hN0 hR0
  generalize hq : w2.heap.size = q at st
  have ls := Lib.hid (LegsSafe.zero N g q (w2.alloc (.cells #[.int .i64 0, .int .i64 0, .int .i64 0, .string ⟨#[]⟩, .string ⟨#[]⟩, .int .i64 0, .slice none 0 0, .int .i64 0, .int .i64 0, .string ⟨#[]⟩, .bool true, .slice none 0 0] 33)))
  replace st := Lib.hid st
  replace hN := Lib.hid hN
  go_wp2_with fail
  replace hq := Lib.hid hq
  refine (lsmall_r h3.out st.out.rd).mono ?_; rintro en w8 ⟨rfl, hR, hm⟩; dsimp only at hR ⊢
  replace ls := Lib.hid (ls.out.call hm)
  have hN8 : N ≤ w8.heap.size := Nat.le_trans hN.out hm.size
  replace st := Lib.hid (st.out.call hm hR); clear hm hR
  go_wp2_with fail
  go_loopw [35] (fun v wr => ∃ j : Nat, v = .int .i64 j ∧ j ≤ k ∧ N ≤ wr.heap.size ∧ ∃ A cp pre e l, FillC w 33 #[.int .i64 0, .int .i64 0, .int .i64 0, .string ⟨#[]⟩, .string ⟨#[]⟩, .int .i64 0, .slice none 0 0, .int .i64 0, .int .i64 0, .string ⟨#[]⟩, .bool false, .slice none 0 0] g B q wr #[.int .i64 0, .int .i64 0, .int .i64 0, .string ⟨#[]⟩, .string ⟨#[]⟩, .int .i64 0, .slice none 0 0, .int .i64 0, .int .i64 0, .string ⟨#[]⟩, .bool true, .slice A j cp] e l ∧ ListOwn w 25 2 g B q wr A j cp (iss pre) ∧ ListRel rdIs ds (e4, l4) (k - j) pre (e, l) ∧ LegsSafe N g q wr od0 ⟨none, 0, 0⟩ ∧ ∀ i, fp A i → N ≤ i) (fun v _ => k - (intOf v).toNat)
  case atStart => exact ⟨0, rfl, by omega, hN8, none, 0, [], e3, l3, st.out, ListOwn.nil _ _ _ _ _ _ _, hl0.out, ls.out, (fun i hi => by obtain ⟨a, ha, _⟩ := hi; cases ha)⟩
  case round =>
    clear st ls hN8 hN
    obtain ⟨j, rfl, hj, hN, A9, cp, pre, e, l, st, lo, lr, ls, hA9⟩ := hrel
    by_cases hlt : j < k
    · obtain ⟨d, ea, la, ha⟩ := tri_ (rdIs (e, l))
      rw [show k - j = (k - (j + 1)) + 1 by omega] at lr
      have lr2 := Lib.hid (lr.step ha)
      clear lr
      have i2 : wr.cell? ⟨q, 11, none⟩ = some (.slice A9 j cp) := st.var.cell_ rfl
      have hm0 := (Mod.refl none_ wr).drew
      have kI := Lib.hid (inst_r ha st.drew.rd st.drew.bl)
      have hfinish : ∀ (w10 : World) (A11 : Option Addr) (c11 : Nat) (w11 : World), Mod (only g) wr.drew w10 → Rdr w10 g B la ea → OwP w11 A11 (j + 1) c11 (pre ++ [d]) → Mod (fp A9) (w10.alloc (.cells #[.int .i64 d.r, .int .i64 d.n] 25)) w11 → (A11 = A9 ∨ A11 = some ⟨(w10.alloc (.cells #[.int .i64 d.r, .int .i64 d.n] 25)).heap.size, 0, none⟩) →
          w11.cell? ⟨q, 11, none⟩ = some (.slice A9 j cp) ∧ w11.frozen? ⟨q, 11, none⟩ = false ∧ N ≤ (w11.setCell ⟨q, 11, none⟩ (.slice A11 (j + 1) c11)).heap.size ∧ FillC w 33 #[.int .i64 0, .int .i64 0, .int .i64 0, .string ⟨#[]⟩, .string ⟨#[]⟩, .int .i64 0, .slice none 0 0, .int .i64 0, .int .i64 0, .string ⟨#[]⟩, .bool false, .slice none 0 0] g B q (w11.setCell ⟨q, 11, none⟩ (.slice A11 (j + 1) c11)) #[.int .i64 0, .int .i64 0, .int .i64 0, .string ⟨#[]⟩, .string ⟨#[]⟩, .int .i64 0, .slice none 0 0, .int .i64 0, .int .i64 0, .string ⟨#[]⟩, .bool true, .slice A11 (j + 1) c11] ea la ∧ ListOwn w 25 2 g B q (w11.setCell ⟨q, 11, none⟩ (.slice A11 (j + 1) c11)) A11 (j + 1) c11 (iss (pre ++ [d])) ∧ LegsSafe N g q (w11.setCell ⟨q, 11, none⟩ (.slice A11 (j + 1) c11)) od0 ⟨none, 0, 0⟩ ∧ ∀ i, fp A11 i → N ≤ i := by
        intro w10 A11 c11 w11 hm hR ho hmA hA
        have m10 := (Mod.refl none_ w10).alloc (.cells #[.int .i64 d.r, .int .i64 d.n] 25)
        have st1 := ((st.drew.call hm hR).mod0 m10)
        have lo1 := (((lo.mod0 hm0).call hm).mod0 m10)
        obtain ⟨lo2, st2⟩ := lo1.appC st1 ho hmA hA
        have ls2 := (((ls.mod0 hm0).call hm).mod0 m10).mod hmA (fun i hi => .inr (.inr (hA9 i hi)))
        have hms := (Mod.refl (only q) w11).set_only 11 (.slice A11 (j + 1) c11)
        have hNN := Nat.le_trans (Nat.le_trans hN hm.size) m10.size
        exact ⟨st2.var.cell_ rfl, st2.var.frozen 11, Nat.le_trans (Nat.le_trans hNN hmA.size) hms.size, st2.store 11 _, lo2.turn hms, ls2.turn hms, newer hA9 hA hNN⟩
      have hf := Lib.hid hfinish
      have cW : ∀ w10, Mod (only g) wr.drew w10 → Rdr w10 g B la ea → w10.cell? ⟨q, 11, none⟩ = some (.slice A9 j cp) := fun w10 hm hR => (st.drew.call hm hR).var.cell_ rfl
      have hc := Lib.hid cW
      have hw : ∀ w10, Mod (only g) wr.drew w10 → OwP (w10.alloc (.cells #[.int .i64 d.r, .int .i64 d.n] 25)) A9 j cp pre := fun w10 hm => (((lo.mod0 hm0).call hm).mod0 ((Mod.refl none_ w10).alloc _)).ow
      have hwo := Lib.hid hw
      have hql := Lib.hid st.var.lt
      clear hfinish cW hw hm0
      replace st := Lib.hid st
      replace lo := Lib.hid lo
      replace ha := Lib.hid ha
      replace ls := Lib.hid ls
      replace hA9 := Lib.hid hA9
      replace hN := Lib.hid hN
      go_wp2_with fail
      refine wp_region_held_drew (S := fun _ => True) (by kernel_rfl) trivial (fun hHeld => ?_)
      refine wpAnyH_take (i := 0) (v := ?_) rfl (by kernel_rfl) (by kernel_rfl) (by kernel_rfl) (fun _ _ _ h => h) (Or.inl ⟨by rfl, ?_⟩) (by assumption) ?_
      rotate_left
      · intro W hSw; (try dsimp only at hSw); go_simp; (try with_reducible rfl)
      try simp only [Act.put, List.getElem_toArray, List.getElem_cons_zero, List.getElem_cons_succ, List.setIfInBounds_toArray, List.set_cons_zero, List.set_cons_succ]
      refine wpAnyH_take (i := 2) (v := ?_) rfl (by kernel_rfl) (by kernel_rfl) (by kernel_rfl) (fun _ _ _ h => h) (Or.inl ⟨by rfl, ?_⟩) (by assumption) ?_
      rotate_left
      · intro W hSw; (try dsimp only at hSw); go_simp; (try with_reducible rfl)
      try simp only [Act.put, List.getElem_toArray, List.getElem_cons_zero, List.getElem_cons_succ, List.setIfInBounds_toArray, List.set_cons_zero, List.set_cons_succ]
      refine wpAnyH_ready (rs := [1, 3]) (by kernel_rfl) (by simp) ?_
      refine AllReadyH.cons rfl (fun K hK => ?_) (AllReadyH.cons rfl (fun K hK => ?_) AllReadyH.nil)
      · go_simp
        refine hK.out _ _ (trivial) (fun hHeld => ?_)
        clear hK K
        try simp only [Act.put, List.getElem_toArray, List.getElem_cons_zero, List.getElem_cons_succ, List.setIfInBounds_toArray, List.set_cons_zero, List.set_cons_succ]
        refine wpAnyH_ready (rs := [3]) (by kernel_rfl) (by simp) ?_
        refine AllReadyH.cons rfl (fun K hK => ?_) AllReadyH.nil
        go_simp
        (with_reducible refine kI.out.mono ?_); rintro en w10 ⟨rfl, hR, hm⟩; dsimp only at hR ⊢
        have i3 := hc.out w10 hm hR
        have how := Lib.hid (hwo.out w10 hm)
        replace hR := Lib.hid hR
        replace hm := Lib.hid hm
        go_wp2_with fail
        refine hK.out _ _ (trivial) (fun hHeld => ?_)
        clear hK K
        try simp only [Act.put, List.getElem_toArray, List.getElem_cons_zero, List.getElem_cons_succ, List.setIfInBounds_toArray, List.set_cons_zero, List.set_cons_succ]
        refine wpAnyH_ready (rs := [4]) (by kernel_rfl) (by simp) ?_
        refine AllReadyH.cons rfl (fun K hK => ?_) AllReadyH.nil
        go_simp
        refine hK.out _ _ (trivial) (fun hHeld => ?_)
        clear hK K
        try simp only [Act.put, List.getElem_toArray, List.getElem_cons_zero, List.getElem_cons_succ, List.setIfInBounds_toArray, List.set_cons_zero, List.set_cons_succ]
        refine wpAnyH_ready (rs := [5]) (by kernel_rfl) (by simp) ?_
        refine AllReadyH.cons rfl (fun K hK => ?_) AllReadyH.nil
        refine step_appP rfl (.tmp 38) (.tmp 41) rfl rfl how.out rfl (rdp_one w10 25 w10.heap.size rfl d) (by omega) ?_
        intro A11 c11 w11 ho hmA hA
        obtain ⟨f1, f2, f3, f4, f5, f6, f7⟩ := hf.out w10 A11 c11 w11 hm.out hR.out ho hmA hA
        replace f3 := Lib.hid f3
        replace f4 := Lib.hid f4
        replace f5 := Lib.hid f5
        replace f6 := Lib.hid f6
        replace f7 := Lib.hid f7
        clear ho hmA hA
        refine hK.out _ _ (trivial) (fun hHeld => ?_)
        clear hK K
        try simp only [Act.put, List.getElem_toArray, List.getElem_cons_zero, List.getElem_cons_succ, List.setIfInBounds_toArray, List.set_cons_zero, List.set_cons_succ]
        refine wpAnyH_take (i := 6) (v := ?_) rfl (by kernel_rfl) (by kernel_rfl) (by kernel_rfl) (fun _ _ _ h => h) (Or.inl ⟨by rfl, ?_⟩) (by assumption) ?_
        rotate_left
        · intro W hSw; (try dsimp only at hSw); go_simp; (try with_reducible rfl)
        try simp only [Act.put, List.getElem_toArray, List.getElem_cons_zero, List.getElem_cons_succ, List.setIfInBounds_toArray, List.set_cons_zero, List.set_cons_succ]
        refine wpAnyH_ready (rs := [7]) (by kernel_rfl) (by simp) ?_
        refine AllReadyH.cons rfl (fun K hK => ?_) AllReadyH.nil
        go_simp
        refine hK.out _ _ (trivial) (fun hHeld => ?_)
        clear hK K
        try simp only [Act.put, List.getElem_toArray, List.getElem_cons_zero, List.getElem_cons_succ, List.setIfInBounds_toArray, List.set_cons_zero, List.set_cons_succ]
        refine wpAnyH_done (by kernel_rfl) ?_ _
        clear hHeld f1 f2 i2 i3
        go_wp2_with fail
        go_roundw
        case rel => exact ⟨j + 1, by go_num, by omega, f3.out, A11, c11, pre ++ [d], ea, la, f4.out, f5.out, lr2.out, f6.out, f7.out⟩
        case measure => simp [intOf]; omega
      · go_simp
        (with_reducible refine kI.out.mono ?_); rintro en w10 ⟨rfl, hR, hm⟩; dsimp only at hR ⊢
        have i3 := hc.out w10 hm hR
        have how := Lib.hid (hwo.out w10 hm)
        replace hR := Lib.hid hR
        replace hm := Lib.hid hm
        go_wp2_with fail
        refine hK.out _ _ (trivial) (fun hHeld => ?_)
        clear hK K
        try simp only [Act.put, List.getElem_toArray, List.getElem_cons_zero, List.getElem_cons_succ, List.setIfInBounds_toArray, List.set_cons_zero, List.set_cons_succ]
        refine wpAnyH_ready (rs := [1, 4]) (by kernel_rfl) (by simp) ?_
        refine AllReadyH.cons rfl (fun K hK => ?_) (AllReadyH.cons rfl (fun K hK => ?_) AllReadyH.nil)
        · go_simp
          refine hK.out _ _ (trivial) (fun hHeld => ?_)
          clear hK K
          try simp only [Act.put, List.getElem_toArray, List.getElem_cons_zero, List.getElem_cons_succ, List.setIfInBounds_toArray, List.set_cons_zero, List.set_cons_succ]
          refine wpAnyH_ready (rs := [4]) (by kernel_rfl) (by simp) ?_
          refine AllReadyH.cons rfl (fun K hK => ?_) AllReadyH.nil
          go_simp
          refine hK.out _ _ (trivial) (fun hHeld => ?_)
          clear hK K
          try simp only [Act.put, List.getElem_toArray, List.getElem_cons_zero, List.getElem_cons_succ, List.setIfInBounds_toArray, List.set_cons_zero, List.set_cons_succ]
          refine wpAnyH_ready (rs := [5]) (by kernel_rfl) (by simp) ?_
          refine AllReadyH.cons rfl (fun K hK => ?_) AllReadyH.nil
          refine step_appP rfl (.tmp 38) (.tmp 41) rfl rfl how.out rfl (rdp_one w10 25 w10.heap.size rfl d) (by omega) ?_
          intro A11 c11 w11 ho hmA hA
          obtain ⟨f1, f2, f3, f4, f5, f6, f7⟩ := hf.out w10 A11 c11 w11 hm.out hR.out ho hmA hA
          replace f3 := Lib.hid f3
          replace f4 := Lib.hid f4
          replace f5 := Lib.hid f5
          replace f6 := Lib.hid f6
          replace f7 := Lib.hid f7
          clear ho hmA hA
          refine hK.out _ _ (trivial) (fun hHeld => ?_)
          clear hK K
          try simp only [Act.put, List.getElem_toArray, List.getElem_cons_zero, List.getElem_cons_succ, List.setIfInBounds_toArray, List.set_cons_zero, List.set_cons_succ]
          refine wpAnyH_take (i := 6) (v := ?_) rfl (by kernel_rfl) (by kernel_rfl) (by kernel_rfl) (fun _ _ _ h => h) (Or.inl ⟨by rfl, ?_⟩) (by assumption) ?_
          rotate_left
          · intro W hSw; (try dsimp only at hSw); go_simp; (try with_reducible rfl)
          try simp only [Act.put, List.getElem_toArray, List.getElem_cons_zero, List.getElem_cons_succ, List.setIfInBounds_toArray, List.set_cons_zero, List.set_cons_succ]
          refine wpAnyH_ready (rs := [7]) (by kernel_rfl) (by simp) ?_
          refine AllReadyH.cons rfl (fun K hK => ?_) AllReadyH.nil
          go_simp
          refine hK.out _ _ (trivial) (fun hHeld => ?_)
          clear hK K
          try simp only [Act.put, List.getElem_toArray, List.getElem_cons_zero, List.getElem_cons_succ, List.setIfInBounds_toArray, List.set_cons_zero, List.set_cons_succ]
          refine wpAnyH_done (by kernel_rfl) ?_ _
          clear hHeld f1 f2 i2 i3
          go_wp2_with fail
          go_roundw
          case rel => exact ⟨j + 1, by go_num, by omega, f3.out, A11, c11, pre ++ [d], ea, la, f4.out, f5.out, lr2.out, f6.out, f7.out⟩
          case measure => simp [intOf]; omega
        · go_simp
          have i4 : (w10.alloc (.cells #[.int .i64 d.r, .int .i64 d.n] 25)).cell? ⟨q, 11, none⟩ = some (.slice A9 j cp) := ((Mod.refl none_ w10).alloc _).cell_some i3 (fun h => h)
          refine hK.out _ _ (trivial) (fun hHeld => ?_)
          clear hK K
          try simp only [Act.put, List.getElem_toArray, List.getElem_cons_zero, List.getElem_cons_succ, List.setIfInBounds_toArray, List.set_cons_zero, List.set_cons_succ]
          refine wpAnyH_ready (rs := [1]) (by kernel_rfl) (by simp) ?_
          refine AllReadyH.cons rfl (fun K hK => ?_) AllReadyH.nil
          go_simp
          refine hK.out _ _ (trivial) (fun hHeld => ?_)
          clear hK K
          try simp only [Act.put, List.getElem_toArray, List.getElem_cons_zero, List.getElem_cons_succ, List.setIfInBounds_toArray, List.set_cons_zero, List.set_cons_succ]
          refine wpAnyH_ready (rs := [5]) (by kernel_rfl) (by simp) ?_
          refine AllReadyH.cons rfl (fun K hK => ?_) AllReadyH.nil
          refine step_appP rfl (.tmp 38) (.tmp 41) rfl rfl how.out rfl (rdp_one w10 25 w10.heap.size rfl d) (by omega) ?_
          intro A11 c11 w11 ho hmA hA
          obtain ⟨f1, f2, f3, f4, f5, f6, f7⟩ := hf.out w10 A11 c11 w11 hm.out hR.out ho hmA hA
          replace f3 := Lib.hid f3
          replace f4 := Lib.hid f4
          replace f5 := Lib.hid f5
          replace f6 := Lib.hid f6
          replace f7 := Lib.hid f7
          clear ho hmA hA
          refine hK.out _ _ (trivial) (fun hHeld => ?_)
          clear hK K
          try simp only [Act.put, List.getElem_toArray, List.getElem_cons_zero, List.getElem_cons_succ, List.setIfInBounds_toArray, List.set_cons_zero, List.set_cons_succ]
          refine wpAnyH_take (i := 6) (v := ?_) rfl (by kernel_rfl) (by kernel_rfl) (by kernel_rfl) (fun _ _ _ h => h) (Or.inl ⟨by rfl, ?_⟩) (by assumption) ?_
          rotate_left
          · intro W hSw; (try dsimp only at hSw); go_simp; (try with_reducible rfl)
          try simp only [Act.put, List.getElem_toArray, List.getElem_cons_zero, List.getElem_cons_succ, List.setIfInBounds_toArray, List.set_cons_zero, List.set_cons_succ]
          refine wpAnyH_ready (rs := [7]) (by kernel_rfl) (by simp) ?_
          refine AllReadyH.cons rfl (fun K hK => ?_) AllReadyH.nil
          go_simp
          refine hK.out _ _ (trivial) (fun hHeld => ?_)
          clear hK K
          try simp only [Act.put, List.getElem_toArray, List.getElem_cons_zero, List.getElem_cons_succ, List.setIfInBounds_toArray, List.set_cons_zero, List.set_cons_succ]
          refine wpAnyH_done (by kernel_rfl) ?_ _
          clear hHeld f1 f2 i2 i3
          go_wp2_with fail
          go_roundw
          case rel => exact ⟨j + 1, by go_num, by omega, f3.out, A11, c11, pre ++ [d], ea, la, f4.out, f5.out, lr2.out, f6.out, f7.out⟩
          case measure => simp [intOf]; omega
    · obtain rfl : j = k := by omega
      rw [Nat.sub_self] at lr
      obtain ⟨rfl, hel⟩ := lr.done
      simp only [Prod.mk.injEq] at hel
      obtain ⟨rfl, rfl⟩ := hel
      clear lr hl0
      replace st := Lib.hid st
      replace lo := Lib.hid lo
      replace ls := Lib.hid ls
      go_wp2_with (first | (refine wpList_load_row rfl 33 (.tmp 4) rfl q rfl _ _ _ _ st.out.var Tryz.underlying33 rfl entry_size ?_) | (refine wpList_store_blk rfl 33 (.tmp 2) (.tmp 45) rfl w.heap.size 0 _ rfl rfl st.out.res (by simp) entry_size (by rfl) #[.int .i64 0, .int .i64 0, .int .i64 0, .string ⟨#[]⟩, .string ⟨#[]⟩, .int .i64 0, .slice none 0 0, .int .i64 0, .int .i64 0, .string ⟨#[]⟩, .bool true, .slice A9 j cp] rfl ?_; intro w14 hb14 hm14; replace hb14 := Lib.hid hb14; replace hm14 := Lib.hid hm14))
      refine ret_row_tmp rfl w.heap.size rfl hb14.out Tryz.underlying33 rfl entry_size (.int .i64 0) rfl rfl ?_
      have hqw := st.out.qw
      have hMf := st.out.mod.join hm14.out (fun i hi => by have : i = w.heap.size := hi; omega)
      have hRf := st.out.rd.mod hm14.out (fun hh => st.out.gw hh.symm) (fun hh => st.out.bw hh.symm)
      have hDf : RdP w14 A9 j pre := Rd.mod lo.out.ow.rd hm14.out (fun i hi hh => by have : i = w.heap.size := hh; have := lo.out.fr i hi; omega)
      have hfrD : Fresh w A9 := fun a ha => Nat.le_of_lt (lo.out.fr a.block ⟨a, ha, rfl⟩)
      have hLf : OdM w14 od0 ⟨none, 0, 0⟩ := od0_mem _
      exact ⟨⟨od0, true, pre⟩, 0, e, l, ⟨none, 0, 0⟩, ⟨A9, j, cp⟩, hfin.out, rfl, ⟨hLf, hDf, lo.out.ow.2.1⟩, (fun a ha => by cases ha), hfrD, hRf, hMf⟩
set_option maxRecDepth 100000 in
set_option maxHeartbeats 8000000 in
theorem entry_e (w : World) (g B e0 : Nat) (l0 : List UInt8) (h : Rdr w g B l0 e0) (hBl : B < w.heap.size) (e1 : Nat) (l1 : List UInt8) (h1 : qg 0 1 (e0, l0) = (0, e1, l1)) (s : List UInt8) (e2 : Nat) (l2 : List UInt8) (h2 : qt 1000 (e1, l1) = (s, e2, l2)) (o : Od) (f : Nat) (ho : rdOrd s = (o, f)) (hf : f ≠ 0) : Calls Tryz.prog 20 #[.pointer (some ⟨g, 0, none⟩)] w (EnPost w g B (rdEn (e0, l0))) := by
  have hfin : Hid (rdEn (e0, l0) = ((⟨od0, false, []⟩, f), e2, l2)) := Lib.hid (by unfold rdEn; rw [bd_of h1, if_neg (by omega), bd_of h2, ho]; unfold rdEnO; rw [if_pos hf] <;> rfl)
  have hf2 : ((f : Int) != 0) = true := by simp; omega
  replace h2 := Lib.hid h2
  replace ho := Lib.hid ho
  replace hf := Lib.hid hf
  have hb0 := Blk.new w 33 #[.int .i64 0, .int .i64 0, .int .i64 0, .string ⟨#[]⟩, .string ⟨#[]⟩, .int .i64 0, .slice none 0 0, .int .i64 0, .int .i64 0, .string ⟨#[]⟩, .bool false, .slice none 0 0]
  have hm0 := (Mod.refl none_ w).alloc (.cells #[.int .i64 0, .int .i64 0, .int .i64 0, .string ⟨#[]⟩, .string ⟨#[]⟩, .int .i64 0, .slice none 0 0, .int .i64 0, .int .i64 0, .string ⟨#[]⟩, .bool false, .slice none 0 0] 33)
  have hR0 := h.mod0 hm0
  have hgl := h.lt
  have hng : ¬ w.heap.size = g := by omega
  clear h
  replace h1 := Lib.hid h1
  replace hb0 := Lib.hid hb0
  replace hm0 := Lib.hid hm0
  go_enter Tryz.func20, Tryz.ntmps20
  go_wp2_with fail
  refine (lsmall_r h1.out hR0).mono ?_; rintro en w2 ⟨rfl, hR, hm⟩; dsimp only at hR ⊢
  have hbr := hb0.out.mod hm (fun hh => hng hh)
  have hM := (hm0.out.any (only g)).trans hm
  have hsz := hm.size
  simp only [World.size_alloc] at hsz
  have st : FillC w 33 #[.int .i64 0, .int .i64 0, .int .i64 0, .string ⟨#[]⟩, .string ⟨#[]⟩, .int .i64 0, .slice none 0 0, .int .i64 0, .int .i64 0, .string ⟨#[]⟩, .bool false, .slice none 0 0] g B w2.heap.size (w2.alloc (.cells #[.int .i64 0, .int .i64 0, .int .i64 0, .string ⟨#[]⟩, .string ⟨#[]⟩, .int .i64 0, .slice none 0 0, .int .i64 0, .int .i64 0, .string ⟨#[]⟩, .bool false, .slice none 0 0] 33)) #[.int .i64 0, .int .i64 0, .int .i64 0, .string ⟨#[]⟩, .string ⟨#[]⟩, .int .i64 0, .slice none 0 0, .int .i64 0, .int .i64 0, .string ⟨#[]⟩, .bool false, .slice none 0 0] e1 l1 :=
    ⟨hR.mod0 ((Mod.refl none_ w2).alloc _), hbr.alloc _, Blk.new w2 _ _, hM.alloc _, by omega, by omega, by omega, by omega, by omega, by simp only [World.size_alloc]; omega⟩
  clear hR hm hbr hM hsz hR0
  generalize hq : w2.heap.size = q at st
  replace st := Lib.hid st
  go_wp2_with fail
  replace hq := Lib.hid hq
  refine (rtext_r h2.out (by omega) st.out.rd).mono ?_; rintro en w3 ⟨rfl, hR, hm⟩; dsimp only at hR ⊢
  replace st := Lib.hid (st.out.call hm hR); clear hm hR
  go_wp2_with (show wpList _ _ _ (⟨some 23, _, _, _, _, _⟩ :: _) _ _; go_loud (refine conv_b rfl (.tmp 22) rfl rfl ?_; intro A2 c2 w4 hr2 hf2 hc2 hm2 hl2; replace st := Lib.hid (st.out.mod0 hm2); replace hr2 := Lib.hid hr2; clear hf2 hc2 hm2 hl2))
  have hsl := qt_in h2.out (by omega)
  refine (orderRead_ok _ A2 s.length c2 s hr2.out (by omega)).mono ?_
  rintro en w5 ⟨o', f', L, he, rfl, hO, hfr, hm⟩
  rw [ho.out] at he
  simp only [Prod.mk.injEq] at he
  obtain ⟨rfl, rfl⟩ := he
  dsimp only
  have hn5 := st.out.new_ne
  replace st := Lib.hid (st.out.mod0 hm); clear hr2
  clear hO hfr hm
  have hms := (Mod.refl none_ w5).alloc (.cells #[.int .i64 o.c, .int .i64 o.s, .int .i64 o.k, .string (txt o.acct), .string (txt o.peer), .int .i64 o.sum, .slice L.a L.n L.c, .int .i64 o.per, .int .i64 o.hold, .string (txt o.note)] 30)
  replace st := Lib.hid (st.out.mod0 hms); clear hms
  go_wp2_with (first | (refine wpList_load_row rfl 33 (.tmp 4) rfl q rfl _ _ _ _ st.out.var Tryz.underlying33 rfl entry_size ?_) | (refine wpList_store_blk rfl 33 (.tmp 2) (.tmp 29) rfl w.heap.size 0 _ rfl rfl st.out.res (by simp) entry_size (by rfl) #[.int .i64 0, .int .i64 0, .int .i64 0, .string ⟨#[]⟩, .string ⟨#[]⟩, .int .i64 0, .slice none 0 0, .int .i64 0, .int .i64 0, .string ⟨#[]⟩, .bool false, .slice none 0 0] rfl ?_; intro w14 hb14 hm14; replace hb14 := Lib.hid hb14; replace hm14 := Lib.hid hm14))
  refine ret_row_tmp rfl w.heap.size rfl hb14.out Tryz.underlying33 rfl entry_size (.int .i64 (f : Int)) rfl rfl ?_
  have hMf := st.out.mod.join hm14.out (fun i hi => by have : i = w.heap.size := hi; omega)
  have hRf := st.out.rd.mod hm14.out (fun hh => st.out.gw hh.symm) (fun hh => st.out.bw hh.symm)
  exact ⟨⟨od0, false, []⟩, f, e2, l2, ⟨none, 0, 0⟩, ⟨none, 0, 0⟩, hfin.out, rfl, ⟨od0_mem _, Rd.none_, Nat.le_refl _⟩, (fun a ha => by cases ha), (fun a ha => by cases ha), hRf, hMf⟩
set_option maxRecDepth 100000 in
set_option maxHeartbeats 8000000 in
theorem entry_o (w : World) (g B e0 : Nat) (l0 : List UInt8) (h : Rdr w g B l0 e0) (hBl : B < w.heap.size) (e1 : Nat) (l1 : List UInt8) (h1 : qg 0 1 (e0, l0) = (0, e1, l1)) (s : List UInt8) (e2 : Nat) (l2 : List UInt8) (h2 : qt 1000 (e1, l1) = (s, e2, l2)) (o : Od) (ho : rdOrd s = (o, 0)) : Calls Tryz.prog 20 #[.pointer (some ⟨g, 0, none⟩)] w (EnPost w g B (rdEn (e0, l0))) := by
  obtain ⟨k0, e3, l3, h3⟩ := tri_ (qg 0 100 (e2, l2))
  obtain ⟨ds, e4, l4, h4⟩ := tri_ (rdList rdIs k0.toNat (e3, l3))
  have hfin : Hid (rdEn (e0, l0) = ((⟨o, false, ds⟩, 0), e4, l4)) := Lib.hid (by unfold rdEn; rw [bd_of h1, if_neg (by omega), bd_of h2, ho]; unfold rdEnO; rw [if_neg (by omega), bd_of h3, bd_of h4] <;> rfl)
  have hk := qg_in h3
  obtain ⟨k, rfl⟩ : ∃ k : Nat, k0 = (k : Int) := ⟨k0.toNat, by omega⟩
  have hk100 : k ≤ 100 := by omega
  have hl0 : Hid (ListRel rdIs ds (e4, l4) k [] (e3, l3)) := Lib.hid ⟨ds, by simpa using h4, rfl⟩
  clear h4 hk
  replace h2 := Lib.hid h2
  replace h3 := Lib.hid h3
  replace ho := Lib.hid ho
  have hb0 := Blk.new w 33 #[.int .i64 0, .int .i64 0, .int .i64 0, .string ⟨#[]⟩, .string ⟨#[]⟩, .int .i64 0, .slice none 0 0, .int .i64 0, .int .i64 0, .string ⟨#[]⟩, .bool false, .slice none 0 0]
  have hm0 := (Mod.refl none_ w).alloc (.cells #[.int .i64 0, .int .i64 0, .int .i64 0, .string ⟨#[]⟩, .string ⟨#[]⟩, .int .i64 0, .slice none 0 0, .int .i64 0, .int .i64 0, .string ⟨#[]⟩, .bool false, .slice none 0 0] 33)
  have hR0 := h.mod0 hm0
  have hgl := h.lt
  have hng : ¬ w.heap.size = g := by omega
  clear h
  replace h1 := Lib.hid h1
  replace hb0 := Lib.hid hb0
  replace hm0 := Lib.hid hm0
  go_enter Tryz.func20, Tryz.ntmps20
  go_wp2_with fail
  refine (lsmall_r h1.out hR0).mono ?_; rintro en w2 ⟨rfl, hR, hm⟩; dsimp only at hR ⊢
  have hbr := hb0.out.mod hm (fun hh => hng hh)
  have hM := (hm0.out.any (only g)).trans hm
  have hsz := hm.size
  simp only [World.size_alloc] at hsz
  have st : FillC w 33 #[.int .i64 0, .int .i64 0, .int .i64 0, .string ⟨#[]⟩, .string ⟨#[]⟩, .int .i64 0, .slice none 0 0, .int .i64 0, .int .i64 0, .string ⟨#[]⟩, .bool false, .slice none 0 0] g B w2.heap.size (w2.alloc (.cells #[.int .i64 0, .int .i64 0, .int .i64 0, .string ⟨#[]⟩, .string ⟨#[]⟩, .int .i64 0, .slice none 0 0, .int .i64 0, .int .i64 0, .string ⟨#[]⟩, .bool false, .slice none 0 0] 33)) #[.int .i64 0, .int .i64 0, .int .i64 0, .string ⟨#[]⟩, .string ⟨#[]⟩, .int .i64 0, .slice none 0 0, .int .i64 0, .int .i64 0, .string ⟨#[]⟩, .bool false, .slice none 0 0] e1 l1 :=
    ⟨hR.mod0 ((Mod.refl none_ w2).alloc _), hbr.alloc _, Blk.new w2 _ _, hM.alloc _, by omega, by omega, by omega, by omega, by omega, by simp only [World.size_alloc]; omega⟩
  clear hR hm hbr hM hsz hR0
  generalize hq : w2.heap.size = q at st
  replace st := Lib.hid st
  go_wp2_with fail
  replace hq := Lib.hid hq
  refine (rtext_r h2.out (by omega) st.out.rd).mono ?_; rintro en w3 ⟨rfl, hR, hm⟩; dsimp only at hR ⊢
  replace st := Lib.hid (st.out.call hm hR); clear hm hR
  go_wp2_with (show wpList _ _ _ (⟨some 23, _, _, _, _, _⟩ :: _) _ _; go_loud (refine conv_b rfl (.tmp 22) rfl rfl ?_; intro A2 c2 w4 hr2 hf2 hc2 hm2 hl2; replace st := Lib.hid (st.out.mod0 hm2); replace hr2 := Lib.hid hr2; clear hf2 hc2 hm2 hl2))
  have hsl := qt_in h2.out (by omega)
  refine (orderRead_ok _ A2 s.length c2 s hr2.out (by omega)).mono ?_
  rintro en w5 ⟨o', f', L, he, rfl, hO, hfr, hm⟩
  rw [ho.out] at he
  simp only [Prod.mk.injEq] at he
  obtain ⟨rfl, rfl⟩ := he
  dsimp only
  have hn5 := st.out.new_ne
  replace st := Lib.hid (st.out.mod0 hm); clear hr2
  have hms := (Mod.refl none_ w5).alloc (.cells #[.int .i64 o.c, .int .i64 o.s, .int .i64 o.k, .string (txt o.acct), .string (txt o.peer), .int .i64 o.sum, .slice L.a L.n L.c, .int .i64 o.per, .int .i64 o.hold, .string (txt o.note)] 30)
  have h7 := Lib.hid (Blk.new w5 30 #[.int .i64 o.c, .int .i64 o.s, .int .i64 o.k, .string (txt o.acct), .string (txt o.peer), .int .i64 o.sum, .slice L.a L.n L.c, .int .i64 o.per, .int .i64 o.hold, .string (txt o.note)])
  replace st := Lib.hid (st.out.mod0 hms)
  obtain ⟨N, hN0⟩ : ∃ N, N = (w5.alloc (.cells #[.int .i64 o.c, .int .i64 o.s, .int .i64 o.k, .string (txt o.acct), .string (txt o.peer), .int .i64 o.sum, .slice L.a L.n L.c, .int .i64 o.per, .int .i64 o.hold, .string (txt o.note)] 30)).heap.size := ⟨_, rfl⟩
  have ls0 := Lib.hid (LegsSafe.of (N := N) (g := g) (q := q) (hO.mod0 hms) hfr hn5.2.1 hn5.2.2.2 (by omega))
  have hfr2 := Lib.hid (hfr.later (Nat.le_of_lt hn5.1 : w.heap.size ≤ w4.heap.size))
  have hfr3 := Lib.hid (show ∀ a, L.a = some a → w.heap.size < a.block from fun a ha => Nat.lt_of_lt_of_le hn5.1 (hfr a ha))
  replace hN0 := Lib.hid hN0
  clear hms hO hfr hm hn5
  go_wp2_with (first | (refine wpList_load_row rfl 30 (.tmp 7) rfl w5.heap.size rfl _ _ _ _ h7.out Tryz.underlying30 rfl order_size ?_) | (refine wpList_store_blk rfl 30 (.tmp 32) (.tmp 31) rfl q 0 _ rfl rfl st.out.var (by simp) order_size (by rfl) #[.int .i64 o.c, .int .i64 o.s, .int .i64 o.k, .string (txt o.acct), .string (txt o.peer), .int .i64 o.sum, .slice L.a L.n L.c, .int .i64 o.per, .int .i64 o.hold, .string (txt o.note), .bool false, .slice none 0 0] rfl ?_; intro w7 hb7 hm7; replace hb7 := Lib.hid hb7; replace hm7 := Lib.hid hm7))
  replace st := Lib.hid (st.out.turn hm7.out hb7.out)
  have ls := Lib.hid (ls0.out.turn hm7.out)
  have hN := Lib.hid (show N ≤ w7.heap.size by have := hN0.out; have := hm7.out.size; omega)
  clear ls0 hb7 hm7 h7
  refine (lsmall_r h3.out st.out.rd).mono ?_; rintro en w8 ⟨rfl, hR, hm⟩; dsimp only at hR ⊢
  replace ls := Lib.hid (ls.out.call hm)
  have hN8 : N ≤ w8.heap.size := Nat.le_trans hN.out hm.size
  replace st := Lib.hid (st.out.call hm hR); clear hm hR
  go_wp2_with fail
  go_loopw [35] (fun v wr => ∃ j : Nat, v = .int .i64 j ∧ j ≤ k ∧ N ≤ wr.heap.size ∧ ∃ A cp pre e l, FillC w 33 #[.int .i64 0, .int .i64 0, .int .i64 0, .string ⟨#[]⟩, .string ⟨#[]⟩, .int .i64 0, .slice none 0 0, .int .i64 0, .int .i64 0, .string ⟨#[]⟩, .bool false, .slice none 0 0] g B q wr #[.int .i64 o.c, .int .i64 o.s, .int .i64 o.k, .string (txt o.acct), .string (txt o.peer), .int .i64 o.sum, .slice L.a L.n L.c, .int .i64 o.per, .int .i64 o.hold, .string (txt o.note), .bool false, .slice A j cp] e l ∧ ListOwn w 25 2 g B q wr A j cp (iss pre) ∧ ListRel rdIs ds (e4, l4) (k - j) pre (e, l) ∧ LegsSafe N g q wr o L ∧ ∀ i, fp A i → N ≤ i) (fun v _ => k - (intOf v).toNat)
  case atStart => exact ⟨0, rfl, by omega, hN8, none, 0, [], e3, l3, st.out, ListOwn.nil _ _ _ _ _ _ _, hl0.out, ls.out, (fun i hi => by obtain ⟨a, ha, _⟩ := hi; cases ha)⟩
  case round =>
    clear st ls hN8 hN
    obtain ⟨j, rfl, hj, hN, A9, cp, pre, e, l, st, lo, lr, ls, hA9⟩ := hrel
    by_cases hlt : j < k
    · obtain ⟨d, ea, la, ha⟩ := tri_ (rdIs (e, l))
      rw [show k - j = (k - (j + 1)) + 1 by omega] at lr
      have lr2 := Lib.hid (lr.step ha)
      clear lr
      have i2 : wr.cell? ⟨q, 11, none⟩ = some (.slice A9 j cp) := st.var.cell_ rfl
      have hm0 := (Mod.refl none_ wr).drew
      have kI := Lib.hid (inst_r ha st.drew.rd st.drew.bl)
      have hfinish : ∀ (w10 : World) (A11 : Option Addr) (c11 : Nat) (w11 : World), Mod (only g) wr.drew w10 → Rdr w10 g B la ea → OwP w11 A11 (j + 1) c11 (pre ++ [d]) → Mod (fp A9) (w10.alloc (.cells #[.int .i64 d.r, .int .i64 d.n] 25)) w11 → (A11 = A9 ∨ A11 = some ⟨(w10.alloc (.cells #[.int .i64 d.r, .int .i64 d.n] 25)).heap.size, 0, none⟩) →
          w11.cell? ⟨q, 11, none⟩ = some (.slice A9 j cp) ∧ w11.frozen? ⟨q, 11, none⟩ = false ∧ N ≤ (w11.setCell ⟨q, 11, none⟩ (.slice A11 (j + 1) c11)).heap.size ∧ FillC w 33 #[.int .i64 0, .int .i64 0, .int .i64 0, .string ⟨#[]⟩, .string ⟨#[]⟩, .int .i64 0, .slice none 0 0, .int .i64 0, .int .i64 0, .string ⟨#[]⟩, .bool false, .slice none 0 0] g B q (w11.setCell ⟨q, 11, none⟩ (.slice A11 (j + 1) c11)) #[.int .i64 o.c, .int .i64 o.s, .int .i64 o.k, .string (txt o.acct), .string (txt o.peer), .int .i64 o.sum, .slice L.a L.n L.c, .int .i64 o.per, .int .i64 o.hold, .string (txt o.note), .bool false, .slice A11 (j + 1) c11] ea la ∧ ListOwn w 25 2 g B q (w11.setCell ⟨q, 11, none⟩ (.slice A11 (j + 1) c11)) A11 (j + 1) c11 (iss (pre ++ [d])) ∧ LegsSafe N g q (w11.setCell ⟨q, 11, none⟩ (.slice A11 (j + 1) c11)) o L ∧ ∀ i, fp A11 i → N ≤ i := by
        intro w10 A11 c11 w11 hm hR ho hmA hA
        have m10 := (Mod.refl none_ w10).alloc (.cells #[.int .i64 d.r, .int .i64 d.n] 25)
        have st1 := ((st.drew.call hm hR).mod0 m10)
        have lo1 := (((lo.mod0 hm0).call hm).mod0 m10)
        obtain ⟨lo2, st2⟩ := lo1.appC st1 ho hmA hA
        have ls2 := (((ls.mod0 hm0).call hm).mod0 m10).mod hmA (fun i hi => .inr (.inr (hA9 i hi)))
        have hms := (Mod.refl (only q) w11).set_only 11 (.slice A11 (j + 1) c11)
        have hNN := Nat.le_trans (Nat.le_trans hN hm.size) m10.size
        exact ⟨st2.var.cell_ rfl, st2.var.frozen 11, Nat.le_trans (Nat.le_trans hNN hmA.size) hms.size, st2.store 11 _, lo2.turn hms, ls2.turn hms, newer hA9 hA hNN⟩
      have hf := Lib.hid hfinish
      have cW : ∀ w10, Mod (only g) wr.drew w10 → Rdr w10 g B la ea → w10.cell? ⟨q, 11, none⟩ = some (.slice A9 j cp) := fun w10 hm hR => (st.drew.call hm hR).var.cell_ rfl
      have hc := Lib.hid cW
      have hw : ∀ w10, Mod (only g) wr.drew w10 → OwP (w10.alloc (.cells #[.int .i64 d.r, .int .i64 d.n] 25)) A9 j cp pre := fun w10 hm => (((lo.mod0 hm0).call hm).mod0 ((Mod.refl none_ w10).alloc _)).ow
      have hwo := Lib.hid hw
      have hql := Lib.hid st.var.lt
      clear hfinish cW hw hm0
      replace st := Lib.hid st
      replace lo := Lib.hid lo
      replace ha := Lib.hid ha
      replace ls := Lib.hid ls
      replace hA9 := Lib.hid hA9
      replace hN := Lib.hid hN
      go_wp2_with fail
      refine wp_region_held_drew (S := fun _ => True) (by kernel_rfl) trivial (fun hHeld => ?_)
      refine wpAnyH_take (i := 0) (v := ?_) rfl (by kernel_rfl) (by kernel_rfl) (by kernel_rfl) (fun _ _ _ h => h) (Or.inl ⟨by rfl, ?_⟩) (by assumption) ?_
      rotate_left
      · intro W hSw; (try dsimp only at hSw); go_simp; (try with_reducible rfl)
      try simp only [Act.put, List.getElem_toArray, List.getElem_cons_zero, List.getElem_cons_succ, List.setIfInBounds_toArray, List.set_cons_zero, List.set_cons_succ]
      refine wpAnyH_take (i := 2) (v := ?_) rfl (by kernel_rfl) (by kernel_rfl) (by kernel_rfl) (fun _ _ _ h => h) (Or.inl ⟨by rfl, ?_⟩) (by assumption) ?_
      rotate_left
      · intro W hSw; (try dsimp only at hSw); go_simp; (try with_reducible rfl)
      try simp only [Act.put, List.getElem_toArray, List.getElem_cons_zero, List.getElem_cons_succ, List.setIfInBounds_toArray, List.set_cons_zero, List.set_cons_succ]
      refine wpAnyH_ready (rs := [1, 3]) (by kernel_rfl) (by simp) ?_
      refine AllReadyH.cons rfl (fun K hK => ?_) (AllReadyH.cons rfl (fun K hK => ?_) AllReadyH.nil)
      · go_simp
        refine hK.out _ _ (trivial) (fun hHeld => ?_)
        clear hK K
        try simp only [Act.put, List.getElem_toArray, List.getElem_cons_zero, List.getElem_cons_succ, List.setIfInBounds_toArray, List.set_cons_zero, List.set_cons_succ]
        refine wpAnyH_ready (rs := [3]) (by kernel_rfl) (by simp) ?_
        refine AllReadyH.cons rfl (fun K hK => ?_) AllReadyH.nil
        go_simp
        (with_reducible refine kI.out.mono ?_); rintro en w10 ⟨rfl, hR, hm⟩; dsimp only at hR ⊢
        have i3 := hc.out w10 hm hR
        have how := Lib.hid (hwo.out w10 hm)
        replace hR := Lib.hid hR
        replace hm := Lib.hid hm
        go_wp2_with fail
        refine hK.out _ _ (trivial) (fun hHeld => ?_)
        clear hK K
        try simp only [Act.put, List.getElem_toArray, List.getElem_cons_zero, List.getElem_cons_succ, List.setIfInBounds_toArray, List.set_cons_zero, List.set_cons_succ]
        refine wpAnyH_ready (rs := [4]) (by kernel_rfl) (by simp) ?_
        refine AllReadyH.cons rfl (fun K hK => ?_) AllReadyH.nil
        go_simp
        refine hK.out _ _ (trivial) (fun hHeld => ?_)
        clear hK K
        try simp only [Act.put, List.getElem_toArray, List.getElem_cons_zero, List.getElem_cons_succ, List.setIfInBounds_toArray, List.set_cons_zero, List.set_cons_succ]
        refine wpAnyH_ready (rs := [5]) (by kernel_rfl) (by simp) ?_
        refine AllReadyH.cons rfl (fun K hK => ?_) AllReadyH.nil
        refine step_appP rfl (.tmp 38) (.tmp 41) rfl rfl how.out rfl (rdp_one w10 25 w10.heap.size rfl d) (by omega) ?_
        intro A11 c11 w11 ho hmA hA
        obtain ⟨f1, f2, f3, f4, f5, f6, f7⟩ := hf.out w10 A11 c11 w11 hm.out hR.out ho hmA hA
        replace f3 := Lib.hid f3
        replace f4 := Lib.hid f4
        replace f5 := Lib.hid f5
        replace f6 := Lib.hid f6
        replace f7 := Lib.hid f7
        clear ho hmA hA
        refine hK.out _ _ (trivial) (fun hHeld => ?_)
        clear hK K
        try simp only [Act.put, List.getElem_toArray, List.getElem_cons_zero, List.getElem_cons_succ, List.setIfInBounds_toArray, List.set_cons_zero, List.set_cons_succ]
        refine wpAnyH_take (i := 6) (v := ?_) rfl (by kernel_rfl) (by kernel_rfl) (by kernel_rfl) (fun _ _ _ h => h) (Or.inl ⟨by rfl, ?_⟩) (by assumption) ?_
        rotate_left
        · intro W hSw; (try dsimp only at hSw); go_simp; (try with_reducible rfl)
        try simp only [Act.put, List.getElem_toArray, List.getElem_cons_zero, List.getElem_cons_succ, List.setIfInBounds_toArray, List.set_cons_zero, List.set_cons_succ]
        refine wpAnyH_ready (rs := [7]) (by kernel_rfl) (by simp) ?_
        refine AllReadyH.cons rfl (fun K hK => ?_) AllReadyH.nil
        go_simp
        refine hK.out _ _ (trivial) (fun hHeld => ?_)
        clear hK K
        try simp only [Act.put, List.getElem_toArray, List.getElem_cons_zero, List.getElem_cons_succ, List.setIfInBounds_toArray, List.set_cons_zero, List.set_cons_succ]
        refine wpAnyH_done (by kernel_rfl) ?_ _
        clear hHeld f1 f2 i2 i3
        go_wp2_with fail
        go_roundw
        case rel => exact ⟨j + 1, by go_num, by omega, f3.out, A11, c11, pre ++ [d], ea, la, f4.out, f5.out, lr2.out, f6.out, f7.out⟩
        case measure => simp [intOf]; omega
      · go_simp
        (with_reducible refine kI.out.mono ?_); rintro en w10 ⟨rfl, hR, hm⟩; dsimp only at hR ⊢
        have i3 := hc.out w10 hm hR
        have how := Lib.hid (hwo.out w10 hm)
        replace hR := Lib.hid hR
        replace hm := Lib.hid hm
        go_wp2_with fail
        refine hK.out _ _ (trivial) (fun hHeld => ?_)
        clear hK K
        try simp only [Act.put, List.getElem_toArray, List.getElem_cons_zero, List.getElem_cons_succ, List.setIfInBounds_toArray, List.set_cons_zero, List.set_cons_succ]
        refine wpAnyH_ready (rs := [1, 4]) (by kernel_rfl) (by simp) ?_
        refine AllReadyH.cons rfl (fun K hK => ?_) (AllReadyH.cons rfl (fun K hK => ?_) AllReadyH.nil)
        · go_simp
          refine hK.out _ _ (trivial) (fun hHeld => ?_)
          clear hK K
          try simp only [Act.put, List.getElem_toArray, List.getElem_cons_zero, List.getElem_cons_succ, List.setIfInBounds_toArray, List.set_cons_zero, List.set_cons_succ]
          refine wpAnyH_ready (rs := [4]) (by kernel_rfl) (by simp) ?_
          refine AllReadyH.cons rfl (fun K hK => ?_) AllReadyH.nil
          go_simp
          refine hK.out _ _ (trivial) (fun hHeld => ?_)
          clear hK K
          try simp only [Act.put, List.getElem_toArray, List.getElem_cons_zero, List.getElem_cons_succ, List.setIfInBounds_toArray, List.set_cons_zero, List.set_cons_succ]
          refine wpAnyH_ready (rs := [5]) (by kernel_rfl) (by simp) ?_
          refine AllReadyH.cons rfl (fun K hK => ?_) AllReadyH.nil
          refine step_appP rfl (.tmp 38) (.tmp 41) rfl rfl how.out rfl (rdp_one w10 25 w10.heap.size rfl d) (by omega) ?_
          intro A11 c11 w11 ho hmA hA
          obtain ⟨f1, f2, f3, f4, f5, f6, f7⟩ := hf.out w10 A11 c11 w11 hm.out hR.out ho hmA hA
          replace f3 := Lib.hid f3
          replace f4 := Lib.hid f4
          replace f5 := Lib.hid f5
          replace f6 := Lib.hid f6
          replace f7 := Lib.hid f7
          clear ho hmA hA
          refine hK.out _ _ (trivial) (fun hHeld => ?_)
          clear hK K
          try simp only [Act.put, List.getElem_toArray, List.getElem_cons_zero, List.getElem_cons_succ, List.setIfInBounds_toArray, List.set_cons_zero, List.set_cons_succ]
          refine wpAnyH_take (i := 6) (v := ?_) rfl (by kernel_rfl) (by kernel_rfl) (by kernel_rfl) (fun _ _ _ h => h) (Or.inl ⟨by rfl, ?_⟩) (by assumption) ?_
          rotate_left
          · intro W hSw; (try dsimp only at hSw); go_simp; (try with_reducible rfl)
          try simp only [Act.put, List.getElem_toArray, List.getElem_cons_zero, List.getElem_cons_succ, List.setIfInBounds_toArray, List.set_cons_zero, List.set_cons_succ]
          refine wpAnyH_ready (rs := [7]) (by kernel_rfl) (by simp) ?_
          refine AllReadyH.cons rfl (fun K hK => ?_) AllReadyH.nil
          go_simp
          refine hK.out _ _ (trivial) (fun hHeld => ?_)
          clear hK K
          try simp only [Act.put, List.getElem_toArray, List.getElem_cons_zero, List.getElem_cons_succ, List.setIfInBounds_toArray, List.set_cons_zero, List.set_cons_succ]
          refine wpAnyH_done (by kernel_rfl) ?_ _
          clear hHeld f1 f2 i2 i3
          go_wp2_with fail
          go_roundw
          case rel => exact ⟨j + 1, by go_num, by omega, f3.out, A11, c11, pre ++ [d], ea, la, f4.out, f5.out, lr2.out, f6.out, f7.out⟩
          case measure => simp [intOf]; omega
        · go_simp
          have i4 : (w10.alloc (.cells #[.int .i64 d.r, .int .i64 d.n] 25)).cell? ⟨q, 11, none⟩ = some (.slice A9 j cp) := ((Mod.refl none_ w10).alloc _).cell_some i3 (fun h => h)
          refine hK.out _ _ (trivial) (fun hHeld => ?_)
          clear hK K
          try simp only [Act.put, List.getElem_toArray, List.getElem_cons_zero, List.getElem_cons_succ, List.setIfInBounds_toArray, List.set_cons_zero, List.set_cons_succ]
          refine wpAnyH_ready (rs := [1]) (by kernel_rfl) (by simp) ?_
          refine AllReadyH.cons rfl (fun K hK => ?_) AllReadyH.nil
          go_simp
          refine hK.out _ _ (trivial) (fun hHeld => ?_)
          clear hK K
          try simp only [Act.put, List.getElem_toArray, List.getElem_cons_zero, List.getElem_cons_succ, List.setIfInBounds_toArray, List.set_cons_zero, List.set_cons_succ]
          refine wpAnyH_ready (rs := [5]) (by kernel_rfl) (by simp) ?_
          refine AllReadyH.cons rfl (fun K hK => ?_) AllReadyH.nil
          refine step_appP rfl (.tmp 38) (.tmp 41) rfl rfl how.out rfl (rdp_one w10 25 w10.heap.size rfl d) (by omega) ?_
          intro A11 c11 w11 ho hmA hA
          obtain ⟨f1, f2, f3, f4, f5, f6, f7⟩ := hf.out w10 A11 c11 w11 hm.out hR.out ho hmA hA
          replace f3 := Lib.hid f3
          replace f4 := Lib.hid f4
          replace f5 := Lib.hid f5
          replace f6 := Lib.hid f6
          replace f7 := Lib.hid f7
          clear ho hmA hA
          refine hK.out _ _ (trivial) (fun hHeld => ?_)
          clear hK K
          try simp only [Act.put, List.getElem_toArray, List.getElem_cons_zero, List.getElem_cons_succ, List.setIfInBounds_toArray, List.set_cons_zero, List.set_cons_succ]
          refine wpAnyH_take (i := 6) (v := ?_) rfl (by kernel_rfl) (by kernel_rfl) (by kernel_rfl) (fun _ _ _ h => h) (Or.inl ⟨by rfl, ?_⟩) (by assumption) ?_
          rotate_left
          · intro W hSw; (try dsimp only at hSw); go_simp; (try with_reducible rfl)
          try simp only [Act.put, List.getElem_toArray, List.getElem_cons_zero, List.getElem_cons_succ, List.setIfInBounds_toArray, List.set_cons_zero, List.set_cons_succ]
          refine wpAnyH_ready (rs := [7]) (by kernel_rfl) (by simp) ?_
          refine AllReadyH.cons rfl (fun K hK => ?_) AllReadyH.nil
          go_simp
          refine hK.out _ _ (trivial) (fun hHeld => ?_)
          clear hK K
          try simp only [Act.put, List.getElem_toArray, List.getElem_cons_zero, List.getElem_cons_succ, List.setIfInBounds_toArray, List.set_cons_zero, List.set_cons_succ]
          refine wpAnyH_done (by kernel_rfl) ?_ _
          clear hHeld f1 f2 i2 i3
          go_wp2_with fail
          go_roundw
          case rel => exact ⟨j + 1, by go_num, by omega, f3.out, A11, c11, pre ++ [d], ea, la, f4.out, f5.out, lr2.out, f6.out, f7.out⟩
          case measure => simp [intOf]; omega
    · obtain rfl : j = k := by omega
      rw [Nat.sub_self] at lr
      obtain ⟨rfl, hel⟩ := lr.done
      simp only [Prod.mk.injEq] at hel
      obtain ⟨rfl, rfl⟩ := hel
      clear lr hl0
      replace st := Lib.hid st
      replace lo := Lib.hid lo
      replace ls := Lib.hid ls
      go_wp2_with (first | (refine wpList_load_row rfl 33 (.tmp 4) rfl q rfl _ _ _ _ st.out.var Tryz.underlying33 rfl entry_size ?_) | (refine wpList_store_blk rfl 33 (.tmp 2) (.tmp 45) rfl w.heap.size 0 _ rfl rfl st.out.res (by simp) entry_size (by rfl) #[.int .i64 o.c, .int .i64 o.s, .int .i64 o.k, .string (txt o.acct), .string (txt o.peer), .int .i64 o.sum, .slice L.a L.n L.c, .int .i64 o.per, .int .i64 o.hold, .string (txt o.note), .bool false, .slice A9 j cp] rfl ?_; intro w14 hb14 hm14; replace hb14 := Lib.hid hb14; replace hm14 := Lib.hid hm14))
      refine ret_row_tmp rfl w.heap.size rfl hb14.out Tryz.underlying33 rfl entry_size (.int .i64 0) rfl rfl ?_
      have hqw := st.out.qw
      have hMf := st.out.mod.join hm14.out (fun i hi => by have : i = w.heap.size := hi; omega)
      have hRf := st.out.rd.mod hm14.out (fun hh => st.out.gw hh.symm) (fun hh => st.out.bw hh.symm)
      have hDf : RdP w14 A9 j pre := Rd.mod lo.out.ow.rd hm14.out (fun i hi hh => by have : i = w.heap.size := hh; have := lo.out.fr i hi; omega)
      have hfrD : Fresh w A9 := fun a ha => Nat.le_of_lt (lo.out.fr a.block ⟨a, ha, rfl⟩)
      have hLf := ls.out.m
      have hlN := ls.out.safe
      have hLf2 : OdM w14 o L := ⟨Rd.mod' hLf.rd hm14.out (fun h0 i hi hh => by have : i = w.heap.size := hh; have := hfr2.out; obtain ⟨a, ha, hia⟩ := hi; have := hfr3.out a ha; omega), hLf.cap⟩
      exact ⟨⟨o, false, pre⟩, 0, e, l, L, ⟨A9, j, cp⟩, hfin.out, rfl, ⟨hLf2, hDf, lo.out.ow.2.1⟩, hfr2.out, hfrD, hRf, hMf⟩
theorem entry_ok (w : World) (g B e0 : Nat) (l0 : List UInt8) (h : Rdr w g B l0 e0) (hBl : B < w.heap.size) : Calls Tryz.prog 20 #[.pointer (some ⟨g, 0, none⟩)] w (EnPost w g B (rdEn (e0, l0))) := by
  obtain ⟨x, e1, l1, h1⟩ := tri_ (qg 0 1 (e0, l0))
  by_cases hx : x = 1
  · subst hx
    exact entry_t w g B e0 l0 h hBl e1 l1 h1
  · obtain rfl : x = 0 := by have := qg_in h1; omega
    obtain ⟨s, e2, l2, h2⟩ := tri_ (qt 1000 (e1, l1))
    obtain ⟨o, f, ho⟩ := duo_ (rdOrd s)
    by_cases hf : f = 0
    · subst hf
      exact entry_o w g B e0 l0 h hBl e1 l1 h1 s e2 l2 h2 o ho
    · exact entry_e w g B e0 l0 h hBl e1 l1 h1 s e2 l2 h2 o f ho hf
end Go.Proofs.YtimlfdihodoolaaGreat
