/-
  The reference's Reach: a matrix of who reaches whom.
-/
import Derived.Test.YtenlpklgpcnfiaaKnMx
namespace Go.Proofs.Ytenlpklgpcnfiaa
set_option linter.unusedVariables false
open Go.RowKit
theorem slbinfo : (Try.prog.info? 23).map (fun i => (i.zero, i.size, i.bytes)) = some (some (.slice none 0 0), 1, 24) := by kernel_rfl
theorem MMem.mod0 {w0 w w' : World} {M n i : Nat} {q : Nat → Nat} {m : Nat → Nat → Bool} (h : MMem w0 w M n i q m) (hm : Mod none_ w w') : MMem w0 w' M n i q m :=
  ⟨h.m0.trans hm, h.fM, h.bM.mod hm (fun h => h), fun a ha => (h.row a ha).mod hm (fun h => h), h.fq, h.neM, h.inj⟩
/-- rows below i hold the ways; of row i what the first k ways say -/
def EdgeM (g : List (List Int)) (i : Nat) (m : Nat → Nat → Bool) : Prop := ∀ b v, b < i → v < g.length → (m b v = true ↔ Edge g b v)
def EdgeR (g : List (List Int)) (l : List Int) (k : Nat) (r : Nat → Bool) : Prop := ∀ v, v < g.length → (r v = true ↔ ∃ j, j < k ∧ l[j]? = some (v : Int))
theorem EdgeR.full {g : List (List Int)} {i : Nat} {l : List Int} {r : Nat → Bool} (hgi : g[i]? = some l) (h : EdgeR g l l.length r) : ∀ v, v < g.length → (r v = true ↔ Edge g i v) := by
  intro v hv
  rw [h v hv]
  constructor
  · rintro ⟨j, _, h1⟩
    exact ⟨l, hgi, List.mem_of_getElem? h1, hv⟩
  · rintro ⟨l', h1, h2, _⟩
    rw [hgi] at h1
    cases h1
    obtain ⟨j, hj, hjk⟩ := List.getElem_of_mem h2
    exact ⟨j, hj, by rw [List.getElem?_eq_getElem hj, hjk]⟩
theorem EdgeR.zero {g : List (List Int)} {l : List Int} : EdgeR g l 0 fun _ => false :=
  fun v _ => ⟨fun h => (by cases h), fun ⟨j, h, _⟩ => absurd h (Nat.not_lt_zero j)⟩
theorem EdgeR.skip {g : List (List Int)} {l : List Int} {k : Nat} {r : Nat → Bool} {x : Int} (h : EdgeR g l k r) (hx : l[k]? = some x) (hn : ∀ v : Nat, v < g.length → x ≠ (v : Int)) : EdgeR g l (k + 1) r := by
  intro v hv
  rw [h v hv]
  constructor
  · rintro ⟨j, h1, h2⟩; exact ⟨j, by omega, h2⟩
  · rintro ⟨j, h1, h2⟩
    refine ⟨j, ?_, h2⟩
    rcases Nat.lt_or_ge j k with h3 | h3
    · exact h3
    · obtain rfl : j = k := by omega
      rw [hx] at h2
      injection h2 with h2
      exact absurd h2 (hn v hv)
theorem EdgeR.put {g : List (List Int)} {l : List Int} {k x : Nat} {r : Nat → Bool} (h : EdgeR g l k r) (hx : l[k]? = some (x : Int)) : EdgeR g l (k + 1) (upd r x true) := by
  intro v hv
  by_cases e : v = x
  · subst e
    rw [upd_self]
    exact ⟨fun _ => ⟨k, by omega, hx⟩, fun _ => rfl⟩
  · rw [upd_ne _ _ e, h v hv]
    constructor
    · rintro ⟨j, h1, h2⟩; exact ⟨j, by omega, h2⟩
    · rintro ⟨j, h1, h2⟩
      refine ⟨j, ?_, h2⟩
      rcases Nat.lt_or_ge j k with h3 | h3
      · exact h3
      · obtain rfl : j = k := by omega
        rw [hx] at h2
        injection h2 with h2
        omega
/-- rows below a, and of row a what stands below c: one inner node more -/
def ViaM (g : List (List Int)) (t a c : Nat) (m : Nat → Nat → Bool) : Prop :=
  ∀ b v, b < g.length → v < g.length → (m b v = true ↔ Via g (if b < a ∨ (b = a ∧ v < c) then t + 1 else t) b v)
theorem ViaM.start {g : List (List Int)} {m : Nat → Nat → Bool} (h : EdgeM g g.length m) : ViaM g 0 0 0 m := by
  intro b v hb hv
  rw [if_neg (by omega), via_zero]
  exact h b v hb hv
theorem ViaM.up {g : List (List Int)} {t : Nat} {m : Nat → Nat → Bool} (h : ViaM g t g.length 0 m) : ViaM g (t + 1) 0 0 m := by
  intro b v hb hv
  rw [if_neg (by omega), h b v hb hv, if_pos (.inl hb)]
theorem ViaM.row {g : List (List Int)} {t a : Nat} {m : Nat → Nat → Bool} (h : ViaM g t a g.length m) : ViaM g t (a + 1) 0 m := by
  intro b v hb hv
  rw [h b v hb hv]
  by_cases e : b < a + 1
  · rw [if_pos (by omega), if_pos (.inl e)]
  · rw [if_neg (by omega), if_neg (by omega)]
theorem ViaM.done {g : List (List Int)} {m : Nat → Nat → Bool} (h : ViaM g g.length 0 0 m) : ∀ b v, b < g.length → v < g.length → (m b v = true ↔ TC g b v) := by
  intro b v hb hv
  rw [h b v hb hv, if_neg (by omega), via_end]
theorem ViaM.col {g : List (List Int)} {t a c : Nat} {m : Nat → Nat → Bool} (h : ViaM g t a c m) {b : Nat} (hb : b < g.length) (ht : t < g.length) : m b t = true ↔ Via g t b t := by
  rw [h b t hb ht]
  split
  · exact via_col
  · exact Iff.rfl
theorem ViaM.rowT {g : List (List Int)} {t a c : Nat} {m : Nat → Nat → Bool} (h : ViaM g t a c m) {v : Nat} (hv : v < g.length) (ht : t < g.length) : m t v = true ↔ Via g t t v := by
  rw [h t v ht hv]
  split
  · exact via_row
  · exact Iff.rfl
theorem ViaM.stop {g : List (List Int)} {t a c : Nat} {m : Nat → Nat → Bool} (h : ViaM g t a c m) (ha : a < g.length) (ht : t < g.length) (hf : m a t = false) : ViaM g t (a + 1) 0 m := by
  have hn : ¬ Via g t a t := fun e => by rw [(h.col ha ht).2 e] at hf; cases hf
  intro b v hb hv
  rw [h b v hb hv]
  by_cases e : b = a
  · subst e
    rw [show (if b < b + 1 ∨ (b = b + 1 ∧ v < 0) then t + 1 else t) = t + 1 from if_pos (.inl (by omega))]
    split
    · exact Iff.rfl
    · exact ⟨fun h => h.up, fun h => (via_iff.1 h).elim id fun h => absurd h.1 hn⟩
  · by_cases e2 : b < a
    · rw [if_pos (.inl e2), if_pos (by omega)]
    · rw [if_neg (by omega), if_neg (by omega)]
theorem ViaM.put {g : List (List Int)} {t a c : Nat} {m : Nat → Nat → Bool} (h : ViaM g t a c m) (ha : a < g.length) (hc : c < g.length) (ht : t < g.length) (hf : m a t = true) {x : Bool} (hx : x = (m a c || m t c)) : ViaM g t a (c + 1) (upd m a (upd (m a) c x)) := by
  intro b v hb hv
  by_cases e : b = a
  · subst e
    rw [upd_self]
    by_cases e2 : v = c
    · subst e2
      rw [upd_self, if_pos (.inr ⟨rfl, by omega⟩), via_iff, hx, Bool.or_eq_true, h.rowT hv ht, h b v hb hv, if_neg (by omega)]
      have := (h.col hb ht).1 hf
      exact ⟨fun h => h.elim .inl fun h => .inr ⟨this, h⟩, fun h => h.elim .inl fun h => .inr h.2⟩
    · rw [upd_ne _ _ e2, h b v hb hv]
      by_cases e3 : v < c
      · rw [if_pos (by omega), if_pos (by omega)]
      · rw [if_neg (by omega), if_neg (by omega)]
  · rw [upd_ne _ _ e, h b v hb hv]
    by_cases e2 : b < a
    · rw [if_pos (by omega), if_pos (by omega)]
    · rw [if_neg (by omega), if_neg (by omega)]
def RReachPost (g : List (List Int)) (n : Nat) (w : World) (e : Ending) (w' : World) : Prop :=
  ∃ M q m, e = .returned (.slice (some ⟨M, 0, none⟩) n n) ∧ MMem w w' M n n q m ∧ ∀ b v, b < n → v < n → (m b v = true ↔ TC g b v)
set_option maxRecDepth 100000 in
set_option maxHeartbeats 8000000 in
theorem rreach_ok (w : World) (A : Option Addr) (n c : Nat) (ss : List SV) (g : List (List Int)) (hg : RdG w A n ss g) (hn : n ≤ 1000000) :
    Calls Try.prog 11 #[.slice A n c] w (RReachPost g n w) := by
  have hgl := hg.len
  have hmk := fun W => make_run (P := Try.prog) W 26 23 _ 24 n Try.underlying26 slbinfo rfl (by omega) (by omega)
  have hmk2 := fun W => make_run (P := Try.prog) W 23 4 _ 1 n Try.underlying23 boolinfo rfl (by omega) (by omega)
  have hM0 : MMem w (w.alloc (.cells (madeCells #[.slice none 0 0] n) 23)) w.heap.size n 0 (fun _ => 0) (fun _ _ => false) := by
    refine ⟨(Mod.refl none_ w).alloc _, Nat.le_refl _, ?_, fun a ha => absurd ha (Nat.not_lt_zero _), fun a ha => absurd ha (Nat.not_lt_zero _), fun a ha => absurd ha (Nat.not_lt_zero _), fun a b ha => absurd ha (Nat.not_lt_zero _)⟩
    rw [made_rowS]
    exact Blk.new w _ _
  replace hg := Lib.hid hg
  replace hgl := Lib.hid hgl
  replace hM0 := Lib.hid hM0
  go_enter Try.func11, Try.ntmps11
  go_wp2_with fail
  go_loopg [5] n (fun k v wr => ∃ i q m, v = .int .i64 (i : Nat) ∧ i + k = n ∧ MMem w wr w.heap.size n i q m ∧ EdgeM g i m)
  case atStart => exact ⟨0, _, _, rfl, by omega, hM0.out, fun b v hb => absurd hb (Nat.not_lt_zero _)⟩
  case round =>
    obtain ⟨i, q, m, rfl, hik, hM, hE⟩ := hrel
    by_cases hi : i < n
    · have xF := fun o => (hM.bM.alloc o).frozen i
      have xA := fun o => (hM.bM.alloc o).cell_ (rowS_get (mrow n i q) hi)
      have hMn := hM.new (fun _ => false)
      rw [← made_rowT] at hMn
      obtain ⟨b, o, B, kk, cc, l, hA, hc1, hgi, hrd, hkc, hkb⟩ := RdG.get hg.out hi
      subst hA
      have hll := hrd.len
      replace hM := Lib.hid hM
      replace hE := Lib.hid hE
      replace hMn := Lib.hid hMn
      replace hc1 := Lib.hid hc1
      replace hgi := Lib.hid hgi
      replace hrd := Lib.hid hrd
      replace hkc := Lib.hid hkc
      replace hll := Lib.hid hll
      go_wp2_with fail
      go_loopg [6] kk (fun k2 v wr2 => ∃ e m2, v = .int .i64 (e : Nat) ∧ e + k2 = kk ∧ MMem w wr2 w.heap.size n (i + 1) (upd q i wr.heap.size) m2 ∧ EdgeM g i m2 ∧ EdgeR g l e (m2 i))
      case atStart => exact ⟨0, _, rfl, by omega, hMn.out, fun b v hb hv => by rw [upd_ne _ _ (by omega)]; exact hE.out b v hb hv, by rw [upd_self]; exact EdgeR.zero⟩
      case round =>
        obtain ⟨e, m2, rfl, hek, hM2, hE2, hR2⟩ := hrel
        have hc2 := hM2.m0.cell_some hc1.out (fun h => h)
        by_cases hlt : e < kk
        · obtain ⟨b2, o2, hB2, hxl, hx0⟩ := rdi_get (Rd.mod0 hrd.out hM2.m0) hlt
          subst hB2
          have hx : l[e]? = some l[e] := List.getElem?_eq_getElem hxl
          generalize l[e] = x at hx hx0
          have hskip : ∀ (h : ∀ v : Nat, v < g.length → x ≠ (v : Int)), Hid (EdgeR g l (e + 1) (m2 i)) := fun h => Lib.hid (hR2.skip hx h)
          by_cases hneg : x < 0
          · have hs2 := hskip (fun v _ => by omega)
            have hd1 : ¬ (0 ≤ x) := by omega
            clear hskip
            replace hM2 := Lib.hid hM2
            replace hE2 := Lib.hid hE2
            replace hR2 := Lib.hid hR2
            replace hx := Lib.hid hx
            go_wp2_with fail
            go_roundg (gk - 1)
            case measure => omega
            case rel => exact ⟨e + 1, m2, by go_num, by omega, hM2.out, hE2.out, hs2.out⟩
          · obtain ⟨k, rfl⟩ : ∃ k : Nat, x = (k : Int) := ⟨x.toNat, by omega⟩
            have hd1 : (0 : Int) ≤ (k : Int) := by omega
            by_cases hkn : k < n
            · have hd2 : (k : Int) < (n : Int) := by omega
              obtain ⟨y1, y2, y3⟩ := hM2.cell (a := i) (v := k) (by omega) (by omega) hkn
              have hMs := hM2.set (a := i) (by omega) k true
              have hRs := hR2.put hx
              have hEs : Hid (EdgeM g i (upd m2 i (upd (m2 i) k true))) := Lib.hid (fun b v hb hv => by rw [upd_ne _ _ (by omega)]; exact hE2 b v hb hv)
              rw [upd_self] at y1 y2 y3 hMs
              clear hskip
              replace hM2 := Lib.hid hM2
              replace hE2 := Lib.hid hE2
              replace hR2 := Lib.hid hR2
              replace hx := Lib.hid hx
              replace hMs := Lib.hid hMs
              replace hRs := Lib.hid hRs
              go_wp2_with (go_quiet (fail))
              go_region
              go_wp2_with (go_quiet (fail))
              go_roundg (gk - 1)
              case measure => omega
              case rel => exact ⟨e + 1, _, by go_num, by omega, hMs.out.mod0 (Mod.refl none_ _).drew, hEs.out, by rw [upd_self]; exact hRs.out⟩
            · have hs2 := hskip (fun v hv => by rw [hgl.out] at hv; omega)
              have hd2 : ¬ ((k : Int) < (n : Int)) := by omega
              clear hskip
              replace hM2 := Lib.hid hM2
              replace hE2 := Lib.hid hE2
              replace hR2 := Lib.hid hR2
              replace hx := Lib.hid hx
              go_wp2_with fail
              go_roundg (gk - 1)
              case measure => omega
              case rel => exact ⟨e + 1, m2, by go_num, by omega, hM2.out, hE2.out, hs2.out⟩
        · obtain rfl : e = kk := by omega
          have hRf := EdgeR.full hgi.out (by rw [hll.out]; exact hR2)
          replace hM2 := Lib.hid hM2
          replace hE2 := Lib.hid hE2
          replace hR2 := Lib.hid hR2
          replace hRf := Lib.hid hRf
          go_wp2_with fail
          go_roundg (n - i - 1)
          case measure => omega
          case rel =>
            refine ⟨i + 1, _, m2, by go_num, by omega, hM2.out, fun b v hb hv => ?_⟩
            by_cases e1 : b = i
            · subst e1; exact hRf.out v hv
            · exact hE2.out b v (by omega) hv
    · obtain rfl : i = n := by omega
      have hV0 := ViaM.start (by rw [hgl.out]; exact hE)
      replace hM := Lib.hid hM
      replace hE := Lib.hid hE
      replace hV0 := Lib.hid hV0
      go_wp2_with fail
      go_loopg [7] i (fun k v wr => ∃ t m, v = .int .i64 (t : Nat) ∧ t + k = i ∧ MMem w wr w.heap.size i i q m ∧ ViaM g t 0 0 m)
      case atStart => exact ⟨0, _, rfl, by omega, hM.out, hV0.out⟩
      case round =>
        clear hM hE hV0
        obtain ⟨t, m, rfl, htk, hM, hV⟩ := hrel
        by_cases ht : t < i
        · replace hM := Lib.hid hM
          replace hV := Lib.hid hV
          go_wp2_with fail
          go_loopg [8] i (fun k v wr => ∃ a m, v = .int .i64 (a : Nat) ∧ a + k = i ∧ MMem w wr w.heap.size i i q m ∧ ViaM g t a 0 m)
          case atStart => exact ⟨0, _, rfl, by omega, hM.out, hV.out⟩
          case round =>
            clear hM hV
            obtain ⟨a, m, rfl, hak, hM, hV⟩ := hrel
            by_cases ha : a < i
            · replace hM := Lib.hid hM
              replace hV := Lib.hid hV
              go_wp2_with fail
              go_loopg [9] i (fun k v wr => ∃ c m, v = .int .i64 (c : Nat) ∧ c + k = i ∧ MMem w wr w.heap.size i i q m ∧ ViaM g t a c m)
              case atStart => exact ⟨0, _, rfl, by omega, hM.out, hV.out⟩
              case round =>
                clear hM hV
                obtain ⟨c, m, rfl, hck, hM, hV⟩ := hrel
                by_cases hc : c < i
                · obtain ⟨x1, x2, _⟩ := hM.cell ha (Nat.le_refl _) ht
                  cases hf : m a t with
                  | false =>
                    have hS := hV.stop (by rw [hgl.out]; exact ha) (by rw [hgl.out]; exact ht) hf
                    rw [hf] at x2
                    replace hM := Lib.hid hM
                    replace hV := Lib.hid hV
                    replace hS := Lib.hid hS
                    go_wp2_with fail
                    go_roundg (i - a - 1)
                    case measure => omega
                    case rel => exact ⟨a + 1, m, by go_num, by omega, hM.out, hS.out⟩
                  | true =>
                    obtain ⟨x3, x4, x5⟩ := hM.cell ha (Nat.le_refl _) hc
                    obtain ⟨x6, x7, _⟩ := hM.cell ht (Nat.le_refl _) hc
                    rw [hf] at x2
                    have hP := fun x => hV.put (x := x) (by rw [hgl.out]; exact ha) (by rw [hgl.out]; exact hc) (by rw [hgl.out]; exact ht) hf
                    cases hv : m a c with
                    | true =>
                      rw [hv] at x4
                      have hMs := hM.set ha c true
                      have hPs := hP true (by rw [hv]; rfl)
                      clear hP
                      replace hM := Lib.hid hM
                      replace hV := Lib.hid hV
                      replace hMs := Lib.hid hMs
                      replace hPs := Lib.hid hPs
                      go_wp2_with (go_quiet (fail))
                      go_region
                      go_wp2_with (go_quiet (fail))
                      go_roundg (gk - 1)
                      case measure => omega
                      case rel => exact ⟨c + 1, _, by go_num, by omega, hMs.out.mod0 (Mod.refl none_ _).drew, hPs.out⟩
                    | false =>
                      rw [hv] at x4
                      have hMs := hM.set ha c (m t c)
                      have hPs := hP (m t c) (by rw [hv]; rfl)
                      clear hP
                      replace hM := Lib.hid hM
                      replace hV := Lib.hid hV
                      replace hMs := Lib.hid hMs
                      replace hPs := Lib.hid hPs
                      go_wp2_with (go_quiet (fail))
                      go_region
                      go_wp2_with (go_quiet (fail))
                      go_roundg (gk - 1)
                      case measure => omega
                      case rel => exact ⟨c + 1, _, by go_num, by omega, hMs.out.mod0 (Mod.refl none_ _).drew, hPs.out⟩
                · obtain rfl : c = i := by omega
                  have hS := ViaM.row (by rw [hgl.out]; exact hV)
                  replace hM := Lib.hid hM
                  replace hV := Lib.hid hV
                  replace hS := Lib.hid hS
                  go_wp2_with fail
                  go_roundg (c - a - 1)
                  case measure => omega
                  case rel => exact ⟨a + 1, m, by go_num, by omega, hM.out, hS.out⟩
            · obtain rfl : a = i := by omega
              have hS := ViaM.up (by rw [hgl.out]; exact hV)
              replace hM := Lib.hid hM
              replace hV := Lib.hid hV
              replace hS := Lib.hid hS
              go_wp2_with fail
              go_roundg (a - t - 1)
              case measure => omega
              case rel => exact ⟨t + 1, m, by go_num, by omega, hM.out, hS.out⟩
        · obtain rfl : t = i := by omega
          have hD := ViaM.done (by rw [hgl.out]; exact hV)
          rw [hgl.out] at hD
          replace hM := Lib.hid hM
          replace hV := Lib.hid hV
          replace hD := Lib.hid hD
          go_wp2_with fail
          go_ret
          exact ⟨_, q, m, rfl, hM.out, hD.out⟩
end Go.Proofs.Ytenlpklgpcnfiaa
