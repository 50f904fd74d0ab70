/-
  Knots: the search's walk.
-/
import Derived.Test.YtenlpklgpcnfiaaKnSch
import Derived.Lib.MinMax
namespace Go.Proofs.Ytenlpklgpcnfiaa
set_option linter.unusedVariables false
open Go.RowKit
/-- between two searches -/
structure Idle (Z : Scn) (g : List (List Int)) (w : World) (T : Option Addr) (d : Nat) (S : KS) : Prop where
  sch : Sch Z w T d S none 0 []
  sp : SP g S []
structure SchRel (Z : Scn) (g : List (List Int)) (fr : Nat) (S : KS) (k : Nat) (wr : World) (P : Option Addr) (cp : Nat) (path : Path) (T : Option Addr) (d : Nat) (S' : KS) : Prop where
  sch : Sch Z wr T d S' P cp path
  sp : SP g S' path
  fr : S'.num fr ≠ -1
  mono : ∀ v, S.num v ≠ -1 → S'.num v ≠ -1
  le : 2 * un g S' + path.length ≤ k
def SePost (Z : Scn) (g : List (List Int)) (fr : Nat) (S : KS) (e : Ending) (w' : World) : Prop :=
  e = .returned (.tuple #[]) ∧ ∃ T d S', Idle Z g w' T d S' ∧ S'.num fr ≠ -1 ∧ ∀ v, S.num v ≠ -1 → S'.num v ≠ -1
theorem enter_num (S : KS) (k v : Nat) (h : S.num v ≠ -1) : (enterK S k).num v ≠ -1 := by
  by_cases e : v = k
  · subst e
    have : (enterK S v).num v = ((S.stk.length + S.cnt : Nat) : Int) := upd_self _ _ _
    rw [this]; omega
  · have : (enterK S k).num v = S.num v := upd_ne _ _ e
    rw [this]; exact h
theorem enter_self (S : KS) (k : Nat) : (enterK S k).num k ≠ -1 := by
  have : (enterK S k).num k = ((S.stk.length + S.cnt : Nat) : Int) := upd_self _ _ _
  rw [this]; omega
theorem snoc_or {α : Type} (l : List α) : l = [] ∨ ∃ L x, l = L ++ [x] := by
  rcases Nat.eq_zero_or_pos l.length with h | h
  · exact .inl (List.eq_nil_of_length_eq_zero h)
  · have hne : l ≠ [] := fun e => by rw [e] at h; cases h
    exact .inr ⟨l.dropLast, l.getLast hne, (List.dropLast_concat_getLast hne).symm⟩
theorem SP.plen {g : List (List Int)} {S : KS} {P : Path} (h : SP g S P) : P.length ≤ g.length := by
  have hnd : (P.map (·.1)).Nodup := h.core.psr.imp fun {a b} hab e => by rw [e] at hab; omega
  have h1 := pigeon hnd h.core.pst
  rw [List.length_map] at h1
  have := h.few
  omega
set_option maxRecDepth 100000 in
set_option maxHeartbeats 8000000 in
theorem search_ok (Z : Scn) (hZ : Z.Ok) (g : List (List Int)) (ss : List SV) (hg : RdG Z.w0 Z.A Z.n ss g) (hn : Z.n ≤ 1000000) (w : World) (T : Option Addr) (d : Nat) (S : KS) (hI : Idle Z g w T d S) (fr : Nat) (hfr : fr < Z.n) (hfn : S.num fr = -1) :
    Calls Try.prog 26 #[.pointer (some ⟨Z.B.p, 0, none⟩), .int .i64 (fr : Int), .pointer (some ⟨Z.q, 0, none⟩)] w (SePost Z g fr S) := by
  have hgl := hg.len
  have hfew := hI.sp.few
  have kE := Lib.hid (fun W T d S (h : Fin W Z.B Z.A Z.n Z.c T d S) (i : Nat) (hi : i < Z.n) (hs : S.stk.length + S.cnt ≤ 1000000) => enter_ok W Z.B Z.A Z.n Z.c T d S h i hi hn hs)
  have kL := Lib.hid (fun W T d S (h : Fin W Z.B Z.A Z.n Z.c T d S) (i : Nat) (hi : i < Z.n) => leave_no W Z.B Z.A Z.n Z.c T d S h i hi hn Z.q)
  have kY := Lib.hid (fun W T d S (h : Fin W Z.B Z.A Z.n Z.c T d S) (i : Nat) (hi : i < Z.n) => leave_yes W Z.B Z.A Z.n Z.c T d S h i hi hn Z.q)
  have k0 := Lib.hid (kE.out w T d S hI.sch.fin fr hfr (by omega))
  have e0 : 2 * un g (enterK S fr) + 1 ≤ 2 * Z.n + 5 := by
    have := un_enter (g := g) (S := S) (k := fr) (by omega) hfn
    omega
  obtain ⟨w0, B, A, n, c, q⟩ := Z
  dsimp only at *
  replace hgl := Lib.hid hgl
  replace hfew := Lib.hid hfew
  replace e0 := Lib.hid e0
  replace hg := Lib.hid hg
  replace hZ := Lib.hid hZ
  replace hI := Lib.hid hI
  replace hfn := Lib.hid hfn
  go_enter Try.func26, Try.ntmps26
  go_wp2_with fail
  go_step3
  go_wp2_with fail
  refine k0.out.mono ?_
  rintro e w1 ⟨rfl, T1, d1, hF1, hm1, hT1⟩
  dsimp only
  have hs1 := Lib.hid (hI.out.sch.enter hZ.out hF1 hm1 hT1)
  have hsp1 := Lib.hid (hI.out.sp.first (by rw [hgl.out]; exact hfr) hfn.out)
  clear hF1 hm1 hT1
  go_wp2_with fail
  go_step3
  go_wp2_with fail
  go_loopg [6] (2 * n + 5) (fun k v wr => ∃ P cp path T d S', v = .slice P path.length cp ∧ SchRel ⟨w0, B, A, n, c, q⟩ g fr S k wr P cp path T d S')
  case atStart =>
    refine ⟨_, _, [(fr, 0)], T1, d1, enterK S fr, rfl, ?_, hsp1.out, enter_self S fr, fun v => enter_num S fr v, e0.out⟩
    have := hs1.out.mod0 ((Mod.refl none_ w1).alloc (.cells #[.int .i64 (fr : Int), .int .i64 0] 56))
    exact ⟨this.fin, this.qb, this.qT, this.m0, this.fT, Ow.new w1 56 2 1 #[.int .i64 (fr : Int), .int .i64 0] (by decide) rfl, fun a ha => by cases ha; exact hs1.out.m0.size⟩
  case round =>
    obtain ⟨P, cp, path, T', d', S', rfl, hsch, hsp, hfr', hmono, hle⟩ := hrel
    rcases snoc_or path with rfl | ⟨P0, ⟨i, e⟩, rfl⟩
    · replace hsch := Lib.hid hsch
      replace hsp := Lib.hid hsp
      replace hfr' := Lib.hid hfr'
      replace hmono := Lib.hid hmono
      replace hle := Lib.hid hle
      go_wp2_with fail
      refine bodyPost_end (results_none rfl _ _ _) rfl ?_
      refine ⟨rfl, T', d', S', ⟨⟨hsch.out.fin, hsch.out.qb, hsch.out.qT, hsch.out.m0, hsch.out.fT, Ow.nil _ _ _, fun a ha => by cases ha⟩, hsp.out⟩, hfr'.out, hmono.out⟩
    · have htop := hsp.top
      rw [hgl.out] at htop
      obtain ⟨his, hin, hne⟩ := htop
      obtain ⟨gP, cur, hP, _, _, _⟩ := Ow.form hsch.own (by simp)
      have c1 := (Ow.cell_ hsch.own hP (P0.length * 2) (by simp)).trans (fcs_last P0 i e).1
      have c2 := (Ow.cell_ hsch.own hP (P0.length * 2 + 1) (by simp; omega)).trans (fcs_last P0 i e).2
      have hpl : (P0 ++ [(i, e)]).length = P0.length + 1 := by simp
      have hfew' := hsp.few
      have hP1 : P0.length + 1 ≤ 1000000 := by have := hsp.plen; rw [hgl.out, hpl] at this; omega
      subst hP
      rw [hpl]
      generalize hm : P0.length = m at *
      obtain ⟨b, o, Bk, kk, cc, l, hA, hc0, hgi, hrd0, hkc, hkb⟩ := RdG.get hg.out hin
      subst hA
      have hll := hrd0.len
      have hway : e ≤ l.length := hsp.way (i, e) (by simp) l hgi
      replace hsch := Lib.hid hsch
      replace hsp := Lib.hid hsp
      replace hfr' := Lib.hid hfr'
      replace hmono := Lib.hid hmono
      replace hle := Lib.hid hle
      replace hc0 := Lib.hid hc0
      replace hgi := Lib.hid hgi
      replace hrd0 := Lib.hid hrd0
      replace hkc := Lib.hid hkc
      replace hll := Lib.hid hll
      replace hfew' := Lib.hid hfew'
      go_wp2_with fail
      go_loopg [6] (l.length - e) (fun k2 v wr2 => v = .slice (some ⟨gP, 0, none⟩) (m + 1) cp ∧ ∃ e2 lo, Sch ⟨w0, B, some ⟨b, o, none⟩, n, c, q⟩ wr2 T' d' { S' with low := lo } (some ⟨gP, 0, none⟩) cp (P0 ++ [(i, e2)]) ∧ SP g { S' with low := lo } (P0 ++ [(i, e2)]) ∧ e2 + k2 = l.length)
      case atStart => exact ⟨rfl, e, S'.low, hsch.out, hsp.out, by omega⟩
      case round =>
        obtain ⟨rfl, e2, lo, hs2, hp2, hek⟩ := hrel
        have hm0 := hs2.m0
        have x0 := hs2.fin.blk.cell_ (i := 0) rfl
        have x1 := hs2.fin.blk.cell_ (i := 1) rfl
        have x2 := hs2.fin.blk.cell_ (i := 2) rfl
        have x3 := hs2.fin.blk.cell_ (i := 3) rfl
        have c1 := (Ow.cell_ hs2.own rfl (P0.length * 2) (by simp)).trans (fcs_last P0 i e2).1
        have c2 := (Ow.cell_ hs2.own rfl (P0.length * 2 + 1) (by simp; omega)).trans (fcs_last P0 i e2).2
        have z2 := Ow.free hs2.own rfl (P0.length * 2 + 1)
        have g0 := hm0.cell_some hc0.out (fun h => h)
        have pP : ¬ B.p = gP := fun e => Ow.ne_blk hs2.own hs2.fin.blk (by decide) ⟨_, rfl, e.symm⟩
        have NP : ¬ B.N = gP := fun e => Ow.ne_blk hs2.own hs2.fin.num (by decide) ⟨_, rfl, e.symm⟩
        have LP : ¬ B.L = gP := fun e => Ow.ne_blk hs2.own hs2.fin.low (by decide) ⟨_, rfl, e.symm⟩
        have OP : ¬ B.O = gP := fun e => Ow.ne_blk hs2.own hs2.fin.on (by decide) ⟨_, rfl, e.symm⟩
        rw [hm] at c1 c2 z2
        by_cases hlt : e2 < kk
        · obtain ⟨b2, o2, hB2, hxl, hx0⟩ := rdi_get (Rd.mod0 hrd0.out hm0) hlt
          subst hB2
          have hx : l[e2]? = some l[e2] := List.getElem?_eq_getElem hxl
          generalize l[e2] = x at hx hx0
          have hd : ((e2 + 1 : Nat) : Int) = (e2 : Int) + 1 := by omega
          have hSw := Lib.hid (fun j => (hs2.mod0 ((Mod.refl none_ wr).drewN j)).way rfl (e2 + 1))
          rw [hm, hd] at hSw
          by_cases hneg : x < 0
          · have hsk := hp2.skip hgi.out hx (fun k h1 _ => by omega)
            replace hs2 := Lib.hid hs2
            replace hp2 := Lib.hid hp2
            replace hm0 := Lib.hid hm0
            replace hx := Lib.hid hx
            replace hd := Lib.hid hd
            replace hsk := Lib.hid hsk
            have hd1 : decide (x < 0) = true := by simpa using hneg
            go_wp2_with (go_quiet (fail))
            go_roundg (gk - 1)
            case measure => omega
            case rel => exact ⟨rfl, e2 + 1, lo, hSw.out _, hsk.out, by omega⟩
          · have hd1 : decide (x < 0) = false := by simpa using hneg
            obtain ⟨k, rfl⟩ : ∃ k : Nat, x = (k : Int) := ⟨x.toNat, by omega⟩
            by_cases hkn : k < n
            · have hd2 : decide ((n : Int) ≤ (k : Int)) = false := by simp; omega
              have xk := hs2.fin.num.cell_ (rowI_get _ hkn)
              have xo := hs2.fin.on.cell_ (rowT_get _ hkn)
              dsimp only at xk xo
              by_cases hnk : S'.num k = -1
              · have hp3 := hp2.enter hgi.out hx (by rw [hgl.out]; exact hkn) hnk
                have hun := un_enter (g := g) (S := { S' with low := lo }) (k := k) (by rw [hgl.out]; exact hkn) hnk
                have hfw := hfew'.out
                have hmo := hmono.out
                have hd3 : (S'.num k == -1) = true := by simp [hnk]
                have kE' := Lib.hid (fun j => kE.out _ T' d' _ (hSw.out j).fin k hkn (by show S'.stk.length + S'.cnt ≤ _; rw [hgl.out] at hfw; omega))
                have hun2 : un g { S' with low := lo } = un g S' := rfl
                rw [hun2] at hun
                generalize S'.num k = nk at *
                replace hs2 := Lib.hid hs2
                replace hp2 := Lib.hid hp2
                replace hm0 := Lib.hid hm0
                replace hx := Lib.hid hx
                replace hd := Lib.hid hd
                replace hp3 := Lib.hid hp3
                replace hun := Lib.hid hun
                replace hfw := Lib.hid hfw
                replace hmo := Lib.hid hmo
                replace hnk := Lib.hid hnk
                go_wp2_with (go_quiet (fail))
                refine (kE'.out _).mono ?_
                rintro e w3 ⟨rfl, T3, d3, hF3, hm3, hT3⟩
                dsimp only
                have hs3 := Lib.hid ((hSw.out _).enter hZ.out hF3 hm3 hT3)
                clear hF3 hm3 hT3
                have ho3 := hs3.out.own
                have hpl3 : (P0 ++ [(i, e2 + 1)]).length = m + 1 := by simp [hm]
                rw [hpl3] at ho3
                replace ho3 := Lib.hid ho3
                replace hpl3 := Lib.hid hpl3
                go_wp2_with (at_builtin; go_loud (refine appP rfl (.tmp 81) (.tmp 85) rfl rfl (Ow.mod0 ho3.out ((Mod.refl none_ _).alloc _)) rfl (rdf_one _ _ _ rfl k 0) (by omega) ?_; intro P4 cp4 w4 ho4 hm4 hP4; replace ho4 := Lib.hid ho4; replace hm4 := Lib.hid hm4; replace hP4 := Lib.hid hP4))
                go_roundg (2 * un g (enterK { S' with low := lo } k) + (P0 ++ [(i, e2 + 1)] ++ [(k, 0)]).length)
                case measure =>
                  have h1 := hun.out
                  have h2 := hle.out
                  rw [hpl] at h2
                  simp [hm]
                  omega
                case rel =>
                  have hs4 := (hs3.out.mod0 ((Mod.refl none_ w3).alloc (.cells #[.int .i64 (k : Int), .int .i64 0] 56))).push (x := (k, 0)) (by rw [hpl3.out]; exact ho4.out) hm4.out hP4.out
                  refine ⟨P4, cp4, P0 ++ [(i, e2 + 1)] ++ [(k, 0)], T3, d3, _, by simp [hm], ⟨hs4, hp3.out, ?_, ?_, Nat.le_refl _⟩⟩
                  · exact enter_num _ _ _ hfr'.out
                  · exact fun v hv => enter_num _ _ _ (hmo.out v hv)
              · have hd3 : (S'.num k == -1) = false := by simpa using hnk
                by_cases hok : S'.on k = true
                · have hp3 := hp2.low hgi.out hx (by rw [hgl.out]; exact hkn) hok
                  have x4 := hs2.fin.low.cell_ (rowI_get _ hin)
                  have z4 := hs2.fin.low.frozen i
                  dsimp only at x4
                  have hSl := Lib.hid (fun j => (hSw.out j).low hZ.out (i := i) (x := S'.num k))
                  dsimp only at hSl
                  generalize hnu : S'.num k = nk at *
                  rw [hok] at xo
                  replace hs2 := Lib.hid hs2
                  replace hp2 := Lib.hid hp2
                  replace hm0 := Lib.hid hm0
                  replace hx := Lib.hid hx
                  replace hd := Lib.hid hd
                  replace hp3 := Lib.hid hp3
                  replace hnk := Lib.hid hnk
                  replace hok := Lib.hid hok
                  replace hnu := Lib.hid hnu
                  go_wp2_with (go_quiet (fail))
                  go_region
                  go_wp2_with (go_quiet (fail))
                  go_roundg (gk - 1)
                  case measure => omega
                  case rel => exact ⟨rfl, e2 + 1, _, (hSl.out _).mod0 (Mod.refl none_ _).drew, hp3.out, by omega⟩
                · have hok2 : S'.on k = false := by simpa using hok
                  have hsk := hp2.skip hgi.out hx (fun j h1 h2 => by
                    have : j = k := by omega
                    subst this
                    exact ⟨h2, hnk, fun hm => hok ((hp2.core.on j h2).2 hm)⟩)
                  rw [hok2] at xo
                  generalize S'.num k = nk at *
                  replace hs2 := Lib.hid hs2
                  replace hp2 := Lib.hid hp2
                  replace hm0 := Lib.hid hm0
                  replace hx := Lib.hid hx
                  replace hd := Lib.hid hd
                  replace hsk := Lib.hid hsk
                  replace hnk := Lib.hid hnk
                  replace hok := Lib.hid hok
                  replace hok2 := Lib.hid hok2
                  go_wp2_with (go_quiet (fail))
                  go_roundg (gk - 1)
                  case measure => omega
                  case rel => exact ⟨rfl, e2 + 1, lo, hSw.out _, hsk.out, by omega⟩
            · have hsk := hp2.skip hgi.out hx (fun j h1 h2 => by rw [hgl.out] at h2; omega)
              have hd2 : decide ((n : Int) ≤ (k : Int)) = true := by simp; omega
              replace hs2 := Lib.hid hs2
              replace hp2 := Lib.hid hp2
              replace hm0 := Lib.hid hm0
              replace hx := Lib.hid hx
              replace hd := Lib.hid hd
              replace hsk := Lib.hid hsk
              go_wp2_with (go_quiet (fail))
              go_roundg (gk - 1)
              case measure => omega
              case rel => exact ⟨rfl, e2 + 1, lo, hSw.out _, hsk.out, by omega⟩
        · have hge : l.length ≤ e2 := by rw [hll.out]; omega
          have hpl2 : (P0 ++ [(i, e2)]).length = m + 1 := by simp [hm]
          have hcp : m + 1 ≤ cp := by have := hs2.own.2.1; rw [hpl2] at this; exact this
          have hci : (m : Int) ≤ (cp : Int) := by omega
          have hun2 : un g { S' with low := lo } = un g S' := rfl
          have hfw := hp2.few
          rw [hun2, hgl.out] at hfw
          have hfw2 : S'.stk.length + S'.cnt + un g S' = n := hfw
          by_cases hlow : lo i = S'.num i
          · obtain ⟨A0, B0, hst, hiB⟩ := hp2.parts
            have hp3 := hp2.pop hgi.out hge hlow hst
            have hidb := hp2.idc
            dsimp only at hidb
            have hY := Lib.hid (fun j => kY.out (wr.drewN j) T' d' _ (hs2.mod0 ((Mod.refl none_ wr).drewN j)).fin i hin ((hs2.mod0 ((Mod.refl none_ wr).drewN j)).qb) ⟨hZ.out.qN, hZ.out.qL, hZ.out.qK, hs2.qT⟩ (by show S'.id ≤ _; omega) (by show S'.stk.length + S'.cnt ≤ _; omega) hlow A0 B0 hst hiB (fun v hv => by have := hp2.core.lt v hv; rw [hgl.out] at this; exact this))
            rcases snoc_or P0 with rfl | ⟨P1, ⟨u, f⟩, rfl⟩
            · obtain rfl : m = 0 := by rw [← hm]; rfl
              replace hs2 := Lib.hid hs2
              replace hp2 := Lib.hid hp2
              replace hm0 := Lib.hid hm0
              replace hge := Lib.hid hge
              replace hpl2 := Lib.hid hpl2
              replace hfw := Lib.hid hfw
              replace hlow := Lib.hid hlow
              replace hp3 := Lib.hid hp3
              replace hst := Lib.hid hst
              replace hiB := Lib.hid hiB
              go_wp2_with (go_quiet (fail))
              refine (hY.out _).mono ?_
              rintro e w5 ⟨rfl, hF5, hq5, hm5⟩
              dsimp only
              have hs5 := Lib.hid (((hs2.out.mod0 ((Mod.refl none_ wr).drewN _)).leave hZ.out hF5 hq5 hm5).pop)
              replace hF5 := Lib.hid hF5
              replace hq5 := Lib.hid hq5
              replace hm5 := Lib.hid hm5
              go_wp2_with (go_quiet (fail))
              go_roundg (2 * un g (popK { S' with low := lo } A0 (i :: B0)))
              case measure =>
                have h2 := hle.out
                rw [hpl] at h2
                have h3 : un g (popK { S' with low := lo } A0 (i :: B0)) = un g S' := rfl
                rw [h3]
                omega
              case rel => exact ⟨_, cp, [], T', d', _, rfl, ⟨hs5.out, hp3.out, hfr'.out, hmono.out, Nat.le_refl _⟩⟩
            · obtain ⟨m1, rfl⟩ : ∃ m1, m = m1 + 1 := ⟨P1.length, by rw [← hm]; simp⟩
              have hm1 : P1.length = m1 := by simp at hm; exact hm
              have hun : u < n := by have := hp3.top.2.1; rw [hgl.out] at this; exact this
              have hpw := lowK_same (S := popK { S' with low := lo } A0 (i :: B0)) (u := u) (x := lo i) (hp2.pop_low hlow)
              replace hs2 := Lib.hid hs2
              replace hp2 := Lib.hid hp2
              replace hm0 := Lib.hid hm0
              replace hge := Lib.hid hge
              replace hpl2 := Lib.hid hpl2
              replace hfw := Lib.hid hfw
              replace hlow := Lib.hid hlow
              replace hp3 := Lib.hid hp3
              replace hst := Lib.hid hst
              replace hiB := Lib.hid hiB
              replace hpw := Lib.hid hpw
              go_wp2_with (go_quiet (fail))
              refine (hY.out _).mono ?_
              rintro e w5 ⟨rfl, hF5, hq5, hm5⟩
              dsimp only
              have hs5 := ((hs2.out.mod0 ((Mod.refl none_ wr).drewN _)).leave hZ.out hF5 hq5 hm5).pop
              clear hF5 hq5 hm5
              have c3 := (Ow.cell_ hs5.own rfl (P1.length * 2) (by simp)).trans (fcs_last P1 u f).1
              rw [hm1] at c3
              have x0 := hs5.fin.blk.cell_ (i := 0) rfl
              have x2 := hs5.fin.blk.cell_ (i := 2) rfl
              have xu := hs5.fin.low.cell_ (rowI_get _ hun)
              have xi := hs5.fin.low.cell_ (rowI_get _ hin)
              have zu := hs5.fin.low.frozen u
              have hSl := hs5.low hZ.out (i := u) (x := lo i)
              have elo : (popK { S' with low := lo } A0 (i :: B0)).low = lo := rfl
              rw [elo] at xu xi hSl
              dsimp only at xu xi hSl x0 x2
              rw [hpw.out] at hSl
              replace hs5 := Lib.hid hs5
              replace hSl := Lib.hid hSl
              replace elo := Lib.hid elo
              go_wp2_with (go_quiet (fail))
              go_region
              go_wp2_with (go_quiet (fail))
              go_roundg (2 * un g (popK { S' with low := lo } A0 (i :: B0)) + (P1 ++ [(u, f)]).length)
              case measure =>
                have h2 := hle.out
                rw [hpl] at h2
                have h3 : un g (popK { S' with low := lo } A0 (i :: B0)) = un g S' := rfl
                rw [h3]
                simp [hm1]
                omega
              case rel => exact ⟨_, cp, P1 ++ [(u, f)], T', d', _, by simp [hm1], ⟨hSl.out.mod0 (Mod.refl none_ _).drew, hp3.out, hfr'.out, hmono.out, Nat.le_refl _⟩⟩
          · obtain ⟨P1, u, f, hP0⟩ := hp2.up_ne hlow
            subst hP0
            have hp3 := hp2.up hgi.out hge hlow
            obtain ⟨m1, rfl⟩ : ∃ m1, m = m1 + 1 := ⟨P1.length, by rw [← hm]; simp⟩
            have hm1 : P1.length = m1 := by simp at hm; exact hm
            have hun : u < n := by have := hp3.top.2.1; rw [hgl.out] at this; exact this
            have hs3 := hs2.pop
            have c3 := (Ow.cell_ hs3.own rfl (P1.length * 2) (by simp)).trans (fcs_last P1 u f).1
            rw [hm1] at c3
            have xu := hs3.fin.low.cell_ (rowI_get _ hun)
            have xi := hs3.fin.low.cell_ (rowI_get _ hin)
            have zu := hs3.fin.low.frozen u
            have kL' := Lib.hid (fun j => kL.out (wr.drewN j) T' d' _ (hs2.mod0 ((Mod.refl none_ wr).drewN j)).fin i hin hlow)
            have hSl := Lib.hid (fun j => (hs3.mod0 ((Mod.refl none_ wr).drewN j)).low hZ.out (i := u) (x := lo i))
            dsimp only at xu xi hSl
            replace hs2 := Lib.hid hs2
            replace hp2 := Lib.hid hp2
            replace hm0 := Lib.hid hm0
            replace hge := Lib.hid hge
            replace hpl2 := Lib.hid hpl2
            replace hfw := Lib.hid hfw
            replace hlow := Lib.hid hlow
            replace hp3 := Lib.hid hp3
            replace hs3 := Lib.hid hs3
            go_wp2_with (go_quiet (fail))
            refine (kL'.out _).mono ?_
            rintro e w5 ⟨rfl, j5, rfl⟩
            dsimp only
            go_wp2_with (go_quiet (fail))
            go_region
            go_wp2_with (go_quiet (fail))
            go_roundg (2 * un g (lowK { S' with low := lo } u (lo i)) + (P1 ++ [(u, f)]).length)
            case measure =>
              have h2 := hle.out
              rw [hpl] at h2
              have h3 : un g (lowK { S' with low := lo } u (lo i)) = un g S' := rfl
              rw [h3]
              simp [hm1]
              omega
            case rel =>
              refine ⟨_, cp, P1 ++ [(u, f)], T', d', _, by simp [hm1], ⟨hSl.out _, hp3.out, hfr'.out, hmono.out, Nat.le_refl _⟩⟩
end Go.Proofs.Ytenlpklgpcnfiaa
