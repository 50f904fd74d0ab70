import Derived.Test.YtfkfiokkjjnhiaaGreatUp20
import Derived.Lib.MinMax
import Derived.Test.YtfkfiokkjjnhiaaGreatUp19
import Derived.Test.YtfkfiokkjjnhiaaGreatUp4
import Derived.Laws.CopyOwn
import Derived.Deep.RegionLaw
import Derived.Deep.LoopGhost
import Derived.Deep.CutRange
set_option linter.unusedVariables false
set_option linter.unusedSimpArgs false
set_option maxHeartbeats 16000000
namespace Go.Proofs.YtfkfiokkjjnhiaaGreat.Kn
open Go.RowKit
structure Idle (Z : Scn) (g : List (List Int)) (w : World) (T : Option Addr) (d : Nat) (S : KS) : Prop where
 sch : Sch Z w T d S none 0 []
 sp : SP g S []
structure SchRel (Z : Scn) (g : List (List Int)) (fr : Nat) (S : KS) (k : Nat) (wr : World) (P : Option Addr) (cp : Nat) (path : Path) (T : Option Addr) (d : Nat) (S' : KS) : Prop where
 sch : Sch Z wr T d S' P cp path
 sp : SP g S' path
 fr : S'.num fr ≠ -1
 mono : ∀ v, S.num v ≠ -1 → S'.num v ≠ -1
 le : 2 * un g S' + path.length ≤ k
def SePost (Z : Scn) (g : List (List Int)) (fr : Nat) (S : KS) (e : Ending) (w' : World) : Prop :=
 e = .returned (.tuple #[]) ∧ ∃ T d S', Idle Z g w' T d S' ∧ S'.num fr ≠ -1 ∧ ∀ v, S.num v ≠ -1 → S'.num v ≠ -1
theorem enter_num (S : KS) (k v : Nat) (h : S.num v ≠ -1) : (enterK S k).num v ≠ -1 := by
 by_cases e : v = k
 ·subst e
  have : (enterK S v).num v = ((S.stk.length + S.cnt : Nat) : Int) := upd_self _ _ _
  rw [this]; omega
 ·have : (enterK S k).num v = S.num v := upd_ne _ _ e
  rw [this]; exact h
theorem enter_self (S : KS) (k : Nat) : (enterK S k).num k ≠ -1 := by
 have : (enterK S k).num k = ((S.stk.length + S.cnt : Nat) : Int) := upd_self _ _ _
 rw [this]; omega
theorem snoc_or {α : Type} (l : List α) : l = [] ∨ ∃ L x, l = L ++ [x] := by
 rcases Nat.eq_zero_or_pos l.length with h | h
 ·exact .inl (List.eq_nil_of_length_eq_zero h)
 ·have hne : l ≠ [] := fun e => by rw [e] at h; cases h
  exact .inr ⟨l.dropLast, l.getLast hne, (List.dropLast_concat_getLast hne).symm⟩
theorem SP.plen {g : List (List Int)} {S : KS} {P : Path} (h : SP g S P) : P.length ≤ g.length := by
 have hnd : (P.map (·.1)).Nodup := h.core.psr.imp fun {a b} hab e => by rw [e] at hab; omega
 have h1 := pigeon hnd h.core.pst
 rw [List.length_map] at h1
 have := h.few
 omega
set_option maxRecDepth 100000
theorem search_ok (Z : Scn) (hZ : Z.Ok) (g : List (List Int)) (ss : List SV) (hg : RdG Z.w0 Z.A Z.n ss g) (hn : Z.n ≤ 1000000) (w : World) (T : Option Addr) (d : Nat) (S : KS) (hI : Idle Z g w T d S) (fr : Nat) (hfr : fr < Z.n) (hfn : S.num fr = -1) :
  Calls Tryz.prog 230 #[.pointer (some ⟨Z.B.p, 0, none⟩), .int .i64 (fr : Int), .pointer (some ⟨Z.q, 0, none⟩)] w (SePost Z g fr S) := by
 have hgl := hg.len
 have hfew := hI.sp.few
 have kE := zH (fun W T d S (h : Fin W Z.B Z.A Z.n Z.c T d S) (i : Nat) (hi : i < Z.n) (hs : S.stk.length + S.cnt ≤ 1000000) => enter_ok W Z.B Z.A Z.n Z.c T d S h i hi hn hs)
 have kL := zH (fun W T d S (h : Fin W Z.B Z.A Z.n Z.c T d S) (i : Nat) (hi : i < Z.n) => leave_no W Z.B Z.A Z.n Z.c T d S h i hi hn Z.q)
 have kY := zH (fun W T d S (h : Fin W Z.B Z.A Z.n Z.c T d S) (i : Nat) (hi : i < Z.n) => leave_yes W Z.B Z.A Z.n Z.c T d S h i hi hn Z.q)
 have k0 := zH (kE.out w T d S hI.sch.fin fr hfr (by omega))
 have e0 : 2 * un g (enterK S fr) + 1 ≤ 2 * Z.n + 5 := by
  have := un_enter (g := g) (S := S) (k := fr) (by omega) hfn
  omega
 obtain ⟨w0, B, A, n, c, q⟩ := Z
 dsimp only at *
 replace hgl := zH hgl
 replace hfew := zH hfew
 replace e0 := zH e0
 replace hg := zH hg
 replace hZ := zH hZ
 replace hI := zH hI
 replace hfn := zH hfn
 go_enter Tryz.func230, Tryz.ntmps230
 go_wp2_with fail
 go_step3
 go_wp2_with fail
 refine k0.out.mono ?_
 rintro e w1 ⟨rfl, T1, d1, hF1, hm1, hT1⟩
 dsimp only
 have hs1 := zH (hI.out.sch.enter hZ.out hF1 hm1 hT1)
 have hsp1 := zH (hI.out.sp.first (by rw [hgl.out]; exact hfr) hfn.out)
 clear hF1 hm1 hT1
 go_wp2_with fail
 go_step3
 go_wp2_with fail
 go_loopg [6] (2 * n + 5) (fun k v wr => ∃ P cp path T d S', v = .slice P path.length cp ∧ SchRel ⟨w0, B, A, n, c, q⟩ g fr S k wr P cp path T d S')
 case atStart =>
  refine ⟨_, _, [(fr, 0)], T1, d1, enterK S fr, rfl, ?_, hsp1.out, enter_self S fr, fun v => enter_num S fr v, e0.out⟩
  have := hs1.out.mod0 ((Mod.refl none_ w1).alloc (.cells #[.int .i64 (fr : Int), .int .i64 0] 335))
  exact ⟨this.fin, this.qb, this.qT, this.m0, this.fT, Ow.new w1 335 2 1 #[.int .i64 (fr : Int), .int .i64 0] (by decide) rfl, fun a ha => by cases ha; exact hs1.out.m0.size⟩
 case round =>
  obtain ⟨P, cp, path, T', d', S', rfl, hsch, hsp, hfr', hmono, hle⟩ := hrel
  rcases snoc_or path with rfl | ⟨P0, ⟨i, e⟩, rfl⟩
  ·replace hsch := zH hsch
   replace hsp := zH hsp
   replace hfr' := zH hfr'
   replace hmono := zH hmono
   replace hle := zH hle
   go_wp2_with fail
   refine bodyPost_end (results_none rfl _ _ _) rfl ?_
   refine ⟨rfl, T', d', S', ⟨⟨hsch.out.fin, hsch.out.qb, hsch.out.qT, hsch.out.m0, hsch.out.fT, Ow.nil _ _ _, fun a ha => by cases ha⟩, hsp.out⟩, hfr'.out, hmono.out⟩
  ·have htop := hsp.top
   rw [hgl.out] at htop
   obtain ⟨his, hin, hne⟩ := htop
   obtain ⟨gP, cur, hP, _, _, _⟩ := Ow.form hsch.own (by simp)
   have c1 := (Ow.cell_ hsch.own hP (P0.length * 2) (by simp)).trans (fcs_last P0 i e).1
   have c2 := (Ow.cell_ hsch.own hP (P0.length * 2 + 1) (by simp; omega)).trans (fcs_last P0 i e).2
   have hpl : (P0 ++ [(i, e)]).length = P0.length + 1 := by simp
   have hfew' := hsp.few
   have hP1 : P0.length + 1 ≤ 1000000 := by have := hsp.plen; rw [hgl.out, hpl] at this; omega
   subst hP
   rw [hpl]
   generalize hm : P0.length = m at *
   obtain ⟨b, o, Bk, kk, cc, l, hA, hc0, hgi, hrd0, hkc, hkb⟩ := RdG.get hg.out hin
   subst hA
   have hll := hrd0.len
   have hway : e ≤ l.length := hsp.way (i, e) (by simp) l hgi
   replace hsch := zH hsch
   replace hsp := zH hsp
   replace hfr' := zH hfr'
   replace hmono := zH hmono
   replace hle := zH hle
   replace hc0 := zH hc0
   replace hgi := zH hgi
   replace hrd0 := zH hrd0
   replace hkc := zH hkc
   replace hll := zH hll
   replace hfew' := zH hfew'
   go_wp2_with fail
   go_loopg [6] (l.length - e) (fun k2 v wr2 => v = .slice (some ⟨gP, 0, none⟩) (m + 1) cp ∧ ∃ e2 lo, Sch ⟨w0, B, some ⟨b, o, none⟩, n, c, q⟩ wr2 T' d' { S' with low := lo } (some ⟨gP, 0, none⟩) cp (P0 ++ [(i, e2)]) ∧ SP g { S' with low := lo } (P0 ++ [(i, e2)]) ∧ e2 + k2 = l.length)
   case atStart => exact ⟨rfl, e, S'.low, hsch.out, hsp.out, by omega⟩
   case round =>
    obtain ⟨rfl, e2, lo, hs2, hp2, hek⟩ := hrel
    have hm0 := hs2.m0
    have x0 := hs2.fin.blk.cell_ (i := 0) rfl
    have x1 := hs2.fin.blk.cell_ (i := 1) rfl
    have x2 := hs2.fin.blk.cell_ (i := 2) rfl
    have x3 := hs2.fin.blk.cell_ (i := 3) rfl
    have c1 := (Ow.cell_ hs2.own rfl (P0.length * 2) (by simp)).trans (fcs_last P0 i e2).1
    have c2 := (Ow.cell_ hs2.own rfl (P0.length * 2 + 1) (by simp; omega)).trans (fcs_last P0 i e2).2
    have z2 := Ow.free hs2.own rfl (P0.length * 2 + 1)
    have g0 := hm0.cell_some hc0.out (fun h => h)
    have pP : ¬ B.p = gP := fun e => Ow.ne_blk hs2.own hs2.fin.blk (by decide) ⟨_, rfl, e.symm⟩
    have NP : ¬ B.N = gP := fun e => Ow.ne_blk hs2.own hs2.fin.num (by decide) ⟨_, rfl, e.symm⟩
    have LP : ¬ B.L = gP := fun e => Ow.ne_blk hs2.own hs2.fin.low (by decide) ⟨_, rfl, e.symm⟩
    have OP : ¬ B.O = gP := fun e => Ow.ne_blk hs2.own hs2.fin.on (by decide) ⟨_, rfl, e.symm⟩
    rw [hm] at c1 c2 z2
    by_cases hlt : e2 < kk
    ·obtain ⟨b2, o2, hB2, hxl, hx0⟩ := rdi_get (Rd.mod0 hrd0.out hm0) hlt
     subst hB2
     have hx : l[e2]? = some l[e2] := List.getElem?_eq_getElem hxl
     generalize l[e2] = x at hx hx0
     have hd : ((e2 + 1 : Nat) : Int) = (e2 : Int) + 1 := by omega
     have hSw := zH (fun j => (hs2.mod0 ((Mod.refl none_ wr).drewN j)).way rfl (e2 + 1))
     rw [hm, hd] at hSw
     by_cases hneg : x < 0
     ·have hsk := hp2.skip hgi.out hx (fun k h1 _ => by omega)
      replace hs2 := zH hs2
      replace hp2 := zH hp2
      replace hm0 := zH hm0
      replace hx := zH hx
      replace hd := zH hd
      replace hsk := zH hsk
      have hd1 : decide (x < 0) = true := by simpa using hneg
      go_wp2_with (go_quiet (fail))
      go_roundg (gk - 1)
      case measure => omega
      case rel => exact ⟨rfl, e2 + 1, lo, hSw.out _, hsk.out, by omega⟩
     ·have hd1 : decide (x < 0) = false := by simpa using hneg
      obtain ⟨k, rfl⟩ : ∃ k : Nat, x = (k : Int) := ⟨x.toNat, by omega⟩
      by_cases hkn : k < n
      ·have hd2 : decide ((n : Int) ≤ (k : Int)) = false := by simp; omega
       have xk := hs2.fin.num.cell_ (rowI_get _ hkn)
       have xo := hs2.fin.on.cell_ (rowT_get _ hkn)
       dsimp only at xk xo
       by_cases hnk : S'.num k = -1
       ·have hp3 := hp2.enter hgi.out hx (by rw [hgl.out]; exact hkn) hnk
        have hun := un_enter (g := g) (S := { S' with low := lo }) (k := k) (by rw [hgl.out]; exact hkn) hnk
        have hfw := hfew'.out
        have hmo := hmono.out
        have hd3 : (S'.num k == -1) = true := by simp [hnk]
        have kE' := zH (fun j => kE.out _ T' d' _ (hSw.out j).fin k hkn (by show S'.stk.length + S'.cnt ≤ _; rw [hgl.out] at hfw; omega))
        have hun2 : un g { S' with low := lo } = un g S' := rfl
        rw [hun2] at hun
        generalize S'.num k = nk at *
        replace hs2 := zH hs2
        replace hp2 := zH hp2
        replace hm0 := zH hm0
        replace hx := zH hx
        replace hd := zH hd
        replace hp3 := zH hp3
        replace hun := zH hun
        replace hfw := zH hfw
        replace hmo := zH hmo
        replace hnk := zH hnk
        go_wp2_with (go_quiet (fail))
        refine (kE'.out _).mono ?_
        rintro e w3 ⟨rfl, T3, d3, hF3, hm3, hT3⟩
        dsimp only
        have hs3 := zH ((hSw.out _).enter hZ.out hF3 hm3 hT3)
        clear hF3 hm3 hT3
        have ho3 := hs3.out.own
        have hpl3 : (P0 ++ [(i, e2 + 1)]).length = m + 1 := by simp [hm]
        rw [hpl3] at ho3
        replace ho3 := zH ho3
        replace hpl3 := zH hpl3
        go_wp2_with (at_builtin; go_loud (refine appP rfl (.tmp 81) (.tmp 85) rfl rfl (Ow.mod0 ho3.out ((Mod.refl none_ _).alloc _)) rfl (rdf_one _ _ _ rfl k 0) (by omega) ?_; intro P4 cp4 w4 ho4 hm4 hP4; replace ho4 := zH ho4; replace hm4 := zH hm4; replace hP4 := zH hP4))
        go_roundg (2 * un g (enterK { S' with low := lo } k) + (P0 ++ [(i, e2 + 1)] ++ [(k, 0)]).length)
        case measure =>
         have h1 := hun.out
         have h2 := hle.out
         rw [hpl] at h2
         simp [hm]
         omega
        case rel =>
         have hs4 := (hs3.out.mod0 ((Mod.refl none_ w3).alloc (.cells #[.int .i64 (k : Int), .int .i64 0] 335))).push (x := (k, 0)) (by rw [hpl3.out]; exact ho4.out) hm4.out hP4.out
         refine ⟨P4, cp4, P0 ++ [(i, e2 + 1)] ++ [(k, 0)], T3, d3, _, by simp [hm], ⟨hs4, hp3.out, ?_, ?_, Nat.le_refl _⟩⟩
         ·exact enter_num _ _ _ hfr'.out
         ·exact fun v hv => enter_num _ _ _ (hmo.out v hv)
       ·have hd3 : (S'.num k == -1) = false := by simpa using hnk
        by_cases hok : S'.on k = true
        ·have hp3 := hp2.low hgi.out hx (by rw [hgl.out]; exact hkn) hok
         have x4 := hs2.fin.low.cell_ (rowI_get _ hin)
         have z4 := hs2.fin.low.frozen i
         dsimp only at x4
         have hSl := zH (fun j => (hSw.out j).low hZ.out (i := i) (x := S'.num k))
         dsimp only at hSl
         generalize hnu : S'.num k = nk at *
         rw [hok] at xo
         replace hs2 := zH hs2
         replace hp2 := zH hp2
         replace hm0 := zH hm0
         replace hx := zH hx
         replace hd := zH hd
         replace hp3 := zH hp3
         replace hnk := zH hnk
         replace hok := zH hok
         replace hnu := zH hnu
         go_wp2_with (go_quiet (fail))
         go_region
         go_wp2_with (go_quiet (fail))
         go_roundg (gk - 1)
         case measure => omega
         case rel => exact ⟨rfl, e2 + 1, _, (hSl.out _).mod0 (Mod.refl none_ _).drew, hp3.out, by omega⟩
        ·have hok2 : S'.on k = false := by simpa using hok
         have hsk := hp2.skip hgi.out hx (fun j h1 h2 => by
          have : j = k := by omega
          subst this
          exact ⟨h2, hnk, fun hm => hok ((hp2.core.on j h2).2 hm)⟩)
         rw [hok2] at xo
         generalize S'.num k = nk at *
         replace hs2 := zH hs2
         replace hp2 := zH hp2
         replace hm0 := zH hm0
         replace hx := zH hx
         replace hd := zH hd
         replace hsk := zH hsk
         replace hnk := zH hnk
         replace hok := zH hok
         replace hok2 := zH hok2
         go_wp2_with (go_quiet (fail))
         go_roundg (gk - 1)
         case measure => omega
         case rel => exact ⟨rfl, e2 + 1, lo, hSw.out _, hsk.out, by omega⟩
      ·have hsk := hp2.skip hgi.out hx (fun j h1 h2 => by rw [hgl.out] at h2; omega)
       have hd2 : decide ((n : Int) ≤ (k : Int)) = true := by simp; omega
       replace hs2 := zH hs2
       replace hp2 := zH hp2
       replace hm0 := zH hm0
       replace hx := zH hx
       replace hd := zH hd
       replace hsk := zH hsk
       go_wp2_with (go_quiet (fail))
       go_roundg (gk - 1)
       case measure => omega
       case rel => exact ⟨rfl, e2 + 1, lo, hSw.out _, hsk.out, by omega⟩
    ·have hge : l.length ≤ e2 := by rw [hll.out]; omega
     have hpl2 : (P0 ++ [(i, e2)]).length = m + 1 := by simp [hm]
     have hcp : m + 1 ≤ cp := by have := hs2.own.2.1; rw [hpl2] at this; exact this
     have hci : (m : Int) ≤ (cp : Int) := by omega
     have hun2 : un g { S' with low := lo } = un g S' := rfl
     have hfw := hp2.few
     rw [hun2, hgl.out] at hfw
     have hfw2 : S'.stk.length + S'.cnt + un g S' = n := hfw
     by_cases hlow : lo i = S'.num i
     ·obtain ⟨A0, B0, hst, hiB⟩ := hp2.parts
      have hp3 := hp2.pop hgi.out hge hlow hst
      have hidb := hp2.idc
      dsimp only at hidb
      have hY := zH (fun j => kY.out (wr.drewN j) T' d' _ (hs2.mod0 ((Mod.refl none_ wr).drewN j)).fin i hin ((hs2.mod0 ((Mod.refl none_ wr).drewN j)).qb) ⟨hZ.out.qN, hZ.out.qL, hZ.out.qK, hs2.qT⟩ (by show S'.id ≤ _; omega) (by show S'.stk.length + S'.cnt ≤ _; omega) hlow A0 B0 hst hiB (fun v hv => by have := hp2.core.lt v hv; rw [hgl.out] at this; exact this))
      rcases snoc_or P0 with rfl | ⟨P1, ⟨u, f⟩, rfl⟩
      ·obtain rfl : m = 0 := by rw [← hm]; rfl
       replace hs2 := zH hs2
       replace hp2 := zH hp2
       replace hm0 := zH hm0
       replace hge := zH hge
       replace hpl2 := zH hpl2
       replace hfw := zH hfw
       replace hlow := zH hlow
       replace hp3 := zH hp3
       replace hst := zH hst
       replace hiB := zH hiB
       go_wp2_with (go_quiet (fail))
       refine (hY.out _).mono ?_
       rintro e w5 ⟨rfl, hF5, hq5, hm5⟩
       dsimp only
       have hs5 := zH (((hs2.out.mod0 ((Mod.refl none_ wr).drewN _)).leave hZ.out hF5 hq5 hm5).pop)
       replace hF5 := zH hF5
       replace hq5 := zH hq5
       replace hm5 := zH hm5
       go_wp2_with (go_quiet (fail))
       go_roundg (2 * un g (popK { S' with low := lo } A0 (i :: B0)))
       case measure =>
        have h2 := hle.out
        rw [hpl] at h2
        have h3 : un g (popK { S' with low := lo } A0 (i :: B0)) = un g S' := rfl
        rw [h3]
        omega
       case rel => exact ⟨_, cp, [], T', d', _, rfl, ⟨hs5.out, hp3.out, hfr'.out, hmono.out, Nat.le_refl _⟩⟩
      ·obtain ⟨m1, rfl⟩ : ∃ m1, m = m1 + 1 := ⟨P1.length, by rw [← hm]; simp⟩
       have hm1 : P1.length = m1 := by simp at hm; exact hm
       have hun : u < n := by have := hp3.top.2.1; rw [hgl.out] at this; exact this
       have hpw := lowK_same (S := popK { S' with low := lo } A0 (i :: B0)) (u := u) (x := lo i) (hp2.pop_low hlow)
       replace hs2 := zH hs2
       replace hp2 := zH hp2
       replace hm0 := zH hm0
       replace hge := zH hge
       replace hpl2 := zH hpl2
       replace hfw := zH hfw
       replace hlow := zH hlow
       replace hp3 := zH hp3
       replace hst := zH hst
       replace hiB := zH hiB
       replace hpw := zH hpw
       go_wp2_with (go_quiet (fail))
       refine (hY.out _).mono ?_
       rintro e w5 ⟨rfl, hF5, hq5, hm5⟩
       dsimp only
       have hs5 := ((hs2.out.mod0 ((Mod.refl none_ wr).drewN _)).leave hZ.out hF5 hq5 hm5).pop
       clear hF5 hq5 hm5
       have c3 := (Ow.cell_ hs5.own rfl (P1.length * 2) (by simp)).trans (fcs_last P1 u f).1
       rw [hm1] at c3
       have x0 := hs5.fin.blk.cell_ (i := 0) rfl
       have x2 := hs5.fin.blk.cell_ (i := 2) rfl
       have xu := hs5.fin.low.cell_ (rowI_get _ hun)
       have xi := hs5.fin.low.cell_ (rowI_get _ hin)
       have zu := hs5.fin.low.frozen u
       have hSl := hs5.low hZ.out (i := u) (x := lo i)
       have elo : (popK { S' with low := lo } A0 (i :: B0)).low = lo := rfl
       rw [elo] at xu xi hSl
       dsimp only at xu xi hSl x0 x2
       rw [hpw.out] at hSl
       replace hs5 := zH hs5
       replace hSl := zH hSl
       replace elo := zH elo
       go_wp2_with (go_quiet (fail))
       go_region
       go_wp2_with (go_quiet (fail))
       go_roundg (2 * un g (popK { S' with low := lo } A0 (i :: B0)) + (P1 ++ [(u, f)]).length)
       case measure =>
        have h2 := hle.out
        rw [hpl] at h2
        have h3 : un g (popK { S' with low := lo } A0 (i :: B0)) = un g S' := rfl
        rw [h3]
        simp [hm1]
        omega
       case rel => exact ⟨_, cp, P1 ++ [(u, f)], T', d', _, by simp [hm1], ⟨hSl.out.mod0 (Mod.refl none_ _).drew, hp3.out, hfr'.out, hmono.out, Nat.le_refl _⟩⟩
     ·obtain ⟨P1, u, f, hP0⟩ := hp2.up_ne hlow
      subst hP0
      have hp3 := hp2.up hgi.out hge hlow
      obtain ⟨m1, rfl⟩ : ∃ m1, m = m1 + 1 := ⟨P1.length, by rw [← hm]; simp⟩
      have hm1 : P1.length = m1 := by simp at hm; exact hm
      have hun : u < n := by have := hp3.top.2.1; rw [hgl.out] at this; exact this
      have hs3 := hs2.pop
      have c3 := (Ow.cell_ hs3.own rfl (P1.length * 2) (by simp)).trans (fcs_last P1 u f).1
      rw [hm1] at c3
      have xu := hs3.fin.low.cell_ (rowI_get _ hun)
      have xi := hs3.fin.low.cell_ (rowI_get _ hin)
      have zu := hs3.fin.low.frozen u
      have kL' := zH (fun j => kL.out (wr.drewN j) T' d' _ (hs2.mod0 ((Mod.refl none_ wr).drewN j)).fin i hin hlow)
      have hSl := zH (fun j => (hs3.mod0 ((Mod.refl none_ wr).drewN j)).low hZ.out (i := u) (x := lo i))
      dsimp only at xu xi hSl
      replace hs2 := zH hs2
      replace hp2 := zH hp2
      replace hm0 := zH hm0
      replace hge := zH hge
      replace hpl2 := zH hpl2
      replace hfw := zH hfw
      replace hlow := zH hlow
      replace hp3 := zH hp3
      replace hs3 := zH hs3
      go_wp2_with (go_quiet (fail))
      refine (kL'.out _).mono ?_
      rintro e w5 ⟨rfl, j5, rfl⟩
      dsimp only
      go_wp2_with (go_quiet (fail))
      go_region
      go_wp2_with (go_quiet (fail))
      go_roundg (2 * un g (lowK { S' with low := lo } u (lo i)) + (P1 ++ [(u, f)]).length)
      case measure =>
       have h2 := hle.out
       rw [hpl] at h2
       have h3 : un g (lowK { S' with low := lo } u (lo i)) = un g S' := rfl
       rw [h3]
       simp [hm1]
       omega
      case rel =>
       refine ⟨_, cp, P1 ++ [(u, f)], T', d', _, by simp [hm1], ⟨hSl.out _, hp3.out, hfr'.out, hmono.out, Nat.le_refl _⟩⟩
def mOne : Value := .int .i64 (-1)
def zOne : Value := .int .i64 0
def fillL (n k : Nat) : List Value := List.replicate k mOne ++ List.replicate (n - k) zOne
theorem fill_len {n k : Nat} (h : k ≤ n) : (fillL n k).length = n := by simp [fillL]; omega
theorem fill_zero (n : Nat) : madeCells #[zOne] n = (fillL n 0).toArray := by
 apply Array.ext'
 simp [madeCells, fillL, Nat.mod_one]
 apply List.ext_getElem?
 intro i
 simp only [List.getElem?_replicate]
 by_cases h : i < n <;> simp [h]
theorem fill_full (n : Nat) : (fillL n n).toArray = rowI n fun _ => -1 := by
 apply Array.ext'
 simp [fillL, rowI, mOne]
 apply List.ext_getElem?
 intro i
 simp only [List.getElem?_replicate, List.getElem?_map]
 by_cases h : i < n <;> simp [h]
theorem fill_splice {n k j : Nat} (h : k + j ≤ n) : splice (fillL n k) k (List.replicate j mOne) = fillL n (k + j) := by
 unfold splice fillL
 have e1 : (List.replicate k mOne ++ List.replicate (n - k) zOne).take k = List.replicate k mOne := by
  rw [List.take_append_of_le_length (by simp)]; simp
 have e2 : (List.replicate k mOne ++ List.replicate (n - k) zOne).drop (k + (List.replicate j mOne).length) = List.replicate (n - (k + j)) zOne := by
  rw [List.drop_append]
  simp
  omega
 rw [e1, e2, ← List.append_assoc, List.replicate_append_replicate]
theorem fill_get {n k i : Nat} (h : i < k) : (fillL n k)[i]? = some mOne := by
 unfold fillL
 rw [List.getElem?_append_left (by simpa using h)]
 simp [h]
set_option maxRecDepth 512
theorem step_rep {ops : Array Oper} {o : Oper} {a : Act} {w w1 : World} {K : Act → World → Prop} {Q : Exit → Act → World → Prop} {E : Prop} (hgd : o.guard = none) (d s : Operand)
  (ho : o.op = .call { callee := .builtin .copy, args := #[d, s], argTypes := #[31, 31] }) {g j q jj : Nat} (hd : a.eval d = .slice (some ⟨g, j, none⟩) q q) (hs : a.eval s = .slice (some ⟨g, 0, none⟩) j (j + q))
  (hjj : jj = Nat.min j q) (hb : Blk w g 3 (fillL (j + q) j).toArray) (hB : Below g w1 w)
  (h : ∀ w', Blk w' g 3 (fillL (j + q) (j + jj)).toArray → Below g w1 w' → K (a.put o.dst (goInt jj)) w') :
  if Region.wanted o (yielded ops a.tmps) = true then Oper.wp Tryz.prog o a w K Q else E := by
 have hl : (List.replicate jj mOne).length = jj := by simp
 have h1 : jj ≤ j ∧ jj ≤ q := by rw [hjj]; simp only [Nat.min_def]; split <;> omega
 refine step_copy_splice hgd d s 31 31 ho 3 Tryz.underlying31 (by kernel_rfl) (some ⟨g, j, none⟩) (some ⟨g, 0, none⟩) q q j (j + q) hd hs g j (fillL (j + q) j) 3 hb (List.replicate jj mOne) (by rw [hl]; exact hjj) (fun _ => ⟨rfl, _, rfl, fun i v hv => ?_⟩) (by rw [fill_len (by omega), hl]; omega) (fun u hu => by rw [List.eq_of_mem_replicate hu]; rfl) g w1 hB (Nat.le_refl _) ?_
 ·have h2 : i < jj := by
   rcases Nat.lt_or_ge i jj with h | h
   ·exact h
   ·rw [List.getElem?_eq_none (by simpa using h)] at hv; cases hv
  have h3 := hb.cell_ (i := i) (v := mOne) (by simpa using fill_get (n := j + q) (show i < j by omega))
  rw [add_lit]
  have h4 : v = mOne := by rw [List.getElem?_replicate, if_pos h2] at hv; injection hv with hv; exact hv.symm
  rw [h4]; exact h3
 ·rw [hl]
  intro w' hg hbl
  have hg' := hg.out
  rw [fill_splice (by omega)] at hg'
  exact h w' hg' hbl
def RepRel (w : World) (n k : Nat) (wr : World) : Prop := Blk wr w.heap.size 3 (fillL n k).toArray ∧ Mod none_ w wr
set_option maxRecDepth 100000
theorem repeat_ok (w : World) (b : Nat) (d : Nat) (hb : w.cell? ⟨b, 0, none⟩ = some mOne) (n : Nat) (hn : n ≤ 1000000) :
  Calls Tryz.prog 229 #[.slice (some ⟨b, 0, none⟩) 1 d, .int .i64 (n : Int)] w fun e w' => e = .returned (.slice (some ⟨w.heap.size, 0, none⟩) n n) ∧ Blk w' w.heap.size 3 (rowI n fun _ => -1) ∧ Mod none_ w w' := by
 have km := zH (fun W => show Calls Tryz.prog 158 #[.int .u64 ((1 : Nat) : Int), .int .u64 (n : Int)] W (fun e w' => e = .returned (.tuple #[.int .u64 0, .int .u64 (n : Int)]) ∧ w' = W) from by
  have := Tryz.bits_Mul 1 n (by omega) (by omega) W
  rw [show 1 * n / 18446744073709551616 = 0 by omega, show 1 * n % 18446744073709551616 = n by omega] at this
  exact this)
 have hlt := World.block_lt_of_cell? w _ hb
 have hmk := fun W => make_run (P := Tryz.prog) W 31 3 (.int .i64 0) 8 n Tryz.underlying31 intinfo rfl (by omega) (by omega)
 have hw1 : IntKind.u64.wrap (n : Int) = (n : Int) := by rw [IntKind.wrap_u64]; omega
 have hw2 : IntKind.i64.wrap (n : Int) = (n : Int) := by rw [IntKind.wrap_i64]; omega
 have hsz : (Tryz.prog.info? 3).map (·.size) = some 1 := by kernel_rfl
 replace hb := zH hb
 go_enter Tryz.func229, Tryz.ntmps229
 go_wp2_with fail
 refine (km.out _).mono ?_
 rintro e w1 ⟨rfl, rfl⟩
 dsimp only
 obtain ⟨j0, hj0⟩ : ∃ j, j = Nat.min 1 n := ⟨_, rfl⟩
 have hj1 : j0 ≤ n ∧ j0 ≤ 1 ∧ (0 < n → 0 < j0) := by rw [hj0]; simp only [Nat.min_def]; split <;> omega
 have hone : ∀ j, ∀ u ∈ List.replicate j mOne, u.oneCell' = true := fun j u hu => by rw [List.eq_of_mem_replicate hu]; rfl
 have hblk : Hid (Blk (w1.alloc (.cells (madeCells #[.int .i64 0] n) 3)) w1.heap.size 3 (fillL n 0).toArray) := zH (by
  rw [← fill_zero]
  exact Blk.new w1 3 (madeCells #[.int .i64 0] n))
 have hbc : Hid ((w1.alloc (.cells (madeCells #[.int .i64 0] n) 3)).cell? ⟨b, 0, none⟩ = some mOne) := zH (((Mod.refl none_ w1).alloc _).cell_some hb.out (fun h => h))
 have hsrc : Hid (∀ (i : Nat) v, (List.replicate j0 mOne)[i]? = some v → (w1.alloc (.cells (madeCells #[.int .i64 0] n) 3)).cell? ((⟨b, 0, none⟩ : Addr).add i) = some v) := zH (fun i v hv => by
  have h1 : i < j0 := by
   rcases Nat.lt_or_ge i j0 with h | h
   ·exact h
   ·rw [List.getElem?_eq_none (by simpa using h)] at hv; cases hv
  have h2 : i = 0 := by omega
  subst h2
  rw [add_zero_, hbc.out, ← hv]
  simp [h1])
 have hB0 : Hid (Below w1.heap.size w1 (w1.alloc (.cells (madeCells #[.int .i64 0] n) 3))) := zH (Mod.below0 ((Mod.refl none_ w1).alloc _))
 have hj2 := hj1.1
 have hj3 := hj1.2.1
 have hj4 := hj1.2.2
 replace hj0 := zH hj0
 replace hj1 := zH hj1
 replace hone := zH hone
 replace hj4 := zH hj4
 go_wp2_with (show wpList _ _ _ (⟨some 33, _, _, _, _, _⟩ :: _) _ _; go_loud (refine wpList_copy_splice rfl (.tmp 31) (.tmp 32) 31 31 rfl 3 Tryz.underlying31 hsz (some ⟨w1.heap.size, 0, none⟩) (some ⟨b, 0, none⟩) n n 1 d rfl rfl w1.heap.size 0 (fillL n 0) 3 hblk.out (List.replicate j0 mOne) (by rw [List.length_replicate]; exact hj0.out) (fun _ => ⟨rfl, _, rfl, hsrc.out⟩) (by rw [fill_len (Nat.zero_le _)]; simp; omega) (hone.out _) w1.heap.size w1 hB0.out (Nat.le_refl _) ?_; rw [List.length_replicate]; intro w2 hg2 hbl2; replace hbl2 := zH hbl2))
 have hR2 : Hid (RepRel w1 n j0 w2) := zH ⟨by
  have h1 := hg2.out
  have h2 := fill_splice (n := n) (k := 0) (j := j0) (by omega)
  rw [h2, Nat.zero_add] at h1
  exact h1, Mod.of_below hbl2.out⟩
 clear hg2 hbl2 hB0 hsrc hbc hblk
 go_wp2_with fail
 go_loopg [8] (n) (fun k v wr => ∃ j : Nat, v = .int .i64 j ∧ j ≤ n ∧ (0 < n → 0 < j) ∧ RepRel w1 n j wr ∧ n ≤ j + k)
 case atStart => exact ⟨j0, rfl, hj2, hj4.out, hR2.out, by omega⟩
 case round =>
  obtain ⟨j, rfl, hjn, hjp, ⟨hblk, hm⟩, hk⟩ := hrel
  by_cases hlt : j < n
  ·have hj0' : 0 < j := hjp (by omega)
   obtain ⟨q, rfl⟩ : ∃ q, n = j + q := ⟨n - j, by omega⟩
   obtain ⟨jj, hjj⟩ : ∃ x, x = Nat.min j q := ⟨_, rfl⟩
   have hjj1 : jj ≤ j ∧ jj ≤ q ∧ 0 < jj := by rw [hjj]; simp only [Nat.min_def]; split <;> omega
   obtain ⟨c1, c2, c3⟩ := hjj1
   have hne : ¬ (q = 0) := by omega
   have hI : (j : Int) ≤ (j : Int) + (q : Int) := by omega
   have hwr : IntKind.i64.wrap ((j : Int) + (jj : Int)) = (j : Int) + (jj : Int) := by rw [IntKind.wrap_i64]; omega
   have hB0 : Hid (Below w1.heap.size w1 wr.drew) := zH (Mod.below0 hm.drew)
   have hbl : Hid (Blk wr.drew w1.heap.size 3 (fillL (j + q) j).toArray) := zH hblk.drew
   replace hjp := zH hjp
   replace hblk := zH hblk
   replace hm := zH hm
   replace hjj := zH hjj
   go_wp2_with fail
   go_region_law (refine step_rep (g := w1.heap.size) (j := j) (q := q) (jj := jj) (w1 := w1) (by rfl) (.tmp 41) (.tmp 44) (by rfl) (by simp [Act.eval, Act.put]) (by simp [Act.eval, Act.put]) hjj.out hbl.out hB0.out ?_; intro w2 hg2 hbl2; replace hg2 := zH hg2; replace hbl2 := zH hbl2)
   go_wp2_with fail
   simp only [Act.put]
   go_roundg (gk - 1)
   case measure => omega
   case rel => exact ⟨j + jj, by simp, by omega, by omega, ⟨hg2.out, Mod.of_below hbl2.out⟩, by omega⟩
  ·obtain rfl : j = n := by omega
   replace hjp := zH hjp
   replace hblk := zH hblk
   replace hm := zH hm
   go_wp2_with fail
   go_ret
   refine ⟨rfl, ?_, hm.out⟩
   rw [← fill_full]; exact hblk.out
structure Mk (w0 : World) (n : Nat) (x N L O K : Option Nat) (w : World) : Prop where
 fm : Mod none_ w0 w
 fx : ∀ b, x = some b → w.cell? ⟨b, 0, none⟩ = some mOne
 fN : ∀ b, N = some b → Blk w b 3 (rowI n fun _ => -1) ∧ w0.heap.size ≤ b
 fL : ∀ b, L = some b → Blk w b 3 (rowI n fun _ => 0) ∧ w0.heap.size ≤ b
 fO : ∀ b, O = some b → Blk w b 4 (rowT n fun _ => false) ∧ w0.heap.size ≤ b
 fK : ∀ b, K = some b → Blk w b 3 (rowI n fun _ => 0) ∧ w0.heap.size ≤ b
 nl : ∀ a b, N = some a → L = some b → a ≠ b
 nk : ∀ a b, N = some a → K = some b → a ≠ b
 lk : ∀ a b, L = some a → K = some b → a ≠ b
theorem Mk.zero (w0 : World) (n : Nat) : Mk w0 n none none none none none w0.drew :=
 ⟨(Mod.refl _ _).drew, fun b h => (by cases h), fun b h => (by cases h), fun b h => (by cases h), fun b h => (by cases h), fun b h => (by cases h), fun a b h => (by cases h), fun a b h => (by cases h), fun a b h => (by cases h)⟩
section
variable {w0 w w' : World} {n : Nat} {x N L O K : Option Nat}
theorem Mk.mod (h : Mk w0 n x N L O K w) (hm : Mod none_ w w') : Mk w0 n x N L O K w' :=
 ⟨h.fm.trans hm, fun b e => hm.cell_some (h.fx b e) (fun h => h), fun b e => ⟨(h.fN b e).1.mod hm (fun h => h), (h.fN b e).2⟩, fun b e => ⟨(h.fL b e).1.mod hm (fun h => h), (h.fL b e).2⟩, fun b e => ⟨(h.fO b e).1.mod hm (fun h => h), (h.fO b e).2⟩, fun b e => ⟨(h.fK b e).1.mod hm (fun h => h), (h.fK b e).2⟩, h.nl, h.nk, h.lk⟩
theorem Mk.setX (h : Mk w0 n none N L O K w) (hm : Mod none_ w w') (b : Nat) (hb : w'.cell? ⟨b, 0, none⟩ = some mOne) : Mk w0 n (some b) N L O K w' := by
 have k := h.mod hm
 exact ⟨k.fm, fun a e => by cases e; exact hb, k.fN, k.fL, k.fO, k.fK, k.nl, k.nk, k.lk⟩
theorem Mk.setN (h : Mk w0 n x none L O K w) (hm : Mod none_ w w') (b : Nat) (hb : Blk w' b 3 (rowI n fun _ => -1)) (hf : w.heap.size ≤ b) : Mk w0 n x (some b) L O K w' := by
 have k := h.mod hm
 exact ⟨k.fm, k.fx, fun a e => by cases e; exact ⟨hb, Nat.le_trans h.fm.size hf⟩, k.fL, k.fO, k.fK, fun a c e1 e2 => by cases e1; have := (h.fL c e2).1.lt; omega, fun a c e1 e2 => by cases e1; have := (h.fK c e2).1.lt; omega, k.lk⟩
theorem Mk.setL (h : Mk w0 n x N none O K w) (hm : Mod none_ w w') (b : Nat) (hb : Blk w' b 3 (rowI n fun _ => 0)) (hf : w.heap.size ≤ b) : Mk w0 n x N (some b) O K w' := by
 have k := h.mod hm
 exact ⟨k.fm, k.fx, k.fN, fun a e => by cases e; exact ⟨hb, Nat.le_trans h.fm.size hf⟩, k.fO, k.fK, fun a c e1 e2 => by cases e2; have := (h.fN a e1).1.lt; omega, k.nk, fun a c e1 e2 => by cases e1; have := (h.fK c e2).1.lt; omega⟩
theorem Mk.setO (h : Mk w0 n x N L none K w) (hm : Mod none_ w w') (b : Nat) (hb : Blk w' b 4 (rowT n fun _ => false)) (hf : w.heap.size ≤ b) : Mk w0 n x N L (some b) K w' := by
 have k := h.mod hm
 exact ⟨k.fm, k.fx, k.fN, k.fL, fun a e => by cases e; exact ⟨hb, Nat.le_trans h.fm.size hf⟩, k.fK, k.nl, k.nk, k.lk⟩
theorem Mk.setK (h : Mk w0 n x N L O none w) (hm : Mod none_ w w') (b : Nat) (hb : Blk w' b 3 (rowI n fun _ => 0)) (hf : w.heap.size ≤ b) : Mk w0 n x N L O (some b) w' := by
 have k := h.mod hm
 exact ⟨k.fm, k.fx, k.fN, k.fL, k.fO, fun a e => by cases e; exact ⟨hb, Nat.le_trans h.fm.size hf⟩, k.nl, fun a c e1 e2 => by cases e2; have := (h.fN a e1).1.lt; omega, fun a c e1 e2 => by cases e2; have := (h.fL a e1).1.lt; omega⟩
end
section
variable {ops : Array Oper} {o : Oper} {a : Act} {w w0 : World} {K' : Act → World → Prop} {Q : Exit → Act → World → Prop} {E : Prop} {n : Nat} {x N L O K : Option Nat}
theorem mk_build (h : Hid (Mk w0 n none N L O K w)) : Hid (Mk w0 n (some w.heap.size) N L O K (w.alloc (.cells #[.int .i64 (-1)] 3))) :=
 zH (h.out.setX ((Mod.refl _ w).alloc _) _ ((Blk.new w 3 #[mOne]).cell_ rfl))
def mkA (w : World) : Nat := w.heap.size
def mkI (n : Nat) (w : World) : World := w.alloc (.cells (madeCells #[.int .i64 0] n) 3)
def mkT (n : Nat) (w : World) : World := w.alloc (.cells (madeCells #[.bool false] n) 4)
theorem mkI_run (w : World) (hn : n ≤ 1000000) : (Instr.makeSlice 31 (.int .i64 (n : Int)) (.int .i64 (n : Int))).run Tryz.prog w = .ok (.slice (some ⟨mkA w, 0, none⟩) n n) (mkI n w) :=
 make_run (P := Tryz.prog) w 31 3 _ 8 n Tryz.underlying31 intinfo rfl (by omega) (by omega)
theorem mkT_run (w : World) (hn : n ≤ 1000000) : (Instr.makeSlice 168 (.int .i64 (n : Int)) (.int .i64 (n : Int))).run Tryz.prog w = .ok (.slice (some ⟨mkA w, 0, none⟩) n n) (mkT n w) :=
 make_run (P := Tryz.prog) w 168 4 _ 1 n Tryz.underlying168 boolinfo rfl (by omega) (by omega)
theorem mk_L (h : Hid (Mk w0 n x N none O K w)) : Hid (Mk w0 n x N (some (mkA w)) O K (mkI n w)) :=
 zH (h.out.setL ((Mod.refl _ w).alloc _) _ (by rw [← made_rowI]; exact Blk.new w _ _) (Nat.le_refl _))
theorem mk_K (h : Hid (Mk w0 n x N L O none w)) : Hid (Mk w0 n x N L O (some (mkA w)) (mkI n w)) :=
 zH (h.out.setK ((Mod.refl _ w).alloc _) _ (by rw [← made_rowI]; exact Blk.new w _ _) (Nat.le_refl _))
theorem mk_O (h : Hid (Mk w0 n x N L none K w)) : Hid (Mk w0 n x N L (some (mkA w)) K (mkT n w)) :=
 zH (h.out.setO ((Mod.refl _ w).alloc _) _ (by rw [← made_rowT]; exact Blk.new w _ _) (Nat.le_refl _))
theorem mk_swap (h : Hid (Mk w0 n x N L O K w)) : Hid (Mk w0 n x N K O L w) := by
 have k := h.out
 exact zH ⟨k.fm, k.fx, k.fN, k.fK, k.fO, k.fL, k.nk, k.nl, fun a b e1 e2 e => k.lk b a e2 e1 e.symm⟩
def MadeRel (w : World) (A : Option Addr) (n c : Nat) (f : Value) (W : World) : Prop :=
 ∃ B : Fin', f = .pointer (some ⟨B.p, 0, none⟩) ∧ Fin W B A n c none 0 S0 ∧ Mod none_ w W ∧ w.heap.size ≤ B.p ∧ w.heap.size ≤ B.N ∧ w.heap.size ≤ B.L ∧ w.heap.size ≤ B.O ∧ w.heap.size ≤ B.K
theorem made_ok {A : Option Addr} {c x N L O K : Nat} (h : Hid (Mk w0 n (some x) (some N) (some L) (some O) (some K) w)) :
  MadeRel w0 A n c (.pointer (some ⟨w.heap.size, 0, none⟩)) (w.alloc (.cells #[.slice A n c, .slice (some ⟨N, 0, none⟩) n n, .slice (some ⟨L, 0, none⟩) n n, .slice (some ⟨O, 0, none⟩) n n, .slice none 0 0, .slice (some ⟨K, 0, none⟩) n n, .int .i64 0] 311)) := by
 have k := h.out
 have h1 := k.fN N rfl
 have h2 := k.fL L rfl
 have h3 := k.fO O rfl
 have h4 := k.fK K rfl
 exact ⟨⟨w.heap.size, N, L, O, K⟩, rfl, ⟨Blk.new w _ _, h1.1.alloc _, h2.1.alloc _, h3.1.alloc _, h4.1.alloc _, Ow.nil _ _ _, k.nl _ _ rfl rfl, k.nk _ _ rfl rfl, k.lk _ _ rfl rfl, (fun ⟨a, ha, _⟩ => by cases ha), (fun ⟨a, ha, _⟩ => by cases ha), (fun ⟨a, ha, _⟩ => by cases ha)⟩, k.fm.alloc _, k.fm.size, h1.2, h2.2, h3.2, h4.2⟩
theorem repeat_mk {b : Nat} (h : Hid (Mk w0 n (some b) none L O K w)) (hn : n ≤ 1000000) : Calls Tryz.prog 229 #[.slice (some ⟨b, 0, none⟩) 1 1, .int .i64 (n : Int)] w fun e w' => ∃ r, e = .returned (.slice (some ⟨r, 0, none⟩) n n) ∧ Hid (Mk w0 n (some b) (some r) L O K w') := by
 refine (repeat_ok w b 1 (h.out.fx b rfl) n hn).mono ?_
 rintro e w' ⟨rfl, hb, hm⟩
 exact ⟨_, rfl, zH (h.out.setN hm _ hb (Nat.le_refl _))⟩
end
def NumPost (g : List (List Int)) (w : World) (n : Nat) (e : Ending) (w' : World) : Prop := ∃ K lab m, e = .returned (.tuple #[.slice (some ⟨K, 0, none⟩) n n, .int .i64 (m : Nat)]) ∧ Blk w' K 3 (rowI n lab) ∧ Lab g lab m ∧ m ≤ n ∧ Mod none_ w w'
set_option maxRecDepth 100000
theorem numbers_ok (w : World) (A : Option Addr) (n c : Nat) (ss : List SV) (g : List (List Int)) (hg : RdG w A n ss g) (hn : n ≤ 1000000) :
  Calls Tryz.prog 209 #[.slice A n c] w (NumPost g w n) := by
 have h0 := zH (Mk.zero w n)
 have hI := fun W => mkI_run (n := n) W hn
 have hT := fun W => mkT_run (n := n) W hn
 have h00 : Hid (Mk w n (some w.heap.size) none none none none (w.alloc (.cells #[.int .i64 (-1)] 3)).drew) := mk_build h0
 replace hg := zH hg
 go_enter Tryz.func209, Tryz.ntmps209
 go_wp2_with fail
 go_cut [4] from 7 to 22 (fun f W => MadeRel w A n c f W)
 case first =>
  go_region_law (go_simp; go_at_call 229; refine (repeat_mk (by repeat (first | assumption | with_reducible apply mk_build | with_reducible apply mk_L | with_reducible apply mk_K | with_reducible apply mk_O)) hn).mono ?_; rintro e W ⟨r, rfl, hr⟩)
  all_goals
   go_wp2_with fail
   go_meet
   case rel => exact made_ok (by repeat (first | assumption | exact mk_swap (by assumption) | with_reducible apply mk_build | with_reducible apply mk_L | with_reducible apply mk_K | with_reducible apply mk_O))
 case rest =>
  obtain ⟨B, rfl, hF, hm, hB1, hB2, hB3, hB4, hB5⟩ := hcut
  have hqs := hm.size
  have hZ : Scn.Ok ⟨w, B, A, n, c, wc.heap.size⟩ := ⟨hB1, hB2, hB3, hB4, hB5, hqs, by have := hF.num.lt; dsimp only; omega, by have := hF.low.lt; dsimp only; omega, by have := hF.knot.lt; dsimp only; omega⟩
  have hI0 : Idle ⟨w, B, A, n, c, wc.heap.size⟩ g (wc.alloc (.cells #[.int .i64 0] 3)) none 0 S0 := by
   refine ⟨⟨hF.mod0 ((Mod.refl none_ wc).alloc _), ?_, (fun ⟨a, ha, _⟩ => by cases ha), hm.alloc _, (fun a ha => by cases ha), Ow.nil _ _ _, (fun a ha => by cases ha)⟩, SP.zero g⟩
   exact Blk.new wc 3 #[.int .i64 0]
  have hgl := hg.out.len
  have kS := zH (fun W T d S (hI : Idle ⟨w, B, A, n, c, wc.heap.size⟩ g W T d S) (fr : Nat) (hfr : fr < n) (hfn : S.num fr = -1) => search_ok ⟨w, B, A, n, c, wc.heap.size⟩ hZ g ss hg.out hn W T d S hI fr hfr hfn)
  dsimp only at kS
  replace hF := zH hF
  replace hm := zH hm
  replace hZ := zH hZ
  replace hI0 := zH hI0
  replace hgl := zH hgl
  go_wp2_with fail
  go_loopg [6, 25] n (fun k s6 v wr => ∃ i : Nat, v = .int .i64 i ∧ i + k = n ∧ ∃ T d S, Idle ⟨w, B, A, n, c, wc.heap.size⟩ g wr T d S ∧ ∀ v, v < i → S.num v ≠ -1)
  case atStart => exact ⟨0, rfl, by omega, none, 0, S0, hI0.out, fun v h => absurd h (Nat.not_lt_zero v)⟩
  case round =>
   obtain ⟨i, rfl, hik, T, d, S, hI, hdone⟩ := hrel
   have hin : i ≤ n := by omega
   have x1 := hI.sch.fin.blk.cell_ (i := 1) rfl
   have x5 := hI.sch.fin.blk.cell_ (i := 5) rfl
   have xq := hI.sch.qb.cell_ (i := 0) rfl
   have hid : S.id ≤ n := by have := hI.sp.idc; have := hI.sp.few; rw [hgl.out] at this; omega
   dsimp only at x1 x5 xq
   by_cases hlt : i < n
   ·have xn := hI.sch.fin.num.cell_ (rowI_get _ hlt)
    dsimp only at xn
    by_cases hn1 : S.num i = -1
    ·have hd : (S.num i == -1) = true := by simp [hn1]
     have kS' := zH (kS.out wr T d S hI i hlt hn1)
     generalize S.num i = ni at *
     replace hI := zH hI
     replace hdone := zH hdone
     replace hn1 := zH hn1
     go_wp2_with fail
     with_reducible refine kS'.out.mono ?_
     rintro e w2 ⟨rfl, T2, d2, S2, hI2, hn2, hmo⟩
     dsimp only
     go_wp2_with fail
     go_roundg (gk - 1)
     case measure => omega
     case rel =>
      refine ⟨i + 1, by go_num, by omega, T2, d2, S2, hI2, fun v hv => ?_⟩
      by_cases e : v = i
      ·subst e; exact hn2
      ·exact hmo v (hdone.out v (by omega))
    ·have hd : (S.num i == -1) = false := by simpa using hn1
     have hnx : Hid (∀ v, v < i + 1 → S.num v ≠ -1) := zH (fun v hv => by
      by_cases e : v = i
      ·subst e; exact hn1
      ·exact hdone v (by omega))
     generalize S.num i = ni at *
     replace hI := zH hI
     replace hdone := zH hdone
     replace hn1 := zH hn1
     go_wp2_with fail
     go_roundg (gk - 1)
     case measure => omega
     case rel => exact ⟨i + 1, by go_num, by omega, T, d, S, hI.out, hnx.out⟩
   ·obtain rfl : i = n := by omega
    have hL := core_lab hI.sp.core (fun v hv => hdone v (by rw [hgl.out] at hv; exact hv))
    replace hI := zH hI
    replace hdone := zH hdone
    replace hL := zH hL
    go_wp2_with (go_quiet (fail))
    go_ret2
    exact ⟨B.K, S.knot, S.id, rfl, hI.out.sch.fin.knot.mod ((Mod.refl none_ wr).drewN _) (fun h => h), hL.out, hid, hI.out.sch.m0.drewN _⟩
end Go.Proofs.YtfkfiokkjjnhiaaGreat.Kn
