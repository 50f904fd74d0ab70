/-
  DiskRoom: the walk: for every room and every script the law returns true and writes nothing that was there. No condition.
-/
import Derived.Test.YtnemlmhmemndhaaEarly
namespace Go.Proofs.Ytnemlmhmemndhaa
set_option linter.unusedVariables false
open Go.RowKit

theorem Ow.ne_ow {w : World} {e e' : TypeId} {s s' n n' c c' : Nat} {A A' : Option Addr} {xs xs' : List Value} (h : Ow w e s A n c xs) (h' : Ow w e' s' A' n' c' xs') (hne : e ≠ e') : ∀ k, fp A k → ¬ fp A' k := by
  rintro k ⟨a, ha, rfl⟩ ⟨b, hb, hab⟩
  rcases h.2.2.2 with ⟨h4, _⟩ | ⟨g, cur, h4, hg, _⟩
  · rw [h4] at ha; cases ha
  · rw [h4] at ha; cases ha
    rcases h'.2.2.2 with ⟨h4, _⟩ | ⟨g', cur', h4, hg', _⟩
    · rw [h4] at hb; cases hb
    · rw [h4] at hb; cases hb
      simp only at hab
      subst hab
      exact hg.ne_ hg' hne rfl

/-- The cut script, in memory of the call's own; its steps' slices lie below B0. -/
def Own5 (w : World) (B0 : Nat) (A : Option Addr) (n c : Nat) (es : List OpE) : Prop :=
  Ow w 30 5 A n c (es.flatMap OpE.cells) ∧ ∀ e ∈ es, e.ok w B0
/-- A step's cells. -/
structure C5 (w : World) (g q : Nat) (e : OpE) : Prop where
  c0 : w.cell? ⟨g, q, none⟩ = some (.int .i64 e.o.k)
  c1 : w.cell? ⟨g, q + 1, none⟩ = some (.int .i64 e.o.n)
  c2 : w.cell? ⟨g, q + 2, none⟩ = some (.slice e.B.a e.B.n e.B.c)
  c3 : w.cell? ⟨g, q + 3, none⟩ = some (.slice e.T.a e.T.n e.T.c)
  c4 : w.cell? ⟨g, q + 4, none⟩ = some (.slice e.Y.a e.Y.n e.Y.c)
theorem C5.mod {F : Nat → Prop} {w w' : World} {g q : Nat} {e : OpE} (h : C5 w g q e) (hm : Mod F w w') (hF : ¬ F g) : C5 w' g q e :=
  ⟨hm.cell_some h.c0 hF, hm.cell_some h.c1 hF, hm.cell_some h.c2 hF, hm.cell_some h.c3 hF, hm.cell_some h.c4 hF⟩
section
variable {w w' : World} {B0 : Nat} {A : Option Addr} {n c : Nat} {es : List OpE}
theorem Own5.len (h : Own5 w B0 A n c es) : es.length = n := by
  have := h.1.1
  rw [flat_length _ 5 OpE.cells_len] at this
  omega
theorem Own5.mod {F : Nat → Prop} (h : Own5 w B0 A n c es) (hm : Mod F w w') (hF : ∀ k, F k → B0 ≤ k) (hA : ∀ k, fp A k → ¬ F k) : Own5 w' B0 A n c es :=
  ⟨h.1.mod hm hA, fun e he => (h.2 e he).mod hm hF⟩
theorem Own5.at_ (h : Own5 w B0 A n c es) {j : Nat} (hj : j < n) : ∃ g e, A = some ⟨g, 0, none⟩ ∧ es[j]? = some e ∧ e.ok w B0 ∧ C5 w g (j * 5) e := by
  obtain ⟨g, cur, hA, _⟩ := h.1.form (by omega)
  have hj' : j < es.length := by rw [h.len]; exact hj
  have hc : ∀ i, i < 5 → w.cell? ⟨g, j * 5 + i, none⟩ = (es[j]).cells[i]? := fun i hi => by
    rw [h.1.cell_ hA _ (by omega), flat_get OpE.cells 5 OpE.cells_len es j _ (List.getElem?_eq_getElem hj') i hi]
  exact ⟨g, es[j], hA, List.getElem?_eq_getElem hj', h.2 _ (List.getElem_mem hj'), ⟨hc 0 (by omega), hc 1 (by omega), hc 2 (by omega), hc 3 (by omega), hc 4 (by omega)⟩⟩
theorem Own5.of_early {w0 : World} {es : List OpE} {m : Nat} {v : Value} (hr : EarlyRel w0 es m v w) (hs : ∀ e ∈ es, e.ok w0 w0.heap.size) : ∃ A c, v = .slice A m c ∧ Own5 w w0.heap.size A m c ((es.take m).map OpE.cut) ∧ (∀ k, fp A k → w0.heap.size ≤ k) ∧ Mod none_ w0 w ∧ m ≤ 100 := by
  obtain ⟨A, c, rfl, ho, hA, hm, hj⟩ := hr
  refine ⟨A, c, rfl, ⟨ho, fun e he => ?_⟩, hA, hm, hj⟩
  rw [List.mem_map] at he
  obtain ⟨e', he', rfl⟩ := he
  exact OpE.ok_cut ((hs e' (List.mem_of_mem_take he')).mod0 hm)
end

/-- A disk and a script of the call's own. -/
structure DS2 (w0 wr : World) (p : Nat) (A : Option Addr) (D : DS) (SA : Option Addr) (m sc : Nat) (es : List OpE) : Prop where
  dk : ∃ c, Dk wr p A c D
  hp : w0.heap.size ≤ p
  hA : ∀ k, fp A k → w0.heap.size ≤ k
  scr : Own5 wr w0.heap.size SA m sc es
  mod : Mod none_ w0 wr
theorem DS2.mod0 {w0 wr w' : World} {p : Nat} {A : Option Addr} {D : DS} {SA : Option Addr} {m sc : Nat} {es : List OpE} (h : DS2 w0 wr p A D SA m sc es) (hm : Mod none_ wr w') : DS2 w0 w' p A D SA m sc es :=
  ⟨let ⟨c, h1⟩ := h.dk; ⟨c, h1.mod0 hm⟩, h.hp, h.hA, h.scr.mod hm (fun _ hf => hf.elim) (fun _ _ hf => hf), h.mod.trans hm⟩
theorem DS2.notin {w0 wr : World} {p : Nat} {A : Option Addr} {D : DS} {SA : Option Addr} {m sc : Nat} {es : List OpE} (h : DS2 w0 wr p A D SA m sc es) : ∀ k, fp SA k → ¬ dkf p A k := by
  obtain ⟨c, h1⟩ := h.dk
  rintro k hk (rfl | hf)
  · exact h.scr.1.ne_blk h1.1 (by decide) hk
  · exact h.scr.1.ne_ow h1.2.1 (by decide) k hk hf
theorem DS2.post {w0 wr w' : World} {p : Nat} {A : Option Addr} {D D' : DS} {SA : Option Addr} {m sc : Nat} {es : List OpE} (h : DS2 w0 wr p A D SA m sc es) (hd : DPost wr p A D' w') : ∃ A', DS2 w0 w' p A' D' SA m sc es ∧ Mod (dkf p A) wr w' := by
  obtain ⟨A', hc, hn, hm⟩ := hd
  have hF : ∀ k, dkf p A k → w0.heap.size ≤ k := by
    rintro k (rfl | hk)
    · exact h.hp
    · exact h.hA k hk
  exact ⟨A', ⟨hc, h.hp, nw_dkf hn h.hA h.mod.size, h.scr.mod hm hF h.notin, mod_up h.mod hm h.hp h.hA⟩, hm⟩

theorem step_room (D : DS) (o : OpM) : (D.step o).room = D.room := by
  unfold DS.step
  split
  · split <;> rfl
  · split
    · split <;> rfl
    · split
      · split <;> rfl
      · split <;> rfl

def RoomRel (w0 : World) (p : Nat) (SA : Option Addr) (m sc : Nat) (es : List OpE) (r : Nat) (wr : World) : Prop :=
  ∃ A D, DS2 w0 wr p A D SA m sc es ∧ D.room = r

theorem step0 (D : DS) (o : OpM) (hk : kd o.k = 0) :
    (D.broken = true → (D.step o).bytes.length = D.bytes.length ∧ D.err o = 14) ∧
    (D.broken = false → D.room < D.bytes.length + o.b.length → (D.step o).bytes.length = D.bytes.length ∧ D.err o = 5) ∧
    (D.broken = false → D.bytes.length + o.b.length ≤ D.room → (D.step o).bytes.length = D.bytes.length + o.b.length ∧ D.err o = 0) := by
  refine ⟨fun hb => ?_, fun hb hr => ?_, fun hb hr => ?_⟩
  · simp [DS.step, DS.err, hk, hb]
  · simp [DS.step, DS.err, hk, hb, hr]
  · simp [DS.step, DS.err, hk, hb, Nat.not_lt.2 hr]

set_option maxHeartbeats 2000000 in
set_option maxRecDepth 100000 in
theorem room_walk (w : World) (room : Int) (A : Option Addr) (n d : Nat) (es : List OpE) (h : Scr w w.heap.size A n es) (hn : n ≤ d) (hd : d ≤ 140737488351232) :
    Calls Try.prog 4 #[.int .i64 room, .slice A n d] w fun e w' => e = .returned (.bool true) ∧ Below w.heap.size w w' := by
  have H := Lib.hid h
  clear h
  obtain ⟨r, hr⟩ : ∃ r : Nat, r = (min (max room 0) 65536).toNat := ⟨_, rfl⟩
  have hr1 : r ≤ 65536 := by omega
  have hr2 : min (max room 0) 65536 = (r : Int) := by omega
  have Hr := Lib.hid hr
  clear hr
  go_enter Try.func4, Try.ntmps4
  go_wp2_with fail
  refine (lives_ok _).mono ?_
  rintro e w1 ⟨rfl, hm1⟩
  replace hm1 := Lib.hid hm1
  go_wp2_with fail
  refine (disk_new room _).mono ?_
  rintro e w2 ⟨rfl, hd2, hm2⟩
  rw [← Hr.out] at hd2
  replace hd2 := Lib.hid hd2
  have hm2 := Lib.hid (hm1.out.trans hm2)
  have hpw : w.heap.size ≤ w1.heap.size := hm1.out.size
  go_wp2_with fail
  refine (early_ok _ A n d es w.heap.size (H.out.mod0 hm2.out) hn hd).mono ?_
  rintro e w3 ⟨v, rfl, hE⟩
  have hst : ∃ sc SA, v = .slice SA (min n 100) sc ∧ RoomRel w w1.heap.size SA (min n 100) sc ((es.take (min n 100)).map OpE.cut) r w3 := by
    obtain ⟨SA, sc, hv, ho, hA, hm, _⟩ := hE
    refine ⟨sc, SA, hv, none, _, ⟨⟨0, hd2.out.mod0 hm⟩, hpw, (fun k hk => by obtain ⟨a, ha, _⟩ := hk; cases ha), ⟨ho, fun e he => ?_⟩, hm2.out.trans hm⟩, rfl⟩
    rw [List.mem_map] at he
    obtain ⟨e', he', rfl⟩ := he
    exact OpE.ok_cut ((H.out.2 e' (List.mem_of_mem_take he')).mod0 (hm2.out.trans hm))
  obtain ⟨sc, SA, rfl, hst⟩ := hst
  have hml : min n 100 ≤ 100 := Nat.min_le_right _ _
  generalize min n 100 = m at hst hml ⊢
  generalize (es.take m).map OpE.cut = fs at hst
  replace hst := Lib.hid hst
  clear hE
  go_wp2_with fail
  go_loopw [6] (fun i wr => ∃ j : Nat, i = .int .i64 j ∧ j ≤ m ∧ RoomRel w w1.heap.size SA m sc fs r wr) (fun i _ => m - (intOf i).toNat)
  case atStart => exact ⟨0, rfl, Nat.zero_le _, hst.out⟩
  case round =>
    obtain ⟨j, rfl, hj, AD, D, hds, hroom⟩ := hrel
    by_cases hlt : j < m
    · obtain ⟨g, e, rfl, hej, hok, hc5⟩ := hds.scr.at_ hlt
      obtain ⟨dc, hdk⟩ := hds.dk
      have hfit := hdk.2.2
      obtain ⟨hf1, hf2, hf3⟩ := hfit
      replace hds := Lib.hid hds
      replace hdk := Lib.hid hdk
      replace hok := Lib.hid hok
      replace hc5 := Lib.hid hc5
      replace hej := Lib.hid hej
      replace hroom := Lib.hid hroom
      go_wp2_with fail
      refine (disk_bytes _ _ _ _ _ hdk.out).mono ?_
      rintro e4 w4 ⟨B4, b4, rfl, hb4, hf4, hm4⟩
      clear hb4 hf4
      have hds4 := Lib.hid (hds.out.mod0 hm4)
      have hdk4 := Lib.hid (hdk.out.mod0 hm4)
      have hok4 := Lib.hid (hok.out.mod0 hm4)
      obtain ⟨k0, k1, k2, k3, k4⟩ := hc5.out.mod hm4 (fun hf => hf)
      clear hm4
      go_wp2_with fail
      refine (disk_broken _ _ _ hdk4.out.c3).mono ?_
      rintro e4' w4' ⟨rfl, rfl⟩
      go_wp2_with fail
      refine (does_any _ _ _ _ w.heap.size e.B e.T e.Y e.o D hdk4.out hok4.out).mono ?_
      rintro e5 w5 ⟨rfl, hpost⟩
      obtain ⟨A5, hds5, hm5⟩ := hds4.out.post hpost
      obtain ⟨c5, hdk5⟩ := hds5.dk
      obtain ⟨k0', k1', k2', k3', k4'⟩ := C5.mod ⟨k0, k1, k2, k3, k4⟩ hm5 (hds4.out.notin g ⟨_, rfl, rfl⟩)
      clear k0 k1 k2 k3 k4 hpost hm5
      replace hds5 := Lib.hid hds5
      have hr5 : (D.step e.o).room = r := (step_room D e.o).trans hroom.out
      have hl5 : (D.step e.o).bytes.length ≤ r := by have := hdk5.2.2.2.1; omega
      replace hdk5 := Lib.hid hdk5
      replace hr5 := Lib.hid hr5
      go_wp2_with fail
      refine (disk_bytes _ _ _ _ _ hdk5.out).mono ?_
      rintro e6 w6 ⟨B6, b6, rfl, hb6, hf6, hm6⟩
      clear hb6 hf6
      have hds6 := Lib.hid (hds5.out.mod0 hm6)
      have hdk6 := Lib.hid (hdk5.out.mod0 hm6)
      obtain ⟨k0, k1, k2, k3, k4⟩ := C5.mod ⟨k0', k1', k2', k3', k4'⟩ hm6 (fun hf => hf)
      clear k0' k1' k2' k3' k4' hm6
      generalize hD' : D.step e.o = D' at *
      have hD' := Lib.hid hD'
      have hst := step0 D e.o
      rw [hD'.out] at hst
      replace hst := Lib.hid hst
      have hbl := (hok.out.b.len).symm
      replace hbl := Lib.hid hbl
      have hnext : RoomRel w w1.heap.size (some ⟨g, 0, none⟩) m sc fs r w6 := ⟨A5, D', hds6.out, hr5.out⟩
      have hc6 := hdk6.out.c0
      have hc62 := hdk6.out.c2
      rw [hr5.out] at hc62
      replace hnext := Lib.hid hnext
      go_wp2_with fail
      refine (disk_room _ _ _ _ _ _ hc6 hc62 hr1 hl5).mono ?_
      rintro e7 w7 ⟨rfl, q7, rfl⟩
      clear hc6 hc62
      by_cases hk : kd e.o.k = 0
      · replace hk := Lib.hid hk
        go_wp2_with fail
        refine (op_kind e.o e.B e.T e.Y 0 hk.out _).mono ?_
        rintro e8 w8 ⟨rfl, hm8⟩
        obtain ⟨y0, y1, y2, y3, y4⟩ := C5.mod (w := w6.drewN q7) ⟨k0, k1, k2, k3, k4⟩ hm8 (fun hf => hf)
        replace hnext : Hid (RoomRel w w1.heap.size (some ⟨g, 0, none⟩) m sc fs r w8) := ⟨A5, D', hds6.out.mod0 (((Mod.refl _ w6).drewN q7).trans hm8), hr5.out⟩
        obtain ⟨s1, s2, s3⟩ := hst.out hk.out
        rw [← hbl.out] at s2 s3
        rw [hroom.out] at s2 s3
        replace s1 := Lib.hid s1
        replace s2 := Lib.hid s2
        replace s3 := Lib.hid s3
        clear hm8 k0 k1 k2 k3 k4
        have hlB : D.bytes.length ≤ r := by rw [← hroom.out]; exact hf2
        have hBn : e.B.n ≤ 140737488351232 := Nat.le_trans hok.out.nb.1 hok.out.nb.2
        clear hf1 hf2 hf3
        rcases hbr : D.broken with _ | _
        · by_cases hfit : D.bytes.length + e.B.n ≤ r
          · obtain ⟨t1, t2⟩ := s3.out hbr hfit
            rw [t1, t2]
            clear t1 t2 hbr
            go_wp2
            go_roundw
            case rel => exact ⟨j + 1, by go_num, by omega, hnext.out⟩
            case measure => simp [intOf]; omega
          · obtain ⟨t1, t2⟩ := s2.out hbr (by omega)
            rw [t1, t2]
            clear t1 t2 hbr
            go_wp2
            go_roundw
            case rel => exact ⟨j + 1, by go_num, by omega, hnext.out⟩
            case measure => simp [intOf]; omega
        · obtain ⟨t1, t2⟩ := s1.out hbr
          rw [t1, t2]
          clear t1 t2 hbr
          by_cases hfit : D.bytes.length + e.B.n ≤ r
          · go_wp2
            go_roundw
            case rel => exact ⟨j + 1, by go_num, by omega, hnext.out⟩
            case measure => simp [intOf]; omega
          · go_wp2
            go_roundw
            case rel => exact ⟨j + 1, by go_num, by omega, hnext.out⟩
            case measure => simp [intOf]; omega
      · have hk1 : (kd e.o.k != 0) = true := by simpa using hk
        have hk2 := kd_lt e.o.k
        replace hk := Lib.hid hk
        go_wp2_with fail
        refine (op_kind e.o e.B e.T e.Y _ rfl _).mono ?_
        rintro e8 w8 ⟨rfl, hm8⟩
        replace hnext : Hid (RoomRel w w1.heap.size (some ⟨g, 0, none⟩) m sc fs r w8) := ⟨A5, D', hds6.out.mod0 (((Mod.refl _ w6).drewN q7).trans hm8), hr5.out⟩
        clear hm8
        go_wp2
        go_roundw
        case rel => exact ⟨j + 1, by go_num, by omega, hnext.out⟩
        case measure => simp [intOf]; omega
    · go_wp2
      go_ret
      obtain ⟨c, h1⟩ := hds.dk
      exact ⟨rfl, hds.mod.below0⟩
end Go.Proofs.Ytnemlmhmemndhaa
