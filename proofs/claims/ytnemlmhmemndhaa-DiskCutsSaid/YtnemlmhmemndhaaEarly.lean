/-
  The contract of 'early': the first steps of a script, cut short. No condition.
-/
import Derived.Test.YtnemlmhmemndhaaLives
import Derived.Lib.MinMax
namespace Go.Proofs.Ytnemlmhmemndhaa
set_option linter.unusedVariables false
open Go.RowKit

theorem flat_length {α : Type} (f : α → List Value) (size : Nat) (hf : ∀ e, (f e).length = size) (es : List α) : (es.flatMap f).length = es.length * size := by
  induction es with
  | nil => simp
  | cons e es ih => rw [List.flatMap_cons, List.length_append, ih, hf, List.length_cons, Nat.succ_mul]; omega
theorem flat_get {α : Type} (f : α → List Value) (size : Nat) (hf : ∀ e, (f e).length = size) : ∀ (es : List α) (j : Nat) (e : α), es[j]? = some e → ∀ i, i < size → (es.flatMap f)[j * size + i]? = (f e)[i]? := by
  intro es
  induction es with
  | nil => intro j e h; simp at h
  | cons x es ih =>
    intro j e h i hi
    cases j with
    | zero =>
      simp at h; subst h
      rw [List.flatMap_cons, List.getElem?_append_left (by rw [hf]; omega)]
      simp
    | succ j =>
      rw [List.flatMap_cons, List.getElem?_append_right (by rw [hf, Nat.succ_mul]; omega), hf]
      have e1 : (j + 1) * size + i - size = j * size + i := by rw [Nat.succ_mul]; omega
      rw [e1]
      exact ih j e (by simpa using h) i hi

/-- A step with its slices. -/
structure OpE where
  o : OpM
  B : SV
  T : SV
  Y : SV
def OpE.cells (e : OpE) : List Value := (opCells e.o e.B e.T e.Y).toList
def OpE.ok (w : World) (Bd : Nat) (e : OpE) : Prop := OpAt w Bd e.B e.T e.Y e.o
/-- A script in memory. -/
def Scr (w : World) (Bd : Nat) (A : Option Addr) (n : Nat) (es : List OpE) : Prop :=
  Rd w 5 A n (es.flatMap OpE.cells) ∧ ∀ e ∈ es, e.ok w Bd
theorem OpE.cells_len (e : OpE) : e.cells.length = 5 := rfl
theorem Scr.len {w : World} {Bd : Nat} {A : Option Addr} {n : Nat} {es : List OpE} (h : Scr w Bd A n es) : es.length = n := by
  have := h.1.1
  rw [flat_length _ 5 OpE.cells_len] at this
  omega
theorem Scr.mod {F : Nat → Prop} {w w' : World} {Bd : Nat} {A : Option Addr} {n : Nat} {es : List OpE} (h : Scr w Bd A n es) (hm : Mod F w w') (hF : ∀ k, F k → Bd ≤ k) (hA : ∀ k, fp A k → ¬ F k) : Scr w' Bd A n es :=
  ⟨h.1.mod hm hA, fun e he => (h.2 e he).mod hm hF⟩
theorem Scr.mod0 {w w' : World} {Bd : Nat} {A : Option Addr} {n : Nat} {es : List OpE} (h : Scr w Bd A n es) (hm : Mod none_ w w') : Scr w' Bd A n es :=
  h.mod hm (fun _ hf => hf.elim) (fun _ _ hf => hf)
theorem Scr.at_ {w : World} {Bd : Nat} {A : Option Addr} {n : Nat} {es : List OpE} (h : Scr w Bd A n es) {j : Nat} (hj : j < n) :
    ∃ b o e, A = some ⟨b, o, none⟩ ∧ es[j]? = some e ∧ e.ok w Bd ∧ ∀ i, i < 5 → w.cell? ⟨b, o + j * 5 + i, none⟩ = e.cells[i]? := by
  obtain ⟨b, o, rfl, hc⟩ := h.1.form (by omega) (by omega)
  have hj' : j < es.length := by rw [h.len]; exact hj
  refine ⟨b, o, es[j], rfl, List.getElem?_eq_getElem hj', h.2 _ (List.getElem_mem hj'), fun i hi => ?_⟩
  have h1 := flat_get OpE.cells 5 OpE.cells_len es j _ (List.getElem?_eq_getElem hj') i hi
  have h2 : (es[j].cells)[i]? = some (es[j].cells[i]'(by rw [OpE.cells_len]; omega)) := List.getElem?_eq_getElem _
  rw [h2] at h1 ⊢
  rw [Nat.add_assoc]
  exact hc _ _ h1

def SV.cut (s : SV) (k : Nat) : SV := ⟨s.a, min s.n k, s.c⟩
def OpM.cut (o : OpM) : OpM := ⟨o.k, o.n, o.b.take 60, o.at_.take 20, o.by_.take 20⟩
def OpE.cut (e : OpE) : OpE := ⟨e.o.cut, e.B.cut 60, e.T.cut 20, e.Y.cut 20⟩
theorem take_min {α : Type} (l : List α) (n k : Nat) (h : l.length = n) : l.take (min n k) = l.take k := by
  rcases Nat.le_total n k with h1 | h1
  · rw [Nat.min_eq_left h1, List.take_of_length_le (by omega), List.take_of_length_le (by omega)]
  · rw [Nat.min_eq_right h1]
theorem OpE.ok_cut {w : World} {Bd : Nat} {e : OpE} (h : e.ok w Bd) : e.cut.ok w Bd := by
  refine ⟨?_, ?_, ?_, fun h0 => h.lb (Nat.lt_of_lt_of_le h0 (Nat.min_le_left _ _)), fun h0 => h.lt (Nat.lt_of_lt_of_le h0 (Nat.min_le_left _ _)), fun h0 => h.ly (Nat.lt_of_lt_of_le h0 (Nat.min_le_left _ _)), ?_, ?_, ?_⟩
  · have := h.b.take_ (k := min e.B.n 60) (Nat.min_le_left _ _)
    show Rd w 1 e.B.a (min e.B.n 60) (bvs (e.o.b.take 60))
    rw [Nat.mul_one, ← bvs_take, take_min _ _ _ h.b.len] at this
    exact this
  · have := h.t.take_ (k := min e.T.n 20) (Nat.min_le_left _ _)
    show Rd w 1 e.T.a (min e.T.n 20) (ivs (e.o.at_.take 20))
    rw [Nat.mul_one, ivs, ← List.map_take, take_min _ _ _ (by have := h.t.1; rw [ivs_length] at this; omega)] at this
    exact this
  · have := h.y.take_ (k := min e.Y.n 20) (Nat.min_le_left _ _)
    show Rd w 1 e.Y.a (min e.Y.n 20) (bvs (e.o.by_.take 20))
    rw [Nat.mul_one, ← bvs_take, take_min _ _ _ h.y.len] at this
    exact this
  · have := h.nb; exact ⟨Nat.le_trans (Nat.min_le_left _ _) this.1, this.2⟩
  · have := h.nt; exact ⟨Nat.le_trans (Nat.min_le_left _ _) this.1, this.2⟩
  · have := h.ny; exact ⟨Nat.le_trans (Nat.min_le_left _ _) this.1, this.2⟩

theorem rd_new' (w : World) (e : TypeId) (size n g : Nat) (cs : Array Value) (fr : Nat × Nat) (hg : g = w.heap.size) (hs : cs.size = n * size) : Rd (w.alloc (.cells cs e fr)) size (some ⟨g, 0, none⟩) n cs.toList := by
  subst hg
  exact rd_new w e size n cs fr hs
theorem minNat (n k : Nat) : (min (n : Int) (k : Int)).toNat = min n k := by omega

theorem opinfo : (Try.prog.info? 30).map (fun i => (i.zero, i.size, i.bytes)) = some (some (.agg #[.int .i64 0, .int .i64 0, .slice none 0 0, .slice none 0 0, .slice none 0 0]), 5, 88) := by kernel_rfl

def EarlyRel (w : World) (es : List OpE) (j : Nat) (v : Value) (wr : World) : Prop :=
  ∃ A c, v = .slice A j c ∧ Ow wr 30 5 A j c (((es.take j).map OpE.cut).flatMap OpE.cells) ∧ (∀ k, fp A k → w.heap.size ≤ k) ∧ Mod none_ w wr ∧ j ≤ 100

set_option maxHeartbeats 1000000 in
theorem early_ok (w : World) (A : Option Addr) (n d : Nat) (es : List OpE) (Bd : Nat) (h : Scr w Bd A n es) (_hn : n ≤ d) (_hd : d ≤ 140737488351232) : Calls Try.prog 9 #[.slice A n d] w fun e w' =>
    ∃ v, e = .returned v ∧ EarlyRel w es (min n 100) v w' := by
  obtain ⟨i0, hi, hz0, hz1, hz2⟩ := info_parts opinfo
  have H := Lib.hid h
  clear h
  go_enter Try.func9, Try.ntmps9
  go_wp2_with fail
  go_loopw [3, 4] (fun v i wr => ∃ j : Nat, i = .int .i64 j ∧ EarlyRel w es j v wr ∧ j ≤ n) (fun _ i _ => n - (intOf i).toNat)
  case atStart => exact ⟨0, rfl, ⟨none, 0, rfl, Ow.nil _ _ _, (fun k hk => by obtain ⟨a, ha, _⟩ := hk; cases ha), Mod.refl _ w, Nat.zero_le _⟩, Nat.zero_le _⟩
  case round =>
    obtain ⟨j, rfl, ⟨Ar, c, rfl, hown, hA, hm, hj⟩, hjn⟩ := hrel
    have Hown := Lib.hid hown
    have HA := Lib.hid hA
    have Hm := Lib.hid hm
    clear hown hA hm
    by_cases q1 : j < n
    · by_cases q2 : j < 100
      · obtain ⟨b, o, e, rfl, hej, hok, hc⟩ := (H.out.mod0 Hm.out).at_ q1
        have c0 : wr.cell? ⟨b, o + j * 5, none⟩ = some (.int .i64 e.o.k) := hc 0 (by omega)
        have c1 : wr.cell? ⟨b, o + j * 5 + 1, none⟩ = some (.int .i64 e.o.n) := hc 1 (by omega)
        have c2 : wr.cell? ⟨b, o + j * 5 + 2, none⟩ = some (.slice e.B.a e.B.n e.B.c) := hc 2 (by omega)
        have c3 : wr.cell? ⟨b, o + j * 5 + 3, none⟩ = some (.slice e.T.a e.T.n e.T.c) := hc 3 (by omega)
        have c4 : wr.cell? ⟨b, o + j * 5 + 4, none⟩ = some (.slice e.Y.a e.Y.n e.Y.c) := hc 4 (by omega)
        have nb := hok.nb
        have nt := hok.nt
        have ny := hok.ny
        have Hej := Lib.hid hej
        have Hok := Lib.hid hok
        clear hc hej hok
        obtain ⟨⟨k_, n_, bb, at_, by_⟩, ⟨Ba, Bn, Bc⟩, ⟨Ta, Tn, Tc⟩, ⟨Ya, Yn, Yc⟩⟩ := e
        simp only at c0 c1 c2 c3 c4 nb nt ny
        go_wp2_with (at_builtin; refine wpList_append_ow rfl (.tmp 44) (.tmp 46) 22 rfl 30 i0 _ 5 88 Try.underlying22 hi hz0 hz1 hz2 rfl (by omega) Ar j c (((es.take j).map OpE.cut).flatMap OpE.cells) rfl (Hown.out.mod0 (((Mod.refl none_ wr).alloc _).alloc _)) (some ⟨wr.heap.size + 1, 0, none⟩) 1 1 [.int .i64 k_, .int .i64 n_, .slice Ba (min (Bn : Int) 60).toNat Bc, .slice Ta (min (Tn : Int) 20).toNat Tc, .slice Ya (min (Yn : Int) 20).toNat Yc] rfl (rd_new' (wr.alloc _) _ 5 1 _ _ (0, 0) (by simp) rfl) (by simp [Value.oneCell']) (by omega) (by omega) ?_; intro A' c' w1 hown1 hmod1 hA1)
        have hm1 : Mod none_ w w1 := by
          refine ((Hm.out.alloc _).alloc _).then hmod1 (fun i hi hf => ?_)
          have := HA.out i hf
          omega
        have hnext : EarlyRel w es (j + 1) (.slice A' (j + 1) c') w1 := by
          refine ⟨A', c', rfl, ?_, ?_, hm1, q2⟩
          · have e1 : es.take (j + 1) = es.take j ++ [⟨⟨k_, n_, bb, at_, by_⟩, ⟨Ba, Bn, Bc⟩, ⟨Ta, Tn, Tc⟩, ⟨Ya, Yn, Yc⟩⟩] := by rw [List.take_add_one, Hej.out]; rfl
            rw [e1, List.map_append, List.flatMap_append]
            have e2 : ([⟨⟨k_, n_, bb, at_, by_⟩, ⟨Ba, Bn, Bc⟩, ⟨Ta, Tn, Tc⟩, ⟨Ya, Yn, Yc⟩⟩].map OpE.cut).flatMap OpE.cells = [.int .i64 k_, .int .i64 n_, .slice Ba (min (Bn : Int) 60).toNat Bc, .slice Ta (min (Tn : Int) 20).toNat Tc, .slice Ya (min (Yn : Int) 20).toNat Yc] := by
              have a1 : (min (Bn : Int) 60).toNat = min Bn 60 := minNat Bn 60
              have a2 : (min (Tn : Int) 20).toNat = min Tn 20 := minNat Tn 20
              have a3 : (min (Yn : Int) 20).toNat = min Yn 20 := minNat Yn 20
              rw [a1, a2, a3]
              rfl
            rw [e2]
            exact hown1
          · rintro k ⟨x, hx, rfl⟩
            rcases hA1 with rfl | rfl
            · exact HA.out _ ⟨x, hx, rfl⟩
            · cases hx; have := Hm.out.size; simp; omega
        have Hnext := Lib.hid hnext
        clear hnext hm1 hown1 hmod1 hA1 c0 c1 c2 c3 c4
        go_wp2
        go_roundw
        case rel => exact ⟨j + 1, by go_num, Hnext.out, by omega⟩
        case measure => simp [intOf]; omega
      · have hj2 : j = 100 := by omega
        subst hj2
        have hend : EarlyRel w es (min n 100) (.slice Ar 100 c) wr := by
          rw [Nat.min_eq_right (by omega)]
          exact ⟨Ar, c, rfl, Hown.out, HA.out, Hm.out, hj⟩
        have Hend := Lib.hid hend
        clear hend
        go_wp2
        go_ret
        exact ⟨_, rfl, Hend.out⟩
    · have hj2 : j = n := by omega
      have hend : EarlyRel w es (min n 100) (.slice Ar j c) wr := by
        rw [Nat.min_eq_left (by omega)]
        subst hj2
        exact ⟨Ar, c, rfl, Hown.out, HA.out, Hm.out, hj⟩
      have Hend := Lib.hid hend
      clear hend hj2
      go_wp2
      go_ret
      exact ⟨_, rfl, Hend.out⟩
end Go.Proofs.Ytnemlmhmemndhaa
