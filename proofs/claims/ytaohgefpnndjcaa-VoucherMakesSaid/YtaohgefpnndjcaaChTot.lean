/-
  The contract of chart's Total: a range over the map.
-/
import Derived.Test.YtaohgefpnndjcaaChAll
import Derived.Test.YtaohgefpnndjcaaCoinTotal
import Derived.Sort.MapsRangeIn
import Derived.ChangeKeys
namespace Go.Proofs.Ytaohgefpnndjcaa
set_option linter.unusedVariables false
open Go.RowKit
open Go.Maps (Keyed string_keyed)
theorem isum_perm {a b : List Int} (h : a.Perm b) : isum a = isum b := by
  induction h with
  | nil => rfl
  | cons x _ ih => rw [isum_cons, isum_cons, ih]
  | swap x y l => rw [isum_cons, isum_cons, isum_cons, isum_cons]; omega
  | trans _ _ h1 h2 => rw [h1, h2]
/-- an iterator over a map: which names are left -/
def ItAt (w : World) (b r : Nat) (C : List Ac) (left : Lit → Bool) (cnt : Nat) : Prop := ∃ n, w.ranges Try.prog 9 VR b r n (mapD (ents C)) left cnt
theorem ItAt.mod {F : Nat → Prop} {w w' : World} {b r cnt : Nat} {C : List Ac} {left : Lit → Bool} (h : ItAt w b r C left cnt) (hm : Mod F w w') (hb : ¬ F b) (hr : ¬ F r) : ItAt w' b r C left cnt := by
  obtain ⟨n, es, clock, since, seen, c0, h1, h2, h3, h4, h5, h6⟩ := h
  have lb : b < w.heap.size := (Array.getElem?_eq_some_iff.1 h1).1
  have lr : r < w.heap.size := (Array.getElem?_eq_some_iff.1 h5).1
  exact ⟨n, es, clock, since, seen, c0, (hm.block b lb hb).trans h1, h2, h3, h4, (hm.block r lr hr).trans h5, h6⟩
def doneC (C : List Ac) (left : Lit → Bool) : List Ac := C.filter fun a => !left (.string a.n)
theorem done_all {C : List Ac} {left : Lit → Bool} (h : ∀ kl, left kl = false) : doneC C left = C := by
  unfold doneC
  rw [List.filter_eq_self]
  intro a _
  rw [h]; rfl
theorem done_none {C : List Ac} {left : Lit → Bool} (h : ∀ a ∈ C, left (.string a.n) = true) : doneC C left = [] := by
  unfold doneC
  rw [List.filter_eq_nil_iff]
  intro a ha
  rw [h a ha]; simp
theorem done_step {left : Lit → Bool} {a : Ac} (hl : left (.string a.n) = true) : ∀ {C : List Ac}, SortedC C → a ∈ C →
    (doneC C (fun z => left z && !z.sameKey (.string a.n))).Perm (a :: doneC C left)
  | [], _, h => by cases h
  | y :: l, hs, h => by
    obtain ⟨h1, h2⟩ := List.pairwise_cons.1 hs
    have same : ∀ x : Ac, (Lit.string x.n).sameKey (.string a.n) = (x.n == a.n) := fun _ => rfl
    by_cases he : y.n = a.n
    · have hya : y = a := by
        rcases List.mem_cons.1 h with h | h
        · exact h.symm
        · have := bb_ne (h1 a h); exact absurd he this
      subst hya
      have e1 : doneC (y :: l) (fun z => left z && !z.sameKey (.string y.n)) = y :: doneC l (fun z => left z && !z.sameKey (.string y.n)) := by
        unfold doneC
        rw [List.filter_cons_of_pos (by simp [same])]
      have e2 : doneC (y :: l) left = doneC l left := by
        unfold doneC
        rw [List.filter_cons_of_neg (by simp [hl])]
      have e3 : doneC l (fun z => left z && !z.sameKey (.string y.n)) = doneC l left := by
        unfold doneC
        refine List.filter_congr fun x hx => ?_
        have := (bb_ne (h1 x hx)).symm
        have hf : (x.n == y.n) = false := by simpa using this
        simp [same, hf]
      rw [e1, e2, e3]
    · have ha : a ∈ l := by
        rcases List.mem_cons.1 h with h | h
        · subst h; exact absurd rfl he
        · exact h
      have ih := done_step hl h2 ha
      have hf : (y.n == a.n) = false := by simpa using he
      by_cases hly : left (.string y.n) = true
      · have e1 : doneC (y :: l) (fun z => left z && !z.sameKey (.string a.n)) = doneC l (fun z => left z && !z.sameKey (.string a.n)) := by
          unfold doneC
          rw [List.filter_cons_of_neg (by simp [same, hf, hly])]
        have e2 : doneC (y :: l) left = doneC l left := by
          unfold doneC
          rw [List.filter_cons_of_neg (by simp [hly])]
        rw [e1, e2]; exact ih
      · have hly : left (.string y.n) = false := by simpa using hly
        have e1 : doneC (y :: l) (fun z => left z && !z.sameKey (.string a.n)) = y :: doneC l (fun z => left z && !z.sameKey (.string a.n)) := by
          unfold doneC
          rw [List.filter_cons_of_pos (by simp [hly])]
        have e2 : doneC (y :: l) left = y :: doneC l left := by
          unfold doneC
          rw [List.filter_cons_of_pos (by simp [hly])]
        rw [e1, e2]
        exact (ih.cons y).trans (List.Perm.swap a y _)
def TtRel (w : World) (b r : Nat) (C : List Ac) (v : Value) (wr : World) : Prop := ∃ A c left cnt hs, v = .slice A hs.length c ∧ OwI wr A hs.length c hs ∧ Fresh w A ∧ Mod (· = r) w wr ∧ ItAt wr b r C left cnt ∧ hs.Perm ((doneC C left).map (·.h))
def TotPost (C : List Ac) (w : World) (e : Ending) (w' : World) : Prop := e = .returned (.tuple #[.int .i64 (sumR (isum (C.map (·.h)))).1, .int .i64 ((sumR (isum (C.map (·.h)))).2 : Int)]) ∧ Mod none_ w w'
set_option maxRecDepth 100000 in
theorem tot_nil (w : World) : Calls Try.prog 19 #[.pointer none] w fun e w' => e = .returned (.tuple #[.int .i64 0, .int .i64 1]) ∧ w = w' := by
  go_enter Try.func19, Try.ntmps19
  go_wp2_with fail
  go_ret2
  exact ⟨rfl, rfl⟩
/-- the range begins -/
theorem range_it {w : World} {ops : Array Oper} {rest : List Oper} {o : Oper} {a : Act} {Q : Exit → Act → World → Prop} (hg : o.guard = none) (m : Operand) (hop : o.op = Op.range 67 m) (b : Nat) (C : List Ac) (hm : a.eval m = .map (some b))
    (h : MapAt w 9 b (ents C))
    (hK : ∀ w', ItAt w' b w.heap.size C (Maps.has (mapD (ents C))) C.length → Mod none_ w w' → w'.heap.size = w.heap.size + 1 → wpList Try.prog ops Q rest (a.put o.dst (.pointer (some ⟨w.heap.size, 0, none⟩))) w') : wpList Try.prog ops Q (o :: rest) a w := by
  refine wpList_range_own w hg m _ hop 9 46 (string_keyed Try.underlying9) Try.underlying67 VR b _ _ hm h.tight ?_
  intro w' h1 h2 h3
  have : Maps.size (mapD (ents C)) = C.length := by rw [size_mapD]; unfold ents; rw [List.length_map]
  rw [this] at h1
  exact hK w' ⟨_, h1⟩ ((Mod.of_grown h2).mono fun i hi => by cases hi) h3
/-- one step of it -/
theorem it_next {w : World} {b r cnt : Nat} {C : List Ac} {left : Lit → Bool} (h : ItAt w b r C left cnt) (ty : TypeId) :
    (cnt = 0 ∧ (∀ kl, left kl = false) ∧ (Instr.next (.pointer (some ⟨r, 0, none⟩)) false ty).run Try.prog w = .ok (.tuple #[.bool false]) w) ∨
    ∃ (x : Ac) (w' : World) (cnt' : Nat), x ∈ C ∧ left (.string x.n) = true ∧ ItAt w' b r C (fun z => left z && !z.sameKey (.string x.n)) cnt' ∧ cnt' < cnt ∧ Mod (· = r) w w' ∧
      (Instr.next (.pointer (some ⟨r, 0, none⟩)) false ty).run Try.prog w = .ok (.tuple #[.bool true, .string (txt x.n), acV x]) w' ∧
      (Instr.entry (.pointer (some ⟨r, 0, none⟩))).run Try.prog w' = .ok (.tuple #[.string (txt x.n), acV x]) w' := by
  obtain ⟨n, hr⟩ := h
  rcases hr.next (string_keyed Try.underlying9) ty with ⟨h0, hl, hrun⟩ | ⟨key, v, kl, y, w', cnt', hkey, hlk, hv, hat, hrun, hrg, hlt, hgr, hsz, hen⟩
  · exact .inl ⟨h0, hl, hrun⟩
  · right
    obtain ⟨s, rfl⟩ := Maps.keyOf_string_inv Try.underlying9 hkey
    have hkl : kl = .string s.data.toList := by
      have hk := hkey
      simp [keyOf, Try.underlying9, mapKey] at hk
      exact hk.2.symm
    subst hkl
    have hy : y = (.held v, []) := by
      unfold VR at hv; exact (Option.some.inj hv).symm
    subst hy
    have h2 : (findL (ents C) s.data.toList).getD undef = v := by
      have := hat (.held undef)
      rw [atKey_mapD] at this
      injection this
    have h3 : (findL (ents C) s.data.toList).getD (.bool true) = v := by
      have := hat (.held (.bool true))
      rw [atKey_mapD] at this
      injection this
    rw [find_ents] at h2 h3
    cases hg : getC C s.data.toList with
    | none =>
      rw [hg] at h2 h3
      simp only [Option.map_none, Option.getD_none] at h2 h3
      rw [← h2] at h3; cases h3
    | some x =>
      rw [hg] at h2
      simp only [Option.map_some, Option.getD_some] at h2
      have hn := getC_name hg
      have hsx : s = txt x.n := by rw [hn]; rfl
      subst h2
      rw [← hn] at hlk hrg
      rw [hsx] at hen hrun
      exact ⟨x, w', cnt', getC_mem hg, hlk, ⟨n, hrg⟩, hlt, (Mod.of_grown hgr).mono fun i hi => by cases hi; rfl, hrun, hen⟩
theorem rdi_one' (w : World) (e : TypeId) (g : Nat) (hg : g = w.heap.size) (x : Int) : RdI (w.alloc (.cells #[.int .i64 x] e)) (some ⟨g, 0, none⟩) 1 [x] :=
  rdn w e 1 1 g #[.int .i64 x] (0, 0) hg rfl
set_option maxRecDepth 100000 in
set_option maxHeartbeats 2000000 in
theorem tot_ok (w : World) (p b : Nat) (C : List Ac) (hc : ChAt w p b C) (hl : C.length ≤ 1000) (hw : ∀ a ∈ C, WfA a) : Calls Try.prog 19 #[.pointer (some ⟨p, 0, none⟩)] w (TotPost C w) := by
  have hcell : w.cell? ⟨p, 0, none⟩ = some (.map (some b)) := hc.1.cell_ rfl
  have hp := hc.1.lt
  have hb := hc.2.1.lt
  have hsrt := hc.sorted
  have hk0 : ∀ a ∈ C, Maps.has (mapD (ents C)) (.string a.n) = true := by
    intro a ha
    rw [has_mapD, find_ents]
    obtain ⟨j, hj, rfl⟩ := List.getElem_of_mem ha
    rw [get_at_ hsrt (List.getElem?_eq_getElem hj)]; rfl
  have hsi : I64s (C.map (·.h)) := by
    intro x hx
    obtain ⟨a, ha, rfl⟩ := List.mem_map.1 hx
    exact (hw a ha).1
  replace hc := Lib.hid hc
  replace hw := Lib.hid hw
  replace hsrt := Lib.hid hsrt
  replace hk0 := Lib.hid hk0
  replace hsi := Lib.hid hsi
  go_enter Try.func19, Try.ntmps19
  go_wp2_with (refine range_it rfl (.tmp 12) rfl b C rfl hc.out.2.1 ?_; intro w1 hit hm hsz; replace hit := Lib.hid hit; replace hm := Lib.hid hm)
  simp only [Act.put, List.setIfInBounds_toArray, List.set_cons_succ, List.set_cons_zero]
  go_loopw [4] (fun v wr => TtRel w1 b w.heap.size C v wr) (fun _ wr => wr.rangeLeft b w.heap.size)
  case atStart =>
    refine ⟨none, 0, _, _, [], rfl, Ow.nil _ _ _, (fun _ h => by cases h), Mod.refl _ _, hit.out, ?_⟩
    rw [done_none hk0.out]; exact List.Perm.refl _
  case round =>
    obtain ⟨A, c, left, cnt, hs, rfl, ho, hf, hmr, hi, hperm⟩ := hrel
    have hlen : hs.length ≤ C.length := by
      have := hperm.length_eq
      rw [List.length_map] at this
      rw [this]; exact List.length_filter_le _ _
    have hsb := hsz
    rcases it_next hi 0 with ⟨h0, hall, hrun⟩ | ⟨x, w2, cnt', hx, hlx, hi2, hcl, hm2, hrun, hen⟩
    · rw [done_all hall] at hperm
      have hsum := isum_perm hperm
      have hint : I64s hs := by
        intro y hy
        exact hsi.out y ((hperm.mem_iff).1 hy)
      have ht := Lib.hid (total_ok wr A hs.length c hs (Ow.rd ho) (by omega) hint)
      rw [hsum] at ht
      have hmw : Mod none_ w wr := hm.out.then hmr (fun i hlt he => by have : i = w.heap.size := he; omega)
      replace ho := Lib.hid ho
      replace hf := Lib.hid hf
      replace hmr := Lib.hid hmr
      replace hi := Lib.hid hi
      replace hperm := Lib.hid hperm
      replace hall := Lib.hid hall
      replace hsum := Lib.hid hsum
      replace hint := Lib.hid hint
      replace hmw := Lib.hid hmw
      generalize hL : hs.length = L at *
      replace hL := Lib.hid hL
      go_wp2_with fail
      refine ht.out.mono ?_
      rintro e w3 ⟨rfl, rfl⟩
      dsimp only
      go_wp2_with fail
      go_ret2
      exact ⟨rfl, hmw.out⟩
    · have hd := done_step hlx hsrt.out hx
      have hwx := hw.out x hx
      have oA2 : OwI w2 A hs.length c hs := Ow.mod ho hm2 (fun k hk he => by
        obtain ⟨a, ha, hab⟩ := hk
        have := hf a ha
        have : k = w.heap.size := he
        omega)
      have hmr2 : Mod (· = w.heap.size) w1 w2 := hmr.trans hm2
      have hp2 : (x.h :: hs).Perm ((doneC C (fun z => left z && !z.sameKey (.string x.n))).map (·.h)) := by
        have := (hperm.cons x.h)
        exact this.trans (List.Perm.map (fun y : Ac => y.h) hd.symm)
      have hl2 : (x.h :: hs).length ≤ C.length := by
        have := hp2.length_eq
        rw [List.length_map] at this
        rw [this]; exact List.length_filter_le _ _
      rw [List.length_cons] at hl2
      unfold acV at hrun hen
      generalize hL : hs.length = L at *
      have hm0 := hmr2.size
      replace ho := Lib.hid ho
      replace hf := Lib.hid hf
      replace hmr := Lib.hid hmr
      replace hi := Lib.hid hi
      replace hperm := Lib.hid hperm
      replace hd := Lib.hid hd
      replace hwx := Lib.hid hwx
      replace oA2 := Lib.hid oA2
      replace hmr2 := Lib.hid hmr2
      replace hp2 := Lib.hid hp2
      replace hL := Lib.hid hL
      replace hi2 := Lib.hid hi2
      replace hm2 := Lib.hid hm2
      replace hlx := Lib.hid hlx
      replace hx := Lib.hid hx
      go_wp2_with (at_builtin; go_loud (refine app64 rfl (.tmp 18) (.tmp 21) rfl rfl (Ow.mod0 oA2.out (((Mod.refl none_ _).alloc _).alloc _)) rfl (rdi_one' _ _ (w2.heap.size + 1) (by simp) _) (by omega) ?_; intro A' c' w' ho' hm' hA'; replace ho' := Lib.hid ho'; replace hm' := Lib.hid hm'; replace hA' := Lib.hid hA'))
      go_roundw
      case rel =>
        have hma := ((Mod.refl none_ w2).alloc (.cells #[.string (txt x.n), .int .i64 x.h, .int .i64 x.s, .int .i64 x.l] 46)).alloc (.cells #[.int .i64 x.h] 2)
        have hm3 : Mod (fp A) w2 w' := (hma.any _).trans hm'.out
        have hnb : ¬ fp A b := by rintro ⟨q, hq, hqb⟩; have := hf.out q hq; omega
        have hnr : ¬ fp A w.heap.size := by rintro ⟨q, hq, hqb⟩; have := hf.out q hq; omega
        have hib : ItAt w' b w.heap.size C (fun z => left z && !z.sameKey (.string x.n)) cnt' := hi2.out.mod hm3 hnb hnr
        refine ⟨A', c', _, cnt', hs ++ [x.h], ?_, ?_, ?_, ?_, hib, ?_⟩
        · rw [List.length_append, hL.out]; rfl
        · have := ho'.out; rw [List.length_append, hL.out]; exact this
        · exact Fresh.app hf.out (Nat.le_trans hm0 hma.size) hA'.out
        · exact hmr2.out.then hm3 (fun i hlt hk => by obtain ⟨q, hq, hqb⟩ := hk; have := hf.out q hq; omega)
        · exact (List.perm_append_comm (l₁ := hs) (l₂ := [x.h])).trans hp2.out
      case measure =>
        have hma := ((Mod.refl none_ w2).alloc (.cells #[.string (txt x.n), .int .i64 x.h, .int .i64 x.s, .int .i64 x.l] 46)).alloc (.cells #[.int .i64 x.h] 2)
        have hm3 : Mod (fp A) w2 w' := (hma.any _).trans hm'.out
        have hnb : ¬ fp A b := by rintro ⟨q, hq, hqb⟩; have := hf.out q hq; omega
        have hnr : ¬ fp A w.heap.size := by rintro ⟨q, hq, hqb⟩; have := hf.out q hq; omega
        have hib : ItAt w' b w.heap.size C (fun z => left z && !z.sameKey (.string x.n)) cnt' := hi2.out.mod hm3 hnb hnr
        obtain ⟨n1, e1⟩ := hib
        obtain ⟨n2, e2⟩ := hi.out
        rw [e1.left_eq, e2.left_eq]; exact hcl
end Go.Proofs.Ytaohgefpnndjcaa
