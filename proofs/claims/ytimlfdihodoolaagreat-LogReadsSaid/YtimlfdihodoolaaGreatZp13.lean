import Derived.Test.YtimlfdihodoolaaGreatZp12
import Derived.Shelf.SlSortCmp.NoneTotal
import Derived.Test.YtimlfdihodoolaaGreatZp1
import Derived.Test.YtimlfdihodoolaaGreatZp3
import Derived.Lib.AppendStr
import Derived.Test.YtimlfdihodoolaaGreatZp4
/-
  slices.SortFunc of records with log.Last's comparing; slices.SortedFunc of a map's records. No condition.
-/
namespace Go.Proofs.YtimlfdihodoolaaGreat
set_option linter.unusedVariables false
set_option linter.unusedSimpArgs false
open Go.RowKit
open Go.Shelf Go.Sort Go.Lib
instance : Inhabited Rs := ⟨⟨⟨⟨0, 0⟩, 0, 0, 0, en0⟩, ⟨none, 0, 0⟩, ⟨none, 0, 0⟩⟩⟩
theorem ltR_iff (x y : Rs) : ltOf cfR x y = isLt x.r.i y.r.i := by
  unfold ltOf cfR
  cases isLt x.r.i y.r.i with
  | true => simp
  | false =>
    simp only [Bool.false_eq_true, if_false]
    split <;> simp
theorem swoR : SWO (ltOf cfR) where
  irrefl x := by rw [ltR_iff]; unfold isLt; simp
  trans x y z h1 h2 := by
    rw [ltR_iff] at *
    unfold isLt at *
    simp only [decide_eq_true_eq] at *
    omega
  ntrans x y z h1 h2 := by
    rw [ltR_iff] at *
    unfold isLt at *
    simp only [decide_eq_false_iff_not] at *
    omega
theorem flatK_rss (d : List Rs) : (flatK rsC 17 d.toArray).toList = rss d := by
  apply List.ext_getElem?
  intro t
  by_cases ht : t < d.length * 17
  · have h1 : t / 17 < d.length := by omega
    have h2 : t % 17 < 17 := by omega
    have e1 : (flatK rsC 17 d.toArray).toList[t]? = some ((flatK rsC 17 d.toArray)[t]!) := by
      rw [Array.getElem?_toList, getElem!_pos _ t (by simpa using ht), Array.getElem?_eq_getElem (by simpa using ht)]
    rw [e1, get_flatK rsC 17 d.toArray t (by simpa using ht)]
    have e2 := flat_get rsC 17 (fun _ => rfl) d (t / 17) d[t / 17] (List.getElem?_eq_getElem h1) (t % 17) h2
    have e3 : t / 17 * 17 + t % 17 = t := by omega
    rw [e3] at e2
    unfold rss
    have e4 : d.toArray[t / 17]! = d[t / 17] := by rw [getElem!_pos _ _ (by simpa using h1)]; simp
    rw [e2, e4, getElem!_pos (rsC d[t / 17]) (t % 17) (by rw [rsC_len]; exact h2), List.getElem?_eq_getElem (by rw [rsC_len]; exact h2)]
  · rw [List.getElem?_eq_none (by simp; omega), List.getElem?_eq_none (by rw [rss_length]; omega)]
theorem heap_sortR {W : World} {g n : Nat} {e : TypeId} {cur : Array Value} (os : Array Obj) (d : Array Rs) (hb : Blk W g e cur) : Blk (sortWorldK rsC 17 W g 0 n d os) g e (putCells id 0 (flatK rsC 17 d) cur) := by
  have hg : g < W.heap.size := hb.lt
  unfold Blk sortWorldK putRowK putRow mapBlock
  show (_ ++ os)[g]? = _
  rw [Array.getElem?_append_left (by simp [Sort.ahead]; exact hg)]
  show (W.heap.modify g _)[g]? = _
  rw [Array.getElem?_eq_getElem (by rw [Array.size_modify]; exact hg), Array.getElem_modify_self]
  have := Array.getElem?_eq_some_iff.1 hb
  rw [this.2]
  rfl
theorem mod_sortR {W : World} {g n : Nat} (os : Array Obj) (d : Array Rs) : Mod (only g) W (sortWorldK rsC 17 W g 0 n d os) := by
  unfold sortWorldK putRowK putRow mapBlock
  refine ⟨rfl, rfl, rfl, by simp [Sort.grow, Sort.ahead], fun k hk hne => ?_⟩
  show (_ ++ os)[k]? = _
  rw [Array.getElem?_append_left (by simp [Sort.ahead]; exact hk)]
  show (W.heap.modify g _)[k]? = _
  have : g ≠ k := fun e => hne (by rw [e]; exact rfl)
  simp [Array.getElem?_modify, this]
theorem take_putCellsR (cur F : Array Value) (h : F.size ≤ cur.size) : (putCells id 0 F cur).toList.take F.size = F.toList := by
  apply List.ext_getElem?
  intro j
  by_cases hj : j < F.size
  · rw [List.getElem?_take_of_lt hj, Array.getElem?_toList]
    simp [putCells, hj, show j < cur.size by omega]
  · rw [List.getElem?_take_eq_none (by omega), List.getElem?_eq_none (by simp; omega)]
set_option maxRecDepth 100000 in
theorem sortR_ok (W : World) (g n cap : Nat) (xs : List Rs) (how : OwR W (some ⟨g, 0, none⟩) n cap xs) (hn : n ≤ 1000000) :
    Calls Tryz.prog 64 #[.slice (some ⟨g, 0, none⟩) n cap, .func (.func 37) #[] #[]] W fun e w' =>
      e = .returned (.tuple #[]) ∧ ∃ ys : List Rs, ys.Perm xs ∧ (ys.Pairwise fun a b => isLt b.r.i a.r.i = false) ∧ OwR w' (some ⟨g, 0, none⟩) n cap ys ∧ Mod (only g) W w' := by
  have hl := how.len
  obtain ⟨h1, h2, h3, h4⟩ := how
  rcases h4 with ⟨h4, _⟩ | ⟨g', cur, h4, hb, h5, h6⟩
  · cases h4
  · cases h4
    have hH : HoldsK rsC 17 W g 0 xs.toArray := by
      intro j hj
      have hj' : j < xs.length * 17 := by simpa using hj
      refine ⟨?_, hb.frozen _⟩
      rw [Nat.zero_add, hb.cell]
      have e1 := flatK_rss xs
      have e2 : cur[j]? = (rss xs)[j]? := by
        rw [← h6, List.getElem?_take, if_pos (by rw [← hl]; exact hj'), Array.getElem?_toList]
      rw [e2, ← e1, Array.getElem?_toList, Array.getElem?_eq_getElem hj, getElem!_pos _ j hj]
      rfl
    have hcmp : CmpLays Tryz.prog 37 #[] rsC 17 cfR g 0 xs.toArray.size W := fun m os dk hs x y => lastCmp_ok _ x y
    have hk := AnyQ.slices_SortFunc (P := Tryz.prog) Tryz.sortf64 17 (fun w => by kernel_rfl) (fun w => by kernel_rfl) rsC (fun _ => rfl) (fun x v hv => rss_one [x] v (by unfold rss; simpa using hv)) cfR swoR 37 #[] g 0 cap xs.toArray W (fun _ _ => rfl) hcmp hH hb.lt (by have := h3; simp only [maxLen] at this; simp; omega)
    have hsz : xs.toArray.size = n := by simpa using hl
    rw [hsz] at hk
    refine Calls.mono (show Calls Tryz.prog 64 #[.slice (some ⟨g, 0, none⟩) n cap, .func (.func 37) #[] #[]] W _ from hk) ?_
    rintro e w' ⟨rfl, d', n', os, hp, hs, rfl⟩
    refine ⟨rfl, d'.toList, ?_, ?_, ?_, mod_sortR os d'⟩
    · obtain ⟨p1, p2, p3⟩ := hp
      have a1 : d'.extract 0 n = d' := by rw [← hsz, ← p1]; simp
      have a2 : xs.toArray.extract 0 n = xs.toArray := by rw [← hsz]; simp
      rw [a1, a2] at p3
      simpa using p3
    · obtain ⟨p1, _, _⟩ := hp
      rw [List.pairwise_iff_getElem]
      intro i j hi hj hij
      have hj' : j < d'.size := by simpa using hj
      have hi' : i < d'.size := by simpa using hi
      have := hs i j (Nat.zero_le _) hij (by rw [← hsz, ← p1]; exact hj')
      rw [ltR_iff, getElem!_pos d' j hj', getElem!_pos d' i hi'] at this
      simpa using this
    · obtain ⟨p1, _, _⟩ := hp
      have hdl : d'.toList.length = n := by rw [Array.length_toList, p1, hsz]
      have e1 : (flatK rsC 17 d').toList = rss d'.toList := by have := flatK_rss d'.toList; simpa using this
      have hFs : (flatK rsC 17 d').size = n * 17 := by rw [size_flatK, p1, hsz]
      refine ⟨by rw [rss_length, hdl], h2, h3, .inr ⟨g, _, rfl, heap_sortR os d' hb, by simp [putCells]; exact h5, ?_⟩⟩
      rw [← hFs, take_putCellsR _ _ (by rw [hFs]; have := Nat.mul_le_mul_right 17 h2; omega), e1]
end Go.Proofs.YtimlfdihodoolaaGreat
/-
  log.Last. No condition.
-/
namespace Go.Proofs.YtimlfdihodoolaaGreat
set_option linter.unusedVariables false
set_option linter.unusedSimpArgs false
open Go.RowKit
theorem ownsR_ow {W : World} {base n : Nat} {v : Value} {ss : List Rs} (h : W.ownsRow base 37 17 v n (rss ss)) (hn : ss.length = n) : ∃ A c, v = .slice A n c ∧ OwR W A n c ss ∧ ∀ a, A = some a → base ≤ a.block := by
  rcases h.2 with ⟨rfl, h0⟩ | ⟨g, cap, cur, rfl, hbase, hgb, r1, r2, r3, r4⟩
  · subst h0
    have hs : ss = [] := List.eq_nil_of_length_eq_zero hn
    subst hs
    exact ⟨none, 0, rfl, Ow.nil _ _ _, fun a ha => by cases ha⟩
  · exact ⟨_, cap, rfl, ⟨by rw [rss_length, hn], r1, r2, .inr ⟨g, cur, rfl, hgb, by rw [r3]; exact Nat.le_refl _, r4⟩⟩, fun a ha => by cases ha; exact hbase⟩
theorem values_ok (w : World) (b : Nat) : Calls Tryz.prog 36 #[.map (some b)] w fun e w' =>
    e = .returned (.func (.func 65) #[] #[.pointer (some ⟨w.heap.size, 0, none⟩)]) ∧ w' = w.alloc (.cells #[.map (some b)] 81) := by
  go_enter Tryz.func36, Tryz.ntmps36
  go_wp2_with fail
  go_ret
  exact ⟨rfl, rfl⟩
set_option maxRecDepth 100000 in
theorem collect_ok (w : World) (Bm b : Nat) (M : List Rs) (hm : w.cell? ⟨Bm, 0, none⟩ = some (.map (some b))) (hBm : Bm < w.heap.size) (hM : MapK w b (mapM M)) (hn : M.length ≤ 1000000) :
    Calls Tryz.prog 63 #[.func (.func 65) #[] #[.pointer (some ⟨Bm, 0, none⟩)]] w fun e w' =>
      ∃ A c ss, e = .returned (.slice A M.length c) ∧ ss.Perm M ∧ OwR w' A M.length c ss ∧ Fresh w A ∧ Mod none_ w w' := by
  have hseq : SeqGives Fence.wide (4 - 1 - 1) Tryz.prog 65 #[.pointer (some ⟨Bm, 0, none⟩)] rsV (fun ss => ss.Perm M) M.length w := fun l J W hW hJ hY h0 =>
    values1_in Fence.wide (4 - 1 - 1) trivial rfl (by omega) l Bm b M J (fun pre x W1 hj hl _ => hY pre x W1 hj hl) W hJ ((hW.cell (p := ⟨Bm, 0, none⟩) hBm).trans hm) (hM.mod (Mod.of_below hW) (fun h => h)) h0
  refine ((collectR_in Fence.wide 4 trivial trivial rfl (by omega) _ _ trivial (fun _ _ => rfl) (fun ss => ss.Perm M) M.length (by simp only [maxLen]; omega) (by omega) w hseq).calls (fun k d hd => by cases hd)).mono ?_
  rintro e w' ⟨v, ss, rfl, hp, hrow, hnil, hb⟩
  have hl := hp.length_eq
  rw [hl] at hrow
  obtain ⟨A, c, rfl, how, hbase⟩ := ownsR_ow hrow hl
  exact ⟨A, c, ss, rfl, hp, how, hbase, Mod.of_below hb⟩
set_option maxRecDepth 100000 in
set_option maxHeartbeats 4000000 in
theorem sortedR_ok (w : World) (Bm b : Nat) (M : List Rs) (hm : w.cell? ⟨Bm, 0, none⟩ = some (.map (some b))) (hBm : Bm < w.heap.size) (hM : MapK w b (mapM M)) (hn : M.length ≤ 1000000) :
    Calls Tryz.prog 35 #[.func (.func 65) #[] #[.pointer (some ⟨Bm, 0, none⟩)], .func (.func 37) #[] #[]] w fun e w' =>
      ∃ A c ss, e = .returned (.slice A M.length c) ∧ ss.Perm M ∧ (ss.Pairwise fun a b => isLt b.r.i a.r.i = false) ∧ OwR w' A M.length c ss ∧ Fresh w A ∧ Mod none_ w w' := by
  have kC := Lib.hid (collect_ok w Bm b M hm hBm hM hn)
  clear hm hM
  go_enter Tryz.func35, Tryz.ntmps35
  go_wp2_with fail
  refine kC.out.mono ?_
  rintro e w1 ⟨A, c, ss, rfl, hp, how, hf, hm1⟩
  dsimp only
  have hl := hp.length_eq
  generalize hN : M.length = N at *
  rcases how.2.2.2 with ⟨rfl, h0, rfl⟩ | ⟨g, cur, rfl, hb, h5, h6⟩
  · have kN := AnyF.slices_SortFunc_none (P := Tryz.prog) Tryz.sortf64 none 0 (.func (.func 37) #[] #[]) w1
    have hs0 : ss = [] := List.eq_nil_of_length_eq_zero (by omega)
    subst h0
    have kN' := Lib.hid (show Calls Tryz.prog 64 #[.slice none 0 0, .func (.func 37) #[] #[]] w1 _ from kN)
    clear kN
    replace hp := Lib.hid hp
    replace how := Lib.hid how
    replace hf := Lib.hid hf
    replace hm1 := Lib.hid hm1
    replace hN := Lib.hid hN
    replace hs0 := Lib.hid hs0
    replace hl := Lib.hid hl
    go_wp2_with fail
    refine kN'.out.mono ?_
    rintro e w2 ⟨rfl, rfl⟩
    dsimp only
    go_wp2_with fail
    go_ret
    exact ⟨none, 0, ss, by rw [hN.out] <;> rfl, hp.out, by rw [hs0.out]; simp, by rw [hN.out]; exact how.out, hf.out, hm1.out⟩
  · have kS := Lib.hid (sortR_ok w1 g N c ss how (by omega))
    clear hb h5 h6
    replace hp := Lib.hid hp
    replace how := Lib.hid how
    replace hf := Lib.hid hf
    replace hm1 := Lib.hid hm1
    replace hN := Lib.hid hN
    replace hl := Lib.hid hl
    go_wp2_with fail
    refine kS.out.mono ?_
    rintro e w2 ⟨rfl, ys, hp2, hs2, ho2, hm2⟩
    dsimp only
    have hM2 := Lib.hid (hm1.out.then hm2 (fun i hi hk => by have : i = g := hk; have := hf.out _ rfl; simp at this; omega))
    replace hp2 := Lib.hid hp2
    replace hs2 := Lib.hid hs2
    replace ho2 := Lib.hid ho2
    replace hm2 := Lib.hid hm2
    go_wp2_with fail
    go_ret
    exact ⟨_, c, ys, by rw [hN.out] <;> rfl, hp2.out.trans hp.out, hs2.out, by rw [hN.out]; exact ho2.out, hf.out, hM2.out⟩
/-! ### the last of each Inst -/
def lastOf (xs : List Rs) (i : Is) : Option Rs := xs.reverse.find? fun x => x.r.i == i
structure LastM (xs ys : List Rs) : Prop where
  nodup : ys.Pairwise fun a b => a.r.i ≠ b.r.i
  last : ∀ y ∈ ys, lastOf xs y.r.i = some y
  all : ∀ x ∈ xs, ∃ y ∈ ys, y.r.i = x.r.i
structure LastOf (xs ys : List Rs) : Prop where
  sorted : ys.Pairwise fun a b => isLt a.r.i b.r.i = true
  last : ∀ y ∈ ys, lastOf xs y.r.i = some y
  all : ∀ x ∈ xs, ∃ y ∈ ys, y.r.i = x.r.i
theorem lastOf_snoc (xs : List Rs) (x : Rs) (i : Is) : lastOf (xs ++ [x]) i = if x.r.i = i then some x else lastOf xs i := by
  unfold lastOf
  rw [List.reverse_append]
  show ([x] ++ xs.reverse).find? _ = _
  by_cases h : x.r.i = i
  · rw [if_pos h]; simp [h]
  · rw [if_neg h, List.singleton_append, List.find?_cons_of_neg (by simpa using h)]
def putM (x : Rs) (M : List Rs) : List Rs := x :: M.filter fun y => !(y.r.i == x.r.i)
theorem mapM_put (x : Rs) (M : List Rs) : mapM (putM x M) = putI' x.r.i (rsV x) (mapM M) := by
  unfold mapM putM putI'
  rw [List.map_cons, List.filter_map]
  rfl
theorem LastM.nil : LastM [] [] := ⟨List.Pairwise.nil, fun y hy => (List.not_mem_nil hy).elim, fun x hx => (List.not_mem_nil hx).elim⟩
theorem LastM.snoc {xs M : List Rs} (h : LastM xs M) (x : Rs) : LastM (xs ++ [x]) (putM x M) := by
  have hne : ∀ y ∈ M.filter (fun y => !(y.r.i == x.r.i)), y ∈ M ∧ y.r.i ≠ x.r.i := fun y hy => by
    have := List.mem_filter.1 hy
    exact ⟨this.1, by simpa using this.2⟩
  refine ⟨List.pairwise_cons.2 ⟨fun y hy => fun e => (hne y hy).2 e.symm, h.nodup.filter _⟩, fun y hy => ?_, fun z hz => ?_⟩
  · rw [lastOf_snoc]
    rcases List.mem_cons.1 hy with rfl | hy
    · rw [if_pos rfl]
    · rw [if_neg (fun e => (hne y hy).2 e.symm)]
      exact h.last y (hne y hy).1
  · by_cases e : z.r.i = x.r.i
    · exact ⟨x, List.mem_cons_self, e.symm⟩
    · rcases List.mem_append.1 hz with hz | hz
      · obtain ⟨y, hy, hyz⟩ := h.all z hz
        exact ⟨y, List.mem_cons_of_mem _ (List.mem_filter.2 ⟨hy, by rw [hyz]; simpa using e⟩), hyz⟩
      · simp at hz; subst hz; exact absurd rfl e
theorem isLt_total {a b : Is} (h : isLt b a = false) (hne : a ≠ b) : isLt a b = true := by
  obtain ⟨a1, a2⟩ := a
  obtain ⟨b1, b2⟩ := b
  unfold isLt at *
  simp only [decide_eq_false_iff_not, decide_eq_true_eq, ne_eq, Is.mk.injEq] at *
  omega
theorem LastM.sort {xs M ys : List Rs} (h : LastM xs M) (hp : ys.Perm M) (hs : ys.Pairwise fun a b => isLt b.r.i a.r.i = false) : LastOf xs ys := by
  have hnd : ys.Pairwise fun a b => a.r.i ≠ b.r.i := (hp.pairwise_iff (fun {a b} (h : a.r.i ≠ b.r.i) => h.symm)).2 h.nodup
  refine ⟨(hs.and hnd).imp fun ⟨h1, h2⟩ => isLt_total h1 h2, fun y hy => h.last y (hp.mem_iff.1 hy), fun x hx => ?_⟩
  obtain ⟨y, hy, he⟩ := h.all x hx
  exact ⟨y, hp.mem_iff.2 hy, he⟩
def LsPost (w : World) (xs : List Rs) (e : Ending) (w' : World) : Prop :=
  ∃ A n c ys, e = .returned (.slice A n c) ∧ LastOf xs ys ∧ OwR w' A n c ys ∧ Fresh w A ∧ Mod none_ w w'
set_option maxRecDepth 100000 in
set_option maxHeartbeats 8000000 in
theorem last_ok (w : World) (A : Option Addr) (n c : Nat) (xs : List Rs) (h : RdR w A n xs) (hi : ∀ x ∈ xs, inI x.r.i) (hn : n ≤ 100000) :
    Calls Tryz.prog 14 #[.slice A n c] w (LsPost w xs) := by
  have hl := Lib.hid h.len
  have hmd := Lib.hid (MapK.made w)
  have hmk := fun W => run_makeMap (P := Tryz.prog) 81 W
  have hs0 : (w.alloc (.map #[] 0)).heap.size = w.heap.size + 1 := by simp
  replace h := Lib.hid h
  replace hi := Lib.hid hi
  replace hs0 := Lib.hid hs0
  go_enter Tryz.func14, Tryz.ntmps14
  go_wp2_with fail
  go_loopw [9] (fun y wr => ∃ (j : Nat) (M : List Rs), y = .int .i64 j ∧ j ≤ n ∧ MapK wr w.heap.size (mapM M) ∧ LastM (xs.take j) M ∧ M.length ≤ j ∧ Mod none_ w wr) (fun y _ => n - (intOf y).toNat)
  case atStart => exact ⟨0, [], rfl, by omega, hmd.out, LastM.nil, by simp, (Mod.refl none_ w).alloc _⟩
  case round =>
    obtain ⟨j, M, rfl, hj, hM, hLM, hMl, hm⟩ := hrel
    by_cases hlt : j < n
    · obtain ⟨g, o, x, hA, hxm, hx, hrg⟩ := rdr_get (w := wr) (Rd.mod0 h.out hm) hlt
      subst hA
      unfold rsC at hrg
      have hz := Lib.hid (Blk.new wr 37 #[.int .i64 0, .int .i64 0, .int .i64 0, .int .i64 0, .int .i64 0, .int .i64 0, .int .i64 0, .int .i64 0, .string ⟨#[]⟩, .string ⟨#[]⟩, .int .i64 0, .slice none 0 0, .int .i64 0, .int .i64 0, .string ⟨#[]⟩, .bool false, .slice none 0 0])
      have hMn := Lib.hid hM.lt
      replace hM := Lib.hid hM
      replace hLM := Lib.hid hLM
      replace hm := Lib.hid hm
      replace hxm := Lib.hid hxm
      replace hx := Lib.hid hx
      replace hrg := Lib.hid hrg
      go_upto_region 5 with (first
        | (refine wpList_load_mid rfl 37 (.tmp 11) rfl g (o + j * 17) rfl _ _ hrg.out Tryz.underlying37 rfl rc_size ?_)
        | (refine wpList_store_blk rfl 37 (.tmp 5) (.tmp 12) rfl wr.heap.size 0 _ rfl rfl hz.out (by simp) rc_size (by rfl) #[.int .i64 x.r.i.r, .int .i64 x.r.i.n, .int .i64 x.r.bal, .int .i64 x.r.st, .int .i64 x.r.by_, .int .i64 x.r.e.o.c, .int .i64 x.r.e.o.s, .int .i64 x.r.e.o.k, .string (txt x.r.e.o.acct), .string (txt x.r.e.o.peer), .int .i64 x.r.e.o.sum, .slice x.L.a x.L.n x.L.c, .int .i64 x.r.e.o.per, .int .i64 x.r.e.o.hold, .string (txt x.r.e.o.note), .bool x.r.e.none, .slice x.D.a x.D.n x.D.c] rfl ?_; intro w2 hb2 hm2))
      have hm2' := ((Mod.refl none_ wr).alloc (.cells #[.int .i64 0, .int .i64 0, .int .i64 0, .int .i64 0, .int .i64 0, .int .i64 0, .int .i64 0, .int .i64 0, .string ⟨#[]⟩, .string ⟨#[]⟩, .int .i64 0, .slice none 0 0, .int .i64 0, .int .i64 0, .string ⟨#[]⟩, .bool false, .slice none 0 0] 37)).in_new (Nat.le_refl _) hm2
      have hM2 := hM.out.mod hm2' (fun h => h)
      have hroom : (mapM M).length + 1 < maxLen := by
        have : (mapM M).length = M.length := by simp [mapM]
        rw [this]; simp only [maxLen]; omega
      obtain ⟨w3, hrun, hM3, hm3, hs3⟩ := hM2.store_run Tryz.underlying81 hroom (hi.out x hxm.out) (rsV x)
      rw [← mapM_put] at hM3
      unfold isVal rsV at hrun
      have hmm := Lib.hid ((hm.out.trans hm2').then hm3 (fun i hi hk => by have : i = w.heap.size := hk; omega))
      have hLM' := Lib.hid (hLM.out.snoc x)
      have hPl : Hid ((putM x M).length ≤ j + 1) := Lib.hid (by unfold putM; have := List.length_filter_le (fun y : Rs => !(y.r.i == x.r.i)) M; simp only [List.length_cons]; omega)
      clear hm2 hm2' hM2 hm3 hs3
      replace hM3 := Lib.hid hM3
      replace hb2 := Lib.hid hb2
      go_wp2_with (first
        | (refine wpList_load_blk rfl 25 (.tmp 14) rfl wr.heap.size 0 rfl hb2.out [.int .i64 x.r.i.r, .int .i64 x.r.i.n] rfl Tryz.underlying25 rfl inst_size ?_)
        | (refine wpList_load_row rfl 37 (.tmp 5) rfl wr.heap.size rfl _ _ _ _ hb2.out Tryz.underlying37 rfl rc_size ?_))
      go_roundw
      case rel => exact ⟨j + 1, putM x M, by go_num, by omega, hM3.out, by rw [List.take_add_one, hx.out]; exact hLM'.out, hPl.out, hmm.out⟩
      case measure => simp [intOf]; omega
    · obtain rfl : j = n := by omega
      rw [List.take_of_length_le (by rw [hl.out]; exact Nat.le_refl _)] at hLM
      replace hM := Lib.hid hM
      replace hLM := Lib.hid hLM
      replace hm := Lib.hid hm
      go_wp2_with fail
      refine (values_ok wr w.heap.size).mono ?_
      rintro e w3 ⟨rfl, rfl⟩
      dsimp only
      have kS := Lib.hid (sortedR_ok (wr.alloc (.cells #[.map (some w.heap.size)] 81)) wr.heap.size w.heap.size M ((Blk.new wr _ #[.map (some w.heap.size)]).cell_ rfl) (by simp) (hM.out.alloc _) (by omega))
      go_wp2_with fail
      refine kS.out.mono ?_
      rintro e w4 ⟨A4, c4, ss, rfl, hp, hs, ho, hf, hm4⟩
      dsimp only
      have hend : Hid (LsPost w xs (.returned (.slice A4 M.length c4)) w4) := Lib.hid ⟨A4, _, c4, ss, rfl, hLM.out.sort hp hs, ho, fun a ha => Nat.le_trans (hm.out.alloc _).size (hf a ha), (hm.out.alloc _).trans hm4⟩
      clear hp hs ho hf hm4 kS
      go_wp2_with fail
      go_ret
      exact hend.out
end Go.Proofs.YtimlfdihodoolaaGreat
/-
  The law's small records, and lives. No condition.
-/
namespace Go.Proofs.YtimlfdihodoolaaGreat
set_option linter.unusedVariables false
set_option linter.unusedSimpArgs false
open Go.RowKit
def blR (rep bal : Int) : Rc := ⟨⟨rep, 1⟩, bal, 0, 0, en0⟩
def bl (rep bal : Int) : Rs := ⟨blR rep bal, ⟨none, 0, 0⟩, ⟨none, 0, 0⟩⟩
theorem scanR_recs : ∀ (xs : List Rs) (fs : List (List UInt8)), (∀ x ∈ xs, RtR x = true) → (∀ x ∈ xs, numsE x.r.e) → scanR (recsB xs ++ fs) = (xs.map (·.r) ++ (scanR fs).1, (logB xs).length + (scanR fs).2)
  | [], fs, _, _ => by simp [recsB, logB]
  | x :: xs, fs, h, hn => by
    have ih := scanR_recs xs fs (fun y hy => h y (List.mem_cons_of_mem _ hy)) (fun y hy => hn y (List.mem_cons_of_mem _ hy))
    have h1 : rdRec (recB x.r) = (x.r, 0) := rdRec_of (h x List.mem_cons_self) (hn x List.mem_cons_self)
    show scanR (recB x.r :: (recsB xs ++ fs)) = _
    rw [scanR_yes h1, ih]
    have hl : (logB (x :: xs)).length = 6 + (recB x.r).length + (logB xs).length := by
      show (frameOf (recB x.r) ++ logB xs).length = _
      rw [List.length_append, frameOf_length]
    rw [hl]
    simp only [List.map_cons, List.cons_append, Prod.mk.injEq, true_and]
    omega
theorem logScan_of (xs : List Rs) (h : ∀ x ∈ xs, RtR x = true) (hn : ∀ x ∈ xs, numsE x.r.e) (rest : List UInt8) : logScan (logB xs ++ rest) = (xs.map (·.r) ++ (logScan rest).1, (logB xs).length + (logScan rest).2) := by
  unfold logScan
  have := scan_flat (recsB xs) rest (recs_okL h hn)
  show scanR (scan ((recsB xs).flatMap frameOf ++ rest)).1 = _
  rw [this]
  exact scanR_recs xs _ h hn
theorem logScan_nil : logScan [] = ([], 0) := by unfold logScan; rw [scan_nil [] rfl]; rfl
theorem logScan_all (xs : List Rs) (h : ∀ x ∈ xs, RtR x = true) (hn : ∀ x ∈ xs, numsE x.r.e) : logScan (logB xs) = (xs.map (·.r), (logB xs).length) := by
  have := logScan_of xs h hn []
  rw [List.append_nil, logScan_nil] at this
  simpa using this
theorem last_two {a b : Rs} {ys : List Rs} (h : LastOf [a, b] ys) (he : a.r.i = b.r.i) : ys = [b] := by
  have hl : ∀ y ∈ ys, y = b := fun y hy => by
    have h1 := h.last y hy
    have h2 := lastOf_snoc [a] b y.r.i
    have e : ([a] ++ [b] : List Rs) = [a, b] := rfl
    rw [e, h1] at h2
    by_cases hb : b.r.i = y.r.i
    · rw [if_pos hb] at h2; exact Option.some.inj h2
    · rw [if_neg hb] at h2
      have h3 : lastOf [a] y.r.i = none := by
        unfold lastOf
        simp [he, hb]
      rw [h3] at h2; cases h2
  obtain ⟨y, hy, _⟩ := h.all b (by simp)
  cases ys with
  | nil => cases hy
  | cons z zs =>
    have hz := hl z List.mem_cons_self
    cases zs with
    | nil => rw [hz]
    | cons u us =>
      have hu := hl u (by simp)
      have hs := (List.pairwise_cons.1 h.sorted).1 u (by simp)
      rw [hz, hu] at hs
      unfold isLt at hs
      simp at hs
set_option maxRecDepth 100000 in
theorem blank_ok (w : World) (r b : Int) : Calls Tryz.prog 12 #[.int .i64 r, .int .i64 b] w fun e w' => e = .returned (.agg #[.int .i64 r, .int .i64 1, .int .i64 b, .int .i64 0, .int .i64 0, .int .i64 0, .int .i64 0, .int .i64 0, .string ⟨#[]⟩, .string ⟨#[]⟩, .int .i64 0, .slice none 0 0, .int .i64 0, .int .i64 0, .string ⟨#[]⟩, .bool false, .slice none 0 0]) ∧ Mod none_ w w' := by
  have hb0 := Lib.hid (Blk.new w 37 #[.int .i64 0, .int .i64 0, .int .i64 0, .int .i64 0, .int .i64 0, .int .i64 0, .int .i64 0, .int .i64 0, .string ⟨#[]⟩, .string ⟨#[]⟩, .int .i64 0, .slice none 0 0, .int .i64 0, .int .i64 0, .string ⟨#[]⟩, .bool false, .slice none 0 0])
  go_enter Tryz.func12, Tryz.ntmps12
  go_wp2_with (refine wpList_store_blk rfl 37 (.tmp 4) (.tmp 9) rfl w.heap.size 0 _ rfl rfl hb0.out (by simp) rc_size (by rfl) #[.int .i64 r, .int .i64 1, .int .i64 b, .int .i64 0, .int .i64 0, .int .i64 0, .int .i64 0, .int .i64 0, .string ⟨#[]⟩, .string ⟨#[]⟩, .int .i64 0, .slice none 0 0, .int .i64 0, .int .i64 0, .string ⟨#[]⟩, .bool false, .slice none 0 0] rfl ?_; intro w2 hb2 hm2; replace hb2 := Lib.hid hb2; replace hm2 := Lib.hid hm2)
  exact ret_row rfl w.heap.size rfl hb2.out Tryz.underlying37 rfl rc_size rfl ⟨rfl, ((Mod.refl none_ w).alloc _).in_new (Nat.le_refl _) hm2.out⟩
theorem bl_ok (r b : Int) : RsOk (bl r b) := ⟨by simp [bl], by simp [bl], (show (Lit.int .i64 en0.o.k).wf = true by decide), fun l hl => by cases hl⟩
theorem bl_nums (r b : Int) : numsE (bl r b).r.e := ⟨(show in64 en0.o.sum from ⟨by decide, by decide⟩), fun l hl => by cases hl⟩
theorem bl_mem (w : World) (r b : Int) : EnM w (bl r b).r.e (bl r b).L (bl r b).D := en0_mem w
theorem bl_in (r b : Int) (h : (Lit.int .i64 r).wf = true) : inI (bl r b).r.i := ⟨h, (show (Lit.int .i64 1).wf = true by decide)⟩
def twoL : List Rs := [bl 0 1, bl 0 2]
theorem len_two {l : List Rs} (h : l.length = 2) : ∃ a b, l = [a, b] := by
  cases l with
  | nil => simp at h
  | cons a l =>
    cases l with
    | nil => simp at h
    | cons b l =>
      cases l with
      | nil => exact ⟨a, b, rfl⟩
      | cons c l => simp at h
theorem two_inv {a b : Rs} (h : [a, b].map (·.r) = twoL.map (·.r)) : a.r = blR 0 1 ∧ b.r = blR 0 2 := by
  unfold twoL at h
  simp only [List.map_cons, List.map_nil, List.cons.injEq, and_true] at h
  exact h
theorem two_rt : ∀ x ∈ twoL, RtR x = true := fun x hx => by
  simp only [twoL, List.mem_cons, List.not_mem_nil, or_false] at hx
  rcases hx with rfl | rfl <;> decide
theorem two_nums : ∀ x ∈ twoL, numsE x.r.e := fun x hx => by
  simp only [twoL, List.mem_cons, List.not_mem_nil, or_false] at hx
  rcases hx with rfl | rfl <;> exact bl_nums _ _
theorem two_put : putR [] 0 1000 twoL = (0, logB twoL, 22) := by
  have h1 : (logB twoL).length = 22 := by decide +kernel
  unfold putR
  rw [if_pos (by rw [List.all_eq_true]; exact two_rt), if_neg (by simp [twoL]), if_pos (by rw [h1]; decide), h1]
  rfl
theorem two_list (w : World) : RsL (w.alloc (.cells #[.int .i64 0, .int .i64 1, .int .i64 1, .int .i64 0, .int .i64 0, .int .i64 0, .int .i64 0, .int .i64 0, .string ⟨#[]⟩, .string ⟨#[]⟩, .int .i64 0, .slice none 0 0, .int .i64 0, .int .i64 0, .string ⟨#[]⟩, .bool false, .slice none 0 0, .int .i64 0, .int .i64 1, .int .i64 2, .int .i64 0, .int .i64 0, .int .i64 0, .int .i64 0, .int .i64 0, .string ⟨#[]⟩, .string ⟨#[]⟩, .int .i64 0, .slice none 0 0, .int .i64 0, .int .i64 0, .string ⟨#[]⟩, .bool false, .slice none 0 0] 37)) (some ⟨w.heap.size, 0, none⟩) 2 twoL := by
  refine ⟨?_, ?_, ?_, two_nums⟩
  · exact rdn w 37 17 2 w.heap.size (#[.int .i64 0, .int .i64 1, .int .i64 1, .int .i64 0, .int .i64 0, .int .i64 0, .int .i64 0, .int .i64 0, .string ⟨#[]⟩, .string ⟨#[]⟩, .int .i64 0, .slice none 0 0, .int .i64 0, .int .i64 0, .string ⟨#[]⟩, .bool false, .slice none 0 0, .int .i64 0, .int .i64 1, .int .i64 2, .int .i64 0, .int .i64 0, .int .i64 0, .int .i64 0, .int .i64 0, .string ⟨#[]⟩, .string ⟨#[]⟩, .int .i64 0, .slice none 0 0, .int .i64 0, .int .i64 0, .string ⟨#[]⟩, .bool false, .slice none 0 0] : Array Value) (0, 0) rfl rfl
  · intro x hx
    simp only [twoL, List.mem_cons, List.not_mem_nil, or_false] at hx
    rcases hx with rfl | rfl <;> exact bl_mem _ _ _
  · intro x hx
    simp only [twoL, List.mem_cons, List.not_mem_nil, or_false] at hx
    rcases hx with rfl | rfl <;> exact bl_ok _ _
set_option maxRecDepth 100000 in
set_option maxHeartbeats 8000000 in
theorem lives_ok (w : World) : Calls Tryz.prog 4 #[] w fun e w' => e = .returned (.bool true) ∧ Mod none_ w w' := by
  go_enter Tryz.func4, Tryz.ntmps4
  go_wp2_with fail
  with_reducible refine (disk_new 1000 w).mono ?_
  rintro e w1 ⟨rfl, hd1, hm1⟩
  dsimp only
  have hr : (min (max (1000 : Int) 0) 65536).toNat = 1000 := by decide
  rw [hr] at hd1
  clear hr
  generalize hp : w.heap.size = p at *
  replace hp := Lib.hid hp
  replace hd1 := Lib.hid hd1
  replace hm1 := Lib.hid hm1
  go_wp2_with fail
  with_reducible refine (blank_ok _ 0 1).mono ?_
  rintro e w2 ⟨rfl, hm2⟩
  dsimp only
  replace hm2 := Lib.hid hm2
  go_wp2_with fail
  with_reducible refine (blank_ok _ 0 2).mono ?_
  rintro e w3 ⟨rfl, hm3⟩
  dsimp only
  have hm12 := (hm2.out.trans hm3).alloc (.cells #[.int .i64 0, .int .i64 1, .int .i64 1, .int .i64 0, .int .i64 0, .int .i64 0, .int .i64 0, .int .i64 0, .string ⟨#[]⟩, .string ⟨#[]⟩, .int .i64 0, .slice none 0 0, .int .i64 0, .int .i64 0, .string ⟨#[]⟩, .bool false, .slice none 0 0, .int .i64 0, .int .i64 1, .int .i64 2, .int .i64 0, .int .i64 0, .int .i64 0, .int .i64 0, .int .i64 0, .string ⟨#[]⟩, .string ⟨#[]⟩, .int .i64 0, .slice none 0 0, .int .i64 0, .int .i64 0, .string ⟨#[]⟩, .bool false, .slice none 0 0] 37)
  have hd3 := hd1.out.mod0 hm12
  have hM3 := Lib.hid (hm1.out.trans hm12)
  have hl3 := two_list w3
  have kP := put_ok _ p none 0 [] 0 1000 hd3 (some ⟨w3.heap.size, 0, none⟩) 2 2 twoL hl3 (by omega)
  rw [two_put] at kP
  clear hm12 hd3 hl3 hm2 hm3
  replace kP := Lib.hid kP
  go_wp2_with fail
  with_reducible refine kP.out.mono ?_
  rintro e w4 ⟨A4, c4, a4, l4, s4, rfl, he4, hd4, hn4, hm4⟩
  simp only [Prod.mk.injEq] at he4
  obtain ⟨rfl, rfl, rfl⟩ := he4
  dsimp only
  have hM4 := Lib.hid (hM3.out.then hm4 (fun i hi hk => by rcases hk with hk | ⟨a, ha, _⟩; (have := hp.out; omega); cases ha))
  clear hn4 hm4 kP
  replace hd4 := Lib.hid hd4
  go_wp2_with fail
  have h22 : (logB twoL).length = 22 := by decide +kernel
  have kB := disk_bytes p A4 c4 w4 ⟨logB twoL, 22, 1000, false⟩ hd4.out
  dsimp only at kB
  rw [h22] at kB
  with_reducible refine kB.mono ?_
  rintro e w5 ⟨A5, c5, rfl, ho5, hf5, hm5⟩
  dsimp only
  have hd5 := Lib.hid (hd4.out.mod0 hm5)
  have hM5 := Lib.hid (hM4.out.trans hm5)
  have kSc := logScan_ok w5 A5 22 c5 (logB twoL) ho5.rd ho5.2.1 (by have := ho5.2.2.1; simpa [maxLen] using this) (by omega)
  unfold LScanPost at kSc
  rw [logScan_all twoL two_rt two_nums, h22] at kSc
  clear kB ho5 hf5 hm5 h22
  replace kSc := Lib.hid kSc
  go_wp2_with fail
  with_reducible refine kSc.out.mono ?_
  rintro e w6 ⟨A6, n6, c6, xs6, rfl, hN6, hx6, hm6⟩
  dsimp only at hx6 ⊢
  have hn6 : n6 = 2 := by have h1 := hN6.len; have h2 := congrArg List.length hx6; simp [twoL] at h2; omega
  subst hn6
  obtain ⟨a6, b6, rfl⟩ := len_two hN6.len
  obtain ⟨ha6, hb6⟩ := two_inv hx6
  have hd6 := Lib.hid (hd5.out.mod0 hm6)
  have hM6 := Lib.hid (hM5.out.trans hm6)
  have hin : ∀ x ∈ [a6, b6], inI x.r.i := fun x hx => by
    simp only [List.mem_cons, List.not_mem_nil, or_false] at hx
    rcases hx with rfl | rfl
    · rw [ha6]; exact bl_in 0 1 (by decide)
    · rw [hb6]; exact bl_in 0 2 (by decide)
  have kL := Lib.hid (last_ok w6 A6 2 c6 [a6, b6] hN6.ow.rd hin (by omega))
  have hE6 := hN6.mem b6 (by simp)
  have hk6 := hN6.ok b6 (by simp)
  clear hm6 hin kSc hN6
  replace ha6 := Lib.hid ha6
  replace hb6 := Lib.hid hb6
  replace hE6 := Lib.hid hE6
  replace hk6 := Lib.hid hk6
  go_wp2_with fail
  with_reducible refine kL.out.mono ?_
  rintro e w7 ⟨A7, n7, c7, ys, rfl, hls, ho7, hf7, hm7⟩
  dsimp only
  have hys := last_two hls (by rw [ha6.out, hb6.out] <;> rfl)
  subst hys
  have hn7 := ho7.len
  simp only [List.length_cons, List.length_nil, Nat.zero_add] at hn7
  subst hn7
  obtain ⟨g, o, x, hA7, hxm, hx, hrg⟩ := rdr_get (j := 0) (Ow.rd ho7) (by omega)
  simp only [List.mem_cons, List.not_mem_nil, or_false] at hxm
  subst hxm
  subst hA7
  obtain ⟨xr, xL, xD⟩ := x
  simp only at ha6 hb6 hE6 hk6 hrg
  have hb6' := hb6.out
  subst hb6'
  have hd7 := Lib.hid (hd6.out.mod0 hm7)
  have hM7 := Lib.hid (hM6.out.trans hm7)
  have hE7 := Lib.hid (hE6.out.mod0 hm7)
  have kR := Lib.hid (fun W (h : Mod none_ w7 W) => rightR_ok W (blR 0 2) xL xD (hE7.out.mod0 h) hk6.out.1.1 hk6.out.1.2.1 hk6.out.1.2.2.1 hk6.out.1.2.2.2)
  replace kR := kR.out
  rw [show rightR (blR 0 2) = true by decide] at kR
  replace kR := Lib.hid kR
  clear hls ho7 hf7 hm7 hx kL
  have kB := disk_bytes p A4 c4 w7 ⟨logB twoL, 22, 1000, false⟩ hd7.out
  have h22 : (logB twoL).length = 22 := by decide +kernel
  dsimp only at kB
  rw [h22] at kB
  clear h22
  replace kB := Lib.hid kB
  replace hrg := Lib.hid hrg
  go_wp2_with fail
  with_reducible refine kB.out.mono ?_
  rintro e w8 ⟨A8, c8, rfl, ho8, hf8, hm8⟩
  dsimp only
  have hd8 := Lib.hid (hd7.out.mod0 hm8)
  have hM8 := Lib.hid (hM7.out.trans hm8)
  have hr8 := rangeAt_mod hrg.out hm8
  rw [Nat.zero_mul, Nat.add_zero] at hr8
  have c2 : w8.cell? ⟨g, o + 2, none⟩ = some (.int .i64 2) := hr8 2 _ rfl
  have hm8h := Lib.hid hm8
  clear ho8 hf8 hm8 kB
  replace hr8 := Lib.hid hr8
  go_wp2_with (refine wpList_step (fun K hK => ?_); rw [if_pos (by rfl)]; refine wp_load_mid 37 (.tmp 53) rfl g o rfl _ _ hr8.out Tryz.underlying37 rfl rc_size ?_; refine hK _ _ ?_)
  refine (kR.out _ hm8h.out).mono ?_
  rintro e w9 ⟨rfl, hm9⟩
  dsimp only
  have hd9 := Lib.hid (hd8.out.mod0 hm9)
  have hM9 := Lib.hid (hM8.out.trans hm9)
  have kSu := Lib.hid (disk_sure p 22 w9 (show w9.cell? ⟨p, 1, none⟩ = some (.int .i64 22) from hd9.out.c1))
  clear hm9
  go_wp2_with fail
  with_reducible refine kSu.out.mono ?_
  rintro e w10 ⟨rfl, rfl⟩
  dsimp only
  go_wp2_with fail
  go_ret
  exact ⟨rfl, hM9.out⟩
end Go.Proofs.YtimlfdihodoolaaGreat
/-
  append(b, s...) of a text onto bytes of the call's own. No condition.
-/
namespace Go.Proofs.YtimlfdihodoolaaGreat
set_option linter.unusedVariables false
set_option linter.unusedSimpArgs false
open Go.RowKit
theorem strCells_txt (l : List UInt8) : Lib.strCells (txt l) = bvs l := rfl
theorem run_append_txt {P : Program} (w : World) (t u ty e : TypeId) (i : TypeInfo) (ht : P.underlying t = some (.slice e)) (hu : P.underlying u = some .string) (hi : P.info? e = some i) (hz : i.zero = some (.int .u8 0))
    (hsize : i.size = 1) (hby : i.bytes = 1)
    (A : Option Addr) (n c : Nat) (xs : List Value) (hown : Ow w e 1 A n c xs) (l : List UInt8) (hb : n + l.length ≤ 140737488355328) :
    ∃ A' c' w', (Builtin.append_ #[t, u] ty #[.slice A n c, .string (txt l)]).run P w = .ok (.slice A' (n + l.length) c') w' ∧ Ow w' e 1 A' (n + l.length) c' (xs ++ bvs l) ∧ Mod (fp A) w w' ∧
      (A' = A ∨ A' = some ⟨w.heap.size, 0, none⟩) := by
  have hts := txt_size l
  have hlen : (xs ++ bvs l).length = (n + l.length) * 1 := by rw [List.length_append, hown.1, bvs_length]; omega
  have hmax : n + l.length ≤ maxLen := by simp only [maxLen]; omega
  obtain ⟨hx1, hnc, hcm, hcase⟩ := hown
  have grown : ∀ (old : Nat), old < n + l.length →
      Ow (w.drew.alloc (.cells (xs.toArray ++ (bvs l).toArray ++ Builtin.zeroCells (Value.int .u8 0).cells (grownCap w (n + l.length) old e - (n + l.length))) e)) e 1
        (some ⟨w.heap.size, 0, none⟩) (n + l.length) (grownCap w (n + l.length) old e) (xs ++ bvs l) ∧
      Mod (fp A) w (w.drew.alloc (.cells (xs.toArray ++ (bvs l).toArray ++ Builtin.zeroCells (Value.int .u8 0).cells (grownCap w (n + l.length) old e - (n + l.length))) e)) := by
    intro old ho
    have hge := grownCap_ge w (n + l.length) old e
    have hcm : grownCap w (n + l.length) old e ≤ maxLen := grownCap_le_maxLen w (n + l.length) old e hmax
    refine ⟨⟨hlen, hge, hcm, .inr ⟨w.heap.size, _, rfl, heap_alloc_new w.drew _, ?_, ?_⟩⟩, (Mod.refl _ w).drew.alloc _⟩
    · have hz1 : (Value.int IntKind.u8 0).cells.size = 1 := rfl
      simp only [Array.size_append, List.size_toArray, size_zeroCells, hz1, hx1, bvs_length]
      omega
    · simp only [Array.toList_append, List.append_assoc]
      rw [← List.append_assoc, ← hlen]
      exact List.take_left
  by_cases hm : l.length = 0
  · have hn : l = [] := List.eq_nil_of_length_eq_zero hm
    subst hn
    have hf := Lib.run_firstCells_string (P := P) w 1 (txt [])
    have hs0 : (txt []).size = 0 := rfl
    rw [hs0] at hf
    have hrun : (Builtin.append_ #[t, u] ty #[.slice A n c, .string (txt [])]).run P w = .ok (.slice A n c) w := by
      rcases hcase with ⟨rfl, rfl, rfl⟩ | ⟨g, cur, rfl, hb, h5, h6⟩
      · simp [Builtin.append_, run_underlying ht, run_underlying hu, sizeOf, typeInfo, hi, hsize, Builtin.lenOf, hs0, hf]
      · simp [Builtin.append_, run_underlying ht, run_underlying hu, sizeOf, typeInfo, hi, hsize, Builtin.lenOf, hs0, hf, hnc, storeCells, strCells_txt, bvs]
    refine ⟨A, c, w, by simpa using hrun, ?_, Mod.refl _ w, .inl rfl⟩
    simp only [List.length_nil, Nat.add_zero, bvs, List.map_nil, List.append_nil]
    exact ⟨hx1, hnc, hcm, hcase⟩
  · rcases hcase with ⟨rfl, rfl, rfl⟩ | ⟨g, cur, rfl, hb, h5, h6⟩
    · have hx : xs = [] := List.eq_nil_of_length_eq_zero (by simpa using hx1)
      subst hx
      have hr := run_append_nil_string (P := P) w t u ty e i (.int .u8 0) ht hu hi hz (txt l) (by omega) (by omega) (by rw [hby]; omega)
      have hgr := grown 0 (by omega)
      simp only [Nat.zero_add, List.nil_append, Array.empty_append] at hgr ⊢
      have e1 : ((txt l).data.map fun b => Value.int .u8 b.toNat) = (bvs l).toArray := by
        apply Array.ext'
        simp [bvs, txt, bv]
      rw [e1, hts] at hr
      exact ⟨_, _, _, hr, hgr.1, hgr.2, .inr rfl⟩
    · by_cases hroom : n + l.length ≤ c
      · have hr := Lib.run_append_room_string (P := P) w t u ty e i ht hu hi hsize g n c cur hb (txt l) (by omega) (by omega)
        rw [strCells_txt, hts] at hr
        refine ⟨_, _, _, hr, ⟨hlen, hroom, hcm, .inr ⟨g, _, rfl, setRow_heap w g cur _ e _ hb, ?_, ?_⟩⟩, ⟨rfl, rfl, rfl, by simp, fun k hk hf => setRow_other w g k _ (fun e => hf ⟨_, rfl, e.symm⟩)⟩, .inl rfl⟩
        · simp only [List.size_toArray, List.length_append, List.length_take, List.length_drop, Array.length_toList, bvs_length]
          omega
        · have ht' : cur.toList.take n = xs := by simpa using h6
          rw [ht', ← hlen]
          exact List.take_left
      · have holds : ∀ j u, xs[j]? = some u → w.cell? ((⟨g, 0, none⟩ : Addr).add j) = some u := by
          intro j u hu
          rw [add_lit, Blk.cell hb]
          rw [← h6, List.getElem?_take] at hu
          split at hu
          · simpa using hu
          · cases hu
        have hr := Lib.run_append_grow_string (P := P) w t u ty e i (.int .u8 0) ht hu hi hz ⟨g, 0, none⟩ n c xs (by rw [hsize]; exact hx1) holds (txt l) (by omega) (by omega) (by rw [hby]; exact growslice_fits (by omega) (by omega))
        rw [strCells_txt, hts] at hr
        have hgr := grown c (by omega)
        exact ⟨_, _, _, hr, hgr.1, hgr.2, .inr rfl⟩
theorem appT {w : World} {ops : Array Oper} {rest : List Oper} {o : Oper} {a : Act} {Q : Exit → Act → World → Prop} (hgd : o.guard = none) (s x : Operand)
    (ho : o.op = .call { callee := .builtin .append, args := #[s, x], argTypes := #[22, 9] })
    {A : Option Addr} {n c : Nat} {xs : List UInt8} (hs : a.eval s = .slice A n c) (hown : OwB w 5 A n c xs) {l : List UInt8} (hx : a.eval x = .string (txt l)) (hb : n + l.length ≤ 140737488355328)
    (h : ∀ A' c' w', OwB w' 5 A' (n + l.length) c' (xs ++ l) → Mod (fp A) w w' → (A' = A ∨ A' = some ⟨w.heap.size, 0, none⟩) → wpList Tryz.prog ops Q rest (a.put o.dst (.slice A' (n + l.length) c')) w') : wpList Tryz.prog ops Q (o :: rest) a w := by
  refine wpList_plain hgd fun K hK => ?_
  obtain ⟨i0, hi, hz0, hz1, hz2⟩ := info_parts u8info
  obtain ⟨A', c', w', hr, h2, h3, h4⟩ := run_append_txt (P := Tryz.prog) w 22 9 o.type 5 i0 Tryz.underlying22 Tryz.underlying9 hi hz0 hz1 hz2 A n c (bvs xs) hown l hb
  unfold Oper.wp execOp
  simp only [ho, resolve, invoke, builtin, Sem.run_bind, Sem.run_pure, Result.andThen_ok, List.map_toArray, List.map_cons, List.map_nil, hs, hx, hr]
  rw [← bvs_append] at h2
  exact hK _ _ (h A' c' w' h2 h3 h4)
end Go.Proofs.YtimlfdihodoolaaGreat
/-
  The reference's numbers' and texts' bytes. No condition.
-/
namespace Go.Proofs.YtimlfdihodoolaaGreat
set_option linter.unusedVariables false
set_option linter.unusedSimpArgs false
open Go.RowKit
set_option maxRecDepth 100000 in
set_option maxHeartbeats 1000000 in
theorem r2num_ok (w : World) (n : Int) (h1 : -9223372036854775808 ≤ n) (h2 : n ≤ 9223372036854775807) : Calls Tryz.prog 74 #[.int .i64 n] w (NumPost w n) := by
  have hz := zig_lt h1 h2
  obtain ⟨M, hM⟩ : ∃ M, M = zig n := ⟨_, rfl⟩
  rw [← hM] at hz
  by_cases hn : n < 0
  · have e2 : wrap64 (-1 - n) = -1 - n := IntWalk.wrap64_in _ ⟨by omega, by omega⟩
    have e1 : IntKind.u64.wrap (IntKind.u64.wrap (IntKind.u64.wrap (-1 - n) * 2) + 1) = (M : Int) := by
      rw [hM]; unfold zig; rw [if_neg (by omega), IntKind.wrap_u64, IntKind.wrap_u64, IntKind.wrap_u64]; omega
    have e3 : IntKind.u64.wrap (-1 - n) = -1 - n := by rw [IntKind.wrap_u64]; omega
    have e4 : IntKind.u64.wrap ((-1 - n) * 2) = (-1 - n) * 2 := by rw [IntKind.wrap_u64]; omega
    have e5 : IntKind.u64.wrap ((-1 - n) * 2 + 1) = (M : Int) := by rw [e3, e4] at e1; exact e1
    replace hM := Lib.hid hM
    go_enter Tryz.func74, Tryz.ntmps74
    go_wp2_with fail
    go_loopw [3, 4] (fun x v wr => ∃ q : Nat, x = .int .u64 q ∧ NumRel w M q v wr) (fun x _ _ => (intOf x).toNat)
    case atStart => exact ⟨M, by first | rfl | rw [e6], none, 0, 0, [], rfl, Ow.nil _ _ _, (fun _ h => by cases h), Mod.refl _ w, rfl, by unfold NumOk; simpa using hz, by omega⟩
    case round =>
      obtain ⟨q, rfl, A, t, c, pre, rfl, ho, hf, hm, hpre, hq, ht⟩ := hrel
      have hq64 : q < 18446744073709551616 := Nat.lt_of_lt_of_le hq (Nat.pow_le_pow_right (show 0 < 2 by omega) (show 64 - 7 * t ≤ 64 by omega))
      have r2 : IntKind.u64.wrap ((q : Int) / 128) = ((q / 128 : Nat) : Int) := by rw [IntKind.wrap_u64]; omega
      have r1 : ((q : Int) % 128 + 128) = (((q % 128 + 128 : Nat)) : Int) := by omega
      replace hq64 := Lib.hid hq64
      replace hz := Lib.hid hz
      replace ho := Lib.hid ho
      replace hf := Lib.hid hf
      replace hm := Lib.hid hm
      replace hpre := Lib.hid hpre
      replace r1 := Lib.hid r1
      by_cases hl : 128 ≤ q
      · obtain ⟨g1, g2, g3⟩ := num_step ht hq hl
        have hl2 : (128 : Int) ≤ (q : Int) := by omega
        replace hq := Lib.hid hq
        replace g2 := Lib.hid g2
        replace g3 := Lib.hid g3
        go_wp2_with (at_builtin; go_loud (refine app8 rfl (.tmp 17) (.tmp 22) rfl rfl (ho.out.mod0 ((Mod.refl none_ _).alloc _)) rfl (rdb_one _ _ (by_hi q)) (by omega) ?_; intro A' c' w' ho' hm' hA'; replace ho' := Lib.hid ho'; replace hm' := Lib.hid hm'; replace hA' := Lib.hid hA'))
        go_roundw
        case rel =>
          refine ⟨q / 128, by go_num, A', t + 1, c', pre ++ [by_ (q % 128 + 128)], rfl, ho'.out, Fresh.app hf.out (hm.out.alloc _).size hA'.out, (hm.out.alloc _).app hf.out hm'.out, ?_, g2.out, by omega⟩
          rw [← hpre.out, g3.out, List.append_assoc] <;> rfl
        case measure => simp only [intOf]; omega
      · have hv : Hid (pre ++ [by_ q] = vb M) := by
          have := hpre.out
          rw [vbF_last (by omega) (by omega)] at this
          exact Lib.hid this
        have hl2 : ¬ (128 : Int) ≤ (q : Int) := by omega
        go_wp2_with (at_builtin; go_loud (refine app8 rfl (.tmp 26) (.tmp 29) rfl rfl (ho.out.mod0 ((Mod.refl none_ _).alloc _)) rfl (rdb_one _ _ (by_lo (by omega))) (by omega) ?_; intro A' c' w' ho' hm' hA'; replace ho' := Lib.hid ho'; replace hm' := Lib.hid hm'; replace hA' := Lib.hid hA'))
        go_ret
        have h9 := ho'.out
        rw [hv.out, hM.out] at h9
        exact ⟨A', t + 1, c', rfl, h9, Fresh.app hf.out (hm.out.alloc _).size hA'.out, (hm.out.alloc _).app hf.out hm'.out, by omega⟩

  · have e1 : IntKind.u64.wrap (IntKind.u64.wrap n * 2) = (M : Int) := by
      rw [hM]; unfold zig; rw [if_pos (by omega), IntKind.wrap_u64, IntKind.wrap_u64]; omega
    have e6 : n * 2 = (M : Int) := by
      rw [hM]; unfold zig; rw [if_pos (by omega)]; omega
    replace hM := Lib.hid hM
    go_enter Tryz.func74, Tryz.ntmps74
    go_wp2_with fail
    go_loopw [3, 4] (fun x v wr => ∃ q : Nat, x = .int .u64 q ∧ NumRel w M q v wr) (fun x _ _ => (intOf x).toNat)
    case atStart => exact ⟨M, by first | rfl | rw [e6], none, 0, 0, [], rfl, Ow.nil _ _ _, (fun _ h => by cases h), Mod.refl _ w, rfl, by unfold NumOk; simpa using hz, by omega⟩
    case round =>
      obtain ⟨q, rfl, A, t, c, pre, rfl, ho, hf, hm, hpre, hq, ht⟩ := hrel
      have hq64 : q < 18446744073709551616 := Nat.lt_of_lt_of_le hq (Nat.pow_le_pow_right (show 0 < 2 by omega) (show 64 - 7 * t ≤ 64 by omega))
      have r2 : IntKind.u64.wrap ((q : Int) / 128) = ((q / 128 : Nat) : Int) := by rw [IntKind.wrap_u64]; omega
      have r1 : ((q : Int) % 128 + 128) = (((q % 128 + 128 : Nat)) : Int) := by omega
      replace hq64 := Lib.hid hq64
      replace hz := Lib.hid hz
      replace ho := Lib.hid ho
      replace hf := Lib.hid hf
      replace hm := Lib.hid hm
      replace hpre := Lib.hid hpre
      replace r1 := Lib.hid r1
      by_cases hl : 128 ≤ q
      · obtain ⟨g1, g2, g3⟩ := num_step ht hq hl
        have hl2 : (128 : Int) ≤ (q : Int) := by omega
        replace hq := Lib.hid hq
        replace g2 := Lib.hid g2
        replace g3 := Lib.hid g3
        go_wp2_with (at_builtin; go_loud (refine app8 rfl (.tmp 17) (.tmp 22) rfl rfl (ho.out.mod0 ((Mod.refl none_ _).alloc _)) rfl (rdb_one _ _ (by_hi q)) (by omega) ?_; intro A' c' w' ho' hm' hA'; replace ho' := Lib.hid ho'; replace hm' := Lib.hid hm'; replace hA' := Lib.hid hA'))
        go_roundw
        case rel =>
          refine ⟨q / 128, by go_num, A', t + 1, c', pre ++ [by_ (q % 128 + 128)], rfl, ho'.out, Fresh.app hf.out (hm.out.alloc _).size hA'.out, (hm.out.alloc _).app hf.out hm'.out, ?_, g2.out, by omega⟩
          rw [← hpre.out, g3.out, List.append_assoc] <;> rfl
        case measure => simp only [intOf]; omega
      · have hv : Hid (pre ++ [by_ q] = vb M) := by
          have := hpre.out
          rw [vbF_last (by omega) (by omega)] at this
          exact Lib.hid this
        have hl2 : ¬ (128 : Int) ≤ (q : Int) := by omega
        go_wp2_with (at_builtin; go_loud (refine app8 rfl (.tmp 26) (.tmp 29) rfl rfl (ho.out.mod0 ((Mod.refl none_ _).alloc _)) rfl (rdb_one _ _ (by_lo (by omega))) (by omega) ?_; intro A' c' w' ho' hm' hA'; replace ho' := Lib.hid ho'; replace hm' := Lib.hid hm'; replace hA' := Lib.hid hA'))
        go_ret
        have h9 := ho'.out
        rw [hv.out, hM.out] at h9
        exact ⟨A', t + 1, c', rfl, h9, Fresh.app hf.out (hm.out.alloc _).size hA'.out, (hm.out.alloc _).app hf.out hm'.out, by omega⟩

set_option maxRecDepth 100000 in
theorem r2text_ok (w : World) (s : List UInt8) (hs : s.length ≤ 1000000000000) : Calls Tryz.prog 52 #[.string (txt s)] w (BytesPost w (txtB s)) := by
  have hsz : (txt s).size = s.length := by simp [txt, ByteArray.size]
  go_enter Tryz.func52, Tryz.ntmps52
  go_wp2_with fail
  refine (r2num_ok _ (s.length : Int) (by omega) (by omega)).mono ?_
  rintro e w1 ⟨A, k, c, rfl, ho, hf, hm, hk⟩
  dsimp only
  replace ho := Lib.hid ho
  replace hf := Lib.hid hf
  replace hm := Lib.hid hm
  replace hsz := Lib.hid hsz
  go_wp2_with (at_builtin; go_loud (refine appT rfl (.tmp 5) (.tmp 6) rfl rfl ho.out rfl (by omega) ?_; intro A' c' w' ho' hm' hA'; replace ho' := Lib.hid ho'; replace hm' := Lib.hid hm'; replace hA' := Lib.hid hA'))
  go_ret
  have hl := ho'.out.len
  rw [List.length_append] at hl
  have el : (txtB s).length = k + s.length := by rw [txtB, List.length_append]; exact hl
  exact ⟨A', c', by rw [el] <;> rfl, by rw [el]; exact ho'.out, Fresh.app hf.out hm.out.size hA'.out, hm.out.app hf.out hm'.out⟩
end Go.Proofs.YtimlfdihodoolaaGreat
/-
  The reference's way to read a number, as a function on lists: it is the document's. No condition.
-/
namespace Go.Proofs.YtimlfdihodoolaaGreat
set_option linter.unusedVariables false
set_option linter.unusedSimpArgs false
/-- how many bytes of 128 and more stand ahead, k at most -/
def nHi : Nat → List UInt8 → Nat
  | 0, _ => 0
  | _ + 1, [] => 0
  | k + 1, c :: t => if 128 ≤ c.toNat then nHi k t + 1 else 0
def mVal : List UInt8 → Nat
  | [] => 0
  | c :: t => c.toNat % 128 + 128 * mVal t
def r2n (l : List UInt8) : Int × Nat × List UInt8 :=
  if nHi 10 l = l.length then (0, 4, []) else if nHi 10 l = 10 then (0, 3, [])
  else if vb (mVal (l.take (nHi 10 l + 1)) % 18446744073709551616) = l.take (nHi 10 l + 1) then (unzig (mVal (l.take (nHi 10 l + 1)) % 18446744073709551616), 0, l.drop (nHi 10 l + 1)) else (0, 3, [])
theorem nHi_le : ∀ (k : Nat) (l : List UInt8), nHi k l ≤ k ∧ nHi k l ≤ l.length
  | 0, l => by simp [nHi]
  | k + 1, [] => by simp [nHi]
  | k + 1, c :: t => by
    have := nHi_le k t
    simp only [nHi]
    split
    · simp only [List.length_cons]; omega
    · simp
theorem nHi_of : ∀ (k : Nat) (l : List UInt8) (n : Nat), n ≤ k → n ≤ l.length → (∀ j (h : j < l.length), j < n → 128 ≤ l[j].toNat) → (n = k ∨ n = l.length ∨ ∃ h : n < l.length, l[n].toNat < 128) → nHi k l = n
  | 0, l, n, h1, _, _, _ => by simp [nHi]; omega
  | k + 1, [], n, _, h2, _, _ => by simp at h2; simp [nHi, h2]
  | k + 1, c :: t, 0, _, _, _, h4 => by
    simp only [nHi]
    rw [if_neg]
    rcases h4 with h4 | h4 | ⟨h, h4⟩
    · omega
    · simp at h4
    · simp only [List.getElem_cons_zero] at h4; omega
  | k + 1, c :: t, n + 1, h1, h2, h3, h4 => by
    have h0 := h3 0 (by simp) (by omega)
    simp only [List.getElem_cons_zero] at h0
    simp only [nHi]
    rw [if_pos h0, nHi_of k t n (by omega) (by simpa using h2) (fun j h hj => by have := h3 (j + 1) (by simpa using h) (by omega); simpa using this) ?_]
    rcases h4 with h4 | h4 | ⟨h, h4⟩
    · exact .inl (by omega)
    · exact .inr (.inl (by simpa using h4))
    · exact .inr (.inr ⟨by simpa using h, by simpa using h4⟩)
theorem rdF_hi : ∀ (k i a : Nat) (l : List UInt8), i + k = 10 →
    (nHi k l = l.length → rdF a i l = (4, 0, 0)) ∧ (nHi k l ≠ l.length → nHi k l = k → rdF a i l = (3, 0, 0)) ∧
    (nHi k l ≠ l.length → nHi k l ≠ k → (rdF a i l = (3, 0, 0) ∨ rdF a i l = (0, a + mVal (l.take (nHi k l + 1)) * 2 ^ (7 * i), i + nHi k l + 1)))
  | k, i, a, [], _ => by
    have : nHi k [] = 0 := by cases k <;> simp [nHi]
    rw [this]
    exact ⟨fun _ => rfl, fun h => absurd rfl h, fun h => absurd rfl h⟩
  | 0, i, a, c :: t, hi => by
    obtain rfl : i = 10 := by omega
    refine ⟨fun h => by simp [nHi] at h, fun _ _ => ?_, fun _ h => absurd rfl h⟩
    simp [rdF]
  | k + 1, i, a, c :: t, hi => by
    have hc := c.toNat_lt
    simp only [nHi]
    by_cases h1 : 128 ≤ c.toNat
    · rw [if_pos h1]
      by_cases h9 : i = 9
      · subst h9
        obtain rfl : k = 0 := by omega
        have e : nHi 0 t = 0 := rfl
        rw [e]
        refine ⟨fun h => ?_, fun h _ => ?_, fun _ h => absurd rfl h⟩
        · have ht : t = [] := by simpa using h.symm
          subst ht
          rw [rdF, if_pos (.inr ⟨rfl, by omega⟩), if_pos ⟨rfl, h1, by omega⟩]
        · have ht : t ≠ [] := fun e => h (by rw [e] <;> rfl)
          rw [rdF, if_pos (.inr ⟨rfl, by omega⟩), if_neg (fun hh => ht hh.1)]
      · obtain ⟨q1, q2, q3⟩ := rdF_hi k (i + 1) (a + (c.toNat - 128) * 2 ^ (7 * i)) t (by omega)
        have hstep : rdF a i (c :: t) = rdF (a + (c.toNat - 128) * 2 ^ (7 * i)) (i + 1) t := by
          simp only [rdF]
          rw [if_neg (by omega), if_neg (by omega), if_neg (by omega)]
        rw [hstep]
        refine ⟨fun h => q1 (by simpa using h), fun h h' => q2 (fun e => h (by rw [e] <;> rfl)) (by omega), fun h h' => ?_⟩
        rcases q3 (fun e => h (by rw [e] <;> rfl)) (by omega) with q | q
        · exact .inl q
        · refine .inr ?_
          rw [q]
          have e2 : 7 * (i + 1) = 7 + 7 * i := by omega
          have e3 : c.toNat % 128 = c.toNat - 128 := by omega
          simp only [List.take_succ_cons, mVal]
          refine Prod.ext rfl (Prod.ext ?_ (by dsimp only; omega))
          dsimp only
          rw [e2, e3, Nat.pow_add, Nat.add_assoc, Nat.add_mul]
          congr 2
          rw [show (2 : Nat) ^ 7 = 128 from rfl, ← Nat.mul_assoc, Nat.mul_comm (mVal _) 128]
    · rw [if_neg h1]
      refine ⟨fun h => by simp at h, fun _ h => by omega, fun _ _ => ?_⟩
      simp only [rdF]
      by_cases b1 : i = 10 ∨ (i = 9 ∧ 1 < c.toNat)
      · rw [if_pos b1, if_neg (by omega)]; exact .inl rfl
      · rw [if_neg b1]
        by_cases b2 : c.toNat < 128 ∧ c.toNat = 0 ∧ 0 < i
        · rw [if_pos b2]; exact .inl rfl
        · rw [if_neg b2, if_pos (by omega)]
          refine .inr ?_
          have e3 : c.toNat % 128 = c.toNat := by omega
          simp only [Nat.zero_add, List.take_succ_cons, List.take_zero, mVal, Nat.mul_zero, Nat.add_zero, e3]
theorem r2n_eq (l : List UInt8) : r2n l = rn l 0 := by
  obtain ⟨q1, q2, q3⟩ := rdF_hi 10 0 0 l (by omega)
  unfold r2n rn
  rw [if_neg (by omega : ¬ ((0 : Nat) ≠ 0))]
  by_cases h1 : nHi 10 l = l.length
  · rw [if_pos h1]
    have e : rdNum l = (4, 0, 0) := q1 h1
    rw [e]
    simp
  rw [if_neg h1]
  by_cases h2 : nHi 10 l = 10
  · rw [if_pos h2]
    have e : rdNum l = (3, 0, 0) := q2 h1 h2
    rw [e]
    simp
  rw [if_neg h2]
  obtain ⟨V, hV⟩ : ∃ V, V = mVal (l.take (nHi 10 l + 1)) := ⟨_, rfl⟩
  rw [← hV]
  rcases q3 h1 h2 with h3 | h3
  · have e : rdNum l = (3, 0, 0) := h3
    rw [if_neg, e]
    · simp
    · intro hm
      have hr := rdNum_vb (V % 18446744073709551616) (l.drop (nHi 10 l + 1)) (by omega)
      rw [hm, List.take_append_drop, e] at hr
      simp at hr
  · have e : rdNum l = (0, V, nHi 10 l + 1) := by
      have : rdNum l = rdF 0 0 l := rfl
      rw [this, h3, ← hV]; simp
    obtain ⟨m, hm, _, _, ht, _, hlt⟩ := rdF_once l 0 0 V (nHi 10 l + 1) (by omega) e
    have hVm : V = m := by rw [hm]; simp
    subst hVm
    have hl64 : V < 18446744073709551616 := by simpa using hlt
    rw [Nat.mod_eq_of_lt hl64, if_pos (by rw [Nat.sub_zero] at ht; exact ht.symm), e]
    simp
end Go.Proofs.YtimlfdihodoolaaGreat
