import Derived.Test.YtdnbclhidpkpgaaGreatYp12
import Derived.Shelf.SlSortCmp.NoneTotal
import Derived.Test.YtdnbclhidpkpgaaGreatYp5
import Derived.Test.YtdnbclhidpkpgaaGreatYp7
import Derived.BigQuiet
import Derived.Deep.LoopGhost
import Derived.Test.YtdnbclhidpkpgaaGreatYp4
import Derived.Deep.QuietTactic
/-
  slices.SortFunc of records with log.Last's comparing; slices.SortedFunc of a map's records. No condition.
-/
namespace Go.Proofs.YtdnbclhidpkpgaaGreat
set_option linter.unusedVariables false
set_option linter.unusedSimpArgs false
open Go.RowKit
open Go.Shelf Go.Sort Go.Lib
instance : Inhabited Rs := ⟨⟨⟨⟨0, 0⟩, 0, 0, 0, en0⟩, ⟨none, 0, 0⟩, ⟨none, 0, 0⟩⟩⟩
theorem ltR_iff (x y : Rs) : ltOf cfR x y = isLt x.r.i y.r.i := by
  unfold ltOf cfR
  cases isLt x.r.i y.r.i with
  | true => simp
  | false =>
    simp only [Bool.false_eq_true, if_false]
    split <;> simp
theorem swoR : SWO (ltOf cfR) where
  irrefl x := by rw [ltR_iff]; unfold isLt; simp
  trans x y z h1 h2 := by
    rw [ltR_iff] at *
    unfold isLt at *
    simp only [decide_eq_true_eq] at *
    omega
  ntrans x y z h1 h2 := by
    rw [ltR_iff] at *
    unfold isLt at *
    simp only [decide_eq_false_iff_not] at *
    omega
theorem flatK_rss (d : List Rs) : (flatK rsC 17 d.toArray).toList = rss d := by
  apply List.ext_getElem?
  intro t
  by_cases ht : t < d.length * 17
  · have h1 : t / 17 < d.length := by omega
    have h2 : t % 17 < 17 := by omega
    have e1 : (flatK rsC 17 d.toArray).toList[t]? = some ((flatK rsC 17 d.toArray)[t]!) := by
      rw [Array.getElem?_toList, getElem!_pos _ t (by simpa using ht), Array.getElem?_eq_getElem (by simpa using ht)]
    rw [e1, get_flatK rsC 17 d.toArray t (by simpa using ht)]
    have e2 := flat_get rsC 17 (fun _ => rfl) d (t / 17) d[t / 17] (List.getElem?_eq_getElem h1) (t % 17) h2
    have e3 : t / 17 * 17 + t % 17 = t := by omega
    rw [e3] at e2
    unfold rss
    have e4 : d.toArray[t / 17]! = d[t / 17] := by rw [getElem!_pos _ _ (by simpa using h1)]; simp
    rw [e2, e4, getElem!_pos (rsC d[t / 17]) (t % 17) (by rw [rsC_len]; exact h2), List.getElem?_eq_getElem (by rw [rsC_len]; exact h2)]
  · rw [List.getElem?_eq_none (by simp; omega), List.getElem?_eq_none (by rw [rss_length]; omega)]
theorem heap_sortR {W : World} {g n : Nat} {e : TypeId} {cur : Array Value} (os : Array Obj) (d : Array Rs) (hb : Blk W g e cur) : Blk (sortWorldK rsC 17 W g 0 n d os) g e (putCells id 0 (flatK rsC 17 d) cur) := by
  have hg : g < W.heap.size := hb.lt
  unfold Blk sortWorldK putRowK putRow mapBlock
  show (_ ++ os)[g]? = _
  rw [Array.getElem?_append_left (by simp [Sort.ahead]; exact hg)]
  show (W.heap.modify g _)[g]? = _
  rw [Array.getElem?_eq_getElem (by rw [Array.size_modify]; exact hg), Array.getElem_modify_self]
  have := Array.getElem?_eq_some_iff.1 hb
  rw [this.2]
  rfl
theorem mod_sortR {W : World} {g n : Nat} (os : Array Obj) (d : Array Rs) : Mod (only g) W (sortWorldK rsC 17 W g 0 n d os) := by
  unfold sortWorldK putRowK putRow mapBlock
  refine ⟨rfl, rfl, rfl, by simp [Sort.grow, Sort.ahead], fun k hk hne => ?_⟩
  show (_ ++ os)[k]? = _
  rw [Array.getElem?_append_left (by simp [Sort.ahead]; exact hk)]
  show (W.heap.modify g _)[k]? = _
  have : g ≠ k := fun e => hne (by rw [e]; exact rfl)
  simp [Array.getElem?_modify, this]
theorem take_putCellsR (cur F : Array Value) (h : F.size ≤ cur.size) : (putCells id 0 F cur).toList.take F.size = F.toList := by
  apply List.ext_getElem?
  intro j
  by_cases hj : j < F.size
  · rw [List.getElem?_take_of_lt hj, Array.getElem?_toList]
    simp [putCells, hj, show j < cur.size by omega]
  · rw [List.getElem?_take_eq_none (by omega), List.getElem?_eq_none (by simp; omega)]
set_option maxRecDepth 100000 in
theorem sortR_ok (W : World) (g n cap : Nat) (xs : List Rs) (how : OwR W (some ⟨g, 0, none⟩) n cap xs) (hn : n ≤ 1000000) :
    Calls Tryz.prog 92 #[.slice (some ⟨g, 0, none⟩) n cap, .func (.func 63) #[] #[]] W fun e w' =>
      e = .returned (.tuple #[]) ∧ ∃ ys : List Rs, ys.Perm xs ∧ (ys.Pairwise fun a b => isLt b.r.i a.r.i = false) ∧ OwR w' (some ⟨g, 0, none⟩) n cap ys ∧ Mod (only g) W w' := by
  have hl := how.len
  obtain ⟨h1, h2, h3, h4⟩ := how
  rcases h4 with ⟨h4, _⟩ | ⟨g', cur, h4, hb, h5, h6⟩
  · cases h4
  · cases h4
    have hH : HoldsK rsC 17 W g 0 xs.toArray := by
      intro j hj
      have hj' : j < xs.length * 17 := by simpa using hj
      refine ⟨?_, hb.frozen _⟩
      rw [Nat.zero_add, hb.cell]
      have e1 := flatK_rss xs
      have e2 : cur[j]? = (rss xs)[j]? := by
        rw [← h6, List.getElem?_take, if_pos (by rw [← hl]; exact hj'), Array.getElem?_toList]
      rw [e2, ← e1, Array.getElem?_toList, Array.getElem?_eq_getElem hj, getElem!_pos _ j hj]
      rfl
    have hcmp : CmpLays Tryz.prog 63 #[] rsC 17 cfR g 0 xs.toArray.size W := fun m os dk hs x y => lastCmp_ok _ x y
    have hk := AnyQ.slices_SortFunc (P := Tryz.prog) Tryz.sortf92 17 (fun w => by kernel_rfl) (fun w => by kernel_rfl) rsC (fun _ => rfl) (fun x v hv => rss_one [x] v (by unfold rss; simpa using hv)) cfR swoR 63 #[] g 0 cap xs.toArray W (fun _ _ => rfl) hcmp hH hb.lt (by have := h3; simp only [maxLen] at this; simp; omega)
    have hsz : xs.toArray.size = n := by simpa using hl
    rw [hsz] at hk
    refine Calls.mono (show Calls Tryz.prog 92 #[.slice (some ⟨g, 0, none⟩) n cap, .func (.func 63) #[] #[]] W _ from hk) ?_
    rintro e w' ⟨rfl, d', n', os, hp, hs, rfl⟩
    refine ⟨rfl, d'.toList, ?_, ?_, ?_, mod_sortR os d'⟩
    · obtain ⟨p1, p2, p3⟩ := hp
      have a1 : d'.extract 0 n = d' := by rw [← hsz, ← p1]; simp
      have a2 : xs.toArray.extract 0 n = xs.toArray := by rw [← hsz]; simp
      rw [a1, a2] at p3
      simpa using p3
    · obtain ⟨p1, _, _⟩ := hp
      rw [List.pairwise_iff_getElem]
      intro i j hi hj hij
      have hj' : j < d'.size := by simpa using hj
      have hi' : i < d'.size := by simpa using hi
      have := hs i j (Nat.zero_le _) hij (by rw [← hsz, ← p1]; exact hj')
      rw [ltR_iff, getElem!_pos d' j hj', getElem!_pos d' i hi'] at this
      simpa using this
    · obtain ⟨p1, _, _⟩ := hp
      have hdl : d'.toList.length = n := by rw [Array.length_toList, p1, hsz]
      have e1 : (flatK rsC 17 d').toList = rss d'.toList := by have := flatK_rss d'.toList; simpa using this
      have hFs : (flatK rsC 17 d').size = n * 17 := by rw [size_flatK, p1, hsz]
      refine ⟨by rw [rss_length, hdl], h2, h3, .inr ⟨g, _, rfl, heap_sortR os d' hb, by simp [putCells]; exact h5, ?_⟩⟩
      rw [← hFs, take_putCellsR _ _ (by rw [hFs]; have := Nat.mul_le_mul_right 17 h2; omega), e1]
end Go.Proofs.YtdnbclhidpkpgaaGreat
/-
  log.Last. No condition.
-/
namespace Go.Proofs.YtdnbclhidpkpgaaGreat
set_option linter.unusedVariables false
set_option linter.unusedSimpArgs false
open Go.RowKit
theorem ownsR_ow {W : World} {base n : Nat} {v : Value} {ss : List Rs} (h : W.ownsRow base 37 17 v n (rss ss)) (hn : ss.length = n) : ∃ A c, v = .slice A n c ∧ OwR W A n c ss ∧ ∀ a, A = some a → base ≤ a.block := by
  rcases h.2 with ⟨rfl, h0⟩ | ⟨g, cap, cur, rfl, hbase, hgb, r1, r2, r3, r4⟩
  · subst h0
    have hs : ss = [] := List.eq_nil_of_length_eq_zero hn
    subst hs
    exact ⟨none, 0, rfl, Ow.nil _ _ _, fun a ha => by cases ha⟩
  · exact ⟨_, cap, rfl, ⟨by rw [rss_length, hn], r1, r2, .inr ⟨g, cur, rfl, hgb, by rw [r3]; exact Nat.le_refl _, r4⟩⟩, fun a ha => by cases ha; exact hbase⟩
theorem values_ok (w : World) (b : Nat) : Calls Tryz.prog 62 #[.map (some b)] w fun e w' =>
    e = .returned (.func (.func 93) #[] #[.pointer (some ⟨w.heap.size, 0, none⟩)]) ∧ w' = w.alloc (.cells #[.map (some b)] 102) := by
  go_enter Tryz.func62, Tryz.ntmps62
  go_wp2_with fail
  go_ret
  exact ⟨rfl, rfl⟩
set_option maxRecDepth 100000 in
theorem collect_ok (w : World) (Bm b : Nat) (M : List Rs) (hm : w.cell? ⟨Bm, 0, none⟩ = some (.map (some b))) (hBm : Bm < w.heap.size) (hM : MapK w b (mapM M)) (hn : M.length ≤ 1000000) :
    Calls Tryz.prog 91 #[.func (.func 93) #[] #[.pointer (some ⟨Bm, 0, none⟩)]] w fun e w' =>
      ∃ A c ss, e = .returned (.slice A M.length c) ∧ ss.Perm M ∧ OwR w' A M.length c ss ∧ Fresh w A ∧ Mod none_ w w' := by
  have hseq : SeqGives Fence.wide (4 - 1 - 1) Tryz.prog 93 #[.pointer (some ⟨Bm, 0, none⟩)] rsV (fun ss => ss.Perm M) M.length w := fun l J W hW hJ hY h0 =>
    values1_in Fence.wide (4 - 1 - 1) trivial rfl (by omega) l Bm b M J (fun pre x W1 hj hl _ => hY pre x W1 hj hl) W hJ ((hW.cell (p := ⟨Bm, 0, none⟩) hBm).trans hm) (hM.mod (Mod.of_below hW) (fun h => h)) h0
  refine ((collectR_in Fence.wide 4 trivial trivial rfl (by omega) _ _ trivial (fun _ _ => rfl) (fun ss => ss.Perm M) M.length (by simp only [maxLen]; omega) (by omega) w hseq).calls (fun k d hd => by cases hd)).mono ?_
  rintro e w' ⟨v, ss, rfl, hp, hrow, hnil, hb⟩
  have hl := hp.length_eq
  rw [hl] at hrow
  obtain ⟨A, c, rfl, how, hbase⟩ := ownsR_ow hrow hl
  exact ⟨A, c, ss, rfl, hp, how, hbase, Mod.of_below hb⟩
set_option maxRecDepth 100000 in
set_option maxHeartbeats 4000000 in
theorem sortedR_ok (w : World) (Bm b : Nat) (M : List Rs) (hm : w.cell? ⟨Bm, 0, none⟩ = some (.map (some b))) (hBm : Bm < w.heap.size) (hM : MapK w b (mapM M)) (hn : M.length ≤ 1000000) :
    Calls Tryz.prog 61 #[.func (.func 93) #[] #[.pointer (some ⟨Bm, 0, none⟩)], .func (.func 63) #[] #[]] w fun e w' =>
      ∃ A c ss, e = .returned (.slice A M.length c) ∧ ss.Perm M ∧ (ss.Pairwise fun a b => isLt b.r.i a.r.i = false) ∧ OwR w' A M.length c ss ∧ Fresh w A ∧ Mod none_ w w' := by
  have kC := Lib.hid (collect_ok w Bm b M hm hBm hM hn)
  clear hm hM
  go_enter Tryz.func61, Tryz.ntmps61
  go_wp2_with fail
  refine kC.out.mono ?_
  rintro e w1 ⟨A, c, ss, rfl, hp, how, hf, hm1⟩
  dsimp only
  have hl := hp.length_eq
  generalize hN : M.length = N at *
  rcases how.2.2.2 with ⟨rfl, h0, rfl⟩ | ⟨g, cur, rfl, hb, h5, h6⟩
  · have kN := AnyF.slices_SortFunc_none (P := Tryz.prog) Tryz.sortf92 none 0 (.func (.func 63) #[] #[]) w1
    have hs0 : ss = [] := List.eq_nil_of_length_eq_zero (by omega)
    subst h0
    have kN' := Lib.hid (show Calls Tryz.prog 92 #[.slice none 0 0, .func (.func 63) #[] #[]] w1 _ from kN)
    clear kN
    replace hp := Lib.hid hp
    replace how := Lib.hid how
    replace hf := Lib.hid hf
    replace hm1 := Lib.hid hm1
    replace hN := Lib.hid hN
    replace hs0 := Lib.hid hs0
    replace hl := Lib.hid hl
    go_wp2_with fail
    refine kN'.out.mono ?_
    rintro e w2 ⟨rfl, rfl⟩
    dsimp only
    go_wp2_with fail
    go_ret
    exact ⟨none, 0, ss, by rw [hN.out] <;> rfl, hp.out, by rw [hs0.out]; simp, by rw [hN.out]; exact how.out, hf.out, hm1.out⟩
  · have kS := Lib.hid (sortR_ok w1 g N c ss how (by omega))
    clear hb h5 h6
    replace hp := Lib.hid hp
    replace how := Lib.hid how
    replace hf := Lib.hid hf
    replace hm1 := Lib.hid hm1
    replace hN := Lib.hid hN
    replace hl := Lib.hid hl
    go_wp2_with fail
    refine kS.out.mono ?_
    rintro e w2 ⟨rfl, ys, hp2, hs2, ho2, hm2⟩
    dsimp only
    have hM2 := Lib.hid (hm1.out.then hm2 (fun i hi hk => by have : i = g := hk; have := hf.out _ rfl; simp at this; omega))
    replace hp2 := Lib.hid hp2
    replace hs2 := Lib.hid hs2
    replace ho2 := Lib.hid ho2
    replace hm2 := Lib.hid hm2
    go_wp2_with fail
    go_ret
    exact ⟨_, c, ys, by rw [hN.out] <;> rfl, hp2.out.trans hp.out, hs2.out, by rw [hN.out]; exact ho2.out, hf.out, hM2.out⟩
/-! ### the last of each Inst -/
def lastOf (xs : List Rs) (i : Is) : Option Rs := xs.reverse.find? fun x => x.r.i == i
structure LastM (xs ys : List Rs) : Prop where
  nodup : ys.Pairwise fun a b => a.r.i ≠ b.r.i
  last : ∀ y ∈ ys, lastOf xs y.r.i = some y
  all : ∀ x ∈ xs, ∃ y ∈ ys, y.r.i = x.r.i
structure LastOf (xs ys : List Rs) : Prop where
  sorted : ys.Pairwise fun a b => isLt a.r.i b.r.i = true
  last : ∀ y ∈ ys, lastOf xs y.r.i = some y
  all : ∀ x ∈ xs, ∃ y ∈ ys, y.r.i = x.r.i
theorem lastOf_snoc (xs : List Rs) (x : Rs) (i : Is) : lastOf (xs ++ [x]) i = if x.r.i = i then some x else lastOf xs i := by
  unfold lastOf
  rw [List.reverse_append]
  show ([x] ++ xs.reverse).find? _ = _
  by_cases h : x.r.i = i
  · rw [if_pos h]; simp [h]
  · rw [if_neg h, List.singleton_append, List.find?_cons_of_neg (by simpa using h)]
def putM (x : Rs) (M : List Rs) : List Rs := x :: M.filter fun y => !(y.r.i == x.r.i)
theorem mapM_put (x : Rs) (M : List Rs) : mapM (putM x M) = putI' x.r.i (rsV x) (mapM M) := by
  unfold mapM putM putI'
  rw [List.map_cons, List.filter_map]
  rfl
theorem LastM.nil : LastM [] [] := ⟨List.Pairwise.nil, fun y hy => (List.not_mem_nil hy).elim, fun x hx => (List.not_mem_nil hx).elim⟩
theorem LastM.snoc {xs M : List Rs} (h : LastM xs M) (x : Rs) : LastM (xs ++ [x]) (putM x M) := by
  have hne : ∀ y ∈ M.filter (fun y => !(y.r.i == x.r.i)), y ∈ M ∧ y.r.i ≠ x.r.i := fun y hy => by
    have := List.mem_filter.1 hy
    exact ⟨this.1, by simpa using this.2⟩
  refine ⟨List.pairwise_cons.2 ⟨fun y hy => fun e => (hne y hy).2 e.symm, h.nodup.filter _⟩, fun y hy => ?_, fun z hz => ?_⟩
  · rw [lastOf_snoc]
    rcases List.mem_cons.1 hy with rfl | hy
    · rw [if_pos rfl]
    · rw [if_neg (fun e => (hne y hy).2 e.symm)]
      exact h.last y (hne y hy).1
  · by_cases e : z.r.i = x.r.i
    · exact ⟨x, List.mem_cons_self, e.symm⟩
    · rcases List.mem_append.1 hz with hz | hz
      · obtain ⟨y, hy, hyz⟩ := h.all z hz
        exact ⟨y, List.mem_cons_of_mem _ (List.mem_filter.2 ⟨hy, by rw [hyz]; simpa using e⟩), hyz⟩
      · simp at hz; subst hz; exact absurd rfl e
theorem isLt_total {a b : Is} (h : isLt b a = false) (hne : a ≠ b) : isLt a b = true := by
  obtain ⟨a1, a2⟩ := a
  obtain ⟨b1, b2⟩ := b
  unfold isLt at *
  simp only [decide_eq_false_iff_not, decide_eq_true_eq, ne_eq, Is.mk.injEq] at *
  omega
theorem LastM.sort {xs M ys : List Rs} (h : LastM xs M) (hp : ys.Perm M) (hs : ys.Pairwise fun a b => isLt b.r.i a.r.i = false) : LastOf xs ys := by
  have hnd : ys.Pairwise fun a b => a.r.i ≠ b.r.i := (hp.pairwise_iff (fun {a b} (h : a.r.i ≠ b.r.i) => h.symm)).2 h.nodup
  refine ⟨(hs.and hnd).imp fun ⟨h1, h2⟩ => isLt_total h1 h2, fun y hy => h.last y (hp.mem_iff.1 hy), fun x hx => ?_⟩
  obtain ⟨y, hy, he⟩ := h.all x hx
  exact ⟨y, hp.mem_iff.2 hy, he⟩
def LsPost (w : World) (xs : List Rs) (e : Ending) (w' : World) : Prop :=
  ∃ A n c ys, e = .returned (.slice A n c) ∧ LastOf xs ys ∧ OwR w' A n c ys ∧ Fresh w A ∧ Mod none_ w w'
set_option maxRecDepth 100000 in
set_option maxHeartbeats 8000000 in
theorem last_ok (w : World) (A : Option Addr) (n c : Nat) (xs : List Rs) (h : RdR w A n xs) (hi : ∀ x ∈ xs, inI x.r.i) (hn : n ≤ 100000) :
    Calls Tryz.prog 26 #[.slice A n c] w (LsPost w xs) := by
  have hl := Lib.hid h.len
  have hmd := Lib.hid (MapK.made w)
  have hmk := fun W => run_makeMap (P := Tryz.prog) 102 W
  have hs0 : (w.alloc (.map #[] 0)).heap.size = w.heap.size + 1 := by simp
  replace h := Lib.hid h
  replace hi := Lib.hid hi
  replace hs0 := Lib.hid hs0
  go_enter Tryz.func26, Tryz.ntmps26
  go_wp2_with fail
  go_loopw [9] (fun y wr => ∃ (j : Nat) (M : List Rs), y = .int .i64 j ∧ j ≤ n ∧ MapK wr w.heap.size (mapM M) ∧ LastM (xs.take j) M ∧ M.length ≤ j ∧ Mod none_ w wr) (fun y _ => n - (intOf y).toNat)
  case atStart => exact ⟨0, [], rfl, by omega, hmd.out, LastM.nil, by simp, (Mod.refl none_ w).alloc _⟩
  case round =>
    obtain ⟨j, M, rfl, hj, hM, hLM, hMl, hm⟩ := hrel
    by_cases hlt : j < n
    · obtain ⟨g, o, x, hA, hxm, hx, hrg⟩ := rdr_get (w := wr) (Rd.mod0 h.out hm) hlt
      subst hA
      unfold rsC at hrg
      have hz := Lib.hid (Blk.new wr 37 #[.int .i64 0, .int .i64 0, .int .i64 0, .int .i64 0, .int .i64 0, .int .i64 0, .int .i64 0, .int .i64 0, .string ⟨#[]⟩, .string ⟨#[]⟩, .int .i64 0, .slice none 0 0, .int .i64 0, .int .i64 0, .string ⟨#[]⟩, .bool false, .slice none 0 0])
      have hMn := Lib.hid hM.lt
      replace hM := Lib.hid hM
      replace hLM := Lib.hid hLM
      replace hm := Lib.hid hm
      replace hxm := Lib.hid hxm
      replace hx := Lib.hid hx
      replace hrg := Lib.hid hrg
      go_upto_region 5 with (first
        | (refine wpList_load_mid rfl 37 (.tmp 11) rfl g (o + j * 17) rfl _ _ hrg.out Tryz.underlying37 rfl rc_size ?_)
        | (refine wpList_store_blk rfl 37 (.tmp 5) (.tmp 12) rfl wr.heap.size 0 _ rfl rfl hz.out (by simp) rc_size (by rfl) #[.int .i64 x.r.i.r, .int .i64 x.r.i.n, .int .i64 x.r.bal, .int .i64 x.r.st, .int .i64 x.r.by_, .int .i64 x.r.e.o.c, .int .i64 x.r.e.o.s, .int .i64 x.r.e.o.k, .string (txt x.r.e.o.acct), .string (txt x.r.e.o.peer), .int .i64 x.r.e.o.sum, .slice x.L.a x.L.n x.L.c, .int .i64 x.r.e.o.per, .int .i64 x.r.e.o.hold, .string (txt x.r.e.o.note), .bool x.r.e.none, .slice x.D.a x.D.n x.D.c] rfl ?_; intro w2 hb2 hm2))
      have hm2' := ((Mod.refl none_ wr).alloc (.cells #[.int .i64 0, .int .i64 0, .int .i64 0, .int .i64 0, .int .i64 0, .int .i64 0, .int .i64 0, .int .i64 0, .string ⟨#[]⟩, .string ⟨#[]⟩, .int .i64 0, .slice none 0 0, .int .i64 0, .int .i64 0, .string ⟨#[]⟩, .bool false, .slice none 0 0] 37)).in_new (Nat.le_refl _) hm2
      have hM2 := hM.out.mod hm2' (fun h => h)
      have hroom : (mapM M).length + 1 < maxLen := by
        have : (mapM M).length = M.length := by simp [mapM]
        rw [this]; simp only [maxLen]; omega
      obtain ⟨w3, hrun, hM3, hm3, hs3⟩ := hM2.store_run Tryz.underlying102 hroom (hi.out x hxm.out) (rsV x)
      rw [← mapM_put] at hM3
      unfold isVal rsV at hrun
      have hmm := Lib.hid ((hm.out.trans hm2').then hm3 (fun i hi hk => by have : i = w.heap.size := hk; omega))
      have hLM' := Lib.hid (hLM.out.snoc x)
      have hPl : Hid ((putM x M).length ≤ j + 1) := Lib.hid (by unfold putM; have := List.length_filter_le (fun y : Rs => !(y.r.i == x.r.i)) M; simp only [List.length_cons]; omega)
      clear hm2 hm2' hM2 hm3 hs3
      replace hM3 := Lib.hid hM3
      replace hb2 := Lib.hid hb2
      go_wp2_with (first
        | (refine wpList_load_blk rfl 25 (.tmp 14) rfl wr.heap.size 0 rfl hb2.out [.int .i64 x.r.i.r, .int .i64 x.r.i.n] rfl Tryz.underlying25 rfl inst_size ?_)
        | (refine wpList_load_row rfl 37 (.tmp 5) rfl wr.heap.size rfl _ _ _ _ hb2.out Tryz.underlying37 rfl rc_size ?_))
      go_roundw
      case rel => exact ⟨j + 1, putM x M, by go_num, by omega, hM3.out, by rw [List.take_add_one, hx.out]; exact hLM'.out, hPl.out, hmm.out⟩
      case measure => simp [intOf]; omega
    · obtain rfl : j = n := by omega
      rw [List.take_of_length_le (by rw [hl.out]; exact Nat.le_refl _)] at hLM
      replace hM := Lib.hid hM
      replace hLM := Lib.hid hLM
      replace hm := Lib.hid hm
      go_wp2_with fail
      refine (values_ok wr w.heap.size).mono ?_
      rintro e w3 ⟨rfl, rfl⟩
      dsimp only
      have kS := Lib.hid (sortedR_ok (wr.alloc (.cells #[.map (some w.heap.size)] 102)) wr.heap.size w.heap.size M ((Blk.new wr _ #[.map (some w.heap.size)]).cell_ rfl) (by simp) (hM.out.alloc _) (by omega))
      go_wp2_with fail
      refine kS.out.mono ?_
      rintro e w4 ⟨A4, c4, ss, rfl, hp, hs, ho, hf, hm4⟩
      dsimp only
      have hend : Hid (LsPost w xs (.returned (.slice A4 M.length c4)) w4) := Lib.hid ⟨A4, _, c4, ss, rfl, hLM.out.sort hp hs, ho, fun a ha => Nat.le_trans (hm.out.alloc _).size (hf a ha), (hm.out.alloc _).trans hm4⟩
      clear hp hs ho hf hm4 kS
      go_wp2_with fail
      go_ret
      exact hend.out
end Go.Proofs.YtdnbclhidpkpgaaGreat
/-
  The law's small records, and lives. No condition.
-/
namespace Go.Proofs.YtdnbclhidpkpgaaGreat
set_option linter.unusedVariables false
set_option linter.unusedSimpArgs false
open Go.RowKit
def blR (rep bal : Int) : Rc := ⟨⟨rep, 1⟩, bal, 0, 0, en0⟩
def bl (rep bal : Int) : Rs := ⟨blR rep bal, ⟨none, 0, 0⟩, ⟨none, 0, 0⟩⟩
theorem scanR_recs : ∀ (xs : List Rs) (fs : List (List UInt8)), (∀ x ∈ xs, RtR x = true) → (∀ x ∈ xs, numsE x.r.e) → scanR (recsB xs ++ fs) = (xs.map (·.r) ++ (scanR fs).1, (logB xs).length + (scanR fs).2)
  | [], fs, _, _ => by simp [recsB, logB]
  | x :: xs, fs, h, hn => by
    have ih := scanR_recs xs fs (fun y hy => h y (List.mem_cons_of_mem _ hy)) (fun y hy => hn y (List.mem_cons_of_mem _ hy))
    have h1 : rdRec (recB x.r) = (x.r, 0) := rdRec_of (h x List.mem_cons_self) (hn x List.mem_cons_self)
    show scanR (recB x.r :: (recsB xs ++ fs)) = _
    rw [scanR_yes h1, ih]
    have hl : (logB (x :: xs)).length = 6 + (recB x.r).length + (logB xs).length := by
      show (frameOf (recB x.r) ++ logB xs).length = _
      rw [List.length_append, frameOf_length]
    rw [hl]
    simp only [List.map_cons, List.cons_append, Prod.mk.injEq, true_and]
    omega
theorem logScan_of (xs : List Rs) (h : ∀ x ∈ xs, RtR x = true) (hn : ∀ x ∈ xs, numsE x.r.e) (rest : List UInt8) : logScan (logB xs ++ rest) = (xs.map (·.r) ++ (logScan rest).1, (logB xs).length + (logScan rest).2) := by
  unfold logScan
  have := scan_flat (recsB xs) rest (recs_okL h hn)
  show scanR (scan ((recsB xs).flatMap frameOf ++ rest)).1 = _
  rw [this]
  exact scanR_recs xs _ h hn
theorem logScan_nil : logScan [] = ([], 0) := by unfold logScan; rw [scan_nil [] rfl]; rfl
theorem logScan_all (xs : List Rs) (h : ∀ x ∈ xs, RtR x = true) (hn : ∀ x ∈ xs, numsE x.r.e) : logScan (logB xs) = (xs.map (·.r), (logB xs).length) := by
  have := logScan_of xs h hn []
  rw [List.append_nil, logScan_nil] at this
  simpa using this
theorem last_two {a b : Rs} {ys : List Rs} (h : LastOf [a, b] ys) (he : a.r.i = b.r.i) : ys = [b] := by
  have hl : ∀ y ∈ ys, y = b := fun y hy => by
    have h1 := h.last y hy
    have h2 := lastOf_snoc [a] b y.r.i
    have e : ([a] ++ [b] : List Rs) = [a, b] := rfl
    rw [e, h1] at h2
    by_cases hb : b.r.i = y.r.i
    · rw [if_pos hb] at h2; exact Option.some.inj h2
    · rw [if_neg hb] at h2
      have h3 : lastOf [a] y.r.i = none := by
        unfold lastOf
        simp [he, hb]
      rw [h3] at h2; cases h2
  obtain ⟨y, hy, _⟩ := h.all b (by simp)
  cases ys with
  | nil => cases hy
  | cons z zs =>
    have hz := hl z List.mem_cons_self
    cases zs with
    | nil => rw [hz]
    | cons u us =>
      have hu := hl u (by simp)
      have hs := (List.pairwise_cons.1 h.sorted).1 u (by simp)
      rw [hz, hu] at hs
      unfold isLt at hs
      simp at hs
set_option maxRecDepth 100000 in
theorem blank_ok (w : World) (r b : Int) : Calls Tryz.prog 21 #[.int .i64 r, .int .i64 b] w fun e w' => e = .returned (.agg #[.int .i64 r, .int .i64 1, .int .i64 b, .int .i64 0, .int .i64 0, .int .i64 0, .int .i64 0, .int .i64 0, .string ⟨#[]⟩, .string ⟨#[]⟩, .int .i64 0, .slice none 0 0, .int .i64 0, .int .i64 0, .string ⟨#[]⟩, .bool false, .slice none 0 0]) ∧ Mod none_ w w' := by
  have hb0 := Lib.hid (Blk.new w 37 #[.int .i64 0, .int .i64 0, .int .i64 0, .int .i64 0, .int .i64 0, .int .i64 0, .int .i64 0, .int .i64 0, .string ⟨#[]⟩, .string ⟨#[]⟩, .int .i64 0, .slice none 0 0, .int .i64 0, .int .i64 0, .string ⟨#[]⟩, .bool false, .slice none 0 0])
  go_enter Tryz.func21, Tryz.ntmps21
  go_wp2_with (refine wpList_store_blk rfl 37 (.tmp 4) (.tmp 9) rfl w.heap.size 0 _ rfl rfl hb0.out (by simp) rc_size (by rfl) #[.int .i64 r, .int .i64 1, .int .i64 b, .int .i64 0, .int .i64 0, .int .i64 0, .int .i64 0, .int .i64 0, .string ⟨#[]⟩, .string ⟨#[]⟩, .int .i64 0, .slice none 0 0, .int .i64 0, .int .i64 0, .string ⟨#[]⟩, .bool false, .slice none 0 0] rfl ?_; intro w2 hb2 hm2; replace hb2 := Lib.hid hb2; replace hm2 := Lib.hid hm2)
  exact ret_row rfl w.heap.size rfl hb2.out Tryz.underlying37 rfl rc_size rfl ⟨rfl, ((Mod.refl none_ w).alloc _).in_new (Nat.le_refl _) hm2.out⟩
theorem bl_ok (r b : Int) : RsOk (bl r b) := ⟨by simp [bl], by simp [bl], (show (Lit.int .i64 en0.o.k).wf = true by decide), fun l hl => by cases hl⟩
theorem bl_nums (r b : Int) : numsE (bl r b).r.e := ⟨(show in64 en0.o.sum from ⟨by decide, by decide⟩), fun l hl => by cases hl⟩
theorem bl_mem (w : World) (r b : Int) : EnM w (bl r b).r.e (bl r b).L (bl r b).D := en0_mem w
theorem bl_in (r b : Int) (h : (Lit.int .i64 r).wf = true) : inI (bl r b).r.i := ⟨h, (show (Lit.int .i64 1).wf = true by decide)⟩
def twoL : List Rs := [bl 0 1, bl 0 2]
theorem len_two {l : List Rs} (h : l.length = 2) : ∃ a b, l = [a, b] := by
  cases l with
  | nil => simp at h
  | cons a l =>
    cases l with
    | nil => simp at h
    | cons b l =>
      cases l with
      | nil => exact ⟨a, b, rfl⟩
      | cons c l => simp at h
theorem two_inv {a b : Rs} (h : [a, b].map (·.r) = twoL.map (·.r)) : a.r = blR 0 1 ∧ b.r = blR 0 2 := by
  unfold twoL at h
  simp only [List.map_cons, List.map_nil, List.cons.injEq, and_true] at h
  exact h
theorem two_rt : ∀ x ∈ twoL, RtR x = true := fun x hx => by
  simp only [twoL, List.mem_cons, List.not_mem_nil, or_false] at hx
  rcases hx with rfl | rfl <;> decide
theorem two_nums : ∀ x ∈ twoL, numsE x.r.e := fun x hx => by
  simp only [twoL, List.mem_cons, List.not_mem_nil, or_false] at hx
  rcases hx with rfl | rfl <;> exact bl_nums _ _
theorem two_put : putR [] 0 1000 twoL = (0, logB twoL, 22) := by
  have h1 : (logB twoL).length = 22 := by decide +kernel
  unfold putR
  rw [if_pos (by rw [List.all_eq_true]; exact two_rt), if_neg (by simp [twoL]), if_pos (by rw [h1]; decide), h1]
  rfl
theorem two_list (w : World) : RsL (w.alloc (.cells #[.int .i64 0, .int .i64 1, .int .i64 1, .int .i64 0, .int .i64 0, .int .i64 0, .int .i64 0, .int .i64 0, .string ⟨#[]⟩, .string ⟨#[]⟩, .int .i64 0, .slice none 0 0, .int .i64 0, .int .i64 0, .string ⟨#[]⟩, .bool false, .slice none 0 0, .int .i64 0, .int .i64 1, .int .i64 2, .int .i64 0, .int .i64 0, .int .i64 0, .int .i64 0, .int .i64 0, .string ⟨#[]⟩, .string ⟨#[]⟩, .int .i64 0, .slice none 0 0, .int .i64 0, .int .i64 0, .string ⟨#[]⟩, .bool false, .slice none 0 0] 37)) (some ⟨w.heap.size, 0, none⟩) 2 twoL := by
  refine ⟨?_, ?_, ?_, two_nums⟩
  · exact rdn w 37 17 2 w.heap.size (#[.int .i64 0, .int .i64 1, .int .i64 1, .int .i64 0, .int .i64 0, .int .i64 0, .int .i64 0, .int .i64 0, .string ⟨#[]⟩, .string ⟨#[]⟩, .int .i64 0, .slice none 0 0, .int .i64 0, .int .i64 0, .string ⟨#[]⟩, .bool false, .slice none 0 0, .int .i64 0, .int .i64 1, .int .i64 2, .int .i64 0, .int .i64 0, .int .i64 0, .int .i64 0, .int .i64 0, .string ⟨#[]⟩, .string ⟨#[]⟩, .int .i64 0, .slice none 0 0, .int .i64 0, .int .i64 0, .string ⟨#[]⟩, .bool false, .slice none 0 0] : Array Value) (0, 0) rfl rfl
  · intro x hx
    simp only [twoL, List.mem_cons, List.not_mem_nil, or_false] at hx
    rcases hx with rfl | rfl <;> exact bl_mem _ _ _
  · intro x hx
    simp only [twoL, List.mem_cons, List.not_mem_nil, or_false] at hx
    rcases hx with rfl | rfl <;> exact bl_ok _ _
set_option maxRecDepth 100000 in
set_option maxHeartbeats 8000000 in
theorem lives_ok (w : World) : Calls Tryz.prog 9 #[] w fun e w' => e = .returned (.bool true) ∧ Mod none_ w w' := by
  go_enter Tryz.func9, Tryz.ntmps9
  go_wp2_with fail
  with_reducible refine (disk_new 1000 w).mono ?_
  rintro e w1 ⟨rfl, hd1, hm1⟩
  dsimp only
  have hr : (min (max (1000 : Int) 0) 65536).toNat = 1000 := by decide
  rw [hr] at hd1
  clear hr
  generalize hp : w.heap.size = p at *
  replace hp := Lib.hid hp
  replace hd1 := Lib.hid hd1
  replace hm1 := Lib.hid hm1
  go_wp2_with fail
  with_reducible refine (blank_ok _ 0 1).mono ?_
  rintro e w2 ⟨rfl, hm2⟩
  dsimp only
  replace hm2 := Lib.hid hm2
  go_wp2_with fail
  with_reducible refine (blank_ok _ 0 2).mono ?_
  rintro e w3 ⟨rfl, hm3⟩
  dsimp only
  have hm12 := (hm2.out.trans hm3).alloc (.cells #[.int .i64 0, .int .i64 1, .int .i64 1, .int .i64 0, .int .i64 0, .int .i64 0, .int .i64 0, .int .i64 0, .string ⟨#[]⟩, .string ⟨#[]⟩, .int .i64 0, .slice none 0 0, .int .i64 0, .int .i64 0, .string ⟨#[]⟩, .bool false, .slice none 0 0, .int .i64 0, .int .i64 1, .int .i64 2, .int .i64 0, .int .i64 0, .int .i64 0, .int .i64 0, .int .i64 0, .string ⟨#[]⟩, .string ⟨#[]⟩, .int .i64 0, .slice none 0 0, .int .i64 0, .int .i64 0, .string ⟨#[]⟩, .bool false, .slice none 0 0] 37)
  have hd3 := hd1.out.mod0 hm12
  have hM3 := Lib.hid (hm1.out.trans hm12)
  have hl3 := two_list w3
  have kP := put_ok _ p none 0 [] 0 1000 hd3 (some ⟨w3.heap.size, 0, none⟩) 2 2 twoL hl3 (by omega)
  rw [two_put] at kP
  clear hm12 hd3 hl3 hm2 hm3
  replace kP := Lib.hid kP
  go_wp2_with fail
  with_reducible refine kP.out.mono ?_
  rintro e w4 ⟨A4, c4, a4, l4, s4, rfl, he4, hd4, hn4, hm4⟩
  simp only [Prod.mk.injEq] at he4
  obtain ⟨rfl, rfl, rfl⟩ := he4
  dsimp only
  have hM4 := Lib.hid (hM3.out.then hm4 (fun i hi hk => by rcases hk with hk | ⟨a, ha, _⟩; (have := hp.out; omega); cases ha))
  clear hn4 hm4 kP
  replace hd4 := Lib.hid hd4
  go_wp2_with fail
  have h22 : (logB twoL).length = 22 := by decide +kernel
  have kB := disk_bytes p A4 c4 w4 ⟨logB twoL, 22, 1000, false⟩ hd4.out
  dsimp only at kB
  rw [h22] at kB
  with_reducible refine kB.mono ?_
  rintro e w5 ⟨A5, c5, rfl, ho5, hf5, hm5⟩
  dsimp only
  have hd5 := Lib.hid (hd4.out.mod0 hm5)
  have hM5 := Lib.hid (hM4.out.trans hm5)
  have kSc := logScan_ok w5 A5 22 c5 (logB twoL) ho5.rd ho5.2.1 (by have := ho5.2.2.1; simpa [maxLen] using this) (by omega)
  unfold LScanPost at kSc
  rw [logScan_all twoL two_rt two_nums, h22] at kSc
  clear kB ho5 hf5 hm5 h22
  replace kSc := Lib.hid kSc
  go_wp2_with fail
  with_reducible refine kSc.out.mono ?_
  rintro e w6 ⟨A6, n6, c6, xs6, rfl, hN6, hx6, hm6⟩
  dsimp only at hx6 ⊢
  have hn6 : n6 = 2 := by have h1 := hN6.len; have h2 := congrArg List.length hx6; simp [twoL] at h2; omega
  subst hn6
  obtain ⟨a6, b6, rfl⟩ := len_two hN6.len
  obtain ⟨ha6, hb6⟩ := two_inv hx6
  have hd6 := Lib.hid (hd5.out.mod0 hm6)
  have hM6 := Lib.hid (hM5.out.trans hm6)
  have hin : ∀ x ∈ [a6, b6], inI x.r.i := fun x hx => by
    simp only [List.mem_cons, List.not_mem_nil, or_false] at hx
    rcases hx with rfl | rfl
    · rw [ha6]; exact bl_in 0 1 (by decide)
    · rw [hb6]; exact bl_in 0 2 (by decide)
  have kL := Lib.hid (last_ok w6 A6 2 c6 [a6, b6] hN6.ow.rd hin (by omega))
  have hE6 := hN6.mem b6 (by simp)
  have hk6 := hN6.ok b6 (by simp)
  clear hm6 hin kSc hN6
  replace ha6 := Lib.hid ha6
  replace hb6 := Lib.hid hb6
  replace hE6 := Lib.hid hE6
  replace hk6 := Lib.hid hk6
  go_wp2_with fail
  with_reducible refine kL.out.mono ?_
  rintro e w7 ⟨A7, n7, c7, ys, rfl, hls, ho7, hf7, hm7⟩
  dsimp only
  have hys := last_two hls (by rw [ha6.out, hb6.out] <;> rfl)
  subst hys
  have hn7 := ho7.len
  simp only [List.length_cons, List.length_nil, Nat.zero_add] at hn7
  subst hn7
  obtain ⟨g, o, x, hA7, hxm, hx, hrg⟩ := rdr_get (j := 0) (Ow.rd ho7) (by omega)
  simp only [List.mem_cons, List.not_mem_nil, or_false] at hxm
  subst hxm
  subst hA7
  obtain ⟨xr, xL, xD⟩ := x
  simp only at ha6 hb6 hE6 hk6 hrg
  have hb6' := hb6.out
  subst hb6'
  have hd7 := Lib.hid (hd6.out.mod0 hm7)
  have hM7 := Lib.hid (hM6.out.trans hm7)
  have hE7 := Lib.hid (hE6.out.mod0 hm7)
  have kR := Lib.hid (fun W (h : Mod none_ w7 W) => rightR_ok W (blR 0 2) xL xD (hE7.out.mod0 h) hk6.out.1.1 hk6.out.1.2.1 hk6.out.1.2.2.1 hk6.out.1.2.2.2)
  replace kR := kR.out
  rw [show rightR (blR 0 2) = true by decide] at kR
  replace kR := Lib.hid kR
  clear hls ho7 hf7 hm7 hx kL
  have kB := disk_bytes p A4 c4 w7 ⟨logB twoL, 22, 1000, false⟩ hd7.out
  have h22 : (logB twoL).length = 22 := by decide +kernel
  dsimp only at kB
  rw [h22] at kB
  clear h22
  replace kB := Lib.hid kB
  replace hrg := Lib.hid hrg
  go_wp2_with fail
  with_reducible refine kB.out.mono ?_
  rintro e w8 ⟨A8, c8, rfl, ho8, hf8, hm8⟩
  dsimp only
  have hd8 := Lib.hid (hd7.out.mod0 hm8)
  have hM8 := Lib.hid (hM7.out.trans hm8)
  have hr8 := rangeAt_mod hrg.out hm8
  rw [Nat.zero_mul, Nat.add_zero] at hr8
  have c2 : w8.cell? ⟨g, o + 2, none⟩ = some (.int .i64 2) := hr8 2 _ rfl
  have hm8h := Lib.hid hm8
  clear ho8 hf8 hm8 kB
  replace hr8 := Lib.hid hr8
  go_wp2_with (refine wpList_step (fun K hK => ?_); rw [if_pos (by rfl)]; refine wp_load_mid 37 (.tmp 53) rfl g o rfl _ _ hr8.out Tryz.underlying37 rfl rc_size ?_; refine hK _ _ ?_)
  refine (kR.out _ hm8h.out).mono ?_
  rintro e w9 ⟨rfl, hm9⟩
  dsimp only
  have hd9 := Lib.hid (hd8.out.mod0 hm9)
  have hM9 := Lib.hid (hM8.out.trans hm9)
  have kSu := Lib.hid (disk_sure p 22 w9 (show w9.cell? ⟨p, 1, none⟩ = some (.int .i64 22) from hd9.out.c1))
  clear hm9
  go_wp2_with fail
  with_reducible refine kSu.out.mono ?_
  rintro e w10 ⟨rfl, rfl⟩
  dsimp only
  go_wp2_with fail
  go_ret
  exact ⟨rfl, hM9.out⟩
end Go.Proofs.YtdnbclhidpkpgaaGreat
/-
  The references' Same, of what is the same. No condition.
-/
namespace Go.Proofs.YtdnbclhidpkpgaaGreat
set_option linter.unusedVariables false
set_option linter.unusedSimpArgs false
open Go.RowKit
theorem neq_id (W : World) (x y : Is) : (binOp .neq 27 (isV x) (isV y)).run Tryz.prog W = .ok (.bool (!decide (x = y))) W := by
  have := eqIn_id W x y
  unfold isV at *
  rw [run_neq_struct, this] <;> rfl
set_option maxRecDepth 100000 in
set_option maxHeartbeats 4000000 in
theorem same6_eq (w : World) (a : Od) (L M : SV) (ha : OdM w a L) (hb : OdM w a M) (hL : L.n ≤ 140737488355328) :
    Calls Tryz.prog 80 #[.agg #[.int .i64 a.c, .int .i64 a.s, .int .i64 a.k, .string (txt a.acct), .string (txt a.peer), .int .i64 a.sum, .slice L.a L.n L.c, .int .i64 a.per, .int .i64 a.hold, .string (txt a.note)], .agg #[.int .i64 a.c, .int .i64 a.s, .int .i64 a.k, .string (txt a.acct), .string (txt a.peer), .int .i64 a.sum, .slice M.a M.n M.c, .int .i64 a.per, .int .i64 a.hold, .string (txt a.note)]] w fun e w' => e = .returned (.bool true) ∧ Mod none_ w w' := by
  have hid := fun W => neq_id W ⟨a.c, a.s⟩ ⟨a.c, a.s⟩
  unfold isV at hid
  simp only [decide_true, Bool.not_true] at hid
  have hLM : L.n = M.n := by have h1 := ha.rd.len; have h2 := hb.rd.len; omega
  have hz : ((L.n : Int) != (L.n : Int)) = false := by simp
  rw [← hLM]
  have hm0 := ((Mod.refl none_ w).alloc (.cells #[.int .i64 a.c, .int .i64 a.s, .int .i64 a.k, .string (txt a.acct), .string (txt a.peer), .int .i64 a.sum, .slice L.a L.n L.c, .int .i64 a.per, .int .i64 a.hold, .string (txt a.note)] 30)).alloc (.cells #[.int .i64 a.c, .int .i64 a.s, .int .i64 a.k, .string (txt a.acct), .string (txt a.peer), .int .i64 a.sum, .slice M.a L.n M.c, .int .i64 a.per, .int .i64 a.hold, .string (txt a.note)] 30)
  have hb1 := (Blk.new w 30 #[.int .i64 a.c, .int .i64 a.s, .int .i64 a.k, .string (txt a.acct), .string (txt a.peer), .int .i64 a.sum, .slice L.a L.n L.c, .int .i64 a.per, .int .i64 a.hold, .string (txt a.note)]).alloc (.cells #[.int .i64 a.c, .int .i64 a.s, .int .i64 a.k, .string (txt a.acct), .string (txt a.peer), .int .i64 a.sum, .slice M.a L.n M.c, .int .i64 a.per, .int .i64 a.hold, .string (txt a.note)] 30)
  have hb2 := Blk.new (w.alloc (.cells #[.int .i64 a.c, .int .i64 a.s, .int .i64 a.k, .string (txt a.acct), .string (txt a.peer), .int .i64 a.sum, .slice L.a L.n L.c, .int .i64 a.per, .int .i64 a.hold, .string (txt a.note)] 30)) 30 #[.int .i64 a.c, .int .i64 a.s, .int .i64 a.k, .string (txt a.acct), .string (txt a.peer), .int .i64 a.sum, .slice M.a L.n M.c, .int .i64 a.per, .int .i64 a.hold, .string (txt a.note)]
  have hsz : (w.alloc (.cells #[.int .i64 a.c, .int .i64 a.s, .int .i64 a.k, .string (txt a.acct), .string (txt a.peer), .int .i64 a.sum, .slice L.a L.n L.c, .int .i64 a.per, .int .i64 a.hold, .string (txt a.note)] 30)).heap.size = w.heap.size + 1 := by simp
  rw [hsz] at hb2
  clear hsz
  have hRa := Lib.hid ha.rd
  have hRb := Lib.hid (show RdL w M.a L.n a.legs by rw [hLM]; exact hb.rd)
  have hal := Lib.hid ha.rd.len
  clear ha hb
  replace hm0 := Lib.hid hm0
  replace hb1 := Lib.hid hb1
  replace hb2 := Lib.hid hb2
  replace hLM := Lib.hid hLM
  go_enter Tryz.func80, Tryz.ntmps80
  go_wp2_with fail
  obtain ⟨W0, hW0⟩ : ∃ W0, W0 = (w.alloc (.cells #[.int .i64 a.c, .int .i64 a.s, .int .i64 a.k, .string (txt a.acct), .string (txt a.peer), .int .i64 a.sum, .slice L.a L.n L.c, .int .i64 a.per, .int .i64 a.hold, .string (txt a.note)] 30)).alloc (.cells #[.int .i64 a.c, .int .i64 a.s, .int .i64 a.k, .string (txt a.acct), .string (txt a.peer), .int .i64 a.sum, .slice M.a L.n M.c, .int .i64 a.per, .int .i64 a.hold, .string (txt a.note)] 30) := ⟨_, rfl⟩
  rw [← hW0] at hm0 hb1 hb2 ⊢
  replace hW0 := Lib.hid hW0
  go_loopg [5] L.n (fun k x wr => ∃ j : Nat, x = .int .i64 j ∧ j + k = L.n ∧ ∃ q, wr = W0.drewN q)
  case atStart => exact ⟨0, rfl, by omega, 0, rfl⟩
  case round =>
    obtain ⟨j, rfl, hj, q, hq⟩ := hrel
    have c1 : wr.cell? ⟨w.heap.size, 6, none⟩ = some (.slice L.a L.n L.c) := by rw [hq]; exact (hb1.out.drewN q).cell_ rfl
    have c2 : wr.cell? ⟨w.heap.size + 1, 6, none⟩ = some (.slice M.a L.n M.c) := by rw [hq]; exact (hb2.out.drewN q).cell_ rfl
    by_cases hlt : j < L.n
    · have hjC : j < a.legs.length := by rw [hal.out]; exact hlt
      have hmq := hm0.out.drewN q
      obtain ⟨b, o, x0, e1, -, hx0, a1, a2⟩ := rdl_get (w := W0.drewN q) (Rd.mod0 hRa.out hmq) hlt
      rw [List.getElem?_eq_getElem hjC] at hx0
      injection hx0 with hx0
      subst hx0
      obtain ⟨b', o', y0, e2, -, hy0, b1, b2⟩ := rdl_get (w := W0.drewN q) (Rd.mod0 hRb.out hmq) hlt
      rw [List.getElem?_eq_getElem hjC] at hy0
      injection hy0 with hy0
      subst hy0
      rw [← hq] at a1 a2 b1 b2
      rw [e1] at c1
      rw [e2] at c2
      generalize a.legs[j] = x at *
      have hne := fun W => neq_lg W x x
      unfold lgV at hne
      simp only [decide_true, Bool.not_true] at hne
      clear hmq
      replace hq := Lib.hid hq
      replace hjC := Lib.hid hjC
      replace e1 := Lib.hid e1
      replace e2 := Lib.hid e2
      go_wp2_with (go_quiet (fail))
      go_roundg (gk - 1)
      case measure => omega
      case rel => exact ⟨j + 1, by go_num, by omega, _, by rw [hq.out, World.drewN_drewN]⟩
    · obtain rfl : j = L.n := by omega
      have hend := Lib.hid (show Mod none_ w wr by rw [hq]; exact hm0.out.drewN q)
      replace hq := Lib.hid hq
      go_wp2_with fail
      go_ret
      exact ⟨rfl, hend.out⟩
set_option maxRecDepth 100000 in
set_option maxHeartbeats 4000000 in
theorem same14_eq (w : World) (a : En) (L D M E : SV) (ha : EnM w a L D) (hb : EnM w a M E) (hL : L.n ≤ 140737488355328) (hD : D.n ≤ 140737488355328) :
    Calls Tryz.prog 45 #[.agg #[.int .i64 a.o.c, .int .i64 a.o.s, .int .i64 a.o.k, .string (txt a.o.acct), .string (txt a.o.peer), .int .i64 a.o.sum, .slice L.a L.n L.c, .int .i64 a.o.per, .int .i64 a.o.hold, .string (txt a.o.note), .bool a.none, .slice D.a D.n D.c], .agg #[.int .i64 a.o.c, .int .i64 a.o.s, .int .i64 a.o.k, .string (txt a.o.acct), .string (txt a.o.peer), .int .i64 a.o.sum, .slice M.a M.n M.c, .int .i64 a.o.per, .int .i64 a.o.hold, .string (txt a.o.note), .bool a.none, .slice E.a E.n E.c]] w fun e w' => e = .returned (.bool true) ∧ Mod none_ w w' := by
  have k6 := Lib.hid (fun W (h : Mod none_ w W) => same6_eq W a.o L M (ha.od.mod0 h) (hb.od.mod0 h) hL)
  have hDE : D.n = E.n := by have h1 := ha.rd.len; have h2 := hb.rd.len; omega
  have hz : ((D.n : Int) != (D.n : Int)) = false := by simp
  have hz2 : (a.none != a.none) = false := by simp
  rw [← hDE]
  have hm0 := ((Mod.refl none_ w).alloc (.cells #[.int .i64 a.o.c, .int .i64 a.o.s, .int .i64 a.o.k, .string (txt a.o.acct), .string (txt a.o.peer), .int .i64 a.o.sum, .slice L.a L.n L.c, .int .i64 a.o.per, .int .i64 a.o.hold, .string (txt a.o.note), .bool a.none, .slice D.a D.n D.c] 33)).alloc (.cells #[.int .i64 a.o.c, .int .i64 a.o.s, .int .i64 a.o.k, .string (txt a.o.acct), .string (txt a.o.peer), .int .i64 a.o.sum, .slice M.a M.n M.c, .int .i64 a.o.per, .int .i64 a.o.hold, .string (txt a.o.note), .bool a.none, .slice E.a D.n E.c] 33)
  have hb1 := (Blk.new w 33 #[.int .i64 a.o.c, .int .i64 a.o.s, .int .i64 a.o.k, .string (txt a.o.acct), .string (txt a.o.peer), .int .i64 a.o.sum, .slice L.a L.n L.c, .int .i64 a.o.per, .int .i64 a.o.hold, .string (txt a.o.note), .bool a.none, .slice D.a D.n D.c]).alloc (.cells #[.int .i64 a.o.c, .int .i64 a.o.s, .int .i64 a.o.k, .string (txt a.o.acct), .string (txt a.o.peer), .int .i64 a.o.sum, .slice M.a M.n M.c, .int .i64 a.o.per, .int .i64 a.o.hold, .string (txt a.o.note), .bool a.none, .slice E.a D.n E.c] 33)
  have hb2 := Blk.new (w.alloc (.cells #[.int .i64 a.o.c, .int .i64 a.o.s, .int .i64 a.o.k, .string (txt a.o.acct), .string (txt a.o.peer), .int .i64 a.o.sum, .slice L.a L.n L.c, .int .i64 a.o.per, .int .i64 a.o.hold, .string (txt a.o.note), .bool a.none, .slice D.a D.n D.c] 33)) 33 #[.int .i64 a.o.c, .int .i64 a.o.s, .int .i64 a.o.k, .string (txt a.o.acct), .string (txt a.o.peer), .int .i64 a.o.sum, .slice M.a M.n M.c, .int .i64 a.o.per, .int .i64 a.o.hold, .string (txt a.o.note), .bool a.none, .slice E.a D.n E.c]
  have hsz : (w.alloc (.cells #[.int .i64 a.o.c, .int .i64 a.o.s, .int .i64 a.o.k, .string (txt a.o.acct), .string (txt a.o.peer), .int .i64 a.o.sum, .slice L.a L.n L.c, .int .i64 a.o.per, .int .i64 a.o.hold, .string (txt a.o.note), .bool a.none, .slice D.a D.n D.c] 33)).heap.size = w.heap.size + 1 := by simp
  rw [hsz] at hb2
  clear hsz
  have hRa := Lib.hid ha.rd
  have hRb := Lib.hid (show RdP w E.a D.n a.deps by rw [hDE]; exact hb.rd)
  have hal := Lib.hid ha.rd.len
  clear ha hb
  replace hm0 := Lib.hid hm0
  replace hb1 := Lib.hid hb1
  replace hb2 := Lib.hid hb2
  replace hDE := Lib.hid hDE
  go_enter Tryz.func45, Tryz.ntmps45
  go_wp2_with fail
  with_reducible refine (k6.out _ hm0.out).mono ?_
  rintro e W0 ⟨rfl, hm1⟩
  dsimp only
  have hM1 := Lib.hid (hm0.out.trans hm1)
  have hB1 := Lib.hid (hb1.out.mod hm1 (fun h => h))
  have hB2 := Lib.hid (hb2.out.mod hm1 (fun h => h))
  have i1 : W0.cell? ⟨w.heap.size, 10, none⟩ = some (.bool a.none) := hB1.out.cell_ rfl
  have i2 : W0.cell? ⟨w.heap.size + 1, 10, none⟩ = some (.bool a.none) := hB2.out.cell_ rfl
  have i3 : W0.cell? ⟨w.heap.size, 11, none⟩ = some (.slice D.a D.n D.c) := hB1.out.cell_ rfl
  have i4 : W0.cell? ⟨w.heap.size + 1, 11, none⟩ = some (.slice E.a D.n E.c) := hB2.out.cell_ rfl
  clear hm1 hb1 hb2 hm0 k6
  go_wp2_with fail
  clear i1 i2 i3 i4
  go_loopg [5] D.n (fun k x wr => ∃ j : Nat, x = .int .i64 j ∧ j + k = D.n ∧ ∃ q, wr = W0.drewN q)
  case atStart => exact ⟨0, rfl, by omega, 0, rfl⟩
  case round =>
    obtain ⟨j, rfl, hj, q, hq⟩ := hrel
    have c1 : wr.cell? ⟨w.heap.size, 11, none⟩ = some (.slice D.a D.n D.c) := by rw [hq]; exact (hB1.out.drewN q).cell_ rfl
    have c2 : wr.cell? ⟨w.heap.size + 1, 11, none⟩ = some (.slice E.a D.n E.c) := by rw [hq]; exact (hB2.out.drewN q).cell_ rfl
    by_cases hlt : j < D.n
    · have hjC : j < a.deps.length := by rw [hal.out]; exact hlt
      have hmq := hM1.out.drewN q
      obtain ⟨b, o, x0, e1, -, hx0, a1, a2⟩ := rdp_get (w := W0.drewN q) (Rd.mod0 hRa.out hmq) hlt
      rw [List.getElem?_eq_getElem hjC] at hx0
      injection hx0 with hx0
      subst hx0
      obtain ⟨b', o', y0, e2, -, hy0, b1, b2⟩ := rdp_get (w := W0.drewN q) (Rd.mod0 hRb.out hmq) hlt
      rw [List.getElem?_eq_getElem hjC] at hy0
      injection hy0 with hy0
      subst hy0
      rw [← hq] at a1 a2 b1 b2
      rw [e1] at c1
      rw [e2] at c2
      generalize a.deps[j] = x at *
      have hne := fun W => neq_is W x x
      unfold isV at hne
      simp only [decide_true, Bool.not_true] at hne
      clear hmq
      replace hq := Lib.hid hq
      replace hjC := Lib.hid hjC
      replace e1 := Lib.hid e1
      replace e2 := Lib.hid e2
      go_wp2_with (go_quiet (fail))
      go_roundg (gk - 1)
      case measure => omega
      case rel => exact ⟨j + 1, by go_num, by omega, _, by rw [hq.out, World.drewN_drewN]⟩
    · obtain rfl : j = D.n := by omega
      have hend := Lib.hid (show Mod none_ w wr by rw [hq]; exact hM1.out.drewN q)
      replace hq := Lib.hid hq
      go_wp2_with fail
      go_ret
      exact ⟨rfl, hend.out⟩
end Go.Proofs.YtdnbclhidpkpgaaGreat
/-
  The reference's Same of records, of what is the same. No condition.
-/
namespace Go.Proofs.YtdnbclhidpkpgaaGreat
set_option linter.unusedVariables false
set_option linter.unusedSimpArgs false
open Go.RowKit
theorem rangeAt_drop {w : World} {b o : Nat} {cs : List Value} (h : w.rangeAt b o cs) (k : Nat) : w.rangeAt b (o + k) (cs.drop k) := fun j v hv => by
  rw [List.getElem?_drop] at hv
  rw [Nat.add_assoc]
  exact h (k + j) v hv
theorem rangeAt_take2 {w : World} {b o : Nat} {a c : Value} {cs : List Value} (h : w.rangeAt b o (a :: c :: cs)) : w.rangeAt b o [a, c] := fun j v hv => by
  match j, hv with
  | 0, hv => exact h 0 v hv
  | 1, hv => exact h 1 v hv
theorem step_store_blk {ops : Array Oper} {op : Oper} {a : Act} {w : World} {K : Act → World → Prop} {Q : Exit → Act → World → Prop} {E : Prop} {P : Program} (hgd : op.guard = none) (ty : TypeId) (x y : Operand) (ho : op.op = .store ty x y)
    (g o : Nat) (cells : Array Value) (hx : a.eval x = .pointer (some ⟨g, o, none⟩)) (hy : a.eval y = .agg cells) {t : TypeId} {cs : Array Value} (hb : Blk w g t cs) (hn : o + cells.size ≤ cs.size)
    (hi : (P.info? ty).map (·.size) = some cells.size) (h1 : cells.toList.all (·.oneCell') = true) (cs' : Array Value) (hcs : cs.toList.take o ++ (cells.toList ++ cs.toList.drop (o + cells.size)) = cs'.toList)
    (h : ∀ w', Blk w' g t cs' → Mod (only g) w w' → K (a.put op.dst undef) w') : if Region.wanted op (yielded ops a.tmps) = true then Oper.wp P op a w K Q else E := by
  rw [if_pos (by simp [Region.wanted, hgd])]
  exact wp_store_mid ty x y ho g o cells hx hy (hb.there o _ hn) hi (by rw [← Array.all_toList]; exact h1) (h _ (by have e := setL_toList cells.toList cs o (by simpa using hn); rw [Array.length_toList, hcs, Array.toList_inj] at e; rw [← e]; exact Blk.setCells _ _ _ _ hb) (Mod.setCells _ _ _ _ (Mod.refl _ w) rfl))
set_option maxRecDepth 100000 in
set_option maxHeartbeats 8000000 in
theorem same15_eq (w : World) (A B : Option Addr) (n m c d : Nat) (xs ys : List Rs) (hA : RsL w A n xs) (hB : RsL w B m ys) (he : xs.map (·.r) = ys.map (·.r)) (hn : n ≤ 140737488355328) :
    Calls Tryz.prog 14 #[.slice A n c, .slice B m d] w fun e w' => e = .returned (.bool true) ∧ Mod none_ w w' := by
  have hnm : m = n := by
    have h1 := hA.len; have h2 := hB.len
    have := congrArg List.length he
    simp at this; omega
  subst hnm
  have hz : ((m : Int) != (m : Int)) = false := by simp
  replace hA := Lib.hid hA
  replace hB := Lib.hid hB
  replace he := Lib.hid he
  go_enter Tryz.func14, Tryz.ntmps14
  go_wp2_with fail
  go_loopg [5] m (fun k x wr => ∃ j : Nat, x = .int .i64 j ∧ j + k = m ∧ Mod none_ w wr)
  case atStart => exact ⟨0, rfl, by omega, Mod.refl _ _⟩
  case round =>
    obtain ⟨j, rfl, hj, hm⟩ := hrel
    by_cases hlt : j < m
    · obtain ⟨g, o, x, e1, hxm, hx, hrg⟩ := rdr_get (w := wr) (Rd.mod0 hA.out.rd hm) hlt
      obtain ⟨g', o', y, e2, hym, hy, hrg'⟩ := rdr_get (w := wr) (Rd.mod0 hB.out.rd hm) hlt
      subst e1 e2
      have hr : y.r = x.r := by
        have := congrArg (fun l => l[j]?) he.out
        simp only [List.getElem?_map, hx, hy, Option.map_some, Option.some.injEq] at this
        exact this.symm
      have hEx := (hA.out.mem x hxm).mod0 hm
      have hEy := (hB.out.mem y hym).mod0 hm
      obtain ⟨q1, q2, _, _⟩ := hA.out.ok x hxm
      obtain ⟨yr, M, E⟩ := y
      simp only at hr
      subst hr
      have hs1 := rangeAt_drop hrg 2
      have hs2 := rangeAt_drop hrg' 2
      simp only [rsC, List.drop_succ_cons, List.drop_zero] at hs1 hs2
      unfold rsC at hrg hrg'
      simp only at hEy hrg'
      replace hm := Lib.hid hm
      replace hxm := Lib.hid hxm
      replace hx := Lib.hid hx
      replace hym := Lib.hid hym
      replace hy := Lib.hid hy
      replace hrg := Lib.hid hrg
      replace hrg' := Lib.hid hrg'
      replace hEx := Lib.hid hEx
      replace hEy := Lib.hid hEy
      replace hs1 := Lib.hid hs1
      replace hs2 := Lib.hid hs2
      go_upto_region 6 with fail
      go_cut [6, 7] from 19 to 28 (fun s6 s7 wx => ∃ p q : Nat, s6 = .pointer (some ⟨p, 0, none⟩) ∧ s7 = .pointer (some ⟨q, 0, none⟩) ∧ Blk wx p 35 #[.int .i64 x.r.bal, .int .i64 x.r.st, .int .i64 x.r.by_, .int .i64 x.r.e.o.c, .int .i64 x.r.e.o.s, .int .i64 x.r.e.o.k, .string (txt x.r.e.o.acct), .string (txt x.r.e.o.peer), .int .i64 x.r.e.o.sum, .slice x.L.a x.L.n x.L.c, .int .i64 x.r.e.o.per, .int .i64 x.r.e.o.hold, .string (txt x.r.e.o.note), .bool x.r.e.none, .slice x.D.a x.D.n x.D.c] ∧ Blk wx q 35 #[.int .i64 x.r.bal, .int .i64 x.r.st, .int .i64 x.r.by_, .int .i64 x.r.e.o.c, .int .i64 x.r.e.o.s, .int .i64 x.r.e.o.k, .string (txt x.r.e.o.acct), .string (txt x.r.e.o.peer), .int .i64 x.r.e.o.sum, .slice M.a M.n M.c, .int .i64 x.r.e.o.per, .int .i64 x.r.e.o.hold, .string (txt x.r.e.o.note), .bool x.r.e.none, .slice E.a E.n E.c] ∧ Mod none_ wr wx)
      case first =>
        have hSm : ∀ W, Mod none_ wr W → W.rangeAt g (o + j * 17 + 2) [.int .i64 x.r.bal, .int .i64 x.r.st, .int .i64 x.r.by_, .int .i64 x.r.e.o.c, .int .i64 x.r.e.o.s, .int .i64 x.r.e.o.k, .string (txt x.r.e.o.acct), .string (txt x.r.e.o.peer), .int .i64 x.r.e.o.sum, .slice x.L.a x.L.n x.L.c, .int .i64 x.r.e.o.per, .int .i64 x.r.e.o.hold, .string (txt x.r.e.o.note), .bool x.r.e.none, .slice x.D.a x.D.n x.D.c] ∧ W.rangeAt g' (o' + j * 17 + 2) [.int .i64 x.r.bal, .int .i64 x.r.st, .int .i64 x.r.by_, .int .i64 x.r.e.o.c, .int .i64 x.r.e.o.s, .int .i64 x.r.e.o.k, .string (txt x.r.e.o.acct), .string (txt x.r.e.o.peer), .int .i64 x.r.e.o.sum, .slice M.a M.n M.c, .int .i64 x.r.e.o.per, .int .i64 x.r.e.o.hold, .string (txt x.r.e.o.note), .bool x.r.e.none, .slice E.a E.n E.c] := fun W hM => ⟨rangeAt_mod hs1.out hM, rangeAt_mod hs2.out hM⟩
        have hS0 := hSm _ ((Mod.refl none_ wr).drew)
        have hm1 := ((Mod.refl none_ wr).drew).alloc (.cells #[.int .i64 0, .int .i64 0, .int .i64 0, .int .i64 0, .int .i64 0, .int .i64 0, .string ⟨#[]⟩, .string ⟨#[]⟩, .int .i64 0, .slice none 0 0, .int .i64 0, .int .i64 0, .string ⟨#[]⟩, .bool false, .slice none 0 0] 35)
        have hm2 := hm1.alloc (.cells #[.int .i64 0, .int .i64 0, .int .i64 0, .int .i64 0, .int .i64 0, .int .i64 0, .string ⟨#[]⟩, .string ⟨#[]⟩, .int .i64 0, .slice none 0 0, .int .i64 0, .int .i64 0, .string ⟨#[]⟩, .bool false, .slice none 0 0] 35)
        have hS1 := hSm _ hm1
        have hS2 := hSm _ hm2
        have hB1 := (Blk.new wr.drew 35 #[.int .i64 0, .int .i64 0, .int .i64 0, .int .i64 0, .int .i64 0, .int .i64 0, .string ⟨#[]⟩, .string ⟨#[]⟩, .int .i64 0, .slice none 0 0, .int .i64 0, .int .i64 0, .string ⟨#[]⟩, .bool false, .slice none 0 0]).alloc (.cells #[.int .i64 0, .int .i64 0, .int .i64 0, .int .i64 0, .int .i64 0, .int .i64 0, .string ⟨#[]⟩, .string ⟨#[]⟩, .int .i64 0, .slice none 0 0, .int .i64 0, .int .i64 0, .string ⟨#[]⟩, .bool false, .slice none 0 0] 35)
        have hB2 := Blk.new (wr.drew.alloc (.cells #[.int .i64 0, .int .i64 0, .int .i64 0, .int .i64 0, .int .i64 0, .int .i64 0, .string ⟨#[]⟩, .string ⟨#[]⟩, .int .i64 0, .slice none 0 0, .int .i64 0, .int .i64 0, .string ⟨#[]⟩, .bool false, .slice none 0 0] 35)) 35 #[.int .i64 0, .int .i64 0, .int .i64 0, .int .i64 0, .int .i64 0, .int .i64 0, .string ⟨#[]⟩, .string ⟨#[]⟩, .int .i64 0, .slice none 0 0, .int .i64 0, .int .i64 0, .string ⟨#[]⟩, .bool false, .slice none 0 0]
        have hsz : (wr.drew.alloc (.cells #[.int .i64 0, .int .i64 0, .int .i64 0, .int .i64 0, .int .i64 0, .int .i64 0, .string ⟨#[]⟩, .string ⟨#[]⟩, .int .i64 0, .slice none 0 0, .int .i64 0, .int .i64 0, .string ⟨#[]⟩, .bool false, .slice none 0 0] 35)).heap.size = wr.heap.size + 1 := by simp
        rw [hsz] at hB2
        have hsz0 : wr.drew.heap.size = wr.heap.size := rfl
        rw [hsz0] at hB1
        clear hsz hsz0
        refine wp_region_held_drew (S := fun W => W.rangeAt g (o + j * 17 + 2) [.int .i64 x.r.bal, .int .i64 x.r.st, .int .i64 x.r.by_, .int .i64 x.r.e.o.c, .int .i64 x.r.e.o.s, .int .i64 x.r.e.o.k, .string (txt x.r.e.o.acct), .string (txt x.r.e.o.peer), .int .i64 x.r.e.o.sum, .slice x.L.a x.L.n x.L.c, .int .i64 x.r.e.o.per, .int .i64 x.r.e.o.hold, .string (txt x.r.e.o.note), .bool x.r.e.none, .slice x.D.a x.D.n x.D.c] ∧ W.rangeAt g' (o' + j * 17 + 2) [.int .i64 x.r.bal, .int .i64 x.r.st, .int .i64 x.r.by_, .int .i64 x.r.e.o.c, .int .i64 x.r.e.o.s, .int .i64 x.r.e.o.k, .string (txt x.r.e.o.acct), .string (txt x.r.e.o.peer), .int .i64 x.r.e.o.sum, .slice M.a M.n M.c, .int .i64 x.r.e.o.per, .int .i64 x.r.e.o.hold, .string (txt x.r.e.o.note), .bool x.r.e.none, .slice E.a E.n E.c]) (by kernel_rfl) hS0 (fun hHeld => ?_)
        refine wpAnyH_take (i := 0) (v := ?_) rfl (by kernel_rfl) (by kernel_rfl) (by kernel_rfl) (fun _ _ _ h => h) (Or.inl ⟨by rfl, ?_⟩) (by assumption) ?_
        rotate_left
        · intro W hSw; (try dsimp only at hSw); go_simp; (try with_reducible rfl)
        try simp only [Act.put, List.getElem_toArray, List.getElem_cons_zero, List.getElem_cons_succ, List.setIfInBounds_toArray, List.set_cons_zero, List.set_cons_succ]
        refine wpAnyH_take (i := 1) (v := ?_) rfl (by kernel_rfl) (by kernel_rfl) (by kernel_rfl) (fun _ _ _ h => h) (Or.inl ⟨by rfl, ?_⟩) (by assumption) ?_
        rotate_left
        · intro W hSw; (try dsimp only at hSw); go_simp; (try with_reducible rfl)
        try simp only [Act.put, List.getElem_toArray, List.getElem_cons_zero, List.getElem_cons_succ, List.setIfInBounds_toArray, List.set_cons_zero, List.set_cons_succ]
        refine wpAnyH_take (i := 2) (v := ?_) rfl (by kernel_rfl) (by kernel_rfl) (by kernel_rfl) (fun _ _ _ h => h) (Or.inl ⟨by rfl, ?_⟩) (by assumption) ?_
        rotate_left
        · intro W hSw; (try dsimp only at hSw); go_simp; (try with_reducible rfl)
        try simp only [Act.put, List.getElem_toArray, List.getElem_cons_zero, List.getElem_cons_succ, List.setIfInBounds_toArray, List.set_cons_zero, List.set_cons_succ]
        refine wpAnyH_take (i := 3) (v := ?_) rfl (by kernel_rfl) (by kernel_rfl) (by kernel_rfl) (fun _ _ _ h => h) (Or.inl ⟨by rfl, ?_⟩) (by assumption) ?_
        rotate_left
        · intro W hSw; (try dsimp only at hSw); go_simp; (try with_reducible rfl)
        try simp only [Act.put, List.getElem_toArray, List.getElem_cons_zero, List.getElem_cons_succ, List.setIfInBounds_toArray, List.set_cons_zero, List.set_cons_succ]
        refine wpAnyH_take (i := 4) rfl (by kernel_rfl) (by kernel_rfl) (by kernel_rfl) (fun _ _ _ h => h) (yieldsIf_load_mid (by rfl) 35 (.tmp 22) rfl g (o + j * 17 + 2) rfl [.int .i64 x.r.bal, .int .i64 x.r.st, .int .i64 x.r.by_, .int .i64 x.r.e.o.c, .int .i64 x.r.e.o.s, .int .i64 x.r.e.o.k, .string (txt x.r.e.o.acct), .string (txt x.r.e.o.peer), .int .i64 x.r.e.o.sum, .slice x.L.a x.L.n x.L.c, .int .i64 x.r.e.o.per, .int .i64 x.r.e.o.hold, .string (txt x.r.e.o.note), .bool x.r.e.none, .slice x.D.a x.D.n x.D.c] _ (fun W hW => hW.1) Tryz.underlying35 rfl slot_size) (by assumption) ?_
        try simp only [Act.put, List.getElem_toArray, List.getElem_cons_zero, List.getElem_cons_succ, List.setIfInBounds_toArray, List.set_cons_zero, List.set_cons_succ]
        refine wpAnyH_take (i := 5) (v := ?_) rfl (by kernel_rfl) (by kernel_rfl) (by kernel_rfl) (fun _ _ _ h => h) (Or.inl ⟨by rfl, ?_⟩) (by assumption) ?_
        rotate_left
        · intro W hSw; (try dsimp only at hSw); go_simp; (try with_reducible rfl)
        try simp only [Act.put, List.getElem_toArray, List.getElem_cons_zero, List.getElem_cons_succ, List.setIfInBounds_toArray, List.set_cons_zero, List.set_cons_succ]
        refine wpAnyH_take (i := 6) (v := ?_) rfl (by kernel_rfl) (by kernel_rfl) (by kernel_rfl) (fun _ _ _ h => h) (Or.inl ⟨by rfl, ?_⟩) (by assumption) ?_
        rotate_left
        · intro W hSw; (try dsimp only at hSw); go_simp; (try with_reducible rfl)
        try simp only [Act.put, List.getElem_toArray, List.getElem_cons_zero, List.getElem_cons_succ, List.setIfInBounds_toArray, List.set_cons_zero, List.set_cons_succ]
        refine wpAnyH_take (i := 7) (v := ?_) rfl (by kernel_rfl) (by kernel_rfl) (by kernel_rfl) (fun _ _ _ h => h) (Or.inl ⟨by rfl, ?_⟩) (by assumption) ?_
        rotate_left
        · intro W hSw; (try dsimp only at hSw); go_simp; (try with_reducible rfl)
        try simp only [Act.put, List.getElem_toArray, List.getElem_cons_zero, List.getElem_cons_succ, List.setIfInBounds_toArray, List.set_cons_zero, List.set_cons_succ]
        refine wpAnyH_take (i := 8) (v := ?_) rfl (by kernel_rfl) (by kernel_rfl) (by kernel_rfl) (fun _ _ _ h => h) (Or.inl ⟨by rfl, ?_⟩) (by assumption) ?_
        rotate_left
        · intro W hSw; (try dsimp only at hSw); go_simp; (try with_reducible rfl)
        try simp only [Act.put, List.getElem_toArray, List.getElem_cons_zero, List.getElem_cons_succ, List.setIfInBounds_toArray, List.set_cons_zero, List.set_cons_succ]
        refine wpAnyH_take (i := 9) rfl (by kernel_rfl) (by kernel_rfl) (by kernel_rfl) (fun _ _ _ h => h) (yieldsIf_load_mid (by rfl) 35 (.tmp 27) rfl g' (o' + j * 17 + 2) rfl [.int .i64 x.r.bal, .int .i64 x.r.st, .int .i64 x.r.by_, .int .i64 x.r.e.o.c, .int .i64 x.r.e.o.s, .int .i64 x.r.e.o.k, .string (txt x.r.e.o.acct), .string (txt x.r.e.o.peer), .int .i64 x.r.e.o.sum, .slice M.a M.n M.c, .int .i64 x.r.e.o.per, .int .i64 x.r.e.o.hold, .string (txt x.r.e.o.note), .bool x.r.e.none, .slice E.a E.n E.c] _ (fun W hW => hW.2) Tryz.underlying35 rfl slot_size) (by assumption) ?_
        try simp only [Act.put, List.getElem_toArray, List.getElem_cons_zero, List.getElem_cons_succ, List.setIfInBounds_toArray, List.set_cons_zero, List.set_cons_succ]
        refine wpAnyH_ready (rs := [10, 11]) (by kernel_rfl) (by simp) ?_
        refine AllReadyH.cons rfl (fun K hK => ?_) (AllReadyH.cons rfl (fun K hK => ?_) AllReadyH.nil)
        focus
          go_simp
          refine hK.out _ _ (hS1) (fun hHeld => ?_)
          clear hK K
          try simp only [Act.put, List.getElem_toArray, List.getElem_cons_zero, List.getElem_cons_succ, List.setIfInBounds_toArray, List.set_cons_zero, List.set_cons_succ]
          refine wpAnyH_ready (rs := [11]) (by kernel_rfl) (by simp) ?_
          refine AllReadyH.cons rfl (fun K hK => ?_) AllReadyH.nil
          go_simp
          refine hK.out _ _ (hS2) (fun hHeld => ?_)
          clear hK K
          try simp only [Act.put, List.getElem_toArray, List.getElem_cons_zero, List.getElem_cons_succ, List.setIfInBounds_toArray, List.set_cons_zero, List.set_cons_succ]
          refine wpAnyH_ready (rs := [12]) (by kernel_rfl) (by simp) ?_
          refine AllReadyH.cons rfl (fun K hK => ?_) AllReadyH.nil
          refine step_store_blk rfl 35 (.tmp 6) (.tmp 23) rfl (wr.heap.size) 0 _ rfl rfl hB1 (by simp) slot_size (by rfl) #[.int .i64 x.r.bal, .int .i64 x.r.st, .int .i64 x.r.by_, .int .i64 x.r.e.o.c, .int .i64 x.r.e.o.s, .int .i64 x.r.e.o.k, .string (txt x.r.e.o.acct), .string (txt x.r.e.o.peer), .int .i64 x.r.e.o.sum, .slice x.L.a x.L.n x.L.c, .int .i64 x.r.e.o.per, .int .i64 x.r.e.o.hold, .string (txt x.r.e.o.note), .bool x.r.e.none, .slice x.D.a x.D.n x.D.c] rfl ?_
          intro w3 hb3 hm3
          have hB3 := hB2.mod hm3 (fun h => by have : wr.heap.size + 1 = wr.heap.size := h; omega)
          have hm3' := hm2.in_new (by omega) hm3
          have hS3 := hSm _ hm3'
          refine hK.out _ _ (hS3) (fun hHeld => ?_)
          clear hK K
          try simp only [Act.put, List.getElem_toArray, List.getElem_cons_zero, List.getElem_cons_succ, List.setIfInBounds_toArray, List.set_cons_zero, List.set_cons_succ]
          refine wpAnyH_ready (rs := [13]) (by kernel_rfl) (by simp) ?_
          refine AllReadyH.cons rfl (fun K hK => ?_) AllReadyH.nil
          refine step_store_blk rfl 35 (.tmp 7) (.tmp 28) rfl (wr.heap.size + 1) 0 _ rfl rfl hB3 (by simp) slot_size (by rfl) #[.int .i64 x.r.bal, .int .i64 x.r.st, .int .i64 x.r.by_, .int .i64 x.r.e.o.c, .int .i64 x.r.e.o.s, .int .i64 x.r.e.o.k, .string (txt x.r.e.o.acct), .string (txt x.r.e.o.peer), .int .i64 x.r.e.o.sum, .slice M.a M.n M.c, .int .i64 x.r.e.o.per, .int .i64 x.r.e.o.hold, .string (txt x.r.e.o.note), .bool x.r.e.none, .slice E.a E.n E.c] rfl ?_
          intro w4 hb4 hm4
          have hb4' := hb3.mod hm4 (fun h => by have : wr.heap.size = wr.heap.size + 1 := h; omega)
          have hm4' := hm3'.in_new (by omega) hm4
          have hS4 := hSm _ hm4'
          refine hK.out _ _ (hS4) (fun hHeld => ?_)
          clear hK K
          try simp only [Act.put, List.getElem_toArray, List.getElem_cons_zero, List.getElem_cons_succ, List.setIfInBounds_toArray, List.set_cons_zero, List.set_cons_succ]
          refine wpAnyH_done (by kernel_rfl) ?_ _
          clear hHeld hS1 hS2 hS3 hS4 hSm hm1 hm2 hm3' hm3 hm4 hB3 hb3 hB1 hB2
          replace hb4 := Lib.hid hb4
          replace hb4' := Lib.hid hb4'
          replace hm4' := Lib.hid hm4'
          go_wp2_with fail
          all_goals go_meet
          exact ⟨wr.heap.size, wr.heap.size + 1, rfl, rfl, hb4'.out, hb4.out, hm4'.out⟩
        focus
          go_simp
          refine hK.out _ _ (hS1) (fun hHeld => ?_)
          clear hK K
          try simp only [Act.put, List.getElem_toArray, List.getElem_cons_zero, List.getElem_cons_succ, List.setIfInBounds_toArray, List.set_cons_zero, List.set_cons_succ]
          refine wpAnyH_ready (rs := [10]) (by kernel_rfl) (by simp) ?_
          refine AllReadyH.cons rfl (fun K hK => ?_) AllReadyH.nil
          go_simp
          refine hK.out _ _ (hS2) (fun hHeld => ?_)
          clear hK K
          try simp only [Act.put, List.getElem_toArray, List.getElem_cons_zero, List.getElem_cons_succ, List.setIfInBounds_toArray, List.set_cons_zero, List.set_cons_succ]
          refine wpAnyH_ready (rs := [12]) (by kernel_rfl) (by simp) ?_
          refine AllReadyH.cons rfl (fun K hK => ?_) AllReadyH.nil
          refine step_store_blk rfl 35 (.tmp 6) (.tmp 23) rfl (wr.heap.size + 1) 0 _ rfl rfl hB2 (by simp) slot_size (by rfl) #[.int .i64 x.r.bal, .int .i64 x.r.st, .int .i64 x.r.by_, .int .i64 x.r.e.o.c, .int .i64 x.r.e.o.s, .int .i64 x.r.e.o.k, .string (txt x.r.e.o.acct), .string (txt x.r.e.o.peer), .int .i64 x.r.e.o.sum, .slice x.L.a x.L.n x.L.c, .int .i64 x.r.e.o.per, .int .i64 x.r.e.o.hold, .string (txt x.r.e.o.note), .bool x.r.e.none, .slice x.D.a x.D.n x.D.c] rfl ?_
          intro w3 hb3 hm3
          have hB3 := hB1.mod hm3 (fun h => by have : wr.heap.size = wr.heap.size + 1 := h; omega)
          have hm3' := hm2.in_new (by omega) hm3
          have hS3 := hSm _ hm3'
          refine hK.out _ _ (hS3) (fun hHeld => ?_)
          clear hK K
          try simp only [Act.put, List.getElem_toArray, List.getElem_cons_zero, List.getElem_cons_succ, List.setIfInBounds_toArray, List.set_cons_zero, List.set_cons_succ]
          refine wpAnyH_ready (rs := [13]) (by kernel_rfl) (by simp) ?_
          refine AllReadyH.cons rfl (fun K hK => ?_) AllReadyH.nil
          refine step_store_blk rfl 35 (.tmp 7) (.tmp 28) rfl (wr.heap.size) 0 _ rfl rfl hB3 (by simp) slot_size (by rfl) #[.int .i64 x.r.bal, .int .i64 x.r.st, .int .i64 x.r.by_, .int .i64 x.r.e.o.c, .int .i64 x.r.e.o.s, .int .i64 x.r.e.o.k, .string (txt x.r.e.o.acct), .string (txt x.r.e.o.peer), .int .i64 x.r.e.o.sum, .slice M.a M.n M.c, .int .i64 x.r.e.o.per, .int .i64 x.r.e.o.hold, .string (txt x.r.e.o.note), .bool x.r.e.none, .slice E.a E.n E.c] rfl ?_
          intro w4 hb4 hm4
          have hb4' := hb3.mod hm4 (fun h => by have : wr.heap.size + 1 = wr.heap.size := h; omega)
          have hm4' := hm3'.in_new (by omega) hm4
          have hS4 := hSm _ hm4'
          refine hK.out _ _ (hS4) (fun hHeld => ?_)
          clear hK K
          try simp only [Act.put, List.getElem_toArray, List.getElem_cons_zero, List.getElem_cons_succ, List.setIfInBounds_toArray, List.set_cons_zero, List.set_cons_succ]
          refine wpAnyH_done (by kernel_rfl) ?_ _
          clear hHeld hS1 hS2 hS3 hS4 hSm hm1 hm2 hm3' hm3 hm4 hB3 hb3 hB1 hB2
          replace hb4 := Lib.hid hb4
          replace hb4' := Lib.hid hb4'
          replace hm4' := Lib.hid hm4'
          go_wp2_with fail
          all_goals go_meet
          exact ⟨wr.heap.size + 1, wr.heap.size, rfl, rfl, hb4'.out, hb4.out, hm4'.out⟩
      case rest =>
        obtain ⟨p, q, rfl, rfl, hbp, hbq, hmx⟩ := hcut
        have hne := fun W => neq_is W x.r.i x.r.i
        unfold isV at hne
        simp only [decide_true, Bool.not_true] at hne
        have hM2 := hm.out.trans hmx
        have hd1 : wc.drew.rangeAt g (o + j * 17) [.int .i64 x.r.i.r, .int .i64 x.r.i.n] := rangeAt_mod (rangeAt_take2 hrg.out) hmx.drew
        have hd2 : wc.drew.rangeAt g' (o' + j * 17) [.int .i64 x.r.i.r, .int .i64 x.r.i.n] := rangeAt_mod (rangeAt_take2 hrg'.out) hmx.drew
        have hS0 : Blk wc.drew p 35 #[.int .i64 x.r.bal, .int .i64 x.r.st, .int .i64 x.r.by_, .int .i64 x.r.e.o.c, .int .i64 x.r.e.o.s, .int .i64 x.r.e.o.k, .string (txt x.r.e.o.acct), .string (txt x.r.e.o.peer), .int .i64 x.r.e.o.sum, .slice x.L.a x.L.n x.L.c, .int .i64 x.r.e.o.per, .int .i64 x.r.e.o.hold, .string (txt x.r.e.o.note), .bool x.r.e.none, .slice x.D.a x.D.n x.D.c] ∧ Blk wc.drew q 35 #[.int .i64 x.r.bal, .int .i64 x.r.st, .int .i64 x.r.by_, .int .i64 x.r.e.o.c, .int .i64 x.r.e.o.s, .int .i64 x.r.e.o.k, .string (txt x.r.e.o.acct), .string (txt x.r.e.o.peer), .int .i64 x.r.e.o.sum, .slice M.a M.n M.c, .int .i64 x.r.e.o.per, .int .i64 x.r.e.o.hold, .string (txt x.r.e.o.note), .bool x.r.e.none, .slice E.a E.n E.c] ∧ wc.drew.rangeAt g (o + j * 17) [.int .i64 x.r.i.r, .int .i64 x.r.i.n] ∧ wc.drew.rangeAt g' (o' + j * 17) [.int .i64 x.r.i.r, .int .i64 x.r.i.n] := ⟨hbp.drew, hbq.drew, hd1, hd2⟩
        have k14 := Lib.hid (same14_eq wc.drew x.r.e x.L x.D M E (hEx.out.mod0 hmx.drew) (hEy.out.mod0 hmx.drew) q1 q2)
        have hSm : ∀ W, Mod none_ wc.drew W → Blk W p 35 #[.int .i64 x.r.bal, .int .i64 x.r.st, .int .i64 x.r.by_, .int .i64 x.r.e.o.c, .int .i64 x.r.e.o.s, .int .i64 x.r.e.o.k, .string (txt x.r.e.o.acct), .string (txt x.r.e.o.peer), .int .i64 x.r.e.o.sum, .slice x.L.a x.L.n x.L.c, .int .i64 x.r.e.o.per, .int .i64 x.r.e.o.hold, .string (txt x.r.e.o.note), .bool x.r.e.none, .slice x.D.a x.D.n x.D.c] ∧ Blk W q 35 #[.int .i64 x.r.bal, .int .i64 x.r.st, .int .i64 x.r.by_, .int .i64 x.r.e.o.c, .int .i64 x.r.e.o.s, .int .i64 x.r.e.o.k, .string (txt x.r.e.o.acct), .string (txt x.r.e.o.peer), .int .i64 x.r.e.o.sum, .slice M.a M.n M.c, .int .i64 x.r.e.o.per, .int .i64 x.r.e.o.hold, .string (txt x.r.e.o.note), .bool x.r.e.none, .slice E.a E.n E.c] ∧ W.rangeAt g (o + j * 17) [.int .i64 x.r.i.r, .int .i64 x.r.i.n] ∧ W.rangeAt g' (o' + j * 17) [.int .i64 x.r.i.r, .int .i64 x.r.i.n] := fun W hM => ⟨hS0.1.mod hM (fun h => h), hS0.2.1.mod hM (fun h => h), rangeAt_mod hS0.2.2.1 hM, rangeAt_mod hS0.2.2.2 hM⟩
        replace hM2 := Lib.hid hM2
        clear hbp hbq hmx hd1 hd2
        go_upto_region 7 with fail
        refine wp_region_held_drew (S := fun W => Blk W p 35 #[.int .i64 x.r.bal, .int .i64 x.r.st, .int .i64 x.r.by_, .int .i64 x.r.e.o.c, .int .i64 x.r.e.o.s, .int .i64 x.r.e.o.k, .string (txt x.r.e.o.acct), .string (txt x.r.e.o.peer), .int .i64 x.r.e.o.sum, .slice x.L.a x.L.n x.L.c, .int .i64 x.r.e.o.per, .int .i64 x.r.e.o.hold, .string (txt x.r.e.o.note), .bool x.r.e.none, .slice x.D.a x.D.n x.D.c] ∧ Blk W q 35 #[.int .i64 x.r.bal, .int .i64 x.r.st, .int .i64 x.r.by_, .int .i64 x.r.e.o.c, .int .i64 x.r.e.o.s, .int .i64 x.r.e.o.k, .string (txt x.r.e.o.acct), .string (txt x.r.e.o.peer), .int .i64 x.r.e.o.sum, .slice M.a M.n M.c, .int .i64 x.r.e.o.per, .int .i64 x.r.e.o.hold, .string (txt x.r.e.o.note), .bool x.r.e.none, .slice E.a E.n E.c] ∧ W.rangeAt g (o + j * 17) [.int .i64 x.r.i.r, .int .i64 x.r.i.n] ∧ W.rangeAt g' (o' + j * 17) [.int .i64 x.r.i.r, .int .i64 x.r.i.n]) (by kernel_rfl) hS0 (fun hHeld => ?_)
        refine wpAnyH_take (i := 0) (v := ?_) rfl (by kernel_rfl) (by kernel_rfl) (by kernel_rfl) (fun _ _ _ h => h) (Or.inl ⟨by rfl, ?_⟩) (by assumption) ?_
        rotate_left
        · intro W hSw; (try dsimp only at hSw); go_simp; (try with_reducible rfl)
        try simp only [Act.put, List.getElem_toArray, List.getElem_cons_zero, List.getElem_cons_succ, List.setIfInBounds_toArray, List.set_cons_zero, List.set_cons_succ]
        refine wpAnyH_take (i := 1) (v := ?_) rfl (by kernel_rfl) (by kernel_rfl) (by kernel_rfl) (fun _ _ _ h => h) (Or.inl ⟨by rfl, ?_⟩) (by assumption) ?_
        rotate_left
        · intro W hSw; (try dsimp only at hSw); go_simp; (try with_reducible rfl)
        try simp only [Act.put, List.getElem_toArray, List.getElem_cons_zero, List.getElem_cons_succ, List.setIfInBounds_toArray, List.set_cons_zero, List.set_cons_succ]
        refine wpAnyH_take (i := 2) (v := ?_) rfl (by kernel_rfl) (by kernel_rfl) (by kernel_rfl) (fun _ _ _ h => h) (Or.inl ⟨by rfl, ?_⟩) (by assumption) ?_
        rotate_left
        · intro W hSw; (try dsimp only at hSw); go_simp; (try with_reducible rfl)
        try simp only [Act.put, List.getElem_toArray, List.getElem_cons_zero, List.getElem_cons_succ, List.setIfInBounds_toArray, List.set_cons_zero, List.set_cons_succ]
        refine wpAnyH_take (i := 3) (v := ?_) rfl (by kernel_rfl) (by kernel_rfl) (by kernel_rfl) (fun _ _ _ h => h) (Or.inl ⟨by rfl, ?_⟩) (by assumption) ?_
        rotate_left
        · intro W hSw; (try dsimp only at hSw); go_simp; (try with_reducible rfl)
        try simp only [Act.put, List.getElem_toArray, List.getElem_cons_zero, List.getElem_cons_succ, List.setIfInBounds_toArray, List.set_cons_zero, List.set_cons_succ]
        refine wpAnyH_take (i := 4) rfl (by kernel_rfl) (by kernel_rfl) (by kernel_rfl) (fun _ _ _ h => h) (yieldsIf_load_mid (by rfl) 25 (.tmp 32) rfl g (o + j * 17) rfl [.int .i64 x.r.i.r, .int .i64 x.r.i.n] _ (fun W hW => hW.2.2.1) Tryz.underlying25 rfl inst_size) (by assumption) ?_
        try simp only [Act.put, List.getElem_toArray, List.getElem_cons_zero, List.getElem_cons_succ, List.setIfInBounds_toArray, List.set_cons_zero, List.set_cons_succ]
        refine wpAnyH_take (i := 5) (v := ?_) rfl (by kernel_rfl) (by kernel_rfl) (by kernel_rfl) (fun _ _ _ h => h) (Or.inl ⟨by rfl, ?_⟩) (by assumption) ?_
        rotate_left
        · intro W hSw; (try dsimp only at hSw); go_simp; (try with_reducible rfl)
        try simp only [Act.put, List.getElem_toArray, List.getElem_cons_zero, List.getElem_cons_succ, List.setIfInBounds_toArray, List.set_cons_zero, List.set_cons_succ]
        refine wpAnyH_take (i := 6) (v := ?_) rfl (by kernel_rfl) (by kernel_rfl) (by kernel_rfl) (fun _ _ _ h => h) (Or.inl ⟨by rfl, ?_⟩) (by assumption) ?_
        rotate_left
        · intro W hSw; (try dsimp only at hSw); go_simp; (try with_reducible rfl)
        try simp only [Act.put, List.getElem_toArray, List.getElem_cons_zero, List.getElem_cons_succ, List.setIfInBounds_toArray, List.set_cons_zero, List.set_cons_succ]
        refine wpAnyH_take (i := 7) (v := ?_) rfl (by kernel_rfl) (by kernel_rfl) (by kernel_rfl) (fun _ _ _ h => h) (Or.inl ⟨by rfl, ?_⟩) (by assumption) ?_
        rotate_left
        · intro W hSw; (try dsimp only at hSw); go_simp; (try with_reducible rfl)
        try simp only [Act.put, List.getElem_toArray, List.getElem_cons_zero, List.getElem_cons_succ, List.setIfInBounds_toArray, List.set_cons_zero, List.set_cons_succ]
        refine wpAnyH_take (i := 8) (v := ?_) rfl (by kernel_rfl) (by kernel_rfl) (by kernel_rfl) (fun _ _ _ h => h) (Or.inl ⟨by rfl, ?_⟩) (by assumption) ?_
        rotate_left
        · intro W hSw; (try dsimp only at hSw); go_simp; (try with_reducible rfl)
        try simp only [Act.put, List.getElem_toArray, List.getElem_cons_zero, List.getElem_cons_succ, List.setIfInBounds_toArray, List.set_cons_zero, List.set_cons_succ]
        refine wpAnyH_take (i := 9) rfl (by kernel_rfl) (by kernel_rfl) (by kernel_rfl) (fun _ _ _ h => h) (yieldsIf_load_mid (by rfl) 25 (.tmp 37) rfl g' (o' + j * 17) rfl [.int .i64 x.r.i.r, .int .i64 x.r.i.n] _ (fun W hW => hW.2.2.2) Tryz.underlying25 rfl inst_size) (by assumption) ?_
        try simp only [Act.put, List.getElem_toArray, List.getElem_cons_zero, List.getElem_cons_succ, List.setIfInBounds_toArray, List.set_cons_zero, List.set_cons_succ]
        refine wpAnyH_take (i := 10) (v := ?_) rfl (by kernel_rfl) (by kernel_rfl) (by kernel_rfl) (fun _ _ _ h => h) (Or.inl ⟨by rfl, ?_⟩) (by assumption) ?_
        rotate_left
        · intro W hSw; (try dsimp only at hSw); go_simp; (try with_reducible rfl)
        try simp only [Act.put, List.getElem_toArray, List.getElem_cons_zero, List.getElem_cons_succ, List.setIfInBounds_toArray, List.set_cons_zero, List.set_cons_succ]
        refine wpAnyH_take (i := 11) (v := ?_) rfl (by kernel_rfl) (by kernel_rfl) (by kernel_rfl) (fun _ _ _ h => h) (Or.inl ⟨by rfl, ?_⟩) (by assumption) ?_
        rotate_left
        · intro W hSw; (try dsimp only at hSw); go_simp; (try with_reducible rfl)
        try simp only [Act.put, List.getElem_toArray, List.getElem_cons_zero, List.getElem_cons_succ, List.setIfInBounds_toArray, List.set_cons_zero, List.set_cons_succ]
        refine wpAnyH_take (i := 12) (v := ?_) rfl (by kernel_rfl) (by kernel_rfl) (by kernel_rfl) (fun _ _ _ h => h) (Or.inl ⟨by rfl, ?_⟩) (by assumption) ?_
        rotate_left
        · intro W hSw; (try dsimp only at hSw); go_simp; (try with_reducible rfl)
        try simp only [Act.put, List.getElem_toArray, List.getElem_cons_zero, List.getElem_cons_succ, List.setIfInBounds_toArray, List.set_cons_zero, List.set_cons_succ]
        refine wpAnyH_take (i := 13) (v := ?_) rfl (by kernel_rfl) (by kernel_rfl) (by kernel_rfl) (fun _ _ _ h => h) (Or.inl ⟨by rfl, ?_⟩) (by assumption) ?_
        rotate_left
        · intro W hSw; have hc := Blk.cell_ hSw.1 (i := 0) rfl; go_simp; (try with_reducible rfl)
        try simp only [Act.put, List.getElem_toArray, List.getElem_cons_zero, List.getElem_cons_succ, List.setIfInBounds_toArray, List.set_cons_zero, List.set_cons_succ]
        refine wpAnyH_take (i := 14) (v := ?_) rfl (by kernel_rfl) (by kernel_rfl) (by kernel_rfl) (fun _ _ _ h => h) (Or.inl ⟨by rfl, ?_⟩) (by assumption) ?_
        rotate_left
        · intro W hSw; (try dsimp only at hSw); go_simp; (try with_reducible rfl)
        try simp only [Act.put, List.getElem_toArray, List.getElem_cons_zero, List.getElem_cons_succ, List.setIfInBounds_toArray, List.set_cons_zero, List.set_cons_succ]
        refine wpAnyH_take (i := 15) (v := ?_) rfl (by kernel_rfl) (by kernel_rfl) (by kernel_rfl) (fun _ _ _ h => h) (Or.inl ⟨by rfl, ?_⟩) (by assumption) ?_
        rotate_left
        · intro W hSw; have hc := Blk.cell_ hSw.2.1 (i := 0) rfl; go_simp; (try with_reducible rfl)
        try simp only [Act.put, List.getElem_toArray, List.getElem_cons_zero, List.getElem_cons_succ, List.setIfInBounds_toArray, List.set_cons_zero, List.set_cons_succ]
        refine wpAnyH_take (i := 16) (v := ?_) rfl (by kernel_rfl) (by kernel_rfl) (by kernel_rfl) (fun _ _ _ h => h) (Or.inl ⟨by rfl, ?_⟩) (by assumption) ?_
        rotate_left
        · intro W hSw; (try dsimp only at hSw); go_simp; (try with_reducible rfl)
        try simp only [Act.put, List.getElem_toArray, List.getElem_cons_zero, List.getElem_cons_succ, List.setIfInBounds_toArray, List.set_cons_zero, List.set_cons_succ]
        refine wpAnyH_take (i := 17) (v := ?_) rfl (by kernel_rfl) (by kernel_rfl) (by kernel_rfl) (fun _ _ _ h => h) (Or.inl ⟨by rfl, ?_⟩) (by assumption) ?_
        rotate_left
        · intro W hSw; (try dsimp only at hSw); go_simp; (try with_reducible rfl)
        try simp only [Act.put, List.getElem_toArray, List.getElem_cons_zero, List.getElem_cons_succ, List.setIfInBounds_toArray, List.set_cons_zero, List.set_cons_succ]
        refine wpAnyH_take (i := 18) (v := ?_) rfl (by kernel_rfl) (by kernel_rfl) (by kernel_rfl) (fun _ _ _ h => h) (Or.inl ⟨by rfl, ?_⟩) (by assumption) ?_
        rotate_left
        · intro W hSw; (try dsimp only at hSw); go_simp; (try with_reducible rfl)
        try simp only [Act.put, List.getElem_toArray, List.getElem_cons_zero, List.getElem_cons_succ, List.setIfInBounds_toArray, List.set_cons_zero, List.set_cons_succ]
        refine wpAnyH_take (i := 19) (v := ?_) rfl (by kernel_rfl) (by kernel_rfl) (by kernel_rfl) (fun _ _ _ h => h) (Or.inl ⟨by rfl, ?_⟩) (by assumption) ?_
        rotate_left
        · intro W hSw; (try dsimp only at hSw); go_simp; (try with_reducible rfl)
        try simp only [Act.put, List.getElem_toArray, List.getElem_cons_zero, List.getElem_cons_succ, List.setIfInBounds_toArray, List.set_cons_zero, List.set_cons_succ]
        refine wpAnyH_take (i := 20) (v := ?_) rfl (by kernel_rfl) (by kernel_rfl) (by kernel_rfl) (fun _ _ _ h => h) (Or.inl ⟨by rfl, ?_⟩) (by assumption) ?_
        rotate_left
        · intro W hSw; have hc := Blk.cell_ hSw.1 (i := 1) rfl; go_simp; (try with_reducible rfl)
        try simp only [Act.put, List.getElem_toArray, List.getElem_cons_zero, List.getElem_cons_succ, List.setIfInBounds_toArray, List.set_cons_zero, List.set_cons_succ]
        refine wpAnyH_take (i := 21) (v := ?_) rfl (by kernel_rfl) (by kernel_rfl) (by kernel_rfl) (fun _ _ _ h => h) (Or.inl ⟨by rfl, ?_⟩) (by assumption) ?_
        rotate_left
        · intro W hSw; (try dsimp only at hSw); go_simp; (try with_reducible rfl)
        try simp only [Act.put, List.getElem_toArray, List.getElem_cons_zero, List.getElem_cons_succ, List.setIfInBounds_toArray, List.set_cons_zero, List.set_cons_succ]
        refine wpAnyH_take (i := 22) (v := ?_) rfl (by kernel_rfl) (by kernel_rfl) (by kernel_rfl) (fun _ _ _ h => h) (Or.inl ⟨by rfl, ?_⟩) (by assumption) ?_
        rotate_left
        · intro W hSw; have hc := Blk.cell_ hSw.2.1 (i := 1) rfl; go_simp; (try with_reducible rfl)
        try simp only [Act.put, List.getElem_toArray, List.getElem_cons_zero, List.getElem_cons_succ, List.setIfInBounds_toArray, List.set_cons_zero, List.set_cons_succ]
        refine wpAnyH_take (i := 23) (v := ?_) rfl (by kernel_rfl) (by kernel_rfl) (by kernel_rfl) (fun _ _ _ h => h) (Or.inl ⟨by rfl, ?_⟩) (by assumption) ?_
        rotate_left
        · intro W hSw; (try dsimp only at hSw); go_simp; (try with_reducible rfl)
        try simp only [Act.put, List.getElem_toArray, List.getElem_cons_zero, List.getElem_cons_succ, List.setIfInBounds_toArray, List.set_cons_zero, List.set_cons_succ]
        refine wpAnyH_take (i := 24) (v := ?_) rfl (by kernel_rfl) (by kernel_rfl) (by kernel_rfl) (fun _ _ _ h => h) (Or.inl ⟨by rfl, ?_⟩) (by assumption) ?_
        rotate_left
        · intro W hSw; (try dsimp only at hSw); go_simp; (try with_reducible rfl)
        try simp only [Act.put, List.getElem_toArray, List.getElem_cons_zero, List.getElem_cons_succ, List.setIfInBounds_toArray, List.set_cons_zero, List.set_cons_succ]
        refine wpAnyH_take (i := 25) (v := ?_) rfl (by kernel_rfl) (by kernel_rfl) (by kernel_rfl) (fun _ _ _ h => h) (Or.inl ⟨by rfl, ?_⟩) (by assumption) ?_
        rotate_left
        · intro W hSw; (try dsimp only at hSw); go_simp; (try with_reducible rfl)
        try simp only [Act.put, List.getElem_toArray, List.getElem_cons_zero, List.getElem_cons_succ, List.setIfInBounds_toArray, List.set_cons_zero, List.set_cons_succ]
        refine wpAnyH_take (i := 26) (v := ?_) rfl (by kernel_rfl) (by kernel_rfl) (by kernel_rfl) (fun _ _ _ h => h) (Or.inl ⟨by rfl, ?_⟩) (by assumption) ?_
        rotate_left
        · intro W hSw; (try dsimp only at hSw); go_simp; (try with_reducible rfl)
        try simp only [Act.put, List.getElem_toArray, List.getElem_cons_zero, List.getElem_cons_succ, List.setIfInBounds_toArray, List.set_cons_zero, List.set_cons_succ]
        refine wpAnyH_take (i := 27) (v := ?_) rfl (by kernel_rfl) (by kernel_rfl) (by kernel_rfl) (fun _ _ _ h => h) (Or.inl ⟨by rfl, ?_⟩) (by assumption) ?_
        rotate_left
        · intro W hSw; have hc := Blk.cell_ hSw.1 (i := 2) rfl; go_simp; (try with_reducible rfl)
        try simp only [Act.put, List.getElem_toArray, List.getElem_cons_zero, List.getElem_cons_succ, List.setIfInBounds_toArray, List.set_cons_zero, List.set_cons_succ]
        refine wpAnyH_take (i := 28) (v := ?_) rfl (by kernel_rfl) (by kernel_rfl) (by kernel_rfl) (fun _ _ _ h => h) (Or.inl ⟨by rfl, ?_⟩) (by assumption) ?_
        rotate_left
        · intro W hSw; (try dsimp only at hSw); go_simp; (try with_reducible rfl)
        try simp only [Act.put, List.getElem_toArray, List.getElem_cons_zero, List.getElem_cons_succ, List.setIfInBounds_toArray, List.set_cons_zero, List.set_cons_succ]
        refine wpAnyH_take (i := 29) (v := ?_) rfl (by kernel_rfl) (by kernel_rfl) (by kernel_rfl) (fun _ _ _ h => h) (Or.inl ⟨by rfl, ?_⟩) (by assumption) ?_
        rotate_left
        · intro W hSw; have hc := Blk.cell_ hSw.2.1 (i := 2) rfl; go_simp; (try with_reducible rfl)
        try simp only [Act.put, List.getElem_toArray, List.getElem_cons_zero, List.getElem_cons_succ, List.setIfInBounds_toArray, List.set_cons_zero, List.set_cons_succ]
        refine wpAnyH_take (i := 30) (v := ?_) rfl (by kernel_rfl) (by kernel_rfl) (by kernel_rfl) (fun _ _ _ h => h) (Or.inl ⟨by rfl, ?_⟩) (by assumption) ?_
        rotate_left
        · intro W hSw; (try dsimp only at hSw); go_simp; (try with_reducible rfl)
        try simp only [Act.put, List.getElem_toArray, List.getElem_cons_zero, List.getElem_cons_succ, List.setIfInBounds_toArray, List.set_cons_zero, List.set_cons_succ]
        refine wpAnyH_take (i := 31) (v := ?_) rfl (by kernel_rfl) (by kernel_rfl) (by kernel_rfl) (fun _ _ _ h => h) (Or.inl ⟨by rfl, ?_⟩) (by assumption) ?_
        rotate_left
        · intro W hSw; (try dsimp only at hSw); go_simp; (try with_reducible rfl)
        try simp only [Act.put, List.getElem_toArray, List.getElem_cons_zero, List.getElem_cons_succ, List.setIfInBounds_toArray, List.set_cons_zero, List.set_cons_succ]
        refine wpAnyH_take (i := 32) (v := ?_) rfl (by kernel_rfl) (by kernel_rfl) (by kernel_rfl) (fun _ _ _ h => h) (Or.inl ⟨by rfl, ?_⟩) (by assumption) ?_
        rotate_left
        · intro W hSw; (try dsimp only at hSw); go_simp; (try with_reducible rfl)
        try simp only [Act.put, List.getElem_toArray, List.getElem_cons_zero, List.getElem_cons_succ, List.setIfInBounds_toArray, List.set_cons_zero, List.set_cons_succ]
        refine wpAnyH_take (i := 33) (v := ?_) rfl (by kernel_rfl) (by kernel_rfl) (by kernel_rfl) (fun _ _ _ h => h) (Or.inl ⟨by rfl, ?_⟩) (by assumption) ?_
        rotate_left
        · intro W hSw; (try dsimp only at hSw); go_simp; (try with_reducible rfl)
        try simp only [Act.put, List.getElem_toArray, List.getElem_cons_zero, List.getElem_cons_succ, List.setIfInBounds_toArray, List.set_cons_zero, List.set_cons_succ]
        refine wpAnyH_take (i := 34) rfl (by kernel_rfl) (by kernel_rfl) (by kernel_rfl) (fun _ _ _ h => h) (yieldsIf_load_mid (by rfl) 33 (.tmp 62) rfl p 3 rfl [.int .i64 x.r.e.o.c, .int .i64 x.r.e.o.s, .int .i64 x.r.e.o.k, .string (txt x.r.e.o.acct), .string (txt x.r.e.o.peer), .int .i64 x.r.e.o.sum, .slice x.L.a x.L.n x.L.c, .int .i64 x.r.e.o.per, .int .i64 x.r.e.o.hold, .string (txt x.r.e.o.note), .bool x.r.e.none, .slice x.D.a x.D.n x.D.c] _ (fun W hW => Blk.range hW.1 3 _ rfl) Tryz.underlying33 rfl entry_size) (by assumption) ?_
        try simp only [Act.put, List.getElem_toArray, List.getElem_cons_zero, List.getElem_cons_succ, List.setIfInBounds_toArray, List.set_cons_zero, List.set_cons_succ]
        refine wpAnyH_take (i := 35) (v := ?_) rfl (by kernel_rfl) (by kernel_rfl) (by kernel_rfl) (fun _ _ _ h => h) (Or.inl ⟨by rfl, ?_⟩) (by assumption) ?_
        rotate_left
        · intro W hSw; (try dsimp only at hSw); go_simp; (try with_reducible rfl)
        try simp only [Act.put, List.getElem_toArray, List.getElem_cons_zero, List.getElem_cons_succ, List.setIfInBounds_toArray, List.set_cons_zero, List.set_cons_succ]
        refine wpAnyH_take (i := 36) rfl (by kernel_rfl) (by kernel_rfl) (by kernel_rfl) (fun _ _ _ h => h) (yieldsIf_load_mid (by rfl) 33 (.tmp 64) rfl q (3) rfl [.int .i64 x.r.e.o.c, .int .i64 x.r.e.o.s, .int .i64 x.r.e.o.k, .string (txt x.r.e.o.acct), .string (txt x.r.e.o.peer), .int .i64 x.r.e.o.sum, .slice M.a M.n M.c, .int .i64 x.r.e.o.per, .int .i64 x.r.e.o.hold, .string (txt x.r.e.o.note), .bool x.r.e.none, .slice E.a E.n E.c] _ (fun W hW => Blk.range hW.2.1 3 _ rfl) Tryz.underlying33 rfl entry_size) (by assumption) ?_
        try simp only [Act.put, List.getElem_toArray, List.getElem_cons_zero, List.getElem_cons_succ, List.setIfInBounds_toArray, List.set_cons_zero, List.set_cons_succ]
        refine wpAnyH_ready (rs := [37]) (by kernel_rfl) (by simp) ?_
        refine AllReadyH.cons rfl (fun K hK => ?_) AllReadyH.nil
        go_simp
        (with_reducible refine k14.out.mono ?_); rintro e w6 ⟨rfl, hm6⟩; dsimp only
        have hS6 := hSm _ hm6
        have hM6 := Lib.hid (hM2.out.trans ((Mod.refl none_ wc).drew.trans hm6))
        clear hm6
        go_wp2_with fail
        refine hK.out _ _ (hS6) (fun hHeld => ?_)
        clear hK K
        try simp only [Act.put, List.getElem_toArray, List.getElem_cons_zero, List.getElem_cons_succ, List.setIfInBounds_toArray, List.set_cons_zero, List.set_cons_succ]
        refine wpAnyH_take (i := 38) (v := ?_) rfl (by kernel_rfl) (by kernel_rfl) (by kernel_rfl) (fun _ _ _ h => h) (Or.inl ⟨by rfl, ?_⟩) (by assumption) ?_
        rotate_left
        · intro W hSw; (try dsimp only at hSw); go_simp; (try with_reducible rfl)
        try simp only [Act.put, List.getElem_toArray, List.getElem_cons_zero, List.getElem_cons_succ, List.setIfInBounds_toArray, List.set_cons_zero, List.set_cons_succ]
        refine wpAnyH_take (i := 39) (v := ?_) rfl (by kernel_rfl) (by kernel_rfl) (by kernel_rfl) (fun _ _ _ h => h) (Or.inl ⟨by rfl, ?_⟩) (by assumption) ?_
        rotate_left
        · intro W hSw; (try dsimp only at hSw); go_simp; (try with_reducible rfl)
        try simp only [Act.put, List.getElem_toArray, List.getElem_cons_zero, List.getElem_cons_succ, List.setIfInBounds_toArray, List.set_cons_zero, List.set_cons_succ]
        refine wpAnyH_done (by kernel_rfl) ?_ _
        clear hHeld hS0 hS6 hSm
        go_wp2_with fail
        go_roundg (gk - 1)
        case measure => omega
        case rel => exact ⟨j + 1, by go_num, by omega, hM6.out⟩
    · obtain rfl : j = m := by omega
      replace hm := Lib.hid hm
      go_wp2_with fail
      go_ret
      exact ⟨rfl, hm.out⟩
end Go.Proofs.YtdnbclhidpkpgaaGreat
/-
  The reference's comparison of bytes. No condition.
-/
namespace Go.Proofs.YtdnbclhidpkpgaaGreat
set_option linter.unusedVariables false
set_option linter.unusedSimpArgs false
open Go.RowKit
theorem conv_bytes (A : Option Addr) (n c : Nat) (l : List UInt8) (w : World) (h : RdB w A n l) : ∀ k, (convert 22 9 (.slice A n c)).run Tryz.prog (w.drewN k) = .ok (.string (txt l)) (w.drewN k) :=
  fun k => run_string_of_bytes (w.drewN k) _ _ 5 Tryz.underlying22 Tryz.underlying5 Tryz.underlying9 A n c l h
theorem conv_bytes0 (A : Option Addr) (n c : Nat) (l : List UInt8) (w : World) (h : RdB w A n l) : (convert 22 9 (.slice A n c)).run Tryz.prog w = .ok (.string (txt l)) w :=
  conv_bytes A n c l w h 0
theorem txt_inj (a b : List UInt8) : txt a = txt b ↔ a = b := by
  constructor
  · intro h
    have := congrArg ByteArray.toList h
    simpa using this
  · rintro rfl; rfl
theorem same2_ok (w : World) (A B : Option Addr) (n m d1 d2 : Nat) (la lb : List UInt8) (ha : RdB w A n la) (hb : RdB w B m lb) :
    Calls Tryz.prog 17 #[.slice A n d1, .slice B m d2] w fun e w' => e = .returned (.bool (decide (la = lb))) ∧ Mod none_ w w' := by
  have cv := conv_bytes _ _ d1 _ _ ha
  have cv' := conv_bytes _ _ d2 _ _ hb
  have cw := conv_bytes0 _ _ d1 _ _ ha
  have cw' := conv_bytes0 _ _ d2 _ _ hb
  have hinj := txt_inj la lb
  clear ha hb
  go_enter Tryz.func17, Tryz.ntmps17
  go_wp2_with (go_quiet (fail))
  go_ret
  refine ⟨?_, Mod.refl _ w⟩
  by_cases h : la = lb <;> simp [h]
end Go.Proofs.YtdnbclhidpkpgaaGreat
