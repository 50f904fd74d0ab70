import Derived.Test.YtfkfiokkjjnhiaaGreatUp15
import Derived.Test.YtfkfiokkjjnhiaaGreatUp13
import Derived.Test.YtfkfiokkjjnhiaaGreatUp14
import Derived.Test.YtfkfiokkjjnhiaaGreatUp10
set_option linter.unusedVariables false
set_option linter.unusedSimpArgs false
set_option maxHeartbeats 16000000
namespace Go.Proofs.YtfkfiokkjjnhiaaGreat
open Go.RowKit
theorem ownsR_ow {W : World} {base n : Nat} {v : Value} {ss : List Rs} (h : W.ownsRow base 57 17 v n (rss ss)) (hn : ss.length = n) : ∃ A c, v = .slice A n c ∧ OwR W A n c ss ∧ ∀ a, A = some a → base ≤ a.block := by
 rcases h.2 with ⟨rfl, h0⟩ | ⟨g, cap, cur, rfl, hbase, hgb, r1, r2, r3, r4⟩
 ·subst h0
  have hs : ss = [] := List.eq_nil_of_length_eq_zero hn
  subst hs
  exact ⟨none, 0, rfl, Ow.nil _ _ _, fun a ha => by cases ha⟩
 ·exact ⟨_, cap, rfl, ⟨by rw [rss_length, hn], r1, r2, .inr ⟨g, cur, rfl, hgb, by rw [r3]; exact Nat.le_refl _, r4⟩⟩, fun a ha => by cases ha; exact hbase⟩
theorem values_ok (w : World) (b : Nat) : Calls Tryz.prog 94 #[.map (some b)] w fun e w' =>
  e = .returned (.func (.func 167) #[] #[.pointer (some ⟨w.heap.size, 0, none⟩)]) ∧ w' = w.alloc (.cells #[.map (some b)] 177) := by
 go_enter Tryz.func94, Tryz.ntmps94
 go_wp2_with fail
 go_ret
 exact ⟨rfl, rfl⟩
set_option maxRecDepth 100000
theorem collect_ok (w : World) (Bm b : Nat) (M : List Rs) (hm : w.cell? ⟨Bm, 0, none⟩ = some (.map (some b))) (hBm : Bm < w.heap.size) (hM : MapK w b (mapM M)) (hn : M.length ≤ 1000000) :
  Calls Tryz.prog 165 #[.func (.func 167) #[] #[.pointer (some ⟨Bm, 0, none⟩)]] w fun e w' =>
   ∃ A c ss, e = .returned (.slice A M.length c) ∧ ss.Perm M ∧ OwR w' A M.length c ss ∧ Fresh w A ∧ Mod none_ w w' := by
 have hseq : SeqGives Fence.wide (4 - 1 - 1) Tryz.prog 167 #[.pointer (some ⟨Bm, 0, none⟩)] rsV (fun ss => ss.Perm M) M.length w := fun l J W hW hJ hY h0 =>
  values1_in Fence.wide (4 - 1 - 1) trivial rfl (by omega) l Bm b M J (fun pre x W1 hj hl _ => hY pre x W1 hj hl) W hJ ((hW.cell (p := ⟨Bm, 0, none⟩) hBm).trans hm) (hM.mod (Mod.of_below hW) (fun h => h)) h0
 refine ((collectR_in Fence.wide 4 trivial trivial rfl (by omega) _ _ trivial (fun _ _ => rfl) (fun ss => ss.Perm M) M.length (by simp only [maxLen]; omega) (by omega) w hseq).calls (fun k d hd => by cases hd)).mono ?_
 rintro e w' ⟨v, ss, rfl, hp, hrow, hnil, hb⟩
 have hl := hp.length_eq
 rw [hl] at hrow
 obtain ⟨A, c, rfl, how, hbase⟩ := ownsR_ow hrow hl
 exact ⟨A, c, ss, rfl, hp, how, hbase, Mod.of_below hb⟩
theorem sortedR_ok (w : World) (Bm b : Nat) (M : List Rs) (hm : w.cell? ⟨Bm, 0, none⟩ = some (.map (some b))) (hBm : Bm < w.heap.size) (hM : MapK w b (mapM M)) (hn : M.length ≤ 1000000) :
  Calls Tryz.prog 93 #[.func (.func 167) #[] #[.pointer (some ⟨Bm, 0, none⟩)], .func (.func 95) #[] #[]] w fun e w' =>
   ∃ A c ss, e = .returned (.slice A M.length c) ∧ ss.Perm M ∧ (ss.Pairwise fun a b => isLt b.r.i a.r.i = false) ∧ OwR w' A M.length c ss ∧ Fresh w A ∧ Mod none_ w w' := by
 have kC := zH (collect_ok w Bm b M hm hBm hM hn)
 clear hm hM
 go_enter Tryz.func93, Tryz.ntmps93
 go_wp2_with fail
 refine kC.out.mono ?_
 rintro e w1 ⟨A, c, ss, rfl, hp, how, hf, hm1⟩
 dsimp only
 have hl := hp.length_eq
 generalize hN : M.length = N at *
 rcases how.2.2.2 with ⟨rfl, h0, rfl⟩ | ⟨g, cur, rfl, hb, h5, h6⟩
 ·have kN := AnyF.slices_SortFunc_none (P := Tryz.prog) Tryz.sortf166 none 0 (.func (.func 95) #[] #[]) w1
  have hs0 : ss = [] := List.eq_nil_of_length_eq_zero (by omega)
  subst h0
  have kN' := zH (show Calls Tryz.prog 166 #[.slice none 0 0, .func (.func 95) #[] #[]] w1 _ from kN)
  clear kN
  replace hp := zH hp
  replace how := zH how
  replace hf := zH hf
  replace hm1 := zH hm1
  replace hN := zH hN
  replace hs0 := zH hs0
  replace hl := zH hl
  go_wp2_with fail
  refine kN'.out.mono ?_
  rintro e w2 ⟨rfl, rfl⟩
  dsimp only
  go_wp2_with fail
  go_ret
  exact ⟨none, 0, ss, by rw [hN.out]; rfl, hp.out, by rw [hs0.out]; simp, by rw [hN.out]; exact how.out, hf.out, hm1.out⟩
 ·have kS := zH (sortR_ok w1 g N c ss how (by omega))
  clear hb h5 h6
  replace hp := zH hp
  replace how := zH how
  replace hf := zH hf
  replace hm1 := zH hm1
  replace hN := zH hN
  replace hl := zH hl
  go_wp2_with fail
  refine kS.out.mono ?_
  rintro e w2 ⟨rfl, ys, hp2, hs2, ho2, hm2⟩
  dsimp only
  have hM2 := zH (hm1.out.then hm2 (fun i hi hk => by have : i = g := hk; have := hf.out _ rfl; simp at this; omega))
  replace hp2 := zH hp2
  replace hs2 := zH hs2
  replace ho2 := zH ho2
  replace hm2 := zH hm2
  go_wp2_with fail
  go_ret
  exact ⟨_, c, ys, by rw [hN.out]; rfl, hp2.out.trans hp.out, hs2.out, by rw [hN.out]; exact ho2.out, hf.out, hM2.out⟩
def lastOf (xs : List Rs) (i : Is) : Option Rs := xs.reverse.find? fun x => x.r.i == i
structure LastM (xs ys : List Rs) : Prop where
 nodup : ys.Pairwise fun a b => a.r.i ≠ b.r.i
 last : ∀ y ∈ ys, lastOf xs y.r.i = some y
 all : ∀ x ∈ xs, ∃ y ∈ ys, y.r.i = x.r.i
structure LastOf (xs ys : List Rs) : Prop where
 sorted : ys.Pairwise fun a b => isLt a.r.i b.r.i = true
 last : ∀ y ∈ ys, lastOf xs y.r.i = some y
 all : ∀ x ∈ xs, ∃ y ∈ ys, y.r.i = x.r.i
theorem lastOf_snoc (xs : List Rs) (x : Rs) (i : Is) : lastOf (xs ++ [x]) i = if x.r.i = i then some x else lastOf xs i := by
 unfold lastOf
 rw [List.reverse_append]
 show ([x] ++ xs.reverse).find? _ = _
 by_cases h : x.r.i = i
 ·rw [if_pos h]; simp [h]
 ·rw [if_neg h, List.singleton_append, List.find?_cons_of_neg (by simpa using h)]
def putM (x : Rs) (M : List Rs) : List Rs := x :: M.filter fun y => !(y.r.i == x.r.i)
theorem mapM_put (x : Rs) (M : List Rs) : mapM (putM x M) = putI' x.r.i (rsV x) (mapM M) := by
 unfold mapM putM putI'
 rw [List.map_cons, List.filter_map]
 rfl
theorem LastM.nil : LastM [] [] := ⟨List.Pairwise.nil, fun y hy => (List.not_mem_nil hy).elim, fun x hx => (List.not_mem_nil hx).elim⟩
theorem LastM.snoc {xs M : List Rs} (h : LastM xs M) (x : Rs) : LastM (xs ++ [x]) (putM x M) := by
 have hne : ∀ y ∈ M.filter (fun y => !(y.r.i == x.r.i)), y ∈ M ∧ y.r.i ≠ x.r.i := fun y hy => by
  have := List.mem_filter.1 hy
  exact ⟨this.1, by simpa using this.2⟩
 refine ⟨List.pairwise_cons.2 ⟨fun y hy => fun e => (hne y hy).2 e.symm, h.nodup.filter _⟩, fun y hy => ?_, fun z hz => ?_⟩
 ·rw [lastOf_snoc]
  rcases List.mem_cons.1 hy with rfl | hy
  ·rw [if_pos rfl]
  ·rw [if_neg (fun e => (hne y hy).2 e.symm)]
   exact h.last y (hne y hy).1
 ·by_cases e : z.r.i = x.r.i
  ·exact ⟨x, List.mem_cons_self, e.symm⟩
  ·rcases List.mem_append.1 hz with hz | hz
   ·obtain ⟨y, hy, hyz⟩ := h.all z hz
    exact ⟨y, List.mem_cons_of_mem _ (List.mem_filter.2 ⟨hy, by rw [hyz]; simpa using e⟩), hyz⟩
   ·simp at hz; subst hz; exact absurd rfl e
theorem isLt_total {a b : Is} (h : isLt b a = false) (hne : a ≠ b) : isLt a b = true := by
 obtain ⟨a1, a2⟩ := a
 obtain ⟨b1, b2⟩ := b
 unfold isLt at *
 simp only [decide_eq_false_iff_not, decide_eq_true_eq, ne_eq, Is.mk.injEq] at *
 omega
theorem LastM.sort {xs M ys : List Rs} (h : LastM xs M) (hp : ys.Perm M) (hs : ys.Pairwise fun a b => isLt b.r.i a.r.i = false) : LastOf xs ys := by
 have hnd : ys.Pairwise fun a b => a.r.i ≠ b.r.i := (hp.pairwise_iff (fun {a b} (h : a.r.i ≠ b.r.i) => h.symm)).2 h.nodup
 refine ⟨(hs.and hnd).imp fun ⟨h1, h2⟩ => isLt_total h1 h2, fun y hy => h.last y (hp.mem_iff.1 hy), fun x hx => ?_⟩
 obtain ⟨y, hy, he⟩ := h.all x hx
 exact ⟨y, hp.mem_iff.2 hy, he⟩
def LsPost (w : World) (xs : List Rs) (e : Ending) (w' : World) : Prop :=
 ∃ A n c ys, e = .returned (.slice A n c) ∧ LastOf xs ys ∧ OwR w' A n c ys ∧ Fresh w A ∧ Mod none_ w w'
theorem last_ok (w : World) (A : Option Addr) (n c : Nat) (xs : List Rs) (h : RdR w A n xs) (hi : ∀ x ∈ xs, inI x.r.i) (hn : n ≤ 100000) :
  Calls Tryz.prog 56 #[.slice A n c] w (LsPost w xs) := by
 have hl := zH h.len
 have hmd := zH (MapK.made w)
 have hmk := fun W => run_makeMap (P := Tryz.prog) 177 W
 have hs0 : (w.alloc (.map #[] 0)).heap.size = w.heap.size + 1 := by simp
 replace h := zH h
 replace hi := zH hi
 replace hs0 := zH hs0
 go_enter Tryz.func56, Tryz.ntmps56
 go_wp2_with fail
 go_loopw [9] (fun y wr => ∃ (j : Nat) (M : List Rs), y = .int .i64 j ∧ j ≤ n ∧ MapK wr w.heap.size (mapM M) ∧ LastM (xs.take j) M ∧ M.length ≤ j ∧ Mod none_ w wr) (fun y _ => n - (intOf y).toNat)
 case atStart => exact ⟨0, [], rfl, by omega, hmd.out, LastM.nil, by simp, (Mod.refl none_ w).alloc _⟩
 case round =>
  obtain ⟨j, M, rfl, hj, hM, hLM, hMl, hm⟩ := hrel
  by_cases hlt : j < n
  ·obtain ⟨g, o, x, hA, hxm, hx, hrg⟩ := rdr_get (w := wr) (Rd.mod0 h.out hm) hlt
   subst hA
   unfold rsC at hrg
   have hz := zH (Blk.new wr 57 #[.int .i64 0, .int .i64 0, .int .i64 0, .int .i64 0, .int .i64 0, .int .i64 0, .int .i64 0, .int .i64 0, .string ⟨#[]⟩, .string ⟨#[]⟩, .int .i64 0, .slice none 0 0, .int .i64 0, .int .i64 0, .string ⟨#[]⟩, .bool false, .slice none 0 0])
   have hMn := zH hM.lt
   replace hM := zH hM
   replace hLM := zH hLM
   replace hm := zH hm
   replace hxm := zH hxm
   replace hx := zH hx
   replace hrg := zH hrg
   go_upto_region 5 with (first
    | (refine wpList_load_mid rfl 57 (.tmp 11) rfl g (o + j * 17) rfl _ _ hrg.out Tryz.underlying57 rfl rc_size ?_)
    | (refine wpList_store_blk rfl 57 (.tmp 5) (.tmp 12) rfl wr.heap.size 0 _ rfl rfl hz.out (by simp) rc_size (by rfl) #[.int .i64 x.r.i.r, .int .i64 x.r.i.n, .int .i64 x.r.bal, .int .i64 x.r.st, .int .i64 x.r.by_, .int .i64 x.r.e.o.c, .int .i64 x.r.e.o.s, .int .i64 x.r.e.o.k, .string (txt x.r.e.o.acct), .string (txt x.r.e.o.peer), .int .i64 x.r.e.o.sum, .slice x.L.a x.L.n x.L.c, .int .i64 x.r.e.o.per, .int .i64 x.r.e.o.hold, .string (txt x.r.e.o.note), .bool x.r.e.none, .slice x.D.a x.D.n x.D.c] rfl ?_; intro w2 hb2 hm2))
   have hm2' := ((Mod.refl none_ wr).alloc (.cells #[.int .i64 0, .int .i64 0, .int .i64 0, .int .i64 0, .int .i64 0, .int .i64 0, .int .i64 0, .int .i64 0, .string ⟨#[]⟩, .string ⟨#[]⟩, .int .i64 0, .slice none 0 0, .int .i64 0, .int .i64 0, .string ⟨#[]⟩, .bool false, .slice none 0 0] 57)).in_new (Nat.le_refl _) hm2
   have hM2 := hM.out.mod hm2' (fun h => h)
   have hroom : (mapM M).length + 1 < maxLen := by
    have : (mapM M).length = M.length := by simp [mapM]
    rw [this]; simp only [maxLen]; omega
   obtain ⟨w3, hrun, hM3, hm3, hs3⟩ := hM2.store_run Tryz.underlying177 hroom (hi.out x hxm.out) (rsV x)
   rw [← mapM_put] at hM3
   unfold isVal rsV at hrun
   have hmm := zH ((hm.out.trans hm2').then hm3 (fun i hi hk => by have : i = w.heap.size := hk; omega))
   have hLM' := zH (hLM.out.snoc x)
   have hPl : Hid ((putM x M).length ≤ j + 1) := zH (by unfold putM; have := List.length_filter_le (fun y : Rs => !(y.r.i == x.r.i)) M; simp only [List.length_cons]; omega)
   clear hm2 hm2' hM2 hm3 hs3
   replace hM3 := zH hM3
   replace hb2 := zH hb2
   go_wp2_with (first
    | (refine wpList_load_blk rfl 27 (.tmp 14) rfl wr.heap.size 0 rfl hb2.out [.int .i64 x.r.i.r, .int .i64 x.r.i.n] rfl Tryz.underlying27 rfl inst_size ?_)
    | (refine wpList_load_row rfl 57 (.tmp 5) rfl wr.heap.size rfl _ _ _ _ hb2.out Tryz.underlying57 rfl rc_size ?_))
   go_roundw
   case rel => exact ⟨j + 1, putM x M, by go_num, by omega, hM3.out, by rw [List.take_add_one, hx.out]; exact hLM'.out, hPl.out, hmm.out⟩
   case measure => simp [intOf]; omega
  ·obtain rfl : j = n := by omega
   rw [List.take_of_length_le (by rw [hl.out]; exact Nat.le_refl _)] at hLM
   replace hM := zH hM
   replace hLM := zH hLM
   replace hm := zH hm
   go_wp2_with fail
   refine (values_ok wr w.heap.size).mono ?_
   rintro e w3 ⟨rfl, rfl⟩
   dsimp only
   have kS := zH (sortedR_ok (wr.alloc (.cells #[.map (some w.heap.size)] 177)) wr.heap.size w.heap.size M ((Blk.new wr _ #[.map (some w.heap.size)]).cell_ rfl) (by simp) (hM.out.alloc _) (by omega))
   go_wp2_with fail
   refine kS.out.mono ?_
   rintro e w4 ⟨A4, c4, ss, rfl, hp, hs, ho, hf, hm4⟩
   dsimp only
   have hend : Hid (LsPost w xs (.returned (.slice A4 M.length c4)) w4) := zH ⟨A4, _, c4, ss, rfl, hLM.out.sort hp hs, ho, fun a ha => Nat.le_trans (hm.out.alloc _).size (hf a ha), (hm.out.alloc _).trans hm4⟩
   clear hp hs ho hf hm4 kS
   go_wp2_with fail
   go_ret
   exact hend.out
end Go.Proofs.YtfkfiokkjjnhiaaGreat
namespace Go.Proofs.YtfkfiokkjjnhiaaGreat
open Go.RowKit Go.Sort Go.Shelf Go.Lib
def kyC (x : Is) : List Value := [.int .i64 x.r, .int .i64 x.n]
theorem isinfoK : (Tryz.prog.info? 27).map (fun i => (i.zero, i.size, i.bytes)) = some (some (.agg #[.int .i64 0, .int .i64 0]), 2, 16) := by kernel_rfl
theorem iss_oneK (xs : List Is) : ∀ u ∈ iss xs, u.oneCell' = true := by
 intro u hu
 unfold iss at hu
 rw [List.mem_flatMap] at hu
 obtain ⟨a, _, ha⟩ := hu
 simp only [List.mem_cons, List.not_mem_nil, or_false] at ha
 rcases ha with rfl | rfl <;> rfl
theorem rdP_oneK (w : World) (x : Is) : RdP (w.alloc (.cells #[.int .i64 x.r, .int .i64 x.n] 27)) (some ⟨w.heap.size, 0, none⟩) 1 [x] :=
 rdn w 27 2 1 w.heap.size #[.int .i64 x.r, .int .i64 x.n] (0, 0) rfl rfl
theorem dropI_perm {R : List InstV} {p : InstV} (hn : R.Pairwise fun p q => p.1 ≠ q.1) (h : p ∈ R) : (p :: dropI p.1 R).Perm R := by
 induction R with
 | nil => cases h
 | cons y M ih =>
  obtain ⟨h1, h2⟩ := List.pairwise_cons.1 hn
  by_cases he : y.1 = p.1
  ·have hxy : p = y := by
    rcases List.mem_cons.1 h with h | h
    ·exact h
    ·exact absurd he (h1 _ h)
   subst hxy
   have : dropI p.1 (p :: M) = M := by
    unfold dropI
    rw [List.filter_cons_of_neg (by simp), List.filter_eq_self]
    intro q hq
    have := h1 q hq
    simpa using fun e => this e.symm
   rw [this]
  ·have hx : p ∈ M := by
    rcases List.mem_cons.1 h with h | h
    ·subst h; exact absurd rfl he
    ·exact h
   have : dropI p.1 (y :: M) = y :: dropI p.1 M := by
    unfold dropI
    rw [List.filter_cons_of_pos (by simpa using he)]
   rw [this]
   exact (List.Perm.swap y p _).trans ((ih h2 hx).cons y)
set_option maxRecDepth 100000
theorem keys1_in (F : Fence) (n : Nat) (hF : F.fn 195) (hro : F.round = none) (hn : 1 ≤ n) (l Bm b : Nat) (M : List InstV) (J : List Is → World → Prop)
  (hY : ∀ pre x W, J pre W → pre.length < M.length → x ∈ M.map (·.1) → YieldAt F (n - 1) Tryz.prog l #[isV x] W fun e W' => e = .returned (.bool true) ∧ J (pre ++ [x]) W' ∧ KeepsWalks W W')
  (W : World) (hJ : AbidesFrom W.heap.size J) (hm : W.cell? ⟨Bm, 0, none⟩ = some (.map (some b))) (hown : MapK W b M) (h0 : J [] W) :
  CallsIn F n Tryz.prog 195 #[.func (.yield l) #[] #[], .pointer (some ⟨Bm, 0, none⟩)] W fun e W' => (∃ v, e = .returned v) ∧ ∃ ss : List Is, ss.Perm (M.map (·.1)) ∧ J ss W' := by
 obtain ⟨D, ho1, ho2⟩ := hown.tight
 refine callsIn_of_wp Tryz.func195 rfl hF ?_ hro
 simp only [Tryz.ntmps195, List.size_toArray, List.length_cons, List.length_nil, Nat.reduceAdd, Nat.reduceSub, Array.replicate_succ, Array.replicate_zero, List.push_toArray, List.append_toArray, List.nil_append, List.cons_append]
 have hK := zH (hY)
 replace hY := zH hY
 replace hJ := zH hJ
 replace h0 := zH h0
 replace ho2 := zH ho2
 replace hown := zH hown
 gi_wp2_with (first
  | (gi_at_range; refine wpListIn_range_own _ rfl _ 142 rfl 27 53 instKeyed Tryz.underlying142 VR b _ _ rfl ho1 ?_; intro w0 hrg0 hg0 hs0)
  | gi_in)
 go_frame
 have hIt0 : ItK w0 b W.heap.size M M := ⟨_, D, _, _, hrg0, ho2.out, by
  symm
  rw [List.filter_eq_self]
  intro p hp
  rw [ho2.out.has p.1 (ho2.out.wf p hp), findI_of_mem ho2.out.nodup (show (p.1, p.2) ∈ M from hp)]; rfl⟩
 have hnd := zH ho2.out.nodup
 have hJ0 := zH (hJ.out [] W w0 none h0.out hg0 (fun r e => by cases e))
 have hsz0 := zH (show W.heap.size < w0.heap.size by rw [hs0]; omega)
 clear hrg0 hg0 ho1 hs0
 replace hIt0 := zH hIt0
 gi_loopw [3] (fun _ wr => ∃ (ss : List Is) (R : List InstV), ItK wr b W.heap.size M R ∧ (ss ++ R.map (·.1)).Perm (M.map (·.1)) ∧ (∀ x ∈ R, x ∈ M) ∧ W.heap.size < wr.heap.size ∧ J ss wr)
  (fun _ wr => wr.rangeLeft b W.heap.size)
 case atStart =>
  exact ⟨[], M, hIt0.out, by simp, fun x hx => hx, hsz0.out, hJ0.out⟩
 case round =>
  obtain ⟨ss, R, hIt, hP, hR, hsz, hJs⟩ := hrel
  rcases hIt.next 0 with ⟨hR0, hrun⟩ | ⟨p, w2, hpR, hpM, hIt2, ⟨hle, hml⟩, hm2, hs2, hrun, hen⟩
  ·have hR0' : R = [] := by cases R with | nil => rfl | cons y R => cases hR0
   subst hR0'
   simp only [List.map_nil, List.append_nil] at hP
   replace hP := zH hP
   replace hJs := zH hJs
   clear hIt hR
   gi_wp2
   go_end0
   exact ⟨⟨_, rfl⟩, ss, hP.out, hJs.out⟩
  ·have hRn : R.Pairwise fun p q => p.1 ≠ q.1 := by
    obtain ⟨n', D', left, cnt, _, hr2, hr3⟩ := hIt
    rw [hr3]; exact hr2.nodup.filter _
   have e2 := dropI_perm hRn hpR
   have hxM : p.1 ∈ M.map (·.1) := List.mem_map.2 ⟨p, hpM, rfl⟩
   obtain ⟨x, pv⟩ := p
   simp only at hIt2 hrun hen hle e2 hxM
   generalize dropI x R = R' at *
   have hP2 : (ss ++ [x] ++ R'.map (·.1)).Perm (M.map (·.1)) := by
    rw [List.append_assoc]
    exact (List.Perm.append_left ss (e2.map (·.1))).trans hP
   have hlen : ss.length < M.length := by
    have := hP2.length_eq
    simp at this; omega
   have hg2 : wr.grownBy w2 (some W.heap.size) := grown_of_mod (hm2.mono (fun i hi => hi))
   have hJ2 := hJ.out ss wr w2 _ hJs hg2 (fun r e => by cases e; exact ⟨Nat.le_refl _, hIt.iter_walk⟩)
   have hz := zH (Blk.new w2 27 #[.int .i64 0, .int .i64 0])
   unfold isVal at hrun hen
   replace hP := zH hP
   replace hP2 := zH hP2
   replace hJs := zH hJs
   replace hJ2 := zH hJ2
   replace hlen := zH hlen
   replace hR := zH hR
   replace hxM := zH hxM
   replace e2 := zH e2
   replace hIt := zH hIt
   replace hIt2 := zH hIt2
   replace hRn := zH hRn
   replace hm2 := zH hm2
   replace hs2 := zH hs2
   replace hg2 := zH hg2
   replace hle := zH hle
   replace hpR := zH hpR
   replace hpM := zH hpM
   gi_wp2_with (first
    | (refine wpListIn_store_blk rfl 27 (.tmp 3) (.tmp 9) rfl w2.heap.size 0 _ rfl rfl hz.out (by simp) inst_size (by rfl) #[.int .i64 x.r, .int .i64 x.n] rfl ?_; intro w3 hb3 hm3; have hm3' := ((Mod.refl none_ w2).alloc (.cells #[.int .i64 0, .int .i64 0] 27)).in_new (Nat.le_refl _) hm3; have hg3 := grown_new (World.grownBy_alloc w2 (.cells #[.int .i64 0, .int .i64 0] 27) none) (Nat.le_refl _) hm3; have hJ3 := hJ.out ss w2 w3 none hJ2.out hg3 (fun r e => by cases e); have hIt3 := zH (hIt2.out.mod hm3' (fun h => h) (fun h => h)); have hk23 := zH (KeepsWalks.of_grownBy hg3 (fun j o hj => by cases hj)); have hsz3 := zH (show W.heap.size < w3.heap.size from Nat.lt_of_lt_of_le (by have := hs2.out; omega) hg3.size); obtain ⟨fn, tmps, assign, body, hy, hRd⟩ := hK.out ss x w3 hJ3 hlen.out hxM.out; dsimp only [isV] at hy; clear hm3 hm3' hg3 hJ3; replace hRd := zH hRd)
    | (refine wpListIn_load_blk rfl 27 (.tmp 3) rfl w2.heap.size 0 rfl hb3 [.int .i64 x.r, .int .i64 x.n] rfl Tryz.underlying27 rfl inst_size ?_)
    | gi_in)
   refine hRd.out.mono ?_
   rintro e w4 ⟨rfl, hJ4, hk4⟩
   have hIt4 := zH (hIt3.out.of_walks hk4)
   have hlft : Hid (w4.rangeLeft b W.heap.size < wr.rangeLeft b W.heap.size) := zH (by
    obtain ⟨_, _, _, _, g1, _⟩ := hIt2.out
    have g3 := (g1.of_walks hk23.out).of_walks hk4
    rw [g3.left_eq, ← g1.left_eq]
    exact hml)
   have hsz4 := zH (show W.heap.size < w4.heap.size from Nat.lt_of_lt_of_le hsz3.out hk4.size)
   clear hml
   replace hJ4 := zH hJ4
   gi_wp2
   go_roundw
   case rel => exact ⟨ss ++ [x], R', hIt4.out, hP2.out, fun y hy => hR.out y (e2.out.mem_iff.1 (List.mem_cons_of_mem _ hy)), hsz4.out, hJ4.out⟩
   case measure => exact hlft.out
attribute [local go_sem] Oper.semAt_some
def apAssignK : Code := (Code.region 2 #[{ dst := some 5, op := Op.alloc 27, type := 0, pos := "iter.go:51", after := #[], guard := none }, { dst := none, op := Op.store 27 (Operand.tmp 5) (Operand.tmp 7), type := 0, pos := "iter.go:51", after := #[{ on := 0, ground := Ground.data }, { on := 0, ground := Ground.phase }], guard := none }] false)
def apBodyK : Code := (Code.block 1 (Code.region 3 #[{ dst := some 8, op := Op.load 22 (Operand.tmp 2), type := 22, pos := "iter.go:52", after := #[], guard := none }, { dst := some 9, op := Op.load 27 (Operand.tmp 5), type := 27, pos := "iter.go:52", after := #[], guard := none }, { dst := some 10, op := Op.buildSlice 22 1 #[(0, Operand.tmp 9)], type := 22, pos := "iter.go:52", after := #[{ on := 1, ground := Ground.data }], guard := none }, { dst := some 11, op := Op.call { callee := Callee.builtin Builtin.append, args := #[Operand.tmp 8, Operand.tmp 10], argTypes := #[22, 22] }, type := 22, pos := "iter.go:52", after := #[{ on := 0, ground := Ground.data }, { on := 2, ground := Ground.data }], guard := none }, { dst := none, op := Op.store 22 (Operand.tmp 2) (Operand.tmp 11), type := 0, pos := "iter.go:52", after := #[{ on := 3, ground := Ground.data }, { on := 3, ground := Ground.chain }, { on := 0, ground := Ground.phase }, { on := 1, ground := Ground.phase }, { on := 2, ground := Ground.phase }, { on := 3, ground := Ground.phase }], guard := none }] false))
def apRecK (fn : FuncId) (sv : Value) (Bs D : Nat) (st : LoopState) (pend : Option Code) : Loop :=
 { state := st, pending := pend, fn, tmps := #[.slice none 0 0, sv, .pointer (some ⟨Bs, 0, none⟩), undef, .slice none 0 0, undef, sv, undef, undef, undef, undef, undef, undef], params := #[7], assign := apAssignK, body := apBodyK, defers := D }
structure ApAtK (w0 : World) (fn : FuncId) (sv : Value) (Bs l D : Nat) (ss : List Is) (W : World) : Prop where
 box : ∃ v, W.heap[Bs]? = some (.cells #[v] 22 (0, 0)) ∧ W.ownsRow w0.heap.size 27 2 v ss.length (iss ss) ∧ (v = .slice none 0 0 ↔ ss = [])
 L : W.heap[l]? = some (.loop (apRecK fn sv Bs D .ready none))
 K : W.heap[D]? = some (.deferred (some []))
 below : Below w0.heap.size w0 W
theorem ap_abidesK (w0 : World) (fn : FuncId) (sv : Value) (Bs l D B : Nat) (hB : w0.heap.size ≤ B) : AbidesFrom B (ApAtK w0 fn sv Bs l D) := fun s W W' row h hg hrow => by
 have hrow' : ∀ r, row = some r → ∃ o : Obj, W.heap[r]? = some o ∧ o.isWalk = true := fun r e => (hrow r e).2
 obtain ⟨v, hv, hr, hn⟩ := h.box
 exact ⟨⟨v, (grownBy_keeps hg hrow' hv rfl).trans hv, ownsRow_abides_a hr hg hrow', hn⟩, (grownBy_keeps hg hrow' h.L rfl).trans h.L, (grownBy_keeps hg hrow' h.K rfl).trans h.K,
  h.below.grown hg h.below.size (fun k e => Nat.le_trans hB (hrow k e).1)⟩
theorem apYieldK (F : Fence) (m : Nat) (w0 : World) (fn : FuncId) (hfn : F.fn fn) (sv : Value) (Bs l D : Nat) (hBl : Bs ≠ l) (hDl : D ≠ l) (hDB : D ≠ Bs) (h0B : w0.heap.size ≤ Bs) (h0l : w0.heap.size ≤ l)
    (N : Nat) (hN : N ≤ maxLen) (hNb : N * 16 ≤ 140737488355328) (ss : List Is) (x : Is) (W : World) (h : ApAtK w0 fn sv Bs l D ss W) (hlen : ss.length < N) :
    YieldAt F m Tryz.prog l #[isV x] W fun e W' => e = .returned (.bool true) ∧ ApAtK w0 fn sv Bs l D (ss ++ [x]) W' ∧ KeepsWalks W W' := by
  obtain ⟨i0, hi, hz0, hz1, hz2⟩ := info_parts isinfoK
  obtain ⟨v, hv, hrow, _⟩ := h.box
  refine ⟨fn, #[.slice none 0 0, sv, .pointer (some ⟨Bs, 0, none⟩), undef, .slice none 0 0, undef, sv, isV x, undef, undef, undef, undef, undef], apAssignK, apBodyK, by simpa [apRecK] using run_yield (P := Tryz.prog) (args := #[isV x]) h.L rfl, roundIn_of_wpIn hfn ?_⟩
  have hl : l < W.heap.size := (Array.getElem?_eq_some_iff.1 h.L).1
  have hz := zH (Blk.new W 27 #[.int .i64 0, .int .i64 0])
  have hB0 : Bs < W.heap.size := (Array.getElem?_eq_some_iff.1 hv).1
  have hD0 : D < W.heap.size := (Array.getElem?_eq_some_iff.1 h.K).1
  unfold apAssignK isV
  gi_wp2_with (first
    | (refine wpListIn_store_blk rfl 27 (.tmp 5) (.tmp 7) rfl W.heap.size 0 _ rfl rfl hz.out (by simp) inst_size (by rfl) #[.int .i64 x.r, .int .i64 x.n] rfl ?_
       intro W1 hb1 hm1
       have hgn := grown_new (World.grownBy_alloc W (.cells #[.int .i64 0, .int .i64 0] 27) none) (Nat.le_refl _) hm1
       have hL1 : W1.heap[l]? = some (.loop (apRecK fn sv Bs D .ready none)) := (hgn.block l hl (by simp)).trans h.L
       have hbr := run_beginRound (P := Tryz.prog) hL1 rfl)
    | fail)
  have hv1 : W1.heap[Bs]? = some (.cells #[v] 22 (0, 0)) := (hgn.block Bs hB0 (by simp)).trans hv
  have hK1 : W1.heap[D]? = some (.deferred (some [])) := (hgn.block D hD0 (by simp)).trans h.K
  have hrow1 : W1.ownsRow w0.heap.size 27 2 v ss.length (iss ss) := hrow.kept hgn (Classical.em _)
  have hbb1 : Below w0.heap.size w0 W1 := h.below.grown hgn h.below.size (fun k e => by cases e)
  have hk1 : KeepsWalks W W1 := KeepsWalks.of_grownBy hgn (fun j o hj => by cases hj)
  obtain ⟨W2, hW2⟩ : ∃ W2, W1.putObj l (.loop { apRecK fn sv Bs D .ready none with state := .busy }) = W2 := ⟨_, rfl⟩
  rw [hW2] at hbr
  refine ⟨W2, hbr, ?_⟩
  have hg2 : W1.grownBy W2 (some l) := by rw [← hW2]; exact grownBy_putObj_a _ _ _
  have hk2 : KeepsWalks W W2 := hk1.trans (by rw [← hW2]; exact KeepsWalks.putObj _ hL1 rfl)
  have hb5 : Blk W2 W.heap.size 27 #[.int .i64 x.r, .int .i64 x.n] := by rw [← hW2]; exact (World.putObj_heap_other (by omega)).trans hb1
  have hv2 : W2.heap[Bs]? = some (.cells #[v] 22 (0, 0)) := by rw [← hW2]; exact (World.putObj_heap_other hBl).trans hv1
  have hK2 : W2.heap[D]? = some (.deferred (some [])) := by rw [← hW2]; exact (World.putObj_heap_other hDl).trans hK1
  have hL2 : W2.heap[l]? = some (.loop { apRecK fn sv Bs D .ready none with state := .busy }) := by rw [← hW2]; exact World.putObj_heap_same (Nat.lt_of_lt_of_le hl hgn.size)
  have hrow2 : W2.ownsRow w0.heap.size 27 2 v ss.length (iss ss) := hrow1.kept hg2 (ownsRow_ne_a hrow1 hL1 (fun cur e => by first | cases e | exact absurd (Obj.cells.inj e).2.1 (by decide)))
  have hb2 : Below w0.heap.size w0 W2 := hbb1.grown hg2 hbb1.size (fun k e => by cases e; exact h0l)
  obtain ⟨hc2, hf2⟩ := cell_of_box_a hv2
  have hBlt : Bs < W2.heap.size := (Array.getElem?_eq_some_iff.1 hv2).1
  have hl2 : l < W2.heap.size := (Array.getElem?_eq_some_iff.1 hL2).1
  have hDlt : D < W2.heap.size := (Array.getElem?_eq_some_iff.1 hK2).1
  have ne_of : ∀ {j : Nat} {o : Obj}, W2.heap[j]? = some o → (∀ cur, o ≠ .cells cur 27 (0, 0)) → some j ≠ v.ownBlock := fun hj hno => by
    rcases ownsRow_ne_a hrow2 hj hno with e | e
    · rw [e]; simp
    · exact fun e' => e e'.symm
  have hone := rdP_oneK W2 x
  unfold RdP at hone
  obtain ⟨hon1, hon2⟩ := hone
  obtain ⟨ad1, had1, hcell1⟩ := hon2 (by omega)
  cases had1
  have hrx : iss [x] = kyC x := by simp [iss, kyC]
  rw [hrx] at hcell1
  clear hm1 hgn hz hv1 hK1 hrow1 hbb1 hk1 hL1 hb1 hbr hW2 hg2
  unfold apBodyK
  gi_wp2_with (first
    | (refine wpListIn_load_blk rfl 27 (.tmp 5) rfl W.heap.size 0 rfl hb5 [.int .i64 x.r, .int .i64 x.n] rfl Tryz.underlying27 rfl inst_size ?_)
    | (gi_at_builtin; refine wpListIn_append_own _ rfl _ _ 22 rfl w0.heap.size 27 i0 _ 2 16 Tryz.underlying22 hi hz0 hz1 hz2 rfl (by decide) _ _ _ rfl (hrow2.alloc _) ⟨W2.heap.size, 0, none⟩ 1 1 (kyC x) rfl rfl hcell1 (fun u hu => iss_oneK [x] u (by rw [hrx]; exact hu)) (by omega) (by omega) (by have := hb2.size; simp; omega) ?_; intro v' w3 hown' hg3 hnil3
       have hv3 : w3.heap[Bs]? = some (.cells #[v] 22 (0, 0)) := (hg3.block Bs (by simp; omega) (ne_of hv2 (fun cur e => by first | cases e | exact absurd (Obj.cells.inj e).2.1 (by decide)))).trans ((Below.heap_alloc _ _ Bs hBlt).trans hv2)
       obtain ⟨hc3, hf3⟩ := cell_of_box_a hv3
       obtain ⟨g', cap', cur', rfl, hbase', hgb', hr1, hr2, hr3, hr4⟩ : ∃ g' cap' cur', v' = .slice (some ⟨g', 0, none⟩) (ss.length + 1) cap' ∧ w0.heap.size ≤ g' ∧ w3.heap[g']? = some (.cells cur' 27 (0, 0)) ∧ ss.length + 1 ≤ cap' ∧ cap' ≤ maxLen ∧ cur'.size = cap' * 2 ∧ cur'.toList.take ((ss.length + 1) * 2) = iss ss ++ kyC x := by
         rcases hown'.2 with ⟨_, h0⟩ | h'
         · exact absurd h0 (by omega)
         · exact h'
       go_frame)
    | fail)
  have hg3' : (W2.alloc (.cells #[.int .i64 x.r, .int .i64 x.n] 27)).grownBy w3 v.ownBlock := hg3
  have hL3 : w3.heap[l]? = some (.loop { apRecK fn sv Bs D .ready none with state := .busy }) := (hg3'.block l (by simp; omega) (ne_of hL2 (fun cur e => by first | cases e | exact absurd (Obj.cells.inj e).2.1 (by decide)))).trans ((Below.heap_alloc _ _ l hl2).trans hL2)
  have hK3 : w3.heap[D]? = some (.deferred (some [])) := (hg3'.block D (by simp; omega) (ne_of hK2 (fun cur e => by first | cases e | exact absurd (Obj.cells.inj e).2.1 (by decide)))).trans ((Below.heap_alloc _ _ D hDlt).trans hK2)
  obtain ⟨w4, hw4⟩ : ∃ w4, w3.setCell ⟨Bs, 0, none⟩ (.slice (some ⟨g', 0, none⟩) (ss.length + 1) cap') = w4 := ⟨_, rfl⟩
  rw [hw4]
  have hg4 : w3.grownBy w4 (some Bs) := by rw [← hw4]; exact grownBy_setCell0_a _ _ _
  have hv4 : w4.heap[Bs]? = some (.cells #[.slice (some ⟨g', 0, none⟩) (ss.length + 1) cap'] 22 (0, 0)) := by rw [← hw4]; exact heap_setCell_box_a _ hv3
  have hL4 : w4.heap[l]? = some (.loop { apRecK fn sv Bs D .ready none with state := .busy }) := (hg4.block l (Array.getElem?_eq_some_iff.1 hL3).1 (fun e => hBl (by cases e; rfl))).trans hL3
  have hK4 : w4.heap[D]? = some (.deferred (some [])) := (hg4.block D (Array.getElem?_eq_some_iff.1 hK3).1 (fun e => hDB (by cases e; rfl))).trans hK3
  have hrow4 := hown'.kept hg4 (ownsRow_ne_a hown' hv3 (fun cur e => by first | cases e | exact absurd (Obj.cells.inj e).2.1 (by decide)))
  have hl4 : l < w4.heap.size := (Array.getElem?_eq_some_iff.1 hL4).1
  have hb3 : Below w0.heap.size w0 w3 := (hb2.alloc hb2.size _).grown hg3' (by have := hb2.size; simp; omega) (fun k e => (hrow2.lt k e).1)
  have hb4 : Below w0.heap.size w0 w4 := hb3.grown hg4 hb3.size (fun k e => by cases e; exact h0B)
  have hk4 : KeepsWalks W w4 := ((hk2.trans (KeepsWalks.alloc _ _)).trans (KeepsWalks.of_grownBy hg3' (ownsRow_not_walk_a (hrow2.alloc _)))).trans (by rw [← hw4]; exact KeepsWalks.setCell _ _ _)
  clear hw4
  refine ⟨_, _, run_endRound none hL4, rfl, ⟨⟨_, (World.putObj_heap_other hBl).trans hv4, ?_, by simp⟩, World.putObj_heap_same hl4, (World.putObj_heap_other hDl).trans hK4, hb4.grown (grownBy_putObj_a _ _ _) hb4.size (fun k e => by cases e; exact h0l)⟩, hk4.trans (KeepsWalks.putObj _ hL4 rfl)⟩
  have := hrow4.kept (grownBy_putObj_a w4 l (.loop { { apRecK fn sv Bs D .ready none with state := .busy } with state := if (none : Option Code).isNone then .ready else .done, pending := none })) (ownsRow_ne_a hrow4 hL4 (fun cur e => by first | cases e | exact absurd (Obj.cells.inj e).2.1 (by decide)))
  rw [show iss (ss ++ [x]) = iss ss ++ kyC x by rw [iss_append, hrx]]
  simpa using this
theorem appendSeqK_in (F : Fence) (n : Nat) (h11 : F.fn 74) (hro : F.round = none) (hn : 2 ≤ n) (g : Nat) (lb : Array Value) (hFg : F.fn g) (eg : ∀ args w, (callFunc g args).run Tryz.prog w = .ok (.enter g args) w)
    (S : List Is → Prop) (N : Nat) (hN : N ≤ maxLen) (hNb : N * 16 ≤ 140737488355328) (w : World) (hseq : SeqGives F (n - 1) Tryz.prog g lb isV S N w) :
    CallsIn F n Tryz.prog 74 #[.slice none 0 0, .func (.func g) #[] lb] w fun e w' => ∃ (v : Value) (ss : List Is), e = .returned v ∧ S ss ∧ w'.ownsRow w.heap.size 27 2 v ss.length (iss ss) ∧ (v = .slice none 0 0 ↔ ss = []) ∧ Below w.heap.size w w' := by
  have h1 : 1 ≤ n := by omega
  refine callsIn_of_wp_marks Tryz.func74 rfl h11 ?_ hro
  simp only [Tryz.ntmps74, List.size_toArray, List.length_cons, List.length_nil, Nat.reduceAdd, Nat.reduceSub, Array.replicate_succ, Array.replicate_zero, List.push_toArray, List.append_toArray, List.nil_append, List.cons_append]
  gi_wp2
  refine wpIn_rangeFunc ?_
  intro fn hfn
  rw [hro]
  obtain ⟨W0, hW0⟩ : ∃ W0, w.alloc (.cells #[.slice none 0 0] 22) = W0 := ⟨_, rfl⟩
  have hs0 : W0.heap.size = w.heap.size + 1 := by rw [← hW0]; simp
  have hv0 : W0.heap[w.heap.size]? = some (.cells #[.slice none 0 0] 22 (0, 0)) := by rw [← hW0]; exact World.alloc_heap_new w _
  have hb0 : Below w.heap.size w W0 := by rw [← hW0]; exact (Below.refl _ w).alloc (Nat.le_refl _) _
  rw [hW0]
  obtain ⟨W1, hW1⟩ : ∃ W1, (W0.alloc (.deferred (some []))).alloc (.loop (apRecK fn (.func (.func g) #[] lb) w.heap.size W0.heap.size .ready none)) = W1 := ⟨_, rfl⟩
  have hold : ∀ k, k < W0.heap.size → W1.heap[k]? = W0.heap[k]? := fun k hk => by
    rw [← hW1]; exact (Below.heap_alloc _ _ k (by simp; omega)).trans (Below.heap_alloc _ _ k hk)
  have hb1 : Below w.heap.size w W1 := by rw [← hW1]; exact (hb0.alloc hb0.size _).alloc (by have := hb0.size; simp; omega) _
  have hs1 : W1.heap.size = W0.heap.size + 2 := by rw [← hW1]; simp
  have hM : ApAtK w fn (.func (.func g) #[] lb) w.heap.size (W0.heap.size + 1) W0.heap.size [] W1 :=
    ⟨⟨_, (hold w.heap.size (by omega)).trans hv0, ⟨rfl, .inl ⟨rfl, rfl⟩⟩, by simp⟩,
     by rw [← hW1]; have := World.alloc_heap_new (W0.alloc (.deferred (some []))) (.loop (apRecK fn (.func (.func g) #[] lb) w.heap.size W0.heap.size .ready none)); rwa [World.size_alloc] at this,
     by rw [← hW1]; exact (Below.heap_alloc _ _ _ (by simp)).trans (World.alloc_heap_new W0 _), hb1⟩
  refine ⟨W0.heap.size + 1, [{ target := .collected W0.heap.size, args := #[] }], W1, { target := .fn (.func g) lb, args := #[.func (.yield (W0.heap.size + 1)) #[] #[]] }, W1, g,
    #[.func (.yield (W0.heap.size + 1)) #[] #[]] ++ lb, W1, ?_, ?_, ?_, ?_, fun _ => h1, ?_⟩
  · rw [← hW1]; exact run_enterLoop_outer _ _ _ _ _
  · simp [resolve, go_sem]
  · intro f' hf'; simp [Target.leads] at hf'; subst hf'; exact hFg
  · simp [invoke, go_sem, eg]
  · refine (hseq (W0.heap.size + 1) (ApAtK w fn (.func (.func g) #[] lb) w.heap.size (W0.heap.size + 1) W0.heap.size) W1 hb1 (ap_abidesK _ _ _ _ _ _ _ hb1.size)
      (fun pre x W hJ hl => apYieldK F (n - 1 - 1) w fn hfn _ w.heap.size (W0.heap.size + 1) W0.heap.size (by omega) (by omega) (by omega) (Nat.le_refl _) (by omega) N hN hNb pre x W hJ hl) hM).mono ?_
    rintro e W2 ⟨⟨v0, rfl⟩, ss, hS, h2⟩
    obtain ⟨v, hv, hrow, hnil⟩ := h2.box
    have hend := run_endLoop (P := Tryz.prog) h2.L (by simp [apRecK])
    obtain ⟨W3, hW3⟩ : ∃ W3, W2.putObj (W0.heap.size + 1) (.loop { apRecK fn (.func (.func g) #[] lb) w.heap.size W0.heap.size .ready none with state := .exhausted }) = W3 := ⟨_, rfl⟩
    rw [hW3] at hend
    have hg3 : W2.grownBy W3 (some (W0.heap.size + 1)) := by rw [← hW3]; exact grownBy_putObj_a _ _ _
    have hv3 : W3.heap[w.heap.size]? = some (.cells #[v] 22 (0, 0)) := by rw [← hW3]; exact (World.putObj_heap_other (by omega)).trans hv
    have hK3 : W3.heap[W0.heap.size]? = some (.deferred (some [])) := by rw [← hW3]; exact (World.putObj_heap_other (by omega)).trans h2.K
    have hrow3 := hrow.kept hg3 (ownsRow_ne_a hrow h2.L (fun cur e => by first | cases e | exact absurd (Obj.cells.inj e).2.1 (by decide)))
    have hb3 : Below w.heap.size w W3 := h2.below.grown hg3 h2.below.size (fun k e => by cases e; omega)
    obtain ⟨hc3, hf3⟩ := cell_of_box_a hv3
    clear hW3
    refine ⟨none, W3, hend, ?_⟩
    gi_wp2
    rw [← hs0]
    refine ⟨by simp, .inl ⟨_, _, rfl, run_takeDeferred hK3, ?_⟩⟩
    exact ⟨_, results_tmp rfl _ _ _, v, ss, rfl, hS, hrow3.kept (grownBy_putObj_a _ _ _) (ownsRow_ne_a hrow3 hK3 (fun cur e => by first | cases e | exact absurd (Obj.cells.inj e).2.1 (by decide))), hnil, hb3.grown (grownBy_putObj_a _ _ _) hb3.size (fun k e => by cases e; omega)⟩
theorem collectK_in (F : Fence) (n : Nat) (h8 : F.fn 43) (h11 : F.fn 74) (hro : F.round = none) (hn : 3 ≤ n) (g : Nat) (lb : Array Value) (hFg : F.fn g) (eg : ∀ args w, (callFunc g args).run Tryz.prog w = .ok (.enter g args) w)
  (S : List Is → Prop) (N : Nat) (hN : N ≤ maxLen) (hNb : N * 16 ≤ 140737488355328) (w : World) (hseq : SeqGives F (n - 1 - 1) Tryz.prog g lb isV S N w) :
  CallsIn F n Tryz.prog 43 #[.func (.func g) #[] lb] w fun e w' => ∃ (v : Value) (ss : List Is), e = .returned v ∧ S ss ∧ w'.ownsRow w.heap.size 27 2 v ss.length (iss ss) ∧ (v = .slice none 0 0 ↔ ss = []) ∧ Below w.heap.size w w' := by
 have h1 : 1 ≤ n := by omega
 have e11 : ∀ args w, (callFunc 74 args).run Tryz.prog w = .ok (.enter 74 args) w := fun args w => rfl
 refine callsIn_of_wp Tryz.func43 rfl h8 ?_ hro
 simp only [Tryz.ntmps43, List.size_toArray, List.length_cons, List.length_nil, Nat.reduceAdd, Nat.reduceSub, Array.replicate_succ, Array.replicate_zero, List.push_toArray, List.append_toArray, List.nil_append, List.cons_append]
 gi_wp2_with (gi_at_fn 74; refine (appendSeqK_in F (n - 1) h11 hro (by omega) g lb hFg eg S N hN hNb _ hseq).mono ?_; rintro e w' ⟨v, ss, rfl, hS, hrow, hnil, hb⟩)
 go_ret
 exact ⟨v, ss, rfl, hS, hrow, hnil, hb⟩
theorem ownsK_ow {W : World} {base n : Nat} {v : Value} {ss : List Is} (h : W.ownsRow base 27 2 v n (iss ss)) (hn : ss.length = n) : ∃ A c, v = .slice A n c ∧ OwP W A n c ss ∧ ∀ a, A = some a → base ≤ a.block := by
 rcases h.2 with ⟨rfl, h0⟩ | ⟨g, cap, cur, rfl, hbase, hgb, r1, r2, r3, r4⟩
 ·subst h0
  have hs : ss = [] := List.eq_nil_of_length_eq_zero hn
  subst hs
  exact ⟨none, 0, rfl, Ow.nil _ _ _, fun a ha => by cases ha⟩
 ·exact ⟨_, cap, rfl, ⟨by rw [iss_length, hn], r1, r2, .inr ⟨g, cur, rfl, hgb, by rw [r3]; exact Nat.le_refl _, r4⟩⟩, fun a ha => by cases ha; exact hbase⟩
set_option maxRecDepth 512
theorem keysE_ok (w : World) (b : Nat) : Calls Tryz.prog 142 #[.map (some b)] w fun e w' =>
  e = .returned (.func (.func 195) #[] #[.pointer (some ⟨w.heap.size, 0, none⟩)]) ∧ w' = w.alloc (.cells #[.map (some b)] 142) := by
 go_enter Tryz.func142, Tryz.ntmps142
 go_wp2_with fail
 go_ret
 exact ⟨rfl, rfl⟩
set_option maxRecDepth 100000
theorem collectK_ok (w : World) (Bm b : Nat) (M : List InstV) (hm : w.cell? ⟨Bm, 0, none⟩ = some (.map (some b))) (hBm : Bm < w.heap.size) (hM : MapK w b M) (hn : M.length ≤ 1000000) :
  Calls Tryz.prog 43 #[.func (.func 195) #[] #[.pointer (some ⟨Bm, 0, none⟩)]] w fun e w' =>
   ∃ A c ss, e = .returned (.slice A M.length c) ∧ ss.Perm (M.map (·.1)) ∧ OwP w' A M.length c ss ∧ Fresh w A ∧ Mod none_ w w' := by
 have hseq : SeqGives Fence.wide (4 - 1 - 1) Tryz.prog 195 #[.pointer (some ⟨Bm, 0, none⟩)] isV (fun ss => ss.Perm (M.map (·.1))) M.length w := fun l J W hW hJ hY h0 =>
  keys1_in Fence.wide (4 - 1 - 1) trivial rfl (by omega) l Bm b M J (fun pre x W1 hj hl _ => hY pre x W1 hj hl) W hJ ((hW.cell (p := ⟨Bm, 0, none⟩) hBm).trans hm) (hM.mod (Mod.of_below hW) (fun h => h)) h0
 refine ((collectK_in Fence.wide 4 trivial trivial rfl (by omega) _ _ trivial (fun _ _ => rfl) (fun ss => ss.Perm (M.map (·.1))) M.length (by simp only [maxLen]; omega) (by omega) w hseq).calls (fun k d hd => by cases hd)).mono ?_
 rintro e w' ⟨v, ss, rfl, hp, hrow, hnil, hb⟩
 have hl := hp.length_eq
 rw [List.length_map] at hl
 rw [hl] at hrow
 obtain ⟨A, c, rfl, how, hbase⟩ := ownsK_ow hrow hl
 exact ⟨A, c, ss, rfl, hp, how, hbase, Mod.of_below hb⟩
theorem ncmp_lay (w : World) (a b : Is) : Calls Tryz.prog 75 #[.agg #[.int .i64 a.r, .int .i64 a.n], .agg #[.int .i64 b.r, .int .i64 b.n]] w fun e w' => e = .returned (.int .i64 (cmpIs a b)) ∧ Lay w w' := by
 obtain ⟨ar, an⟩ := a
 obtain ⟨br, bn⟩ := b
 dsimp only
 have kC := zH (fun W a b => cmpI_ok W a b)
 obtain ⟨z, hz⟩ : ∃ z, cmpIs ⟨ar, an⟩ ⟨br, bn⟩ = z := ⟨_, rfl⟩
 rw [hz]
 have kO := zH (fun W b h => show Calls Tryz.prog 60 #[.slice (some ⟨b, 0, none⟩) 2 2] W (fun e w' => e = .returned (.int .i64 z) ∧ W = w') from by
  rw [← hz]; exact or2_ok W b (cmpI ar br) (cmpI an bn) h)
 clear hz
 go_enter Tryz.func75, Tryz.ntmps75
 go_wp2_with fail
 go_region_held3 (fun W => W.cell? ⟨w.heap.size, 0, none⟩ = some (.int .i64 ar) ∧ W.cell? ⟨w.heap.size, 1, none⟩ = some (.int .i64 an) ∧ W.cell? ⟨w.heap.size + 1, 0, none⟩ = some (.int .i64 br) ∧ W.cell? ⟨w.heap.size + 1, 1, none⟩ = some (.int .i64 bn)) (go_keep)
  (first | (go_at_call 61; with_reducible refine (kC.out _ _ _).mono ?_; rintro e w1 ⟨rfl, rfl⟩) | (go_at_call 60; refine (kO.out _ _ (by show RdI _ _ _ _; exact rdn _ _ 1 2 _ _ (0, 0) (by simp) rfl)).mono ?_; rintro e w1 ⟨rfl, rfl⟩))
 go_wp2_with fail
 go_ret
 exact ⟨rfl, ((((Lay.refl w).alloc _).alloc _).alloc _).drew⟩
theorem ncmp_enter : ∀ args w, (callFunc 75 args).run Tryz.prog w = .ok (.enter 75 args) w := fun _ _ => rfl
theorem sortedK_ok (w : World) (Bm b : Nat) (M : List InstV) (hm : w.cell? ⟨Bm, 0, none⟩ = some (.map (some b))) (hBm : Bm < w.heap.size) (hM : MapK w b M) (hn : M.length ≤ 1000000) :
  Calls Tryz.prog 40 #[.func (.func 195) #[] #[.pointer (some ⟨Bm, 0, none⟩)], .func (.func 75) #[] #[]] w fun e w' =>
   ∃ A c ss, e = .returned (.slice A M.length c) ∧ ss.Perm (M.map (·.1)) ∧ (Rise ss) ∧ OwP w' A M.length c ss ∧ Fresh w A ∧ Mod none_ w w' := by
 have kC := zH (collectK_ok w Bm b M hm hBm hM hn)
 clear hm hM
 go_enter Tryz.func40, Tryz.ntmps40
 go_wp2_with fail
 refine kC.out.mono ?_
 rintro e w1 ⟨A, c, ss, rfl, hp, how, hf, hm1⟩
 dsimp only
 have hl := hp.length_eq
 rw [List.length_map] at hl
 generalize hN : M.length = N at *
 rcases how.2.2.2 with ⟨rfl, h0, rfl⟩ | ⟨g, cur, rfl, hb, h5, h6⟩
 ·have kN := AnyF.slices_SortFunc_none (P := Tryz.prog) Tryz.sortf28 none 0 (.func (.func 75) #[] #[]) w1
  have hs0 : ss = [] := List.eq_nil_of_length_eq_zero (by omega)
  subst h0
  have kN' := zH (show Calls Tryz.prog 28 #[.slice none 0 0, .func (.func 75) #[] #[]] w1 _ from kN)
  clear kN
  replace hp := zH hp
  replace how := zH how
  replace hf := zH hf
  replace hm1 := zH hm1
  replace hN := zH hN
  replace hs0 := zH hs0
  replace hl := zH hl
  go_wp2_with fail
  refine kN'.out.mono ?_
  rintro e w2 ⟨rfl, rfl⟩
  dsimp only
  go_wp2_with fail
  go_ret
  exact ⟨none, 0, ss, by rw [hN.out]; rfl, hp.out, by rw [hs0.out]; exact List.Pairwise.nil, by rw [hN.out]; exact how.out, hf.out, hm1.out⟩
 ·have kS := zH (sortI_ok _ ncmp_enter (fun W x y => ncmp_lay W x y) w1 g N c ss how (by omega))
  clear hb h5 h6
  replace hp := zH hp
  replace how := zH how
  replace hf := zH hf
  replace hm1 := zH hm1
  replace hN := zH hN
  replace hl := zH hl
  go_wp2_with fail
  refine kS.out.mono ?_
  rintro e w2 ⟨rfl, ys, hp2, hs2, ho2, hm2⟩
  dsimp only
  have hM2 := zH (hm1.out.then hm2 (fun i hi hk => by have : i = g := hk; have := hf.out _ rfl; simp at this; omega))
  replace hp2 := zH hp2
  replace hs2 := zH hs2
  replace ho2 := zH ho2
  replace hm2 := zH hm2
  go_wp2_with fail
  go_ret
  exact ⟨_, c, ys, by rw [hN.out]; rfl, hp2.out.trans hp.out, hs2.out, by rw [hN.out]; exact ho2.out, hf.out, hM2.out⟩
end Go.Proofs.YtfkfiokkjjnhiaaGreat
