import Derived.Test.YtfkfiokkjjnhiaaGreatUp10
import Derived.Test.YtfkfiokkjjnhiaaGreatUp11
import Derived.Test.YtfkfiokkjjnhiaaGreatUp1
import Derived.Test.YtfkfiokkjjnhiaaGreatRows
import Derived.Deep.DeepCutAuto
import Derived.Test.YtfkfiokkjjnhiaaGreatUp4
set_option linter.unusedVariables false
set_option linter.unusedSimpArgs false
set_option maxHeartbeats 16000000
namespace Go.Proofs.YtfkfiokkjjnhiaaGreat
open Go.RowKit
def RtR (x : Rs) : Bool := rightR x.r
def recsB (xs : List Rs) : List (List UInt8) := xs.map fun x => recB x.r
def logB (xs : List Rs) : List UInt8 := (recsB xs).flatMap frameOf
theorem recsB_succ {xs : List Rs} {j : Nat} {x : Rs} (h : xs[j]? = some x) : recsB (xs.take (j + 1)) = recsB (xs.take j) ++ [recB x.r] := by
 rw [List.take_add_one, h]; simp [recsB]
theorem nb_pos (n : Int) : 1 ≤ (nb n).length := by
 unfold nb vb
 rw [show (10 : Nat) = 9 + 1 from rfl, vbF]
 split <;> simp
theorem recB_pos (r : Rc) : 1 ≤ (recB r).length := by
 have := nb_pos r.i.r
 unfold recB headB
 simp only [List.length_append]; omega
theorem rec_okL {x : Rs} (h : RtR x = true) (hn : numsE x.r.e) : okL (recB x.r) := ⟨recB_pos _, by have := recB_len (rightR_okRc h hn); omega⟩
theorem recs_okL {xs : List Rs} (h : ∀ x ∈ xs, RtR x = true) (hn : ∀ x ∈ xs, numsE x.r.e) : ∀ l ∈ recsB xs, okL l := by
 intro l hl
 simp only [recsB, List.mem_map] at hl
 obtain ⟨x, hx, rfl⟩ := hl
 exact rec_okL (h x hx) (hn x hx)
structure RsL (w : World) (A : Option Addr) (n : Nat) (xs : List Rs) : Prop where
 rd : RdR w A n xs
 mem : RsM w xs
 ok : ∀ x ∈ xs, RsOk x
 nums : ∀ x ∈ xs, numsE x.r.e
theorem RsL.mod0 {w w' : World} {A : Option Addr} {n : Nat} {xs : List Rs} (h : RsL w A n xs) (hm : Mod none_ w w') : RsL w' A n xs := ⟨Rd.mod0 h.rd hm, h.mem.mod0 hm, h.ok, h.nums⟩
theorem RsL.len {w : World} {A : Option Addr} {n : Nat} {xs : List Rs} (h : RsL w A n xs) : xs.length = n := RdR.len h.rd
set_option maxRecDepth 100000
theorem put_gen (w : World) (dv : Value) (A : Option Addr) (n c : Nat) (xs : List Rs) (h : RsL w A n xs) (hn : n ≤ 1000) (R : Ending → World → Prop)
  (kNo : ∀ W, Mod none_ w W → (∃ x ∈ xs, RtR x = false) → R (.returned (.int .i64 1)) W)
  (kNil : ∀ W, Mod none_ w W → n = 0 → R (.returned (.int .i64 0)) W)
  (kA : ∀ W B m d, Mod none_ w W → 0 < n → (∀ x ∈ xs, RtR x = true) → RdB W B m (logB xs) → Fresh w B → m ≤ d → Calls Tryz.prog 136 #[dv, .slice B m d] W fun e w' =>
   ∃ a : Int, e = .returned (.int .i64 a) ∧ ((a ≠ 0 ∧ R (.returned (.int .i64 a)) w') ∨ (a = 0 ∧ Calls Tryz.prog 137 #[dv] w' fun e w'' => ∃ v, e = .returned v ∧ R (.returned v) w''))) :
  Calls Tryz.prog 67 #[dv, .slice A n c] w R := by
 obtain ⟨i0, hi, hz0, hz1, hz2⟩ := info_parts slinfo
 have hl := zH h.len
 replace h := zH h
 replace kNo := zH kNo
 replace kNil := zH kNil
 replace kA := zH kA
 go_enter Tryz.func67, Tryz.ntmps67
 go_wp2_with fail
 go_loopw [5, 15] (fun v y wr => ∃ j : Nat, y = .int .i64 j ∧ j ≤ n ∧ ∃ B d ss, v = .slice B j d ∧ Lst wr B j d ss (recsB (xs.take j)) ∧ (∀ i, fp B i → w.heap.size ≤ i) ∧ Mod none_ w wr ∧ ∀ x ∈ xs.take j, RtR x = true) (fun _ y _ => n - (intOf y).toNat)
 case atStart => exact ⟨0, rfl, by omega, none, 0, [], rfl, Lst.nil _, (fun i ⟨a, ha, _⟩ => by cases ha), Mod.refl _ _, fun x hx => by simp at hx⟩
 case round =>
  obtain ⟨j, rfl, hj, B, d, ss, rfl, hL, hLA, hm, hall⟩ := hrel
  by_cases hlt : j < n
  ·obtain ⟨g, o, x, hA, hxm, hx, hrg⟩ := rdr_get (w := wr) (Rd.mod0 h.out.rd hm) hlt
   subst hA
   unfold rsC at hrg
   have hEx := zH ((h.out.mem x hxm).mod0 hm)
   obtain ⟨q1, q2, q3, q4⟩ := h.out.ok x hxm
   have kB := zH (fun W (hM : Mod none_ wr W) => logBytes_ok W x.r x.L x.D (hEx.out.mod0 hM) q1 q2 q3 q4 (h.out.nums x hxm))
   have hz := zH (Blk.new wr 57 #[.int .i64 0, .int .i64 0, .int .i64 0, .int .i64 0, .int .i64 0, .int .i64 0, .int .i64 0, .int .i64 0, .string ⟨#[]⟩, .string ⟨#[]⟩, .int .i64 0, .slice none 0 0, .int .i64 0, .int .i64 0, .string ⟨#[]⟩, .bool false, .slice none 0 0])
   have hlb : (recB x.r).length ≤ 100000000 ∨ RtR x = false := by
    cases hr : RtR x with
    | true => exact .inl (by have := recB_len (rightR_okRc hr (h.out.nums x hxm)); omega)
    | false => exact .inr rfl
   replace hL := zH hL
   replace hLA := zH hLA
   replace hm := zH hm
   replace hall := zH hall
   replace hxm := zH hxm
   replace hx := zH hx
   replace hrg := zH hrg
   replace q3 := zH q3
   replace q4 := zH q4
   replace hlb := zH hlb
   go_wp2_with (first
    | (refine wpList_load_mid rfl 57 (.tmp 17) rfl g (o + j * 17) rfl _ _ hrg.out Tryz.underlying57 rfl rc_size ?_)
    | (refine wpList_store_blk rfl 57 (.tmp 7) (.tmp 18) rfl wr.heap.size 0 _ rfl rfl hz.out (by simp) rc_size (by rfl) #[.int .i64 x.r.i.r, .int .i64 x.r.i.n, .int .i64 x.r.bal, .int .i64 x.r.st, .int .i64 x.r.by_, .int .i64 x.r.e.o.c, .int .i64 x.r.e.o.s, .int .i64 x.r.e.o.k, .string (txt x.r.e.o.acct), .string (txt x.r.e.o.peer), .int .i64 x.r.e.o.sum, .slice x.L.a x.L.n x.L.c, .int .i64 x.r.e.o.per, .int .i64 x.r.e.o.hold, .string (txt x.r.e.o.note), .bool x.r.e.none, .slice x.D.a x.D.n x.D.c] rfl ?_; intro w2 hb2 hm2; have hm2' := zH (((Mod.refl none_ wr).alloc (.cells #[.int .i64 0, .int .i64 0, .int .i64 0, .int .i64 0, .int .i64 0, .int .i64 0, .int .i64 0, .int .i64 0, .string ⟨#[]⟩, .string ⟨#[]⟩, .int .i64 0, .slice none 0 0, .int .i64 0, .int .i64 0, .string ⟨#[]⟩, .bool false, .slice none 0 0] 57)).in_new (Nat.le_refl _) hm2); replace hb2 := zH hb2; clear hm2)
    | (refine wpList_load_row rfl 57 (.tmp 7) rfl wr.heap.size rfl _ _ _ _ hb2.out Tryz.underlying57 rfl rc_size ?_))
   have hM2 := zH (hm.out.trans hm2'.out)
   have hL2 := zH (hL.out.mod0 hm2'.out)
   with_reducible refine (kB.out _ hm2'.out).mono ?_
   rintro e w3 hpost
   rcases hpost with ⟨hr, A3, c3, rfl, ho3, hf3, hm3⟩ | ⟨hr, rfl, hm3⟩
   ·dsimp only
    have hM3 := zH (hM2.out.trans hm3)
    have hL3 := zH (hL2.out.mod0 hm3)
    have hlb3 := hlb.out.resolve_right (by unfold RtR; rw [hr]; simp)
    have ht : Txt1 (w3.alloc (.cells #[.slice A3 (recB x.r).length c3] 126)) B ⟨A3, (recB x.r).length, c3⟩ (recB x.r) := by
     refine ⟨Rd.alloc ho3.rd _, ho3.2.1, by have := ho3.2.2.1; simpa [maxLen] using this, fun _ k hk => ⟨?_, ?_⟩⟩
     ·have := ho3.lt k hk; simp; omega
     ·exact Fresh.apart hf3 (fun k hk => hL2.out.1.lt k hk) k hk
    have hsn := zH (recsB_succ hx.out)
    replace ht := zH ht
    replace hr := zH hr
    generalize hn3 : (recB x.r).length = n3 at *
    clear ho3 hf3 hm3 kB hL hL2 hz hb2 hm hm2' hM2
    replace hn3 := zH hn3
    go_wp2_with (at_builtin; refine wpList_append_ow rfl (.tmp 27) (.tmp 29) 203 rfl 126 i0 _ 1 24 Tryz.underlying203 hi hz0 hz1 hz2 rfl (by omega) B j d (ss.map SV.v) rfl (hL3.out.1.mod0 ((Mod.refl none_ w3).alloc _)) (some ⟨w3.heap.size, 0, none⟩) 1 1 [.slice A3 n3 c3] rfl (rdn w3 _ 1 1 _ _ (0, 0) rfl rfl) (by simp [Value.oneCell']) (by omega) (by omega) ?_; intro A5 c5 w5 hown5 hmod5 hA5)
    have hA5' : A5 = B ∨ ∃ g, A5 = some ⟨g, 0, none⟩ ∧ (w3.alloc (.cells #[.slice A3 n3 c3] 126)).heap.size ≤ g := by
     rcases hA5 with h | h
     ·exact .inl h
     ·exact .inr ⟨_, h, by simp⟩
    have hL6 := zH ((hL3.out.mod0 ((Mod.refl none_ w3).alloc _)).push ht.out hown5 hmod5 hA5')
    have hLA6 : Hid (∀ i, fp A5 i → w.heap.size ≤ i) := zH (by
     rintro i ⟨a, ha, rfl⟩
     rcases hA5 with rfl | rfl
     ·exact hLA.out _ ⟨a, ha, rfl⟩
     ·cases ha; have := hM3.out.size; simp; omega)
    have hm6 := zH ((hM3.out.alloc (.cells #[.slice A3 n3 c3] 126)).then hmod5 (fun i hi hf => by have := hLA.out i hf; omega))
    clear hA5 hA5' hown5 hmod5 ht
    go_wp2_with fail
    go_roundw
    case rel =>
     refine ⟨j + 1, by go_num, by omega, A5, c5, _, rfl, by rw [hsn.out]; exact hL6.out, hLA6.out, hm6.out, ?_⟩
     intro y hy
     rw [List.take_add_one, hx.out] at hy
     rcases List.mem_append.1 hy with hy | hy
     ·exact hall.out y hy
     ·simp at hy; subst hy; exact hr.out
    case measure => simp [intOf]; omega
   ·dsimp only
    have hend := zH (kNo.out _ (hM2.out.trans hm3) ⟨x, hxm.out, hr⟩)
    clear kB hm3
    replace hr := zH hr
    go_wp2_with fail
    exact hend.out
  ·obtain rfl : j = n := by omega
   rw [List.take_of_length_le (by rw [hl.out]; exact Nat.le_refl _)] at hL hall
   obtain ⟨wf, rfl⟩ : ∃ wf, wf = wr := ⟨_, rfl⟩
   by_cases h0 : j = 0
   ·have hend := zH (kNil.out wf hm h0)
    replace hL := zH hL
    replace hLA := zH hLA
    replace hm := zH hm
    replace hall := zH hall
    go_wp2_with fail
    exact hend.out
   ·have hj0 : ((j : Int) == 0) = false := by simp; omega
    have kW := wrap_ok wf B j d ss (recsB xs) hL.rdl (by omega)
    replace hL := zH hL
    replace hLA := zH hLA
    replace hm := zH hm
    replace hall := zH hall
    go_wp2_with fail
    with_reducible refine kW.mono ?_
    rintro e w3 ⟨hm3, hcase⟩
    have hok := recs_okL hall.out (h.out.nums)
    obtain ⟨A3, m3, c3, rfl, ho3, hf3, -⟩ : ∃ A n c, e = .returned (.tuple #[.slice A n c, .int .i64 0]) ∧ OwB w3 5 A n c (logB xs) ∧ Fresh wf A ∧ n ≤ (recsB xs).length * 4102 := by
     rcases hcase with ⟨_, h1⟩ | ⟨⟨l, hl1, hl2⟩, _⟩
     ·exact h1
     ·exact absurd (hok l hl1) hl2
    dsimp only
    have kA2 := zH (kA.out w3 A3 m3 c3 (hm.out.trans hm3) (by omega) hall.out ho3.rd (fun a ha => Nat.le_trans hm.out.size (hf3 a ha)) ho3.2.1)
    clear hcase hok hm3 ho3 hf3 kW
    go_wp2_with fail
    with_reducible refine kA2.out.mono ?_
    rintro e w4 ⟨a, rfl, hor⟩
    dsimp only
    rcases hor with ⟨ha, hR⟩ | ⟨rfl, kS⟩
    ·have ha2 : (a != 0) = true := by simp [ha]
     replace ha := zH ha
     replace hR := zH hR
     clear kA2
     go_wp2_with fail
     first | exact hR.out | (go_ret; exact hR.out)
    ·replace kS := zH kS
     clear kA2
     go_wp2_with fail
     with_reducible refine kS.out.mono ?_
     rintro e w5 ⟨v, rfl, hR⟩
     dsimp only
     replace hR := zH hR
     go_wp2_with fail
     first | exact hR.out | (go_ret; exact hR.out)
def putR (l : List UInt8) (s r : Nat) (xs : List Rs) : Int × List UInt8 × Nat :=
 if xs.all RtR then if xs = [] then (0, l, s) else if l.length + (logB xs).length ≤ r then (0, l ++ logB xs, l.length + (logB xs).length) else (5, l, s) else (1, l, s)
theorem Nw.step {w w1 : World} {A A1 : Option Addr} {p : Nat} (h : Nw w A A1) : ∀ i, i < w.heap.size → dkf p A1 i → dkf p A i := by
 intro i hi hk
 rcases hk with hk | hk
 ·exact .inl hk
 ·rcases h with rfl | h
  ·exact .inr hk
  ·obtain ⟨a, ha, rfl⟩ := hk; have := h a ha; omega
theorem put_ok (w : World) (p : Nat) (A : Option Addr) (c : Nat) (l : List UInt8) (s r : Nat) (hd : Dk w p A c ⟨l, s, r, false⟩) (B : Option Addr) (n d : Nat) (xs : List Rs) (h : RsL w B n xs) (hn : n ≤ 1000) :
  Calls Tryz.prog 67 #[.pointer (some ⟨p, 0, none⟩), .slice B n d] w fun e w' =>
   ∃ A' c' a l' s', e = .returned (.int .i64 a) ∧ putR l s r xs = (a, l', s') ∧ Dk w' p A' c' ⟨l', s', r, false⟩ ∧ Nw w A A' ∧ Mod (dkf p A) w w' := by
 have hl := h.len
 refine put_gen w _ B n d xs h hn _ ?_ ?_ ?_
 ·intro W hm ⟨x, hx, hr⟩
  refine ⟨A, c, 1, l, s, rfl, ?_, hd.mod0 hm, .inl rfl, hm.any _⟩
  unfold putR
  rw [if_neg (by rw [List.all_eq_true]; intro hh; rw [hh x hx] at hr; cases hr)]
 ·intro W hm h0
  have hx : xs = [] := List.eq_nil_of_length_eq_zero (by omega)
  refine ⟨A, c, 0, l, s, rfl, ?_, hd.mod0 hm, .inl rfl, hm.any _⟩
  unfold putR
  rw [if_pos (by rw [hx]; rfl), if_pos hx]
 ·intro W B' m d' hm hpos hall hb hf hmd
  have hx : xs ≠ [] := by intro hh; rw [hh] at hl; simp at hl; omega
  have hlen := hb.len
  by_cases hr : l.length + m ≤ r
  ·refine (disk_append p A c l s r W (hd.mod0 hm) B' m d' _ hb hr).mono ?_
   rintro e w1 ⟨rfl, A1, ⟨c1, hd1⟩, hn1, hm1⟩
   refine ⟨0, rfl, .inr ⟨rfl, ?_⟩⟩
   refine (disk_sync p A1 c1 _ s r w1 hd1).mono ?_
   rintro e w2 ⟨rfl, hd2, hm2⟩
   have hnw : Nw w A A1 := by
    rcases hn1 with h1 | h1
    ·exact .inl h1
    ·exact .inr (fun a ha => Nat.le_trans hm.size (h1 a ha))
   refine ⟨_, rfl, A1, c1, 0, _, _, rfl, ?_, hd2, hnw, ?_⟩
   ·unfold putR
    rw [if_pos (by rw [List.all_eq_true]; exact hall), if_neg hx, if_pos (by omega), List.length_append]
   ·exact ((hm.any _).trans hm1).then hm2 (Nw.step (w1 := w1) hnw)
  ·refine (disk_append_full p A c l s r W (hd.mod0 hm) B' m d' (by omega)).mono ?_
   rintro e w1 ⟨rfl, k, rfl⟩
   refine ⟨5, rfl, .inl ⟨by decide, A, c, 5, l, s, rfl, ?_, (hd.mod0 hm).mod0 ((Mod.refl none_ W).drewN k), .inl rfl, (hm.drewN k).any _⟩⟩
   unfold putR
   rw [if_pos (by rw [List.all_eq_true]; exact hall), if_neg hx, if_neg (by omega)]
abbrev Col := Nat → Nat × Nat
structure RpB where (q dk sl ld rf wt tl : Nat) (rn : RnB)
def RpB.all (b : RpB) : List (Nat × Nat) := [(b.q,0),(b.dk,1),(b.sl,3),(b.ld,4),(b.rf,5),(b.wt,6),(b.tl,7),(b.rn.q,8),(b.rn.kn,9),(b.rn.dn,10),(b.rn.tl,11),(b.rn.bk,12),(b.rn.ch,13),(b.rn.cm,14),(b.rn.hd,15),(b.rn.hm,16)]
def Lies (w : World) (col : Col) (i : Nat) (b : RpB) : Prop := ∀ p ∈ b.all, p.1 < w.heap.size ∧ col p.1 = (i, p.2)
def Arr (w : World) (col : Col) (i c : Nat) (A : Option Addr) : Prop := ∀ k, fp A k → k < w.heap.size ∧ col k = (i, c)
def Ext (w : World) (col col' : Col) : Prop := ∀ k, k < w.heap.size → col' k = col k
theorem Ext.refl (w : World) (col : Col) : Ext w col col := fun _ _ => rfl
theorem Ext.trans {w w' : World} {a b c : Col} (h : Ext w a b) (h' : Ext w' b c) (hs : w.heap.size ≤ w'.heap.size) : Ext w a c := fun k hk => (h' k (Nat.lt_of_lt_of_le hk hs)).trans (h k hk)
theorem Arr.none_ (w : World) (col : Col) (i c : Nat) : Arr w col i c none := fun k ⟨a, ha, _⟩ => by cases ha
theorem Arr.grow {w w' : World} {col col' : Col} {i c : Nat} {A : Option Addr} (h : Arr w col i c A) (he : Ext w col col') (hs : w.heap.size ≤ w'.heap.size) : Arr w' col' i c A :=
 fun k hk => ⟨Nat.lt_of_lt_of_le (h k hk).1 hs, (he k (h k hk).1).trans (h k hk).2⟩
theorem Lies.grow {w w' : World} {col col' : Col} {i : Nat} {b : RpB} (h : Lies w col i b) (he : Ext w col col') (hs : w.heap.size ≤ w'.heap.size) : Lies w' col' i b :=
 fun p hp => ⟨Nat.lt_of_lt_of_le (h p hp).1 hs, (he _ (h p hp).1).trans (h p hp).2⟩
def tint (w : World) (col : Col) (c : Nat × Nat) : Col := fun k => if k < w.heap.size then col k else c
theorem tint_ext (w : World) (col : Col) (c : Nat × Nat) : Ext w col (tint w col c) := fun k hk => by unfold tint; rw [if_pos hk]
theorem tint_new {w : World} {col : Col} {c : Nat × Nat} {k : Nat} (h : w.heap.size ≤ k) : tint w col c k = c := by unfold tint; rw [if_neg (by omega)]
def Off (w : World) (col : Col) (i : Nat) (cs : List Nat) (F : Nat → Prop) : Prop := ∀ k, k < w.heap.size → F k → ∀ c, c ∉ cs → col k ≠ (i, c)
theorem Off.one {w : World} {col : Col} {i c : Nat} {b : RpB} (h : Lies w col i b) {g : Nat} (hg : (g, c) ∈ b.all) : Off w col i [c] (· = g) := by
 rintro k hk rfl c' hc' e
 rw [(h _ hg).2] at e
 simp only [Prod.mk.injEq, true_and] at e
 exact hc' (by simp [e])
theorem Off.arr {w : World} {col : Col} {i c : Nat} {A : Option Addr} (h : Arr w col i c A) : Off w col i [c] (fp A) := by
 rintro k hk hf c' hc' e
 rw [(h k hf).2] at e
 simp only [Prod.mk.injEq, true_and] at e
 exact hc' (by simp [e])
theorem Off.none_ (w : World) (col : Col) (i : Nat) (cs : List Nat) : Off w col i cs Go.Proofs.YtfkfiokkjjnhiaaGreat.none_ := fun _ _ h => h.elim
theorem Off.or {w : World} {col : Col} {i : Nat} {cs ds : List Nat} {F G : Nat → Prop} (h : Off w col i cs F) (h' : Off w col i ds G) : Off w col i (cs ++ ds) (fun k => F k ∨ G k) := by
 rintro k hk (hf | hg) c hc
 ·exact h k hk hf c (fun hh => hc (List.mem_append_left _ hh))
 ·exact h' k hk hg c (fun hh => hc (List.mem_append_right _ hh))
theorem Off.far {w : World} {col : Col} {i j : Nat} (hij : i ≠ j) : Off w col i [] (fun k => (col k).1 = j) := by
 intro k hk hf c _ e
 rw [e] at hf
 exact hij hf
theorem Off.nf {w : World} {col : Col} {i : Nat} {cs : List Nat} {F : Nat → Prop} {b : RpB} (h : Off w col i cs F) (hl : Lies w col i b) {g c : Nat} (hg : (g, c) ∈ b.all) (hc : c ∉ cs) : ¬ F g :=
 fun hf => h g (hl _ hg).1 hf c hc (hl _ hg).2
theorem Off.nfa {w : World} {col : Col} {i : Nat} {cs : List Nat} {F : Nat → Prop} {c : Nat} {A : Option Addr} (h : Off w col i cs F) (hl : Arr w col i c A) (hc : c ∉ cs) : ∀ k, fp A k → ¬ F k :=
 fun k hk hf => h k (hl k hk).1 hf c hc (hl k hk).2
structure RpS where
 (S Ld Rf Wt Tl K D T : List InstV)
 LA : Option Addr
 (ln lc : Nat)
 lv : List Value
 C : List Ac
 cl : Int
 A : Option Addr
 c : Nat
 l : List UInt8
 s : Nat
def RpW : Nat := 65536
structure RpM (w : World) (col : Col) (i : Nat) (b : RpB) (me n : Int) (x : RpS) : Prop where
 lies : Lies w col i b
 q : Blk w b.q 88 #[.int .i64 me, .int .i64 n, .pointer (some ⟨b.dk, 0, none⟩), .map (some b.sl), .pointer (some ⟨b.rn.q, 0, none⟩), .map (some b.ld), .map (some b.rf), .map (some b.wt), .map (some b.tl), .slice none 0 0]
 dk : Dk w b.dk x.A x.c ⟨x.l, x.s, RpW, false⟩
 da : Arr w col i 2 x.A
 sl : MapK w b.sl x.S
 ld : MapK w b.ld x.Ld
 rf : MapK w b.rf x.Rf
 wt : MapK w b.wt x.Wt
 tl : MapK w b.tl x.Tl
 rn : RnM w b.rn x.K x.D x.T x.LA x.ln x.lc x.C x.cl
 la : Arr w col i 17 x.LA
 ls : Ow w 40 10 x.LA x.ln x.lc x.lv
theorem BkM.mod {w w' : World} {b : RnB} {C : List Ac} {cl : Int} {F : Nat → Prop} (h : BkM w b C cl) (hm : Mod F w w') (h5 : ¬ F b.bk) (h6 : ¬ F b.ch) (h7 : ¬ F b.cm) (h8 : ¬ F b.hd) (h9 : ¬ F b.hm) : BkM w' b C cl :=
 ⟨h.bk.mod hm h5, h.ch.mod hm h6 h7, h.hd.mod hm h8, (hm.block _ (Array.getElem?_eq_some_iff.1 h.hm).1 h9).trans h.hm⟩
theorem RnM.mod {w w' : World} {b : RnB} {K D T : List InstV} {A : Option Addr} {n c : Nat} {C : List Ac} {cl : Int} {F : Nat → Prop} (h : RnM w b K D T A n c C cl) (hm : Mod F w w')
  (h1 : ¬ F b.q) (h2 : ¬ F b.kn) (h3 : ¬ F b.dn) (h4 : ¬ F b.tl) (h5 : ¬ F b.bk) (h6 : ¬ F b.ch) (h7 : ¬ F b.cm) (h8 : ¬ F b.hd) (h9 : ¬ F b.hm) : RnM w' b K D T A n c C cl :=
 ⟨h.q.mod hm h1, h.kn.mod hm h2, h.dn.mod hm h3, h.tl.mod hm h4, h.book.mod hm h5 h6 h7 h8 h9⟩
theorem RpM.far {w w' : World} {col : Col} {i : Nat} {b : RpB} {me n : Int} {x : RpS} (h : RpM w col i b me n x) {F : Nat → Prop} (hm : Mod F w w') (ho : Off w col i [] F) : RpM w' col i b me n x :=
 ⟨h.lies.grow (Ext.refl _ _) hm.size, h.q.mod hm (ho.nf h.lies (g := b.q) (c := 0) (by simp [RpB.all]) (by decide)), h.dk.mod hm (fun k hk => by { rcases hk with rfl | hk; exact (ho.nf h.lies (g := b.dk) (c := 1) (by simp [RpB.all]) (by decide)); exact ho.nfa h.da (c := 2) (by decide) k hk }), h.da.grow (Ext.refl _ _) hm.size, h.sl.mod hm (ho.nf h.lies (g := b.sl) (c := 3) (by simp [RpB.all]) (by decide)), h.ld.mod hm (ho.nf h.lies (g := b.ld) (c := 4) (by simp [RpB.all]) (by decide)), h.rf.mod hm (ho.nf h.lies (g := b.rf) (c := 5) (by simp [RpB.all]) (by decide)), h.wt.mod hm (ho.nf h.lies (g := b.wt) (c := 6) (by simp [RpB.all]) (by decide)), h.tl.mod hm (ho.nf h.lies (g := b.tl) (c := 7) (by simp [RpB.all]) (by decide)), h.rn.mod hm (ho.nf h.lies (g := b.rn.q) (c := 8) (by simp [RpB.all]) (by decide)) (ho.nf h.lies (g := b.rn.kn) (c := 9) (by simp [RpB.all]) (by decide)) (ho.nf h.lies (g := b.rn.dn) (c := 10) (by simp [RpB.all]) (by decide)) (ho.nf h.lies (g := b.rn.tl) (c := 11) (by simp [RpB.all]) (by decide)) (ho.nf h.lies (g := b.rn.bk) (c := 12) (by simp [RpB.all]) (by decide)) (ho.nf h.lies (g := b.rn.ch) (c := 13) (by simp [RpB.all]) (by decide)) (ho.nf h.lies (g := b.rn.cm) (c := 14) (by simp [RpB.all]) (by decide)) (ho.nf h.lies (g := b.rn.hd) (c := 15) (by simp [RpB.all]) (by decide)) (ho.nf h.lies (g := b.rn.hm) (c := 16) (by simp [RpB.all]) (by decide)), h.la.grow (Ext.refl _ _) hm.size, h.ls.mod hm (ho.nfa h.la (c := 17) (by decide))⟩
theorem RpM.set_q {w w' : World} {col : Col} {i : Nat} {b : RpB} {me n : Int} {x : RpS} (h : RpM w col i b me n x) {F : Nat → Prop} (hm : Mod F w w') (ho : Off w col i [0] F) (hs : Blk w' b.q 88 #[.int .i64 me, .int .i64 n, .pointer (some ⟨b.dk, 0, none⟩), .map (some b.sl), .pointer (some ⟨b.rn.q, 0, none⟩), .map (some b.ld), .map (some b.rf), .map (some b.wt), .map (some b.tl), .slice none 0 0]) : RpM w' col i b me n x :=
 ⟨h.lies.grow (Ext.refl _ _) hm.size, hs, h.dk.mod hm (fun k hk => by { rcases hk with rfl | hk; exact (ho.nf h.lies (g := b.dk) (c := 1) (by simp [RpB.all]) (by decide)); exact ho.nfa h.da (c := 2) (by decide) k hk }), h.da.grow (Ext.refl _ _) hm.size, h.sl.mod hm (ho.nf h.lies (g := b.sl) (c := 3) (by simp [RpB.all]) (by decide)), h.ld.mod hm (ho.nf h.lies (g := b.ld) (c := 4) (by simp [RpB.all]) (by decide)), h.rf.mod hm (ho.nf h.lies (g := b.rf) (c := 5) (by simp [RpB.all]) (by decide)), h.wt.mod hm (ho.nf h.lies (g := b.wt) (c := 6) (by simp [RpB.all]) (by decide)), h.tl.mod hm (ho.nf h.lies (g := b.tl) (c := 7) (by simp [RpB.all]) (by decide)), h.rn.mod hm (ho.nf h.lies (g := b.rn.q) (c := 8) (by simp [RpB.all]) (by decide)) (ho.nf h.lies (g := b.rn.kn) (c := 9) (by simp [RpB.all]) (by decide)) (ho.nf h.lies (g := b.rn.dn) (c := 10) (by simp [RpB.all]) (by decide)) (ho.nf h.lies (g := b.rn.tl) (c := 11) (by simp [RpB.all]) (by decide)) (ho.nf h.lies (g := b.rn.bk) (c := 12) (by simp [RpB.all]) (by decide)) (ho.nf h.lies (g := b.rn.ch) (c := 13) (by simp [RpB.all]) (by decide)) (ho.nf h.lies (g := b.rn.cm) (c := 14) (by simp [RpB.all]) (by decide)) (ho.nf h.lies (g := b.rn.hd) (c := 15) (by simp [RpB.all]) (by decide)) (ho.nf h.lies (g := b.rn.hm) (c := 16) (by simp [RpB.all]) (by decide)), h.la.grow (Ext.refl _ _) hm.size, h.ls.mod hm (ho.nfa h.la (c := 17) (by decide))⟩
theorem RpM.set_sl {w w' : World} {col : Col} {i : Nat} {b : RpB} {me n : Int} {x : RpS} (h : RpM w col i b me n x) {F : Nat → Prop} (hm : Mod F w w') (ho : Off w col i [3] F) {L : List InstV} (hs : MapK w' b.sl L) : RpM w' col i b me n { x with S := L } :=
 ⟨h.lies.grow (Ext.refl _ _) hm.size, h.q.mod hm (ho.nf h.lies (g := b.q) (c := 0) (by simp [RpB.all]) (by decide)), h.dk.mod hm (fun k hk => by { rcases hk with rfl | hk; exact (ho.nf h.lies (g := b.dk) (c := 1) (by simp [RpB.all]) (by decide)); exact ho.nfa h.da (c := 2) (by decide) k hk }), h.da.grow (Ext.refl _ _) hm.size, hs, h.ld.mod hm (ho.nf h.lies (g := b.ld) (c := 4) (by simp [RpB.all]) (by decide)), h.rf.mod hm (ho.nf h.lies (g := b.rf) (c := 5) (by simp [RpB.all]) (by decide)), h.wt.mod hm (ho.nf h.lies (g := b.wt) (c := 6) (by simp [RpB.all]) (by decide)), h.tl.mod hm (ho.nf h.lies (g := b.tl) (c := 7) (by simp [RpB.all]) (by decide)), h.rn.mod hm (ho.nf h.lies (g := b.rn.q) (c := 8) (by simp [RpB.all]) (by decide)) (ho.nf h.lies (g := b.rn.kn) (c := 9) (by simp [RpB.all]) (by decide)) (ho.nf h.lies (g := b.rn.dn) (c := 10) (by simp [RpB.all]) (by decide)) (ho.nf h.lies (g := b.rn.tl) (c := 11) (by simp [RpB.all]) (by decide)) (ho.nf h.lies (g := b.rn.bk) (c := 12) (by simp [RpB.all]) (by decide)) (ho.nf h.lies (g := b.rn.ch) (c := 13) (by simp [RpB.all]) (by decide)) (ho.nf h.lies (g := b.rn.cm) (c := 14) (by simp [RpB.all]) (by decide)) (ho.nf h.lies (g := b.rn.hd) (c := 15) (by simp [RpB.all]) (by decide)) (ho.nf h.lies (g := b.rn.hm) (c := 16) (by simp [RpB.all]) (by decide)), h.la.grow (Ext.refl _ _) hm.size, h.ls.mod hm (ho.nfa h.la (c := 17) (by decide))⟩
theorem RpM.set_ld {w w' : World} {col : Col} {i : Nat} {b : RpB} {me n : Int} {x : RpS} (h : RpM w col i b me n x) {F : Nat → Prop} (hm : Mod F w w') (ho : Off w col i [4] F) {L : List InstV} (hs : MapK w' b.ld L) : RpM w' col i b me n { x with Ld := L } :=
 ⟨h.lies.grow (Ext.refl _ _) hm.size, h.q.mod hm (ho.nf h.lies (g := b.q) (c := 0) (by simp [RpB.all]) (by decide)), h.dk.mod hm (fun k hk => by { rcases hk with rfl | hk; exact (ho.nf h.lies (g := b.dk) (c := 1) (by simp [RpB.all]) (by decide)); exact ho.nfa h.da (c := 2) (by decide) k hk }), h.da.grow (Ext.refl _ _) hm.size, h.sl.mod hm (ho.nf h.lies (g := b.sl) (c := 3) (by simp [RpB.all]) (by decide)), hs, h.rf.mod hm (ho.nf h.lies (g := b.rf) (c := 5) (by simp [RpB.all]) (by decide)), h.wt.mod hm (ho.nf h.lies (g := b.wt) (c := 6) (by simp [RpB.all]) (by decide)), h.tl.mod hm (ho.nf h.lies (g := b.tl) (c := 7) (by simp [RpB.all]) (by decide)), h.rn.mod hm (ho.nf h.lies (g := b.rn.q) (c := 8) (by simp [RpB.all]) (by decide)) (ho.nf h.lies (g := b.rn.kn) (c := 9) (by simp [RpB.all]) (by decide)) (ho.nf h.lies (g := b.rn.dn) (c := 10) (by simp [RpB.all]) (by decide)) (ho.nf h.lies (g := b.rn.tl) (c := 11) (by simp [RpB.all]) (by decide)) (ho.nf h.lies (g := b.rn.bk) (c := 12) (by simp [RpB.all]) (by decide)) (ho.nf h.lies (g := b.rn.ch) (c := 13) (by simp [RpB.all]) (by decide)) (ho.nf h.lies (g := b.rn.cm) (c := 14) (by simp [RpB.all]) (by decide)) (ho.nf h.lies (g := b.rn.hd) (c := 15) (by simp [RpB.all]) (by decide)) (ho.nf h.lies (g := b.rn.hm) (c := 16) (by simp [RpB.all]) (by decide)), h.la.grow (Ext.refl _ _) hm.size, h.ls.mod hm (ho.nfa h.la (c := 17) (by decide))⟩
theorem RpM.set_wt {w w' : World} {col : Col} {i : Nat} {b : RpB} {me n : Int} {x : RpS} (h : RpM w col i b me n x) {F : Nat → Prop} (hm : Mod F w w') (ho : Off w col i [6] F) {L : List InstV} (hs : MapK w' b.wt L) : RpM w' col i b me n { x with Wt := L } :=
 ⟨h.lies.grow (Ext.refl _ _) hm.size, h.q.mod hm (ho.nf h.lies (g := b.q) (c := 0) (by simp [RpB.all]) (by decide)), h.dk.mod hm (fun k hk => by { rcases hk with rfl | hk; exact (ho.nf h.lies (g := b.dk) (c := 1) (by simp [RpB.all]) (by decide)); exact ho.nfa h.da (c := 2) (by decide) k hk }), h.da.grow (Ext.refl _ _) hm.size, h.sl.mod hm (ho.nf h.lies (g := b.sl) (c := 3) (by simp [RpB.all]) (by decide)), h.ld.mod hm (ho.nf h.lies (g := b.ld) (c := 4) (by simp [RpB.all]) (by decide)), h.rf.mod hm (ho.nf h.lies (g := b.rf) (c := 5) (by simp [RpB.all]) (by decide)), hs, h.tl.mod hm (ho.nf h.lies (g := b.tl) (c := 7) (by simp [RpB.all]) (by decide)), h.rn.mod hm (ho.nf h.lies (g := b.rn.q) (c := 8) (by simp [RpB.all]) (by decide)) (ho.nf h.lies (g := b.rn.kn) (c := 9) (by simp [RpB.all]) (by decide)) (ho.nf h.lies (g := b.rn.dn) (c := 10) (by simp [RpB.all]) (by decide)) (ho.nf h.lies (g := b.rn.tl) (c := 11) (by simp [RpB.all]) (by decide)) (ho.nf h.lies (g := b.rn.bk) (c := 12) (by simp [RpB.all]) (by decide)) (ho.nf h.lies (g := b.rn.ch) (c := 13) (by simp [RpB.all]) (by decide)) (ho.nf h.lies (g := b.rn.cm) (c := 14) (by simp [RpB.all]) (by decide)) (ho.nf h.lies (g := b.rn.hd) (c := 15) (by simp [RpB.all]) (by decide)) (ho.nf h.lies (g := b.rn.hm) (c := 16) (by simp [RpB.all]) (by decide)), h.la.grow (Ext.refl _ _) hm.size, h.ls.mod hm (ho.nfa h.la (c := 17) (by decide))⟩
theorem RpM.set_tl {w w' : World} {col : Col} {i : Nat} {b : RpB} {me n : Int} {x : RpS} (h : RpM w col i b me n x) {F : Nat → Prop} (hm : Mod F w w') (ho : Off w col i [7] F) {L : List InstV} (hs : MapK w' b.tl L) : RpM w' col i b me n { x with Tl := L } :=
 ⟨h.lies.grow (Ext.refl _ _) hm.size, h.q.mod hm (ho.nf h.lies (g := b.q) (c := 0) (by simp [RpB.all]) (by decide)), h.dk.mod hm (fun k hk => by { rcases hk with rfl | hk; exact (ho.nf h.lies (g := b.dk) (c := 1) (by simp [RpB.all]) (by decide)); exact ho.nfa h.da (c := 2) (by decide) k hk }), h.da.grow (Ext.refl _ _) hm.size, h.sl.mod hm (ho.nf h.lies (g := b.sl) (c := 3) (by simp [RpB.all]) (by decide)), h.ld.mod hm (ho.nf h.lies (g := b.ld) (c := 4) (by simp [RpB.all]) (by decide)), h.rf.mod hm (ho.nf h.lies (g := b.rf) (c := 5) (by simp [RpB.all]) (by decide)), h.wt.mod hm (ho.nf h.lies (g := b.wt) (c := 6) (by simp [RpB.all]) (by decide)), hs, h.rn.mod hm (ho.nf h.lies (g := b.rn.q) (c := 8) (by simp [RpB.all]) (by decide)) (ho.nf h.lies (g := b.rn.kn) (c := 9) (by simp [RpB.all]) (by decide)) (ho.nf h.lies (g := b.rn.dn) (c := 10) (by simp [RpB.all]) (by decide)) (ho.nf h.lies (g := b.rn.tl) (c := 11) (by simp [RpB.all]) (by decide)) (ho.nf h.lies (g := b.rn.bk) (c := 12) (by simp [RpB.all]) (by decide)) (ho.nf h.lies (g := b.rn.ch) (c := 13) (by simp [RpB.all]) (by decide)) (ho.nf h.lies (g := b.rn.cm) (c := 14) (by simp [RpB.all]) (by decide)) (ho.nf h.lies (g := b.rn.hd) (c := 15) (by simp [RpB.all]) (by decide)) (ho.nf h.lies (g := b.rn.hm) (c := 16) (by simp [RpB.all]) (by decide)), h.la.grow (Ext.refl _ _) hm.size, h.ls.mod hm (ho.nfa h.la (c := 17) (by decide))⟩
theorem RpM.set_dk {w w' : World} {col : Col} {i : Nat} {b : RpB} {me n : Int} {x : RpS} (h : RpM w col i b me n x) {F : Nat → Prop} (hm : Mod F w w') (ho : Off w col i [1, 2] F) {A : Option Addr} {c : Nat} {l : List UInt8} {s : Nat} (hd : Dk w' b.dk A c ⟨l, s, RpW, false⟩) (ha : Arr w' col i 2 A) : RpM w' col i b me n { x with A := A, c := c, l := l, s := s } :=
 ⟨h.lies.grow (Ext.refl _ _) hm.size, h.q.mod hm (ho.nf h.lies (g := b.q) (c := 0) (by simp [RpB.all]) (by decide)), hd, ha, h.sl.mod hm (ho.nf h.lies (g := b.sl) (c := 3) (by simp [RpB.all]) (by decide)), h.ld.mod hm (ho.nf h.lies (g := b.ld) (c := 4) (by simp [RpB.all]) (by decide)), h.rf.mod hm (ho.nf h.lies (g := b.rf) (c := 5) (by simp [RpB.all]) (by decide)), h.wt.mod hm (ho.nf h.lies (g := b.wt) (c := 6) (by simp [RpB.all]) (by decide)), h.tl.mod hm (ho.nf h.lies (g := b.tl) (c := 7) (by simp [RpB.all]) (by decide)), h.rn.mod hm (ho.nf h.lies (g := b.rn.q) (c := 8) (by simp [RpB.all]) (by decide)) (ho.nf h.lies (g := b.rn.kn) (c := 9) (by simp [RpB.all]) (by decide)) (ho.nf h.lies (g := b.rn.dn) (c := 10) (by simp [RpB.all]) (by decide)) (ho.nf h.lies (g := b.rn.tl) (c := 11) (by simp [RpB.all]) (by decide)) (ho.nf h.lies (g := b.rn.bk) (c := 12) (by simp [RpB.all]) (by decide)) (ho.nf h.lies (g := b.rn.ch) (c := 13) (by simp [RpB.all]) (by decide)) (ho.nf h.lies (g := b.rn.cm) (c := 14) (by simp [RpB.all]) (by decide)) (ho.nf h.lies (g := b.rn.hd) (c := 15) (by simp [RpB.all]) (by decide)) (ho.nf h.lies (g := b.rn.hm) (c := 16) (by simp [RpB.all]) (by decide)), h.la.grow (Ext.refl _ _) hm.size, h.ls.mod hm (ho.nfa h.la (c := 17) (by decide))⟩
theorem RpM.set_rn {w w' : World} {col : Col} {i : Nat} {b : RpB} {me n : Int} {x : RpS} (h : RpM w col i b me n x) {F : Nat → Prop} (hm : Mod F w w') (ho : Off w col i [8, 9, 10, 11, 12, 13, 14, 15, 16, 17] F) {K D T : List InstV} {A : Option Addr} {ln c : Nat} {C : List Ac} {cl : Int} {lv : List Value} (hr : RnM w' b.rn K D T A ln c C cl) (ha : Arr w' col i 17 A) (hl : Ow w' 40 10 A ln c lv) : RpM w' col i b me n { x with K := K, D := D, T := T, LA := A, ln := ln, lc := c, C := C, cl := cl, lv := lv } :=
 ⟨h.lies.grow (Ext.refl _ _) hm.size, h.q.mod hm (ho.nf h.lies (g := b.q) (c := 0) (by simp [RpB.all]) (by decide)), h.dk.mod hm (fun k hk => by { rcases hk with rfl | hk; exact (ho.nf h.lies (g := b.dk) (c := 1) (by simp [RpB.all]) (by decide)); exact ho.nfa h.da (c := 2) (by decide) k hk }), h.da.grow (Ext.refl _ _) hm.size, h.sl.mod hm (ho.nf h.lies (g := b.sl) (c := 3) (by simp [RpB.all]) (by decide)), h.ld.mod hm (ho.nf h.lies (g := b.ld) (c := 4) (by simp [RpB.all]) (by decide)), h.rf.mod hm (ho.nf h.lies (g := b.rf) (c := 5) (by simp [RpB.all]) (by decide)), h.wt.mod hm (ho.nf h.lies (g := b.wt) (c := 6) (by simp [RpB.all]) (by decide)), h.tl.mod hm (ho.nf h.lies (g := b.tl) (c := 7) (by simp [RpB.all]) (by decide)), hr, ha, hl⟩
theorem RpM.ext {w : World} {col col' : Col} {i : Nat} {b : RpB} {me n : Int} {x : RpS} (h : RpM w col i b me n x) (he : Ext w col col') : RpM w col' i b me n x :=
 ⟨h.lies.grow he (Nat.le_refl _), h.q, h.dk, h.da.grow he (Nat.le_refl _), h.sl, h.ld, h.rf, h.wt, h.tl, h.rn, h.la.grow he (Nat.le_refl _), h.ls⟩
theorem RpM.mod0 {w w' : World} {col : Col} {i : Nat} {b : RpB} {me n : Int} {x : RpS} (h : RpM w col i b me n x) (hm : Mod none_ w w') : RpM w' col i b me n x := h.far hm (Off.none_ _ _ _ _)
def own (col : Col) (i : Nat) : Nat → Prop := fun k => (col k).1 = i
theorem Mod.own {w w1 w2 : World} {col col' : Col} {i : Nat} (h : Mod (own col i) w w1) (he : Ext w col col') (h' : Mod (own col' i) w1 w2) : Mod (own col i) w w2 :=
 h.then h' (fun k hk hg => by unfold Go.Proofs.YtfkfiokkjjnhiaaGreat.own at *; rwa [he k hk] at hg)
theorem own_one {w : World} {col : Col} {i c : Nat} {b : RpB} (h : Lies w col i b) {g : Nat} (hg : (g, c) ∈ b.all) : ∀ k, k = g → own col i k := by
 rintro k rfl; unfold own; rw [(h _ hg).2]
theorem own_arr {w : World} {col : Col} {i c : Nat} {A : Option Addr} (h : Arr w col i c A) : ∀ k, fp A k → own col i k := by
 intro k hk; unfold own; rw [(h k hk).2]
theorem Lies.ne {w : World} {col : Col} {i : Nat} {b : RpB} (h : Lies w col i b) {g c g' c' : Nat} (hg : (g, c) ∈ b.all) (hg' : (g', c') ∈ b.all) (hc : c ≠ c') : g ≠ g' := by
 rintro rfl
 have h1 := (h _ hg).2
 have h2 := (h _ hg').2
 rw [h1] at h2
 simp only [Prod.mk.injEq, true_and] at h2
 exact hc h2
end Go.Proofs.YtfkfiokkjjnhiaaGreat
