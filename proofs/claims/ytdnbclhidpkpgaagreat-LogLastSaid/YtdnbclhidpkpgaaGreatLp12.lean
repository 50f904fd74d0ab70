import Derived.Test.YtdnbclhidpkpgaaGreatLp11
import Derived.BigQuiet
import Derived.Deep.LoopGhost
import Derived.Test.YtdnbclhidpkpgaaGreatLp1
import Derived.Test.YtdnbclhidpkpgaaGreatLp4
import Derived.Maps.OwnSet
import Derived.Maps.RangeWalk
import Derived.WideKeyPair
import Derived.DeepKeys4
import Derived.Test.YtdnbclhidpkpgaaGreatLp2
import Derived.Shelf.SlIter.Collect
/-
  log.Scan. No condition.
-/
namespace Go.Proofs.YtdnbclhidpkpgaaGreat
set_option linter.unusedVariables false
set_option linter.unusedSimpArgs false
open Go.RowKit
def scanR : List (List UInt8) → List Rc × Nat
  | [] => ([], 0)
  | f :: fs => if (rdRec f).2 = 0 then ((rdRec f).1 :: (scanR fs).1, 6 + f.length + (scanR fs).2) else ([], 0)
def logScan (b : List UInt8) : List Rc × Nat := scanR (scan b).1
theorem scanR_no {f : List UInt8} {fs : List (List UInt8)} (h : (rdRec f).2 ≠ 0) : scanR (f :: fs) = ([], 0) := by rw [scanR, if_neg h]
theorem scanR_yes {f : List UInt8} {fs : List (List UInt8)} {r : Rc} (h : rdRec f = (r, 0)) : scanR (f :: fs) = (r :: (scanR fs).1, 6 + f.length + (scanR fs).2) := by
  rw [scanR, h, if_pos rfl]
theorem drop_at {α : Type} {l : List α} {j : Nat} {x : α} (h : l[j]? = some x) : l.drop j = x :: l.drop (j + 1) := by
  obtain ⟨b1, b2⟩ := List.getElem?_eq_some_iff.1 h
  rw [List.drop_eq_getElem_cons b1, b2]
theorem rdRec_in {b : List UInt8} {x : Rc} {f : Nat} (h : rdRec b = (x, f)) : (x.e.o = od0 ∨ okOd x.e.o) ∧ x.e.deps.length ≤ 100 := by
  rcases rdRec_two b with h1 | h1
  · rw [h] at h1
    dsimp only at h1
    subst h1
    obtain ⟨_, _, h3⟩ := rdRec_yes h
    have h5 := h3.2.2.2.2
    by_cases hs : x.st = 0
    · rw [if_pos hs] at h5
      rw [h5]
      exact ⟨.inl rfl, by decide⟩
    · rw [if_neg hs] at h5
      obtain ⟨h6, h7, _⟩ := h5
      refine ⟨?_, h7⟩
      by_cases hb : x.e.none = true
      · rw [if_pos hb] at h6; exact .inl h6
      · rw [if_neg hb] at h6; exact .inr h6.2
  · rw [h] at h1
    simp only [Prod.mk.injEq] at h1
    rw [h1.1]
    exact ⟨.inl rfl, by decide⟩
theorem rangeAt_mod {w w' : World} {g o : Nat} {vs : List Value} (h : w.rangeAt g o vs) (hm : Mod none_ w w') : w'.rangeAt g o vs := fun j v hv => hm.cell_some (h j v hv) (fun h => h)
/-- what was read of a record asks nothing more -/
theorem rdRec_ok {f : List UInt8} {r : Rc} (h : rdRec f = (r, 0)) {w : World} {L D : SV} (hE : EnM w r.e L D) : RsOk ⟨r, L, D⟩ ∧ numsE r.e := by
  obtain ⟨h1, h2, h3⟩ := rdRec_yes h
  obtain ⟨v1, v2⟩ := rdRec_in h
  obtain ⟨v3, v4, v5⟩ := od_facts v1
  have e1 := hE.od.rd.len
  have e2 := hE.rd.len
  refine ⟨⟨?_, ?_, v4, v5⟩, ?_⟩
  · show L.n ≤ _; omega
  · show D.n ≤ _; omega
  · unfold numsE
    rcases v1 with v1 | v1
    · rw [v1]; exact ⟨⟨by decide, by decide⟩, fun l hl => by cases hl⟩
    · exact ⟨v1.2.2.2.2.2.1, fun l hl => (v1.2.2.2.2.2.2.2.1 l hl).2⟩
/-- records that the call made: the row, and what its records' lists hold -/
structure RsN (w W : World) (A : Option Addr) (n c : Nat) (xs : List Rs) : Prop where
  ow : OwR W A n c xs
  mem : RsM W xs
  far : FarsR (fp A) xs
  new : Fresh w A
  news : ∀ x ∈ xs, Fresh w x.L.a ∧ Fresh w x.D.a
  ok : ∀ x ∈ xs, RsOk x ∧ numsE x.r.e
theorem RsN.nil (w W : World) : RsN w W none 0 0 [] := ⟨Ow.nil _ _ _, fun x hx => by (cases hx), fun x hx => by (cases hx), fun a ha => by (cases ha), fun x hx => by (cases hx), fun x hx => by (cases hx)⟩
theorem RsN.mod0 {w W W' : World} {A : Option Addr} {n c : Nat} {xs : List Rs} (h : RsN w W A n c xs) (hm : Mod none_ W W') : RsN w W' A n c xs := ⟨h.ow.mod0 hm, h.mem.mod0 hm, h.far, h.new, h.news, h.ok⟩
theorem RsN.len {w W : World} {A : Option Addr} {n c : Nat} {xs : List Rs} (h : RsN w W A n c xs) : xs.length = n := OwR.len h.ow
theorem RsN.list {w W : World} {A : Option Addr} {n c : Nat} {xs : List Rs} (h : RsN w W A n c xs) : RsL W A n xs := ⟨h.ow.rd, h.mem, fun x hx => (h.ok x hx).1, fun x hx => (h.ok x hx).2⟩
theorem RsN.weaken {w w1 W : World} {A : Option Addr} {n c : Nat} {xs : List Rs} (h : RsN w1 W A n c xs) (h0 : w.heap.size ≤ w1.heap.size) : RsN w W A n c xs := ⟨h.ow, h.mem, h.far, fun a ha => Nat.le_trans h0 (h.new a ha), fun x hx => ⟨fun a ha => Nat.le_trans h0 ((h.news x hx).1 a ha), fun a ha => Nat.le_trans h0 ((h.news x hx).2 a ha)⟩, h.ok⟩
/-- what is changed below leaves them -/
theorem RsN.modB {w W W' : World} {A : Option Addr} {n c : Nat} {xs : List Rs} (h : RsN w W A n c xs) {F : Nat → Prop} (hm : Mod F W W') (hF : ∀ k, F k → k < w.heap.size) : RsN w W' A n c xs := by
  have key : ∀ {B : Option Addr}, Fresh w B → ∀ k, fp B k → ¬ F k := fun hB k ⟨a, ha, hk⟩ hf => by have := hB a ha; have := hF k hf; omega
  exact ⟨h.ow.mod hm (key h.new), h.mem.mod (fun x hx => ⟨fun _ => key (h.news x hx).1, fun _ => key (h.news x hx).2⟩) hm, h.far, h.new, h.news, h.ok⟩
theorem RsN.push {w w1 W W' : World} {A A' : Option Addr} {n c c' : Nat} {xs : List Rs} (h : RsN w W A n c xs) (h0 : w.heap.size ≤ W.heap.size) {x : Rs} (hx : EnM W x.r.e x.L x.D) (hA1 : ∀ k, fp A k → k < w1.heap.size) (hw1 : w.heap.size ≤ w1.heap.size) (hxf : Fresh w1 x.L.a ∧ Fresh w1 x.D.a) (hok : RsOk x ∧ numsE x.r.e)
    (ho : OwR W' A' (n + 1) c' (xs ++ [x])) (hm : Mod (fp A) W W') (hA : A' = A ∨ A' = some ⟨W.heap.size, 0, none⟩) : RsN w W' A' (n + 1) c' (xs ++ [x]) := by
  have hxfar : FarR (fp A) x := ⟨fun _ k ⟨a, ha, hk⟩ hf => by have := hxf.1 a ha; have := hA1 k hf; omega, fun _ k ⟨a, ha, hk⟩ hf => by have := hxf.2 a ha; have := hA1 k hf; omega⟩
  have hall : ∀ y ∈ xs ++ [x], EnM W y.r.e y.L y.D ∧ FarR (fp A) y := fun y hy => by
    rcases List.mem_append.1 hy with hy | hy
    · exact ⟨h.mem y hy, h.far y hy⟩
    · simp at hy; subst hy; exact ⟨hx, hxfar⟩
  refine ⟨ho, fun y hy => (hall y hy).2.en (hall y hy).1 hm, fun y hy => ?_, ?_, fun y hy => ?_, fun y hy => ?_⟩
  · rcases hA with rfl | rfl
    · exact (hall y hy).2
    · exact farR_new (hall y hy).1 (fun k ⟨a, ha, hk⟩ => by cases ha; simp at hk; omega)
  · rcases hA with rfl | rfl
    · exact h.new
    · intro a ha; cases ha; exact h0
  · rcases List.mem_append.1 hy with hy | hy
    · exact h.news y hy
    · simp at hy; subst hy; exact ⟨fun a ha => Nat.le_trans hw1 (hxf.1 a ha), fun a ha => Nat.le_trans hw1 (hxf.2 a ha)⟩
  · rcases List.mem_append.1 hy with hy | hy
    · exact h.ok y hy
    · simp at hy; subst hy; exact hok
theorem scanF_short : ∀ (k : Nat) (l : List UInt8), ∀ f ∈ (scanF k l).1, f.length ≤ 4096
  | 0, _, f, h => by simp [scanF] at h
  | k + 1, l, f, h => by
    simp only [scanF] at h
    split at h
    · cases h
    · split at h
      · cases h
      · rename_i h1
        rcases List.mem_cons.1 h with rfl | h
        · have hb : (body l).length ≤ num l := by unfold body; rw [List.length_take]; omega
          have hn : num l ≤ 4096 := by
            unfold stopE at h1
            by_cases c1 : l.length < 2
            · rw [if_pos c1] at h1; omega
            · rw [if_neg c1] at h1
              by_cases c2 : num l < 1 ∨ 4096 < num l
              · rw [if_pos c2] at h1; omega
              · omega
          omega
        · exact scanF_short k _ f h
theorem scan_short (b : List UInt8) : ∀ f ∈ (scan b).1, f.length ≤ 4096 := scanF_short _ b
def LScanPost (w : World) (b : List UInt8) (e : Ending) (w' : World) : Prop :=
  ∃ A n c xs, e = .returned (.tuple #[.slice A n c, .int .i64 ((logScan b).2 : Nat)]) ∧ RsN w w' A n c xs ∧ xs.map (·.r) = (logScan b).1 ∧ Mod none_ w w'
set_option maxRecDepth 100000 in
set_option maxHeartbeats 8000000 in
theorem logScan_ok (w : World) (A : Option Addr) (n c : Nat) (b : List UInt8) (h : RdB w A n b) (hn : n ≤ c) (hc : c ≤ 9223372036854775807) (hs : n ≤ 1000000) :
    Calls Tryz.prog 12 #[.slice A n c] w (LScanPost w b) := by
  have hl := h.len
  have kS := Lib.hid (scan_ok w A n c b h hn hc hs)
  have hle := scan_le b
  have hsh := scan_short b
  replace h := Lib.hid h
  go_enter Tryz.func12, Tryz.ntmps12
  go_wp2_with fail
  go_step3
  go_wp2_with fail
  refine kS.out.mono ?_
  rintro e w1 ⟨LA, m, lc, ss, rfl, hL, hLA, hm1⟩
  dsimp only
  have hsc : (logScan b) = scanR (scan b).1 := rfl
  have hLl := hL.len
  have hLe := hle.1
  generalize (scan b).1 = fs at *
  generalize (scan b).2.1 = sn at *
  generalize (scan b).2.2 = se at *
  rw [hl] at hLe
  have hmn : m ≤ 1000000 := by omega
  replace hL := Lib.hid hL
  replace hLA := Lib.hid hLA
  replace hm1 := Lib.hid hm1
  replace hsc := Lib.hid hsc
  replace hLl := Lib.hid hLl
  replace hsh := Lib.hid hsh
  clear kS hle
  go_wp2_with fail
  go_step3
  go_wp2_with fail
  go_loopw [7, 8, 23] (fun v s y wr => ∃ (j q : Nat) (B : Option Addr) (d : Nat) (xs : List Rs), y = .int .i64 j ∧ j ≤ m ∧ v = .slice B j d ∧ s = .int .i64 q ∧ q ≤ j * 5000 ∧ RsN w1 wr B j d xs ∧ Mod none_ w1 wr ∧ (scanR fs).1 = xs.map (·.r) ++ (scanR (fs.drop j)).1 ∧ (scanR fs).2 = q + (scanR (fs.drop j)).2) (fun _ _ y _ => m - (intOf y).toNat)
  case atStart => exact ⟨0, 0, none, 0, [], rfl, by omega, rfl, rfl, by omega, (RsN.nil w1 w1), Mod.refl _ _, by simp, by simp⟩
  case round =>
    obtain ⟨j, q, B, d, xs, rfl, hj, rfl, rfl, hq, hN, hm, e1, e2⟩ := hrel
    by_cases hlt : j < m
    · obtain ⟨g, o, ⟨Sa, Sn, Sc⟩, f, hA, hs1, hf1, hcell, hrb, hsn, hscap⟩ := RdLb.at_ (RdLb.mod0 hL.out.rdl hm) hlt
      subst hA
      simp only at hcell hrb hsn hscap
      have hfs := drop_at hf1
      have hfl := hsh.out f (List.mem_of_getElem? hf1)
      have hfn := hrb.len
      have hf0 : Sn ≤ 4096 := by omega
      have kR := logRead_ok wr Sa Sn Sc f hrb (by omega)
      obtain ⟨x, er, hxe⟩ := duo_ (rdRec f)
      rw [hxe] at kR
      rw [hfs] at e1 e2
      have hz : ∀ W, Hid (Blk (World.alloc W (.cells #[.int .i64 0, .int .i64 0, .int .i64 0, .int .i64 0, .int .i64 0, .int .i64 0, .int .i64 0, .int .i64 0, .string ⟨#[]⟩, .string ⟨#[]⟩, .int .i64 0, .slice none 0 0, .int .i64 0, .int .i64 0, .string ⟨#[]⟩, .bool false, .slice none 0 0] 37)) W.heap.size 37 #[.int .i64 0, .int .i64 0, .int .i64 0, .int .i64 0, .int .i64 0, .int .i64 0, .int .i64 0, .int .i64 0, .string ⟨#[]⟩, .string ⟨#[]⟩, .int .i64 0, .slice none 0 0, .int .i64 0, .int .i64 0, .string ⟨#[]⟩, .bool false, .slice none 0 0]) := fun W => Lib.hid (Blk.new W 37 #[.int .i64 0, .int .i64 0, .int .i64 0, .int .i64 0, .int .i64 0, .int .i64 0, .int .i64 0, .int .i64 0, .string ⟨#[]⟩, .string ⟨#[]⟩, .int .i64 0, .slice none 0 0, .int .i64 0, .int .i64 0, .string ⟨#[]⟩, .bool false, .slice none 0 0])
      replace kR := Lib.hid kR
      replace hN := Lib.hid hN
      replace hm := Lib.hid hm
      replace e1 := Lib.hid e1
      replace e2 := Lib.hid e2
      replace hs1 := Lib.hid hs1
      replace hf1 := Lib.hid hf1
      replace hfs := Lib.hid hfs
      replace hrb := Lib.hid hrb
      replace hxe := Lib.hid hxe
      replace hfl := Lib.hid hfl
      replace hfn := Lib.hid hfn
      go_wp2_with fail
      with_reducible refine kR.out.mono ?_
      rintro e w3 ⟨x3, f3, L3, D3, he, rfl, hE3, hfL, hfD, hm3⟩
      simp only [Prod.mk.injEq] at he
      obtain ⟨rfl, rfl⟩ := he
      dsimp only
      have hz3 := hz w3
      have hM3 := Lib.hid (hm.out.trans hm3)
      have hN3 := Lib.hid (hN.out.mod0 hm3)
      have hrb3 := Lib.hid (Rd.mod0 hrb.out hm3 : RdB w3 Sa Sn f)
      have hNlt := Lib.hid (hN.out.ow.lt)
      have hm13 := Lib.hid hm.out
      clear kR hm3 hN hm
      replace hE3 := Lib.hid hE3
      replace hfL := Lib.hid hfL
      replace hfD := Lib.hid hfD
      by_cases her : er = 0
      · subst her
        have hrr := rdRec_yes hxe.out
        have hle1 : 1 ≤ Sn := by have := hfn.out; have := hrr.2.1; have := recB_pos x; rw [← hrr.2.1] at this; omega
        have hok := Lib.hid (rdRec_ok hxe.out hE3.out)
        replace e1 := e1.out
        replace e2 := e2.out
        rw [scanR_yes hxe.out] at e1 e2
        replace e1 := Lib.hid e1
        replace e2 := Lib.hid e2
        clear hrr
        have h00 : (((0 : Nat) : Int)) = 0 := rfl
        rw [h00]
        clear h00
        go_wp2_with (refine wpList_store_blk rfl 37 (.tmp 11) (.tmp 30) rfl w3.heap.size 0 _ rfl rfl hz3.out (by simp) rc_size (by rfl) #[.int .i64 x.i.r, .int .i64 x.i.n, .int .i64 x.bal, .int .i64 x.st, .int .i64 x.by_, .int .i64 x.e.o.c, .int .i64 x.e.o.s, .int .i64 x.e.o.k, .string (txt x.e.o.acct), .string (txt x.e.o.peer), .int .i64 x.e.o.sum, .slice L3.a L3.n L3.c, .int .i64 x.e.o.per, .int .i64 x.e.o.hold, .string (txt x.e.o.note), .bool x.e.none, .slice D3.a D3.n D3.c] rfl ?_; intro w4 hb4 hm4; have hm4' := Lib.hid (((Mod.refl none_ w3).alloc (.cells #[.int .i64 0, .int .i64 0, .int .i64 0, .int .i64 0, .int .i64 0, .int .i64 0, .int .i64 0, .int .i64 0, .string ⟨#[]⟩, .string ⟨#[]⟩, .int .i64 0, .slice none 0 0, .int .i64 0, .int .i64 0, .string ⟨#[]⟩, .bool false, .slice none 0 0] 37)).in_new (Nat.le_refl _) hm4); replace hb4 := Lib.hid hb4; clear hm4)
        have hM4 := Lib.hid (hM3.out.trans hm4'.out)
        have kF := Lib.hid (frame_yes w4 Sa Sn Sc f (Rd.mod0 hrb3.out hm4'.out) hle1 hf0)
        with_reducible refine kF.out.mono ?_
        rintro e w5 ⟨A5, c5, rfl, -, -, hm5⟩
        dsimp only
        have hM5 := Lib.hid (hM4.out.trans hm5)
        have hmm := hm4'.out.trans hm5
        have hN5 := Lib.hid ((hN3.out.mod0 hmm).mod0 ((Mod.refl none_ w5).alloc (.cells #[.int .i64 x.i.r, .int .i64 x.i.n, .int .i64 x.bal, .int .i64 x.st, .int .i64 x.by_, .int .i64 x.e.o.c, .int .i64 x.e.o.s, .int .i64 x.e.o.k, .string (txt x.e.o.acct), .string (txt x.e.o.peer), .int .i64 x.e.o.sum, .slice L3.a L3.n L3.c, .int .i64 x.e.o.per, .int .i64 x.e.o.hold, .string (txt x.e.o.note), .bool x.e.none, .slice D3.a D3.n D3.c] 37)))
        have hE5 := Lib.hid ((hE3.out.mod0 hmm).mod0 ((Mod.refl none_ w5).alloc (.cells #[.int .i64 x.i.r, .int .i64 x.i.n, .int .i64 x.bal, .int .i64 x.st, .int .i64 x.by_, .int .i64 x.e.o.c, .int .i64 x.e.o.s, .int .i64 x.e.o.k, .string (txt x.e.o.acct), .string (txt x.e.o.peer), .int .i64 x.e.o.sum, .slice L3.a L3.n L3.c, .int .i64 x.e.o.per, .int .i64 x.e.o.hold, .string (txt x.e.o.note), .bool x.e.none, .slice D3.a D3.n D3.c] 37)))
        have hb5 := Lib.hid (hb4.out.mod hm5 (fun h => h))
        have hone := Lib.hid (rdR_one w5 ⟨x, L3, D3⟩)
        have hM6 := Lib.hid (hM5.out.alloc (.cells #[.int .i64 x.i.r, .int .i64 x.i.n, .int .i64 x.bal, .int .i64 x.st, .int .i64 x.by_, .int .i64 x.e.o.c, .int .i64 x.e.o.s, .int .i64 x.e.o.k, .string (txt x.e.o.acct), .string (txt x.e.o.peer), .int .i64 x.e.o.sum, .slice L3.a L3.n L3.c, .int .i64 x.e.o.per, .int .i64 x.e.o.hold, .string (txt x.e.o.note), .bool x.e.none, .slice D3.a D3.n D3.c] 37))
        have hsz := Lib.hid (show w1.heap.size ≤ (w5.alloc (.cells #[.int .i64 x.i.r, .int .i64 x.i.n, .int .i64 x.bal, .int .i64 x.st, .int .i64 x.by_, .int .i64 x.e.o.c, .int .i64 x.e.o.s, .int .i64 x.e.o.k, .string (txt x.e.o.acct), .string (txt x.e.o.peer), .int .i64 x.e.o.sum, .slice L3.a L3.n L3.c, .int .i64 x.e.o.per, .int .i64 x.e.o.hold, .string (txt x.e.o.note), .bool x.e.none, .slice D3.a D3.n D3.c] 37)).heap.size from hM6.out.size)
        clear hm5 hmm hm4' hb4 kF hz3 hrb3 hE3 hN3 hM3 hM4 hM5
        go_wp2_with (first
          | (refine wpList_load_row rfl 37 (.tmp 11) rfl w3.heap.size rfl _ _ _ _ hb5.out Tryz.underlying37 rfl rc_size ?_)
          | (at_builtin; go_loud (refine appR rfl (.tmp 39) (.tmp 41) rfl rfl hN5.out.ow rfl hone.out (by omega) ?_; intro A7 c7 w7 ho7 hm7 hA7; replace ho7 := Lib.hid ho7; replace hm7 := Lib.hid hm7; replace hA7 := Lib.hid hA7)))
        go_roundw
        case rel =>
          refine ⟨j + 1, q + (6 + Sn), A7, c7, xs ++ [⟨x, L3, D3⟩], by go_num, by omega, rfl, by go_num, by omega, hN5.out.push (w1 := wr) hsz.out hE5.out hNlt.out hm13.out.size ⟨hfL.out, hfD.out⟩ hok.out ho7.out hm7.out hA7.out, ?_, ?_, ?_⟩
          · exact hM6.out.then hm7.out (fun i hi hf => by obtain ⟨a, ha, hk⟩ := hf; have := hN5.out.new a ha; omega)
          · rw [e1.out]; simp
          · rw [e2.out, hfn.out]; omega
        case measure => simp [intOf]; omega
      · have her2 : ((er : Int) != 0) = true := by simp; omega
        have hres : logScan b = (xs.map (·.r), q) := by
          have h1 := e1.out; have h2 := e2.out
          rw [scanR_no (by rw [hxe.out]; exact her)] at h1 h2
          rw [hsc.out]
          exact Prod.ext (by rw [h1]; simp) (by rw [h2]; simp)
        replace hres := Lib.hid hres
        clear e1 e2 her hrb3 hE3
        go_wp2_with (refine wpList_store_blk rfl 37 (.tmp 11) (.tmp 30) rfl w3.heap.size 0 _ rfl rfl hz3.out (by simp) rc_size (by rfl) #[.int .i64 x.i.r, .int .i64 x.i.n, .int .i64 x.bal, .int .i64 x.st, .int .i64 x.by_, .int .i64 x.e.o.c, .int .i64 x.e.o.s, .int .i64 x.e.o.k, .string (txt x.e.o.acct), .string (txt x.e.o.peer), .int .i64 x.e.o.sum, .slice L3.a L3.n L3.c, .int .i64 x.e.o.per, .int .i64 x.e.o.hold, .string (txt x.e.o.note), .bool x.e.none, .slice D3.a D3.n D3.c] rfl ?_; intro w4 hb4 hm4; have hm4' := Lib.hid (((Mod.refl none_ w3).alloc (.cells #[.int .i64 0, .int .i64 0, .int .i64 0, .int .i64 0, .int .i64 0, .int .i64 0, .int .i64 0, .int .i64 0, .string ⟨#[]⟩, .string ⟨#[]⟩, .int .i64 0, .slice none 0 0, .int .i64 0, .int .i64 0, .string ⟨#[]⟩, .bool false, .slice none 0 0] 37)).in_new (Nat.le_refl _) hm4); clear hm4 hb4)
        rw [Exit.noGoto_ret]
        go_ret2
        exact ⟨B, j, d, xs, by rw [hres.out]; rfl, (hN3.out.mod0 hm4'.out).weaken hm1.out.size, by rw [hres.out], hm1.out.trans (hM3.out.trans hm4'.out)⟩
    · obtain rfl : j = m := by omega
      have hres : logScan b = (xs.map (·.r), q) := by
        rw [List.drop_of_length_le (by rw [hLl.out]; exact Nat.le_refl _)] at e1 e2
        rw [hsc.out]
        exact Prod.ext (by rw [e1]; simp [scanR]) (by rw [e2]; simp [scanR])
      have hend : LScanPost w b (.returned (.tuple #[.slice B j d, .int .i64 (q : Int)])) wr := ⟨B, j, d, xs, by rw [hres], hN.weaken hm1.out.size, by rw [hres], hm1.out.trans hm⟩
      replace hend := Lib.hid hend
      replace hN := Lib.hid hN
      replace hm := Lib.hid hm
      replace e1 := Lib.hid e1
      replace e2 := Lib.hid e2
      clear hres
      go_wp2_with fail
      rw [Exit.noGoto_ret]
      go_ret2
      exact hend.out
end Go.Proofs.YtdnbclhidpkpgaaGreat
/-
  The references' Same, of what is the same. No condition.
-/
namespace Go.Proofs.YtdnbclhidpkpgaaGreat
set_option linter.unusedVariables false
set_option linter.unusedSimpArgs false
open Go.RowKit
theorem neq_id (W : World) (x y : Is) : (binOp .neq 27 (isV x) (isV y)).run Tryz.prog W = .ok (.bool (!decide (x = y))) W := by
  have := eqIn_id W x y
  unfold isV at *
  rw [run_neq_struct, this]; rfl
set_option maxRecDepth 100000 in
set_option maxHeartbeats 4000000 in
theorem same6_eq (w : World) (a : Od) (L M : SV) (ha : OdM w a L) (hb : OdM w a M) (hL : L.n ≤ 140737488355328) :
    Calls Tryz.prog 80 #[.agg #[.int .i64 a.c, .int .i64 a.s, .int .i64 a.k, .string (txt a.acct), .string (txt a.peer), .int .i64 a.sum, .slice L.a L.n L.c, .int .i64 a.per, .int .i64 a.hold, .string (txt a.note)], .agg #[.int .i64 a.c, .int .i64 a.s, .int .i64 a.k, .string (txt a.acct), .string (txt a.peer), .int .i64 a.sum, .slice M.a M.n M.c, .int .i64 a.per, .int .i64 a.hold, .string (txt a.note)]] w fun e w' => e = .returned (.bool true) ∧ Mod none_ w w' := by
  have hid := fun W => neq_id W ⟨a.c, a.s⟩ ⟨a.c, a.s⟩
  unfold isV at hid
  simp only [decide_true, Bool.not_true] at hid
  have hLM : L.n = M.n := by have h1 := ha.rd.len; have h2 := hb.rd.len; omega
  have hz : ((L.n : Int) != (L.n : Int)) = false := by simp
  rw [← hLM]
  have hm0 := ((Mod.refl none_ w).alloc (.cells #[.int .i64 a.c, .int .i64 a.s, .int .i64 a.k, .string (txt a.acct), .string (txt a.peer), .int .i64 a.sum, .slice L.a L.n L.c, .int .i64 a.per, .int .i64 a.hold, .string (txt a.note)] 30)).alloc (.cells #[.int .i64 a.c, .int .i64 a.s, .int .i64 a.k, .string (txt a.acct), .string (txt a.peer), .int .i64 a.sum, .slice M.a L.n M.c, .int .i64 a.per, .int .i64 a.hold, .string (txt a.note)] 30)
  have hb1 := (Blk.new w 30 #[.int .i64 a.c, .int .i64 a.s, .int .i64 a.k, .string (txt a.acct), .string (txt a.peer), .int .i64 a.sum, .slice L.a L.n L.c, .int .i64 a.per, .int .i64 a.hold, .string (txt a.note)]).alloc (.cells #[.int .i64 a.c, .int .i64 a.s, .int .i64 a.k, .string (txt a.acct), .string (txt a.peer), .int .i64 a.sum, .slice M.a L.n M.c, .int .i64 a.per, .int .i64 a.hold, .string (txt a.note)] 30)
  have hb2 := Blk.new (w.alloc (.cells #[.int .i64 a.c, .int .i64 a.s, .int .i64 a.k, .string (txt a.acct), .string (txt a.peer), .int .i64 a.sum, .slice L.a L.n L.c, .int .i64 a.per, .int .i64 a.hold, .string (txt a.note)] 30)) 30 #[.int .i64 a.c, .int .i64 a.s, .int .i64 a.k, .string (txt a.acct), .string (txt a.peer), .int .i64 a.sum, .slice M.a L.n M.c, .int .i64 a.per, .int .i64 a.hold, .string (txt a.note)]
  have hsz : (w.alloc (.cells #[.int .i64 a.c, .int .i64 a.s, .int .i64 a.k, .string (txt a.acct), .string (txt a.peer), .int .i64 a.sum, .slice L.a L.n L.c, .int .i64 a.per, .int .i64 a.hold, .string (txt a.note)] 30)).heap.size = w.heap.size + 1 := by simp
  rw [hsz] at hb2
  clear hsz
  have hRa := Lib.hid ha.rd
  have hRb := Lib.hid (show RdL w M.a L.n a.legs by rw [hLM]; exact hb.rd)
  have hal := Lib.hid ha.rd.len
  clear ha hb
  replace hm0 := Lib.hid hm0
  replace hb1 := Lib.hid hb1
  replace hb2 := Lib.hid hb2
  replace hLM := Lib.hid hLM
  go_enter Tryz.func80, Tryz.ntmps80
  go_wp2_with fail
  obtain ⟨W0, hW0⟩ : ∃ W0, W0 = (w.alloc (.cells #[.int .i64 a.c, .int .i64 a.s, .int .i64 a.k, .string (txt a.acct), .string (txt a.peer), .int .i64 a.sum, .slice L.a L.n L.c, .int .i64 a.per, .int .i64 a.hold, .string (txt a.note)] 30)).alloc (.cells #[.int .i64 a.c, .int .i64 a.s, .int .i64 a.k, .string (txt a.acct), .string (txt a.peer), .int .i64 a.sum, .slice M.a L.n M.c, .int .i64 a.per, .int .i64 a.hold, .string (txt a.note)] 30) := ⟨_, rfl⟩
  rw [← hW0] at hm0 hb1 hb2 ⊢
  replace hW0 := Lib.hid hW0
  go_loopg [5] L.n (fun k x wr => ∃ j : Nat, x = .int .i64 j ∧ j + k = L.n ∧ ∃ q, wr = W0.drewN q)
  case atStart => exact ⟨0, rfl, by omega, 0, rfl⟩
  case round =>
    obtain ⟨j, rfl, hj, q, hq⟩ := hrel
    have c1 : wr.cell? ⟨w.heap.size, 6, none⟩ = some (.slice L.a L.n L.c) := by rw [hq]; exact (hb1.out.drewN q).cell_ rfl
    have c2 : wr.cell? ⟨w.heap.size + 1, 6, none⟩ = some (.slice M.a L.n M.c) := by rw [hq]; exact (hb2.out.drewN q).cell_ rfl
    by_cases hlt : j < L.n
    · have hjC : j < a.legs.length := by rw [hal.out]; exact hlt
      have hmq := hm0.out.drewN q
      obtain ⟨b, o, x0, e1, -, hx0, a1, a2⟩ := rdl_get (w := W0.drewN q) (Rd.mod0 hRa.out hmq) hlt
      rw [List.getElem?_eq_getElem hjC] at hx0
      injection hx0 with hx0
      subst hx0
      obtain ⟨b', o', y0, e2, -, hy0, b1, b2⟩ := rdl_get (w := W0.drewN q) (Rd.mod0 hRb.out hmq) hlt
      rw [List.getElem?_eq_getElem hjC] at hy0
      injection hy0 with hy0
      subst hy0
      rw [← hq] at a1 a2 b1 b2
      rw [e1] at c1
      rw [e2] at c2
      generalize a.legs[j] = x at *
      have hne := fun W => neq_lg W x x
      unfold lgV at hne
      simp only [decide_true, Bool.not_true] at hne
      clear hmq
      replace hq := Lib.hid hq
      replace hjC := Lib.hid hjC
      replace e1 := Lib.hid e1
      replace e2 := Lib.hid e2
      go_wp2_with (go_quiet (fail))
      go_roundg (gk - 1)
      case measure => omega
      case rel => exact ⟨j + 1, by go_num, by omega, _, by rw [hq.out, World.drewN_drewN]⟩
    · obtain rfl : j = L.n := by omega
      have hend := Lib.hid (show Mod none_ w wr by rw [hq]; exact hm0.out.drewN q)
      replace hq := Lib.hid hq
      go_wp2_with fail
      go_ret
      exact ⟨rfl, hend.out⟩
set_option maxRecDepth 100000 in
set_option maxHeartbeats 4000000 in
theorem same14_eq (w : World) (a : En) (L D M E : SV) (ha : EnM w a L D) (hb : EnM w a M E) (hL : L.n ≤ 140737488355328) (hD : D.n ≤ 140737488355328) :
    Calls Tryz.prog 45 #[.agg #[.int .i64 a.o.c, .int .i64 a.o.s, .int .i64 a.o.k, .string (txt a.o.acct), .string (txt a.o.peer), .int .i64 a.o.sum, .slice L.a L.n L.c, .int .i64 a.o.per, .int .i64 a.o.hold, .string (txt a.o.note), .bool a.none, .slice D.a D.n D.c], .agg #[.int .i64 a.o.c, .int .i64 a.o.s, .int .i64 a.o.k, .string (txt a.o.acct), .string (txt a.o.peer), .int .i64 a.o.sum, .slice M.a M.n M.c, .int .i64 a.o.per, .int .i64 a.o.hold, .string (txt a.o.note), .bool a.none, .slice E.a E.n E.c]] w fun e w' => e = .returned (.bool true) ∧ Mod none_ w w' := by
  have k6 := Lib.hid (fun W (h : Mod none_ w W) => same6_eq W a.o L M (ha.od.mod0 h) (hb.od.mod0 h) hL)
  have hDE : D.n = E.n := by have h1 := ha.rd.len; have h2 := hb.rd.len; omega
  have hz : ((D.n : Int) != (D.n : Int)) = false := by simp
  have hz2 : (a.none != a.none) = false := by simp
  rw [← hDE]
  have hm0 := ((Mod.refl none_ w).alloc (.cells #[.int .i64 a.o.c, .int .i64 a.o.s, .int .i64 a.o.k, .string (txt a.o.acct), .string (txt a.o.peer), .int .i64 a.o.sum, .slice L.a L.n L.c, .int .i64 a.o.per, .int .i64 a.o.hold, .string (txt a.o.note), .bool a.none, .slice D.a D.n D.c] 33)).alloc (.cells #[.int .i64 a.o.c, .int .i64 a.o.s, .int .i64 a.o.k, .string (txt a.o.acct), .string (txt a.o.peer), .int .i64 a.o.sum, .slice M.a M.n M.c, .int .i64 a.o.per, .int .i64 a.o.hold, .string (txt a.o.note), .bool a.none, .slice E.a D.n E.c] 33)
  have hb1 := (Blk.new w 33 #[.int .i64 a.o.c, .int .i64 a.o.s, .int .i64 a.o.k, .string (txt a.o.acct), .string (txt a.o.peer), .int .i64 a.o.sum, .slice L.a L.n L.c, .int .i64 a.o.per, .int .i64 a.o.hold, .string (txt a.o.note), .bool a.none, .slice D.a D.n D.c]).alloc (.cells #[.int .i64 a.o.c, .int .i64 a.o.s, .int .i64 a.o.k, .string (txt a.o.acct), .string (txt a.o.peer), .int .i64 a.o.sum, .slice M.a M.n M.c, .int .i64 a.o.per, .int .i64 a.o.hold, .string (txt a.o.note), .bool a.none, .slice E.a D.n E.c] 33)
  have hb2 := Blk.new (w.alloc (.cells #[.int .i64 a.o.c, .int .i64 a.o.s, .int .i64 a.o.k, .string (txt a.o.acct), .string (txt a.o.peer), .int .i64 a.o.sum, .slice L.a L.n L.c, .int .i64 a.o.per, .int .i64 a.o.hold, .string (txt a.o.note), .bool a.none, .slice D.a D.n D.c] 33)) 33 #[.int .i64 a.o.c, .int .i64 a.o.s, .int .i64 a.o.k, .string (txt a.o.acct), .string (txt a.o.peer), .int .i64 a.o.sum, .slice M.a M.n M.c, .int .i64 a.o.per, .int .i64 a.o.hold, .string (txt a.o.note), .bool a.none, .slice E.a D.n E.c]
  have hsz : (w.alloc (.cells #[.int .i64 a.o.c, .int .i64 a.o.s, .int .i64 a.o.k, .string (txt a.o.acct), .string (txt a.o.peer), .int .i64 a.o.sum, .slice L.a L.n L.c, .int .i64 a.o.per, .int .i64 a.o.hold, .string (txt a.o.note), .bool a.none, .slice D.a D.n D.c] 33)).heap.size = w.heap.size + 1 := by simp
  rw [hsz] at hb2
  clear hsz
  have hRa := Lib.hid ha.rd
  have hRb := Lib.hid (show RdP w E.a D.n a.deps by rw [hDE]; exact hb.rd)
  have hal := Lib.hid ha.rd.len
  clear ha hb
  replace hm0 := Lib.hid hm0
  replace hb1 := Lib.hid hb1
  replace hb2 := Lib.hid hb2
  replace hDE := Lib.hid hDE
  go_enter Tryz.func45, Tryz.ntmps45
  go_wp2_with fail
  with_reducible refine (k6.out _ hm0.out).mono ?_
  rintro e W0 ⟨rfl, hm1⟩
  dsimp only
  have hM1 := Lib.hid (hm0.out.trans hm1)
  have hB1 := Lib.hid (hb1.out.mod hm1 (fun h => h))
  have hB2 := Lib.hid (hb2.out.mod hm1 (fun h => h))
  have i1 : W0.cell? ⟨w.heap.size, 10, none⟩ = some (.bool a.none) := hB1.out.cell_ rfl
  have i2 : W0.cell? ⟨w.heap.size + 1, 10, none⟩ = some (.bool a.none) := hB2.out.cell_ rfl
  have i3 : W0.cell? ⟨w.heap.size, 11, none⟩ = some (.slice D.a D.n D.c) := hB1.out.cell_ rfl
  have i4 : W0.cell? ⟨w.heap.size + 1, 11, none⟩ = some (.slice E.a D.n E.c) := hB2.out.cell_ rfl
  clear hm1 hb1 hb2 hm0 k6
  go_wp2_with fail
  clear i1 i2 i3 i4
  go_loopg [5] D.n (fun k x wr => ∃ j : Nat, x = .int .i64 j ∧ j + k = D.n ∧ ∃ q, wr = W0.drewN q)
  case atStart => exact ⟨0, rfl, by omega, 0, rfl⟩
  case round =>
    obtain ⟨j, rfl, hj, q, hq⟩ := hrel
    have c1 : wr.cell? ⟨w.heap.size, 11, none⟩ = some (.slice D.a D.n D.c) := by rw [hq]; exact (hB1.out.drewN q).cell_ rfl
    have c2 : wr.cell? ⟨w.heap.size + 1, 11, none⟩ = some (.slice E.a D.n E.c) := by rw [hq]; exact (hB2.out.drewN q).cell_ rfl
    by_cases hlt : j < D.n
    · have hjC : j < a.deps.length := by rw [hal.out]; exact hlt
      have hmq := hM1.out.drewN q
      obtain ⟨b, o, x0, e1, -, hx0, a1, a2⟩ := rdp_get (w := W0.drewN q) (Rd.mod0 hRa.out hmq) hlt
      rw [List.getElem?_eq_getElem hjC] at hx0
      injection hx0 with hx0
      subst hx0
      obtain ⟨b', o', y0, e2, -, hy0, b1, b2⟩ := rdp_get (w := W0.drewN q) (Rd.mod0 hRb.out hmq) hlt
      rw [List.getElem?_eq_getElem hjC] at hy0
      injection hy0 with hy0
      subst hy0
      rw [← hq] at a1 a2 b1 b2
      rw [e1] at c1
      rw [e2] at c2
      generalize a.deps[j] = x at *
      have hne := fun W => neq_is W x x
      unfold isV at hne
      simp only [decide_true, Bool.not_true] at hne
      clear hmq
      replace hq := Lib.hid hq
      replace hjC := Lib.hid hjC
      replace e1 := Lib.hid e1
      replace e2 := Lib.hid e2
      go_wp2_with (go_quiet (fail))
      go_roundg (gk - 1)
      case measure => omega
      case rel => exact ⟨j + 1, by go_num, by omega, _, by rw [hq.out, World.drewN_drewN]⟩
    · obtain rfl : j = D.n := by omega
      have hend := Lib.hid (show Mod none_ w wr by rw [hq]; exact hM1.out.drewN q)
      replace hq := Lib.hid hq
      go_wp2_with fail
      go_ret
      exact ⟨rfl, hend.out⟩
end Go.Proofs.YtdnbclhidpkpgaaGreat
/-
  The reference's Same of records, of what is the same. No condition.
-/
namespace Go.Proofs.YtdnbclhidpkpgaaGreat
set_option linter.unusedVariables false
set_option linter.unusedSimpArgs false
open Go.RowKit
theorem rangeAt_drop {w : World} {b o : Nat} {cs : List Value} (h : w.rangeAt b o cs) (k : Nat) : w.rangeAt b (o + k) (cs.drop k) := fun j v hv => by
  rw [List.getElem?_drop] at hv
  rw [Nat.add_assoc]
  exact h (k + j) v hv
theorem rangeAt_take2 {w : World} {b o : Nat} {a c : Value} {cs : List Value} (h : w.rangeAt b o (a :: c :: cs)) : w.rangeAt b o [a, c] := fun j v hv => by
  match j, hv with
  | 0, hv => exact h 0 v hv
  | 1, hv => exact h 1 v hv
theorem step_store_blk {ops : Array Oper} {op : Oper} {a : Act} {w : World} {K : Act → World → Prop} {Q : Exit → Act → World → Prop} {E : Prop} {P : Program} (hgd : op.guard = none) (ty : TypeId) (x y : Operand) (ho : op.op = .store ty x y)
    (g o : Nat) (cells : Array Value) (hx : a.eval x = .pointer (some ⟨g, o, none⟩)) (hy : a.eval y = .agg cells) {t : TypeId} {cs : Array Value} (hb : Blk w g t cs) (hn : o + cells.size ≤ cs.size)
    (hi : (P.info? ty).map (·.size) = some cells.size) (h1 : cells.toList.all (·.oneCell') = true) (cs' : Array Value) (hcs : cs.toList.take o ++ (cells.toList ++ cs.toList.drop (o + cells.size)) = cs'.toList)
    (h : ∀ w', Blk w' g t cs' → Mod (only g) w w' → K (a.put op.dst undef) w') : if Region.wanted op (yielded ops a.tmps) = true then Oper.wp P op a w K Q else E := by
  rw [if_pos (by simp [Region.wanted, hgd])]
  exact wp_store_mid ty x y ho g o cells hx hy (hb.there o _ hn) hi (by rw [← Array.all_toList]; exact h1) (h _ (by have e := setL_toList cells.toList cs o (by simpa using hn); rw [Array.length_toList, hcs, Array.toList_inj] at e; rw [← e]; exact Blk.setCells _ _ _ _ hb) (Mod.setCells _ _ _ _ (Mod.refl _ w) rfl))
set_option maxRecDepth 100000 in
set_option maxHeartbeats 8000000 in
theorem same15_eq (w : World) (A B : Option Addr) (n m c d : Nat) (xs ys : List Rs) (hA : RsL w A n xs) (hB : RsL w B m ys) (he : xs.map (·.r) = ys.map (·.r)) (hn : n ≤ 140737488355328) :
    Calls Tryz.prog 14 #[.slice A n c, .slice B m d] w fun e w' => e = .returned (.bool true) ∧ Mod none_ w w' := by
  have hnm : m = n := by
    have h1 := hA.len; have h2 := hB.len
    have := congrArg List.length he
    simp at this; omega
  subst hnm
  have hz : ((m : Int) != (m : Int)) = false := by simp
  replace hA := Lib.hid hA
  replace hB := Lib.hid hB
  replace he := Lib.hid he
  go_enter Tryz.func14, Tryz.ntmps14
  go_wp2_with fail
  go_loopg [5] m (fun k x wr => ∃ j : Nat, x = .int .i64 j ∧ j + k = m ∧ Mod none_ w wr)
  case atStart => exact ⟨0, rfl, by omega, Mod.refl _ _⟩
  case round =>
    obtain ⟨j, rfl, hj, hm⟩ := hrel
    by_cases hlt : j < m
    · obtain ⟨g, o, x, e1, hxm, hx, hrg⟩ := rdr_get (w := wr) (Rd.mod0 hA.out.rd hm) hlt
      obtain ⟨g', o', y, e2, hym, hy, hrg'⟩ := rdr_get (w := wr) (Rd.mod0 hB.out.rd hm) hlt
      subst e1 e2
      have hr : y.r = x.r := by
        have := congrArg (fun l => l[j]?) he.out
        simp only [List.getElem?_map, hx, hy, Option.map_some, Option.some.injEq] at this
        exact this.symm
      have hEx := (hA.out.mem x hxm).mod0 hm
      have hEy := (hB.out.mem y hym).mod0 hm
      obtain ⟨q1, q2, _, _⟩ := hA.out.ok x hxm
      obtain ⟨yr, M, E⟩ := y
      simp only at hr
      subst hr
      have hs1 := rangeAt_drop hrg 2
      have hs2 := rangeAt_drop hrg' 2
      simp only [rsC, List.drop_succ_cons, List.drop_zero] at hs1 hs2
      unfold rsC at hrg hrg'
      simp only at hEy hrg'
      replace hm := Lib.hid hm
      replace hxm := Lib.hid hxm
      replace hx := Lib.hid hx
      replace hym := Lib.hid hym
      replace hy := Lib.hid hy
      replace hrg := Lib.hid hrg
      replace hrg' := Lib.hid hrg'
      replace hEx := Lib.hid hEx
      replace hEy := Lib.hid hEy
      replace hs1 := Lib.hid hs1
      replace hs2 := Lib.hid hs2
      go_upto_region 6 with fail
      go_cut [6, 7] from 19 to 28 (fun s6 s7 wx => ∃ p q : Nat, s6 = .pointer (some ⟨p, 0, none⟩) ∧ s7 = .pointer (some ⟨q, 0, none⟩) ∧ Blk wx p 35 #[.int .i64 x.r.bal, .int .i64 x.r.st, .int .i64 x.r.by_, .int .i64 x.r.e.o.c, .int .i64 x.r.e.o.s, .int .i64 x.r.e.o.k, .string (txt x.r.e.o.acct), .string (txt x.r.e.o.peer), .int .i64 x.r.e.o.sum, .slice x.L.a x.L.n x.L.c, .int .i64 x.r.e.o.per, .int .i64 x.r.e.o.hold, .string (txt x.r.e.o.note), .bool x.r.e.none, .slice x.D.a x.D.n x.D.c] ∧ Blk wx q 35 #[.int .i64 x.r.bal, .int .i64 x.r.st, .int .i64 x.r.by_, .int .i64 x.r.e.o.c, .int .i64 x.r.e.o.s, .int .i64 x.r.e.o.k, .string (txt x.r.e.o.acct), .string (txt x.r.e.o.peer), .int .i64 x.r.e.o.sum, .slice M.a M.n M.c, .int .i64 x.r.e.o.per, .int .i64 x.r.e.o.hold, .string (txt x.r.e.o.note), .bool x.r.e.none, .slice E.a E.n E.c] ∧ Mod none_ wr wx)
      case first =>
        have hSm : ∀ W, Mod none_ wr W → W.rangeAt g (o + j * 17 + 2) [.int .i64 x.r.bal, .int .i64 x.r.st, .int .i64 x.r.by_, .int .i64 x.r.e.o.c, .int .i64 x.r.e.o.s, .int .i64 x.r.e.o.k, .string (txt x.r.e.o.acct), .string (txt x.r.e.o.peer), .int .i64 x.r.e.o.sum, .slice x.L.a x.L.n x.L.c, .int .i64 x.r.e.o.per, .int .i64 x.r.e.o.hold, .string (txt x.r.e.o.note), .bool x.r.e.none, .slice x.D.a x.D.n x.D.c] ∧ W.rangeAt g' (o' + j * 17 + 2) [.int .i64 x.r.bal, .int .i64 x.r.st, .int .i64 x.r.by_, .int .i64 x.r.e.o.c, .int .i64 x.r.e.o.s, .int .i64 x.r.e.o.k, .string (txt x.r.e.o.acct), .string (txt x.r.e.o.peer), .int .i64 x.r.e.o.sum, .slice M.a M.n M.c, .int .i64 x.r.e.o.per, .int .i64 x.r.e.o.hold, .string (txt x.r.e.o.note), .bool x.r.e.none, .slice E.a E.n E.c] := fun W hM => ⟨rangeAt_mod hs1.out hM, rangeAt_mod hs2.out hM⟩
        have hS0 := hSm _ ((Mod.refl none_ wr).drew)
        have hm1 := ((Mod.refl none_ wr).drew).alloc (.cells #[.int .i64 0, .int .i64 0, .int .i64 0, .int .i64 0, .int .i64 0, .int .i64 0, .string ⟨#[]⟩, .string ⟨#[]⟩, .int .i64 0, .slice none 0 0, .int .i64 0, .int .i64 0, .string ⟨#[]⟩, .bool false, .slice none 0 0] 35)
        have hm2 := hm1.alloc (.cells #[.int .i64 0, .int .i64 0, .int .i64 0, .int .i64 0, .int .i64 0, .int .i64 0, .string ⟨#[]⟩, .string ⟨#[]⟩, .int .i64 0, .slice none 0 0, .int .i64 0, .int .i64 0, .string ⟨#[]⟩, .bool false, .slice none 0 0] 35)
        have hS1 := hSm _ hm1
        have hS2 := hSm _ hm2
        have hB1 := (Blk.new wr.drew 35 #[.int .i64 0, .int .i64 0, .int .i64 0, .int .i64 0, .int .i64 0, .int .i64 0, .string ⟨#[]⟩, .string ⟨#[]⟩, .int .i64 0, .slice none 0 0, .int .i64 0, .int .i64 0, .string ⟨#[]⟩, .bool false, .slice none 0 0]).alloc (.cells #[.int .i64 0, .int .i64 0, .int .i64 0, .int .i64 0, .int .i64 0, .int .i64 0, .string ⟨#[]⟩, .string ⟨#[]⟩, .int .i64 0, .slice none 0 0, .int .i64 0, .int .i64 0, .string ⟨#[]⟩, .bool false, .slice none 0 0] 35)
        have hB2 := Blk.new (wr.drew.alloc (.cells #[.int .i64 0, .int .i64 0, .int .i64 0, .int .i64 0, .int .i64 0, .int .i64 0, .string ⟨#[]⟩, .string ⟨#[]⟩, .int .i64 0, .slice none 0 0, .int .i64 0, .int .i64 0, .string ⟨#[]⟩, .bool false, .slice none 0 0] 35)) 35 #[.int .i64 0, .int .i64 0, .int .i64 0, .int .i64 0, .int .i64 0, .int .i64 0, .string ⟨#[]⟩, .string ⟨#[]⟩, .int .i64 0, .slice none 0 0, .int .i64 0, .int .i64 0, .string ⟨#[]⟩, .bool false, .slice none 0 0]
        have hsz : (wr.drew.alloc (.cells #[.int .i64 0, .int .i64 0, .int .i64 0, .int .i64 0, .int .i64 0, .int .i64 0, .string ⟨#[]⟩, .string ⟨#[]⟩, .int .i64 0, .slice none 0 0, .int .i64 0, .int .i64 0, .string ⟨#[]⟩, .bool false, .slice none 0 0] 35)).heap.size = wr.heap.size + 1 := by simp
        rw [hsz] at hB2
        have hsz0 : wr.drew.heap.size = wr.heap.size := rfl
        rw [hsz0] at hB1
        clear hsz hsz0
        refine wp_region_held_drew (S := fun W => W.rangeAt g (o + j * 17 + 2) [.int .i64 x.r.bal, .int .i64 x.r.st, .int .i64 x.r.by_, .int .i64 x.r.e.o.c, .int .i64 x.r.e.o.s, .int .i64 x.r.e.o.k, .string (txt x.r.e.o.acct), .string (txt x.r.e.o.peer), .int .i64 x.r.e.o.sum, .slice x.L.a x.L.n x.L.c, .int .i64 x.r.e.o.per, .int .i64 x.r.e.o.hold, .string (txt x.r.e.o.note), .bool x.r.e.none, .slice x.D.a x.D.n x.D.c] ∧ W.rangeAt g' (o' + j * 17 + 2) [.int .i64 x.r.bal, .int .i64 x.r.st, .int .i64 x.r.by_, .int .i64 x.r.e.o.c, .int .i64 x.r.e.o.s, .int .i64 x.r.e.o.k, .string (txt x.r.e.o.acct), .string (txt x.r.e.o.peer), .int .i64 x.r.e.o.sum, .slice M.a M.n M.c, .int .i64 x.r.e.o.per, .int .i64 x.r.e.o.hold, .string (txt x.r.e.o.note), .bool x.r.e.none, .slice E.a E.n E.c]) (by kernel_rfl) hS0 (fun hHeld => ?_)
        refine wpAnyH_take (i := 0) (v := ?_) rfl (by kernel_rfl) (by kernel_rfl) (by kernel_rfl) (fun _ _ _ h => h) (Or.inl ⟨by rfl, ?_⟩) (by assumption) ?_
        rotate_left
        · intro W hSw; (try dsimp only at hSw); go_simp; (try with_reducible rfl)
        try simp only [Act.put, List.getElem_toArray, List.getElem_cons_zero, List.getElem_cons_succ, List.setIfInBounds_toArray, List.set_cons_zero, List.set_cons_succ]
        refine wpAnyH_take (i := 1) (v := ?_) rfl (by kernel_rfl) (by kernel_rfl) (by kernel_rfl) (fun _ _ _ h => h) (Or.inl ⟨by rfl, ?_⟩) (by assumption) ?_
        rotate_left
        · intro W hSw; (try dsimp only at hSw); go_simp; (try with_reducible rfl)
        try simp only [Act.put, List.getElem_toArray, List.getElem_cons_zero, List.getElem_cons_succ, List.setIfInBounds_toArray, List.set_cons_zero, List.set_cons_succ]
        refine wpAnyH_take (i := 2) (v := ?_) rfl (by kernel_rfl) (by kernel_rfl) (by kernel_rfl) (fun _ _ _ h => h) (Or.inl ⟨by rfl, ?_⟩) (by assumption) ?_
        rotate_left
        · intro W hSw; (try dsimp only at hSw); go_simp; (try with_reducible rfl)
        try simp only [Act.put, List.getElem_toArray, List.getElem_cons_zero, List.getElem_cons_succ, List.setIfInBounds_toArray, List.set_cons_zero, List.set_cons_succ]
        refine wpAnyH_take (i := 3) (v := ?_) rfl (by kernel_rfl) (by kernel_rfl) (by kernel_rfl) (fun _ _ _ h => h) (Or.inl ⟨by rfl, ?_⟩) (by assumption) ?_
        rotate_left
        · intro W hSw; (try dsimp only at hSw); go_simp; (try with_reducible rfl)
        try simp only [Act.put, List.getElem_toArray, List.getElem_cons_zero, List.getElem_cons_succ, List.setIfInBounds_toArray, List.set_cons_zero, List.set_cons_succ]
        refine wpAnyH_take (i := 4) rfl (by kernel_rfl) (by kernel_rfl) (by kernel_rfl) (fun _ _ _ h => h) (yieldsIf_load_mid (by rfl) 35 (.tmp 22) rfl g (o + j * 17 + 2) rfl [.int .i64 x.r.bal, .int .i64 x.r.st, .int .i64 x.r.by_, .int .i64 x.r.e.o.c, .int .i64 x.r.e.o.s, .int .i64 x.r.e.o.k, .string (txt x.r.e.o.acct), .string (txt x.r.e.o.peer), .int .i64 x.r.e.o.sum, .slice x.L.a x.L.n x.L.c, .int .i64 x.r.e.o.per, .int .i64 x.r.e.o.hold, .string (txt x.r.e.o.note), .bool x.r.e.none, .slice x.D.a x.D.n x.D.c] _ (fun W hW => hW.1) Tryz.underlying35 rfl slot_size) (by assumption) ?_
        try simp only [Act.put, List.getElem_toArray, List.getElem_cons_zero, List.getElem_cons_succ, List.setIfInBounds_toArray, List.set_cons_zero, List.set_cons_succ]
        refine wpAnyH_take (i := 5) (v := ?_) rfl (by kernel_rfl) (by kernel_rfl) (by kernel_rfl) (fun _ _ _ h => h) (Or.inl ⟨by rfl, ?_⟩) (by assumption) ?_
        rotate_left
        · intro W hSw; (try dsimp only at hSw); go_simp; (try with_reducible rfl)
        try simp only [Act.put, List.getElem_toArray, List.getElem_cons_zero, List.getElem_cons_succ, List.setIfInBounds_toArray, List.set_cons_zero, List.set_cons_succ]
        refine wpAnyH_take (i := 6) (v := ?_) rfl (by kernel_rfl) (by kernel_rfl) (by kernel_rfl) (fun _ _ _ h => h) (Or.inl ⟨by rfl, ?_⟩) (by assumption) ?_
        rotate_left
        · intro W hSw; (try dsimp only at hSw); go_simp; (try with_reducible rfl)
        try simp only [Act.put, List.getElem_toArray, List.getElem_cons_zero, List.getElem_cons_succ, List.setIfInBounds_toArray, List.set_cons_zero, List.set_cons_succ]
        refine wpAnyH_take (i := 7) (v := ?_) rfl (by kernel_rfl) (by kernel_rfl) (by kernel_rfl) (fun _ _ _ h => h) (Or.inl ⟨by rfl, ?_⟩) (by assumption) ?_
        rotate_left
        · intro W hSw; (try dsimp only at hSw); go_simp; (try with_reducible rfl)
        try simp only [Act.put, List.getElem_toArray, List.getElem_cons_zero, List.getElem_cons_succ, List.setIfInBounds_toArray, List.set_cons_zero, List.set_cons_succ]
        refine wpAnyH_take (i := 8) (v := ?_) rfl (by kernel_rfl) (by kernel_rfl) (by kernel_rfl) (fun _ _ _ h => h) (Or.inl ⟨by rfl, ?_⟩) (by assumption) ?_
        rotate_left
        · intro W hSw; (try dsimp only at hSw); go_simp; (try with_reducible rfl)
        try simp only [Act.put, List.getElem_toArray, List.getElem_cons_zero, List.getElem_cons_succ, List.setIfInBounds_toArray, List.set_cons_zero, List.set_cons_succ]
        refine wpAnyH_take (i := 9) rfl (by kernel_rfl) (by kernel_rfl) (by kernel_rfl) (fun _ _ _ h => h) (yieldsIf_load_mid (by rfl) 35 (.tmp 27) rfl g' (o' + j * 17 + 2) rfl [.int .i64 x.r.bal, .int .i64 x.r.st, .int .i64 x.r.by_, .int .i64 x.r.e.o.c, .int .i64 x.r.e.o.s, .int .i64 x.r.e.o.k, .string (txt x.r.e.o.acct), .string (txt x.r.e.o.peer), .int .i64 x.r.e.o.sum, .slice M.a M.n M.c, .int .i64 x.r.e.o.per, .int .i64 x.r.e.o.hold, .string (txt x.r.e.o.note), .bool x.r.e.none, .slice E.a E.n E.c] _ (fun W hW => hW.2) Tryz.underlying35 rfl slot_size) (by assumption) ?_
        try simp only [Act.put, List.getElem_toArray, List.getElem_cons_zero, List.getElem_cons_succ, List.setIfInBounds_toArray, List.set_cons_zero, List.set_cons_succ]
        refine wpAnyH_ready (rs := [10, 11]) (by kernel_rfl) (by simp) ?_
        refine AllReadyH.cons rfl (fun K hK => ?_) (AllReadyH.cons rfl (fun K hK => ?_) AllReadyH.nil)
        focus
          go_simp
          refine hK.out _ _ (hS1) (fun hHeld => ?_)
          clear hK K
          try simp only [Act.put, List.getElem_toArray, List.getElem_cons_zero, List.getElem_cons_succ, List.setIfInBounds_toArray, List.set_cons_zero, List.set_cons_succ]
          refine wpAnyH_ready (rs := [11]) (by kernel_rfl) (by simp) ?_
          refine AllReadyH.cons rfl (fun K hK => ?_) AllReadyH.nil
          go_simp
          refine hK.out _ _ (hS2) (fun hHeld => ?_)
          clear hK K
          try simp only [Act.put, List.getElem_toArray, List.getElem_cons_zero, List.getElem_cons_succ, List.setIfInBounds_toArray, List.set_cons_zero, List.set_cons_succ]
          refine wpAnyH_ready (rs := [12]) (by kernel_rfl) (by simp) ?_
          refine AllReadyH.cons rfl (fun K hK => ?_) AllReadyH.nil
          refine step_store_blk rfl 35 (.tmp 6) (.tmp 23) rfl (wr.heap.size) 0 _ rfl rfl hB1 (by simp) slot_size (by rfl) #[.int .i64 x.r.bal, .int .i64 x.r.st, .int .i64 x.r.by_, .int .i64 x.r.e.o.c, .int .i64 x.r.e.o.s, .int .i64 x.r.e.o.k, .string (txt x.r.e.o.acct), .string (txt x.r.e.o.peer), .int .i64 x.r.e.o.sum, .slice x.L.a x.L.n x.L.c, .int .i64 x.r.e.o.per, .int .i64 x.r.e.o.hold, .string (txt x.r.e.o.note), .bool x.r.e.none, .slice x.D.a x.D.n x.D.c] rfl ?_
          intro w3 hb3 hm3
          have hB3 := hB2.mod hm3 (fun h => by have : wr.heap.size + 1 = wr.heap.size := h; omega)
          have hm3' := hm2.in_new (by omega) hm3
          have hS3 := hSm _ hm3'
          refine hK.out _ _ (hS3) (fun hHeld => ?_)
          clear hK K
          try simp only [Act.put, List.getElem_toArray, List.getElem_cons_zero, List.getElem_cons_succ, List.setIfInBounds_toArray, List.set_cons_zero, List.set_cons_succ]
          refine wpAnyH_ready (rs := [13]) (by kernel_rfl) (by simp) ?_
          refine AllReadyH.cons rfl (fun K hK => ?_) AllReadyH.nil
          refine step_store_blk rfl 35 (.tmp 7) (.tmp 28) rfl (wr.heap.size + 1) 0 _ rfl rfl hB3 (by simp) slot_size (by rfl) #[.int .i64 x.r.bal, .int .i64 x.r.st, .int .i64 x.r.by_, .int .i64 x.r.e.o.c, .int .i64 x.r.e.o.s, .int .i64 x.r.e.o.k, .string (txt x.r.e.o.acct), .string (txt x.r.e.o.peer), .int .i64 x.r.e.o.sum, .slice M.a M.n M.c, .int .i64 x.r.e.o.per, .int .i64 x.r.e.o.hold, .string (txt x.r.e.o.note), .bool x.r.e.none, .slice E.a E.n E.c] rfl ?_
          intro w4 hb4 hm4
          have hb4' := hb3.mod hm4 (fun h => by have : wr.heap.size = wr.heap.size + 1 := h; omega)
          have hm4' := hm3'.in_new (by omega) hm4
          have hS4 := hSm _ hm4'
          refine hK.out _ _ (hS4) (fun hHeld => ?_)
          clear hK K
          try simp only [Act.put, List.getElem_toArray, List.getElem_cons_zero, List.getElem_cons_succ, List.setIfInBounds_toArray, List.set_cons_zero, List.set_cons_succ]
          refine wpAnyH_done (by kernel_rfl) ?_ _
          clear hHeld hS1 hS2 hS3 hS4 hSm hm1 hm2 hm3' hm3 hm4 hB3 hb3 hB1 hB2
          replace hb4 := Lib.hid hb4
          replace hb4' := Lib.hid hb4'
          replace hm4' := Lib.hid hm4'
          go_wp2_with fail
          all_goals go_meet
          exact ⟨wr.heap.size, wr.heap.size + 1, rfl, rfl, hb4'.out, hb4.out, hm4'.out⟩
        focus
          go_simp
          refine hK.out _ _ (hS1) (fun hHeld => ?_)
          clear hK K
          try simp only [Act.put, List.getElem_toArray, List.getElem_cons_zero, List.getElem_cons_succ, List.setIfInBounds_toArray, List.set_cons_zero, List.set_cons_succ]
          refine wpAnyH_ready (rs := [10]) (by kernel_rfl) (by simp) ?_
          refine AllReadyH.cons rfl (fun K hK => ?_) AllReadyH.nil
          go_simp
          refine hK.out _ _ (hS2) (fun hHeld => ?_)
          clear hK K
          try simp only [Act.put, List.getElem_toArray, List.getElem_cons_zero, List.getElem_cons_succ, List.setIfInBounds_toArray, List.set_cons_zero, List.set_cons_succ]
          refine wpAnyH_ready (rs := [12]) (by kernel_rfl) (by simp) ?_
          refine AllReadyH.cons rfl (fun K hK => ?_) AllReadyH.nil
          refine step_store_blk rfl 35 (.tmp 6) (.tmp 23) rfl (wr.heap.size + 1) 0 _ rfl rfl hB2 (by simp) slot_size (by rfl) #[.int .i64 x.r.bal, .int .i64 x.r.st, .int .i64 x.r.by_, .int .i64 x.r.e.o.c, .int .i64 x.r.e.o.s, .int .i64 x.r.e.o.k, .string (txt x.r.e.o.acct), .string (txt x.r.e.o.peer), .int .i64 x.r.e.o.sum, .slice x.L.a x.L.n x.L.c, .int .i64 x.r.e.o.per, .int .i64 x.r.e.o.hold, .string (txt x.r.e.o.note), .bool x.r.e.none, .slice x.D.a x.D.n x.D.c] rfl ?_
          intro w3 hb3 hm3
          have hB3 := hB1.mod hm3 (fun h => by have : wr.heap.size = wr.heap.size + 1 := h; omega)
          have hm3' := hm2.in_new (by omega) hm3
          have hS3 := hSm _ hm3'
          refine hK.out _ _ (hS3) (fun hHeld => ?_)
          clear hK K
          try simp only [Act.put, List.getElem_toArray, List.getElem_cons_zero, List.getElem_cons_succ, List.setIfInBounds_toArray, List.set_cons_zero, List.set_cons_succ]
          refine wpAnyH_ready (rs := [13]) (by kernel_rfl) (by simp) ?_
          refine AllReadyH.cons rfl (fun K hK => ?_) AllReadyH.nil
          refine step_store_blk rfl 35 (.tmp 7) (.tmp 28) rfl (wr.heap.size) 0 _ rfl rfl hB3 (by simp) slot_size (by rfl) #[.int .i64 x.r.bal, .int .i64 x.r.st, .int .i64 x.r.by_, .int .i64 x.r.e.o.c, .int .i64 x.r.e.o.s, .int .i64 x.r.e.o.k, .string (txt x.r.e.o.acct), .string (txt x.r.e.o.peer), .int .i64 x.r.e.o.sum, .slice M.a M.n M.c, .int .i64 x.r.e.o.per, .int .i64 x.r.e.o.hold, .string (txt x.r.e.o.note), .bool x.r.e.none, .slice E.a E.n E.c] rfl ?_
          intro w4 hb4 hm4
          have hb4' := hb3.mod hm4 (fun h => by have : wr.heap.size + 1 = wr.heap.size := h; omega)
          have hm4' := hm3'.in_new (by omega) hm4
          have hS4 := hSm _ hm4'
          refine hK.out _ _ (hS4) (fun hHeld => ?_)
          clear hK K
          try simp only [Act.put, List.getElem_toArray, List.getElem_cons_zero, List.getElem_cons_succ, List.setIfInBounds_toArray, List.set_cons_zero, List.set_cons_succ]
          refine wpAnyH_done (by kernel_rfl) ?_ _
          clear hHeld hS1 hS2 hS3 hS4 hSm hm1 hm2 hm3' hm3 hm4 hB3 hb3 hB1 hB2
          replace hb4 := Lib.hid hb4
          replace hb4' := Lib.hid hb4'
          replace hm4' := Lib.hid hm4'
          go_wp2_with fail
          all_goals go_meet
          exact ⟨wr.heap.size + 1, wr.heap.size, rfl, rfl, hb4'.out, hb4.out, hm4'.out⟩
      case rest =>
        obtain ⟨p, q, rfl, rfl, hbp, hbq, hmx⟩ := hcut
        have hne := fun W => neq_is W x.r.i x.r.i
        unfold isV at hne
        simp only [decide_true, Bool.not_true] at hne
        have hM2 := hm.out.trans hmx
        have hd1 : wc.drew.rangeAt g (o + j * 17) [.int .i64 x.r.i.r, .int .i64 x.r.i.n] := rangeAt_mod (rangeAt_take2 hrg.out) hmx.drew
        have hd2 : wc.drew.rangeAt g' (o' + j * 17) [.int .i64 x.r.i.r, .int .i64 x.r.i.n] := rangeAt_mod (rangeAt_take2 hrg'.out) hmx.drew
        have hS0 : Blk wc.drew p 35 #[.int .i64 x.r.bal, .int .i64 x.r.st, .int .i64 x.r.by_, .int .i64 x.r.e.o.c, .int .i64 x.r.e.o.s, .int .i64 x.r.e.o.k, .string (txt x.r.e.o.acct), .string (txt x.r.e.o.peer), .int .i64 x.r.e.o.sum, .slice x.L.a x.L.n x.L.c, .int .i64 x.r.e.o.per, .int .i64 x.r.e.o.hold, .string (txt x.r.e.o.note), .bool x.r.e.none, .slice x.D.a x.D.n x.D.c] ∧ Blk wc.drew q 35 #[.int .i64 x.r.bal, .int .i64 x.r.st, .int .i64 x.r.by_, .int .i64 x.r.e.o.c, .int .i64 x.r.e.o.s, .int .i64 x.r.e.o.k, .string (txt x.r.e.o.acct), .string (txt x.r.e.o.peer), .int .i64 x.r.e.o.sum, .slice M.a M.n M.c, .int .i64 x.r.e.o.per, .int .i64 x.r.e.o.hold, .string (txt x.r.e.o.note), .bool x.r.e.none, .slice E.a E.n E.c] ∧ wc.drew.rangeAt g (o + j * 17) [.int .i64 x.r.i.r, .int .i64 x.r.i.n] ∧ wc.drew.rangeAt g' (o' + j * 17) [.int .i64 x.r.i.r, .int .i64 x.r.i.n] := ⟨hbp.drew, hbq.drew, hd1, hd2⟩
        have k14 := Lib.hid (same14_eq wc.drew x.r.e x.L x.D M E (hEx.out.mod0 hmx.drew) (hEy.out.mod0 hmx.drew) q1 q2)
        have hSm : ∀ W, Mod none_ wc.drew W → Blk W p 35 #[.int .i64 x.r.bal, .int .i64 x.r.st, .int .i64 x.r.by_, .int .i64 x.r.e.o.c, .int .i64 x.r.e.o.s, .int .i64 x.r.e.o.k, .string (txt x.r.e.o.acct), .string (txt x.r.e.o.peer), .int .i64 x.r.e.o.sum, .slice x.L.a x.L.n x.L.c, .int .i64 x.r.e.o.per, .int .i64 x.r.e.o.hold, .string (txt x.r.e.o.note), .bool x.r.e.none, .slice x.D.a x.D.n x.D.c] ∧ Blk W q 35 #[.int .i64 x.r.bal, .int .i64 x.r.st, .int .i64 x.r.by_, .int .i64 x.r.e.o.c, .int .i64 x.r.e.o.s, .int .i64 x.r.e.o.k, .string (txt x.r.e.o.acct), .string (txt x.r.e.o.peer), .int .i64 x.r.e.o.sum, .slice M.a M.n M.c, .int .i64 x.r.e.o.per, .int .i64 x.r.e.o.hold, .string (txt x.r.e.o.note), .bool x.r.e.none, .slice E.a E.n E.c] ∧ W.rangeAt g (o + j * 17) [.int .i64 x.r.i.r, .int .i64 x.r.i.n] ∧ W.rangeAt g' (o' + j * 17) [.int .i64 x.r.i.r, .int .i64 x.r.i.n] := fun W hM => ⟨hS0.1.mod hM (fun h => h), hS0.2.1.mod hM (fun h => h), rangeAt_mod hS0.2.2.1 hM, rangeAt_mod hS0.2.2.2 hM⟩
        replace hM2 := Lib.hid hM2
        clear hbp hbq hmx hd1 hd2
        go_upto_region 7 with fail
        refine wp_region_held_drew (S := fun W => Blk W p 35 #[.int .i64 x.r.bal, .int .i64 x.r.st, .int .i64 x.r.by_, .int .i64 x.r.e.o.c, .int .i64 x.r.e.o.s, .int .i64 x.r.e.o.k, .string (txt x.r.e.o.acct), .string (txt x.r.e.o.peer), .int .i64 x.r.e.o.sum, .slice x.L.a x.L.n x.L.c, .int .i64 x.r.e.o.per, .int .i64 x.r.e.o.hold, .string (txt x.r.e.o.note), .bool x.r.e.none, .slice x.D.a x.D.n x.D.c] ∧ Blk W q 35 #[.int .i64 x.r.bal, .int .i64 x.r.st, .int .i64 x.r.by_, .int .i64 x.r.e.o.c, .int .i64 x.r.e.o.s, .int .i64 x.r.e.o.k, .string (txt x.r.e.o.acct), .string (txt x.r.e.o.peer), .int .i64 x.r.e.o.sum, .slice M.a M.n M.c, .int .i64 x.r.e.o.per, .int .i64 x.r.e.o.hold, .string (txt x.r.e.o.note), .bool x.r.e.none, .slice E.a E.n E.c] ∧ W.rangeAt g (o + j * 17) [.int .i64 x.r.i.r, .int .i64 x.r.i.n] ∧ W.rangeAt g' (o' + j * 17) [.int .i64 x.r.i.r, .int .i64 x.r.i.n]) (by kernel_rfl) hS0 (fun hHeld => ?_)
        refine wpAnyH_take (i := 0) (v := ?_) rfl (by kernel_rfl) (by kernel_rfl) (by kernel_rfl) (fun _ _ _ h => h) (Or.inl ⟨by rfl, ?_⟩) (by assumption) ?_
        rotate_left
        · intro W hSw; (try dsimp only at hSw); go_simp; (try with_reducible rfl)
        try simp only [Act.put, List.getElem_toArray, List.getElem_cons_zero, List.getElem_cons_succ, List.setIfInBounds_toArray, List.set_cons_zero, List.set_cons_succ]
        refine wpAnyH_take (i := 1) (v := ?_) rfl (by kernel_rfl) (by kernel_rfl) (by kernel_rfl) (fun _ _ _ h => h) (Or.inl ⟨by rfl, ?_⟩) (by assumption) ?_
        rotate_left
        · intro W hSw; (try dsimp only at hSw); go_simp; (try with_reducible rfl)
        try simp only [Act.put, List.getElem_toArray, List.getElem_cons_zero, List.getElem_cons_succ, List.setIfInBounds_toArray, List.set_cons_zero, List.set_cons_succ]
        refine wpAnyH_take (i := 2) (v := ?_) rfl (by kernel_rfl) (by kernel_rfl) (by kernel_rfl) (fun _ _ _ h => h) (Or.inl ⟨by rfl, ?_⟩) (by assumption) ?_
        rotate_left
        · intro W hSw; (try dsimp only at hSw); go_simp; (try with_reducible rfl)
        try simp only [Act.put, List.getElem_toArray, List.getElem_cons_zero, List.getElem_cons_succ, List.setIfInBounds_toArray, List.set_cons_zero, List.set_cons_succ]
        refine wpAnyH_take (i := 3) (v := ?_) rfl (by kernel_rfl) (by kernel_rfl) (by kernel_rfl) (fun _ _ _ h => h) (Or.inl ⟨by rfl, ?_⟩) (by assumption) ?_
        rotate_left
        · intro W hSw; (try dsimp only at hSw); go_simp; (try with_reducible rfl)
        try simp only [Act.put, List.getElem_toArray, List.getElem_cons_zero, List.getElem_cons_succ, List.setIfInBounds_toArray, List.set_cons_zero, List.set_cons_succ]
        refine wpAnyH_take (i := 4) rfl (by kernel_rfl) (by kernel_rfl) (by kernel_rfl) (fun _ _ _ h => h) (yieldsIf_load_mid (by rfl) 25 (.tmp 32) rfl g (o + j * 17) rfl [.int .i64 x.r.i.r, .int .i64 x.r.i.n] _ (fun W hW => hW.2.2.1) Tryz.underlying25 rfl inst_size) (by assumption) ?_
        try simp only [Act.put, List.getElem_toArray, List.getElem_cons_zero, List.getElem_cons_succ, List.setIfInBounds_toArray, List.set_cons_zero, List.set_cons_succ]
        refine wpAnyH_take (i := 5) (v := ?_) rfl (by kernel_rfl) (by kernel_rfl) (by kernel_rfl) (fun _ _ _ h => h) (Or.inl ⟨by rfl, ?_⟩) (by assumption) ?_
        rotate_left
        · intro W hSw; (try dsimp only at hSw); go_simp; (try with_reducible rfl)
        try simp only [Act.put, List.getElem_toArray, List.getElem_cons_zero, List.getElem_cons_succ, List.setIfInBounds_toArray, List.set_cons_zero, List.set_cons_succ]
        refine wpAnyH_take (i := 6) (v := ?_) rfl (by kernel_rfl) (by kernel_rfl) (by kernel_rfl) (fun _ _ _ h => h) (Or.inl ⟨by rfl, ?_⟩) (by assumption) ?_
        rotate_left
        · intro W hSw; (try dsimp only at hSw); go_simp; (try with_reducible rfl)
        try simp only [Act.put, List.getElem_toArray, List.getElem_cons_zero, List.getElem_cons_succ, List.setIfInBounds_toArray, List.set_cons_zero, List.set_cons_succ]
        refine wpAnyH_take (i := 7) (v := ?_) rfl (by kernel_rfl) (by kernel_rfl) (by kernel_rfl) (fun _ _ _ h => h) (Or.inl ⟨by rfl, ?_⟩) (by assumption) ?_
        rotate_left
        · intro W hSw; (try dsimp only at hSw); go_simp; (try with_reducible rfl)
        try simp only [Act.put, List.getElem_toArray, List.getElem_cons_zero, List.getElem_cons_succ, List.setIfInBounds_toArray, List.set_cons_zero, List.set_cons_succ]
        refine wpAnyH_take (i := 8) (v := ?_) rfl (by kernel_rfl) (by kernel_rfl) (by kernel_rfl) (fun _ _ _ h => h) (Or.inl ⟨by rfl, ?_⟩) (by assumption) ?_
        rotate_left
        · intro W hSw; (try dsimp only at hSw); go_simp; (try with_reducible rfl)
        try simp only [Act.put, List.getElem_toArray, List.getElem_cons_zero, List.getElem_cons_succ, List.setIfInBounds_toArray, List.set_cons_zero, List.set_cons_succ]
        refine wpAnyH_take (i := 9) rfl (by kernel_rfl) (by kernel_rfl) (by kernel_rfl) (fun _ _ _ h => h) (yieldsIf_load_mid (by rfl) 25 (.tmp 37) rfl g' (o' + j * 17) rfl [.int .i64 x.r.i.r, .int .i64 x.r.i.n] _ (fun W hW => hW.2.2.2) Tryz.underlying25 rfl inst_size) (by assumption) ?_
        try simp only [Act.put, List.getElem_toArray, List.getElem_cons_zero, List.getElem_cons_succ, List.setIfInBounds_toArray, List.set_cons_zero, List.set_cons_succ]
        refine wpAnyH_take (i := 10) (v := ?_) rfl (by kernel_rfl) (by kernel_rfl) (by kernel_rfl) (fun _ _ _ h => h) (Or.inl ⟨by rfl, ?_⟩) (by assumption) ?_
        rotate_left
        · intro W hSw; (try dsimp only at hSw); go_simp; (try with_reducible rfl)
        try simp only [Act.put, List.getElem_toArray, List.getElem_cons_zero, List.getElem_cons_succ, List.setIfInBounds_toArray, List.set_cons_zero, List.set_cons_succ]
        refine wpAnyH_take (i := 11) (v := ?_) rfl (by kernel_rfl) (by kernel_rfl) (by kernel_rfl) (fun _ _ _ h => h) (Or.inl ⟨by rfl, ?_⟩) (by assumption) ?_
        rotate_left
        · intro W hSw; (try dsimp only at hSw); go_simp; (try with_reducible rfl)
        try simp only [Act.put, List.getElem_toArray, List.getElem_cons_zero, List.getElem_cons_succ, List.setIfInBounds_toArray, List.set_cons_zero, List.set_cons_succ]
        refine wpAnyH_take (i := 12) (v := ?_) rfl (by kernel_rfl) (by kernel_rfl) (by kernel_rfl) (fun _ _ _ h => h) (Or.inl ⟨by rfl, ?_⟩) (by assumption) ?_
        rotate_left
        · intro W hSw; (try dsimp only at hSw); go_simp; (try with_reducible rfl)
        try simp only [Act.put, List.getElem_toArray, List.getElem_cons_zero, List.getElem_cons_succ, List.setIfInBounds_toArray, List.set_cons_zero, List.set_cons_succ]
        refine wpAnyH_take (i := 13) (v := ?_) rfl (by kernel_rfl) (by kernel_rfl) (by kernel_rfl) (fun _ _ _ h => h) (Or.inl ⟨by rfl, ?_⟩) (by assumption) ?_
        rotate_left
        · intro W hSw; have hc := Blk.cell_ hSw.1 (i := 0) rfl; go_simp; (try with_reducible rfl)
        try simp only [Act.put, List.getElem_toArray, List.getElem_cons_zero, List.getElem_cons_succ, List.setIfInBounds_toArray, List.set_cons_zero, List.set_cons_succ]
        refine wpAnyH_take (i := 14) (v := ?_) rfl (by kernel_rfl) (by kernel_rfl) (by kernel_rfl) (fun _ _ _ h => h) (Or.inl ⟨by rfl, ?_⟩) (by assumption) ?_
        rotate_left
        · intro W hSw; (try dsimp only at hSw); go_simp; (try with_reducible rfl)
        try simp only [Act.put, List.getElem_toArray, List.getElem_cons_zero, List.getElem_cons_succ, List.setIfInBounds_toArray, List.set_cons_zero, List.set_cons_succ]
        refine wpAnyH_take (i := 15) (v := ?_) rfl (by kernel_rfl) (by kernel_rfl) (by kernel_rfl) (fun _ _ _ h => h) (Or.inl ⟨by rfl, ?_⟩) (by assumption) ?_
        rotate_left
        · intro W hSw; have hc := Blk.cell_ hSw.2.1 (i := 0) rfl; go_simp; (try with_reducible rfl)
        try simp only [Act.put, List.getElem_toArray, List.getElem_cons_zero, List.getElem_cons_succ, List.setIfInBounds_toArray, List.set_cons_zero, List.set_cons_succ]
        refine wpAnyH_take (i := 16) (v := ?_) rfl (by kernel_rfl) (by kernel_rfl) (by kernel_rfl) (fun _ _ _ h => h) (Or.inl ⟨by rfl, ?_⟩) (by assumption) ?_
        rotate_left
        · intro W hSw; (try dsimp only at hSw); go_simp; (try with_reducible rfl)
        try simp only [Act.put, List.getElem_toArray, List.getElem_cons_zero, List.getElem_cons_succ, List.setIfInBounds_toArray, List.set_cons_zero, List.set_cons_succ]
        refine wpAnyH_take (i := 17) (v := ?_) rfl (by kernel_rfl) (by kernel_rfl) (by kernel_rfl) (fun _ _ _ h => h) (Or.inl ⟨by rfl, ?_⟩) (by assumption) ?_
        rotate_left
        · intro W hSw; (try dsimp only at hSw); go_simp; (try with_reducible rfl)
        try simp only [Act.put, List.getElem_toArray, List.getElem_cons_zero, List.getElem_cons_succ, List.setIfInBounds_toArray, List.set_cons_zero, List.set_cons_succ]
        refine wpAnyH_take (i := 18) (v := ?_) rfl (by kernel_rfl) (by kernel_rfl) (by kernel_rfl) (fun _ _ _ h => h) (Or.inl ⟨by rfl, ?_⟩) (by assumption) ?_
        rotate_left
        · intro W hSw; (try dsimp only at hSw); go_simp; (try with_reducible rfl)
        try simp only [Act.put, List.getElem_toArray, List.getElem_cons_zero, List.getElem_cons_succ, List.setIfInBounds_toArray, List.set_cons_zero, List.set_cons_succ]
        refine wpAnyH_take (i := 19) (v := ?_) rfl (by kernel_rfl) (by kernel_rfl) (by kernel_rfl) (fun _ _ _ h => h) (Or.inl ⟨by rfl, ?_⟩) (by assumption) ?_
        rotate_left
        · intro W hSw; (try dsimp only at hSw); go_simp; (try with_reducible rfl)
        try simp only [Act.put, List.getElem_toArray, List.getElem_cons_zero, List.getElem_cons_succ, List.setIfInBounds_toArray, List.set_cons_zero, List.set_cons_succ]
        refine wpAnyH_take (i := 20) (v := ?_) rfl (by kernel_rfl) (by kernel_rfl) (by kernel_rfl) (fun _ _ _ h => h) (Or.inl ⟨by rfl, ?_⟩) (by assumption) ?_
        rotate_left
        · intro W hSw; have hc := Blk.cell_ hSw.1 (i := 1) rfl; go_simp; (try with_reducible rfl)
        try simp only [Act.put, List.getElem_toArray, List.getElem_cons_zero, List.getElem_cons_succ, List.setIfInBounds_toArray, List.set_cons_zero, List.set_cons_succ]
        refine wpAnyH_take (i := 21) (v := ?_) rfl (by kernel_rfl) (by kernel_rfl) (by kernel_rfl) (fun _ _ _ h => h) (Or.inl ⟨by rfl, ?_⟩) (by assumption) ?_
        rotate_left
        · intro W hSw; (try dsimp only at hSw); go_simp; (try with_reducible rfl)
        try simp only [Act.put, List.getElem_toArray, List.getElem_cons_zero, List.getElem_cons_succ, List.setIfInBounds_toArray, List.set_cons_zero, List.set_cons_succ]
        refine wpAnyH_take (i := 22) (v := ?_) rfl (by kernel_rfl) (by kernel_rfl) (by kernel_rfl) (fun _ _ _ h => h) (Or.inl ⟨by rfl, ?_⟩) (by assumption) ?_
        rotate_left
        · intro W hSw; have hc := Blk.cell_ hSw.2.1 (i := 1) rfl; go_simp; (try with_reducible rfl)
        try simp only [Act.put, List.getElem_toArray, List.getElem_cons_zero, List.getElem_cons_succ, List.setIfInBounds_toArray, List.set_cons_zero, List.set_cons_succ]
        refine wpAnyH_take (i := 23) (v := ?_) rfl (by kernel_rfl) (by kernel_rfl) (by kernel_rfl) (fun _ _ _ h => h) (Or.inl ⟨by rfl, ?_⟩) (by assumption) ?_
        rotate_left
        · intro W hSw; (try dsimp only at hSw); go_simp; (try with_reducible rfl)
        try simp only [Act.put, List.getElem_toArray, List.getElem_cons_zero, List.getElem_cons_succ, List.setIfInBounds_toArray, List.set_cons_zero, List.set_cons_succ]
        refine wpAnyH_take (i := 24) (v := ?_) rfl (by kernel_rfl) (by kernel_rfl) (by kernel_rfl) (fun _ _ _ h => h) (Or.inl ⟨by rfl, ?_⟩) (by assumption) ?_
        rotate_left
        · intro W hSw; (try dsimp only at hSw); go_simp; (try with_reducible rfl)
        try simp only [Act.put, List.getElem_toArray, List.getElem_cons_zero, List.getElem_cons_succ, List.setIfInBounds_toArray, List.set_cons_zero, List.set_cons_succ]
        refine wpAnyH_take (i := 25) (v := ?_) rfl (by kernel_rfl) (by kernel_rfl) (by kernel_rfl) (fun _ _ _ h => h) (Or.inl ⟨by rfl, ?_⟩) (by assumption) ?_
        rotate_left
        · intro W hSw; (try dsimp only at hSw); go_simp; (try with_reducible rfl)
        try simp only [Act.put, List.getElem_toArray, List.getElem_cons_zero, List.getElem_cons_succ, List.setIfInBounds_toArray, List.set_cons_zero, List.set_cons_succ]
        refine wpAnyH_take (i := 26) (v := ?_) rfl (by kernel_rfl) (by kernel_rfl) (by kernel_rfl) (fun _ _ _ h => h) (Or.inl ⟨by rfl, ?_⟩) (by assumption) ?_
        rotate_left
        · intro W hSw; (try dsimp only at hSw); go_simp; (try with_reducible rfl)
        try simp only [Act.put, List.getElem_toArray, List.getElem_cons_zero, List.getElem_cons_succ, List.setIfInBounds_toArray, List.set_cons_zero, List.set_cons_succ]
        refine wpAnyH_take (i := 27) (v := ?_) rfl (by kernel_rfl) (by kernel_rfl) (by kernel_rfl) (fun _ _ _ h => h) (Or.inl ⟨by rfl, ?_⟩) (by assumption) ?_
        rotate_left
        · intro W hSw; have hc := Blk.cell_ hSw.1 (i := 2) rfl; go_simp; (try with_reducible rfl)
        try simp only [Act.put, List.getElem_toArray, List.getElem_cons_zero, List.getElem_cons_succ, List.setIfInBounds_toArray, List.set_cons_zero, List.set_cons_succ]
        refine wpAnyH_take (i := 28) (v := ?_) rfl (by kernel_rfl) (by kernel_rfl) (by kernel_rfl) (fun _ _ _ h => h) (Or.inl ⟨by rfl, ?_⟩) (by assumption) ?_
        rotate_left
        · intro W hSw; (try dsimp only at hSw); go_simp; (try with_reducible rfl)
        try simp only [Act.put, List.getElem_toArray, List.getElem_cons_zero, List.getElem_cons_succ, List.setIfInBounds_toArray, List.set_cons_zero, List.set_cons_succ]
        refine wpAnyH_take (i := 29) (v := ?_) rfl (by kernel_rfl) (by kernel_rfl) (by kernel_rfl) (fun _ _ _ h => h) (Or.inl ⟨by rfl, ?_⟩) (by assumption) ?_
        rotate_left
        · intro W hSw; have hc := Blk.cell_ hSw.2.1 (i := 2) rfl; go_simp; (try with_reducible rfl)
        try simp only [Act.put, List.getElem_toArray, List.getElem_cons_zero, List.getElem_cons_succ, List.setIfInBounds_toArray, List.set_cons_zero, List.set_cons_succ]
        refine wpAnyH_take (i := 30) (v := ?_) rfl (by kernel_rfl) (by kernel_rfl) (by kernel_rfl) (fun _ _ _ h => h) (Or.inl ⟨by rfl, ?_⟩) (by assumption) ?_
        rotate_left
        · intro W hSw; (try dsimp only at hSw); go_simp; (try with_reducible rfl)
        try simp only [Act.put, List.getElem_toArray, List.getElem_cons_zero, List.getElem_cons_succ, List.setIfInBounds_toArray, List.set_cons_zero, List.set_cons_succ]
        refine wpAnyH_take (i := 31) (v := ?_) rfl (by kernel_rfl) (by kernel_rfl) (by kernel_rfl) (fun _ _ _ h => h) (Or.inl ⟨by rfl, ?_⟩) (by assumption) ?_
        rotate_left
        · intro W hSw; (try dsimp only at hSw); go_simp; (try with_reducible rfl)
        try simp only [Act.put, List.getElem_toArray, List.getElem_cons_zero, List.getElem_cons_succ, List.setIfInBounds_toArray, List.set_cons_zero, List.set_cons_succ]
        refine wpAnyH_take (i := 32) (v := ?_) rfl (by kernel_rfl) (by kernel_rfl) (by kernel_rfl) (fun _ _ _ h => h) (Or.inl ⟨by rfl, ?_⟩) (by assumption) ?_
        rotate_left
        · intro W hSw; (try dsimp only at hSw); go_simp; (try with_reducible rfl)
        try simp only [Act.put, List.getElem_toArray, List.getElem_cons_zero, List.getElem_cons_succ, List.setIfInBounds_toArray, List.set_cons_zero, List.set_cons_succ]
        refine wpAnyH_take (i := 33) (v := ?_) rfl (by kernel_rfl) (by kernel_rfl) (by kernel_rfl) (fun _ _ _ h => h) (Or.inl ⟨by rfl, ?_⟩) (by assumption) ?_
        rotate_left
        · intro W hSw; (try dsimp only at hSw); go_simp; (try with_reducible rfl)
        try simp only [Act.put, List.getElem_toArray, List.getElem_cons_zero, List.getElem_cons_succ, List.setIfInBounds_toArray, List.set_cons_zero, List.set_cons_succ]
        refine wpAnyH_take (i := 34) rfl (by kernel_rfl) (by kernel_rfl) (by kernel_rfl) (fun _ _ _ h => h) (yieldsIf_load_mid (by rfl) 33 (.tmp 62) rfl p 3 rfl [.int .i64 x.r.e.o.c, .int .i64 x.r.e.o.s, .int .i64 x.r.e.o.k, .string (txt x.r.e.o.acct), .string (txt x.r.e.o.peer), .int .i64 x.r.e.o.sum, .slice x.L.a x.L.n x.L.c, .int .i64 x.r.e.o.per, .int .i64 x.r.e.o.hold, .string (txt x.r.e.o.note), .bool x.r.e.none, .slice x.D.a x.D.n x.D.c] _ (fun W hW => Blk.range hW.1 3 _ rfl) Tryz.underlying33 rfl entry_size) (by assumption) ?_
        try simp only [Act.put, List.getElem_toArray, List.getElem_cons_zero, List.getElem_cons_succ, List.setIfInBounds_toArray, List.set_cons_zero, List.set_cons_succ]
        refine wpAnyH_take (i := 35) (v := ?_) rfl (by kernel_rfl) (by kernel_rfl) (by kernel_rfl) (fun _ _ _ h => h) (Or.inl ⟨by rfl, ?_⟩) (by assumption) ?_
        rotate_left
        · intro W hSw; (try dsimp only at hSw); go_simp; (try with_reducible rfl)
        try simp only [Act.put, List.getElem_toArray, List.getElem_cons_zero, List.getElem_cons_succ, List.setIfInBounds_toArray, List.set_cons_zero, List.set_cons_succ]
        refine wpAnyH_take (i := 36) rfl (by kernel_rfl) (by kernel_rfl) (by kernel_rfl) (fun _ _ _ h => h) (yieldsIf_load_mid (by rfl) 33 (.tmp 64) rfl q (3) rfl [.int .i64 x.r.e.o.c, .int .i64 x.r.e.o.s, .int .i64 x.r.e.o.k, .string (txt x.r.e.o.acct), .string (txt x.r.e.o.peer), .int .i64 x.r.e.o.sum, .slice M.a M.n M.c, .int .i64 x.r.e.o.per, .int .i64 x.r.e.o.hold, .string (txt x.r.e.o.note), .bool x.r.e.none, .slice E.a E.n E.c] _ (fun W hW => Blk.range hW.2.1 3 _ rfl) Tryz.underlying33 rfl entry_size) (by assumption) ?_
        try simp only [Act.put, List.getElem_toArray, List.getElem_cons_zero, List.getElem_cons_succ, List.setIfInBounds_toArray, List.set_cons_zero, List.set_cons_succ]
        refine wpAnyH_ready (rs := [37]) (by kernel_rfl) (by simp) ?_
        refine AllReadyH.cons rfl (fun K hK => ?_) AllReadyH.nil
        go_simp
        (with_reducible refine k14.out.mono ?_); rintro e w6 ⟨rfl, hm6⟩; dsimp only
        have hS6 := hSm _ hm6
        have hM6 := Lib.hid (hM2.out.trans ((Mod.refl none_ wc).drew.trans hm6))
        clear hm6
        go_wp2_with fail
        refine hK.out _ _ (hS6) (fun hHeld => ?_)
        clear hK K
        try simp only [Act.put, List.getElem_toArray, List.getElem_cons_zero, List.getElem_cons_succ, List.setIfInBounds_toArray, List.set_cons_zero, List.set_cons_succ]
        refine wpAnyH_take (i := 38) (v := ?_) rfl (by kernel_rfl) (by kernel_rfl) (by kernel_rfl) (fun _ _ _ h => h) (Or.inl ⟨by rfl, ?_⟩) (by assumption) ?_
        rotate_left
        · intro W hSw; (try dsimp only at hSw); go_simp; (try with_reducible rfl)
        try simp only [Act.put, List.getElem_toArray, List.getElem_cons_zero, List.getElem_cons_succ, List.setIfInBounds_toArray, List.set_cons_zero, List.set_cons_succ]
        refine wpAnyH_take (i := 39) (v := ?_) rfl (by kernel_rfl) (by kernel_rfl) (by kernel_rfl) (fun _ _ _ h => h) (Or.inl ⟨by rfl, ?_⟩) (by assumption) ?_
        rotate_left
        · intro W hSw; (try dsimp only at hSw); go_simp; (try with_reducible rfl)
        try simp only [Act.put, List.getElem_toArray, List.getElem_cons_zero, List.getElem_cons_succ, List.setIfInBounds_toArray, List.set_cons_zero, List.set_cons_succ]
        refine wpAnyH_done (by kernel_rfl) ?_ _
        clear hHeld hS0 hS6 hSm
        go_wp2_with fail
        go_roundg (gk - 1)
        case measure => omega
        case rel => exact ⟨j + 1, by go_num, by omega, hM6.out⟩
    · obtain rfl : j = m := by omega
      replace hm := Lib.hid hm
      go_wp2_with fail
      go_ret
      exact ⟨rfl, hm.out⟩
end Go.Proofs.YtdnbclhidpkpgaaGreat
/-
  log.Same, of what is the same. No condition.
-/
namespace Go.Proofs.YtdnbclhidpkpgaaGreat
set_option linter.unusedVariables false
set_option linter.unusedSimpArgs false
open Go.RowKit
set_option maxRecDepth 100000 in
set_option maxHeartbeats 8000000 in
theorem lsame1_eq (w : World) (x : Rs) (M E : SV) (ha : EnM w x.r.e x.L x.D) (hb : EnM w x.r.e M E) (q1 : x.L.n ≤ 140737488355328) (q2 : x.D.n ≤ 140737488355328) (q3 : M.n ≤ 140737488355328) (q4 : E.n ≤ 140737488355328) :
    Calls Tryz.prog 60 #[.agg #[.int .i64 x.r.i.r, .int .i64 x.r.i.n, .int .i64 x.r.bal, .int .i64 x.r.st, .int .i64 x.r.by_, .int .i64 x.r.e.o.c, .int .i64 x.r.e.o.s, .int .i64 x.r.e.o.k, .string (txt x.r.e.o.acct), .string (txt x.r.e.o.peer), .int .i64 x.r.e.o.sum, .slice x.L.a x.L.n x.L.c, .int .i64 x.r.e.o.per, .int .i64 x.r.e.o.hold, .string (txt x.r.e.o.note), .bool x.r.e.none, .slice x.D.a x.D.n x.D.c], .agg #[.int .i64 x.r.i.r, .int .i64 x.r.i.n, .int .i64 x.r.bal, .int .i64 x.r.st, .int .i64 x.r.by_, .int .i64 x.r.e.o.c, .int .i64 x.r.e.o.s, .int .i64 x.r.e.o.k, .string (txt x.r.e.o.acct), .string (txt x.r.e.o.peer), .int .i64 x.r.e.o.sum, .slice M.a M.n M.c, .int .i64 x.r.e.o.per, .int .i64 x.r.e.o.hold, .string (txt x.r.e.o.note), .bool x.r.e.none, .slice E.a E.n E.c]] w fun e w' => e = .returned (.bool true) ∧ Mod none_ w w' := by
  have hei := fun W => eql_is W x.r.i x.r.i
  unfold isV at hei
  simp only [decide_true] at hei
  have hm0 := ((Mod.refl none_ w).alloc (.cells #[.int .i64 x.r.i.r, .int .i64 x.r.i.n, .int .i64 x.r.bal, .int .i64 x.r.st, .int .i64 x.r.by_, .int .i64 x.r.e.o.c, .int .i64 x.r.e.o.s, .int .i64 x.r.e.o.k, .string (txt x.r.e.o.acct), .string (txt x.r.e.o.peer), .int .i64 x.r.e.o.sum, .slice x.L.a x.L.n x.L.c, .int .i64 x.r.e.o.per, .int .i64 x.r.e.o.hold, .string (txt x.r.e.o.note), .bool x.r.e.none, .slice x.D.a x.D.n x.D.c] 37)).alloc (.cells #[.int .i64 x.r.i.r, .int .i64 x.r.i.n, .int .i64 x.r.bal, .int .i64 x.r.st, .int .i64 x.r.by_, .int .i64 x.r.e.o.c, .int .i64 x.r.e.o.s, .int .i64 x.r.e.o.k, .string (txt x.r.e.o.acct), .string (txt x.r.e.o.peer), .int .i64 x.r.e.o.sum, .slice M.a M.n M.c, .int .i64 x.r.e.o.per, .int .i64 x.r.e.o.hold, .string (txt x.r.e.o.note), .bool x.r.e.none, .slice E.a E.n E.c] 37)
  have hb1 := (Blk.new w 37 #[.int .i64 x.r.i.r, .int .i64 x.r.i.n, .int .i64 x.r.bal, .int .i64 x.r.st, .int .i64 x.r.by_, .int .i64 x.r.e.o.c, .int .i64 x.r.e.o.s, .int .i64 x.r.e.o.k, .string (txt x.r.e.o.acct), .string (txt x.r.e.o.peer), .int .i64 x.r.e.o.sum, .slice x.L.a x.L.n x.L.c, .int .i64 x.r.e.o.per, .int .i64 x.r.e.o.hold, .string (txt x.r.e.o.note), .bool x.r.e.none, .slice x.D.a x.D.n x.D.c]).alloc (.cells #[.int .i64 x.r.i.r, .int .i64 x.r.i.n, .int .i64 x.r.bal, .int .i64 x.r.st, .int .i64 x.r.by_, .int .i64 x.r.e.o.c, .int .i64 x.r.e.o.s, .int .i64 x.r.e.o.k, .string (txt x.r.e.o.acct), .string (txt x.r.e.o.peer), .int .i64 x.r.e.o.sum, .slice M.a M.n M.c, .int .i64 x.r.e.o.per, .int .i64 x.r.e.o.hold, .string (txt x.r.e.o.note), .bool x.r.e.none, .slice E.a E.n E.c] 37)
  have hb2 := Blk.new (w.alloc (.cells #[.int .i64 x.r.i.r, .int .i64 x.r.i.n, .int .i64 x.r.bal, .int .i64 x.r.st, .int .i64 x.r.by_, .int .i64 x.r.e.o.c, .int .i64 x.r.e.o.s, .int .i64 x.r.e.o.k, .string (txt x.r.e.o.acct), .string (txt x.r.e.o.peer), .int .i64 x.r.e.o.sum, .slice x.L.a x.L.n x.L.c, .int .i64 x.r.e.o.per, .int .i64 x.r.e.o.hold, .string (txt x.r.e.o.note), .bool x.r.e.none, .slice x.D.a x.D.n x.D.c] 37)) 37 #[.int .i64 x.r.i.r, .int .i64 x.r.i.n, .int .i64 x.r.bal, .int .i64 x.r.st, .int .i64 x.r.by_, .int .i64 x.r.e.o.c, .int .i64 x.r.e.o.s, .int .i64 x.r.e.o.k, .string (txt x.r.e.o.acct), .string (txt x.r.e.o.peer), .int .i64 x.r.e.o.sum, .slice M.a M.n M.c, .int .i64 x.r.e.o.per, .int .i64 x.r.e.o.hold, .string (txt x.r.e.o.note), .bool x.r.e.none, .slice E.a E.n E.c]
  have hsz : (w.alloc (.cells #[.int .i64 x.r.i.r, .int .i64 x.r.i.n, .int .i64 x.r.bal, .int .i64 x.r.st, .int .i64 x.r.by_, .int .i64 x.r.e.o.c, .int .i64 x.r.e.o.s, .int .i64 x.r.e.o.k, .string (txt x.r.e.o.acct), .string (txt x.r.e.o.peer), .int .i64 x.r.e.o.sum, .slice x.L.a x.L.n x.L.c, .int .i64 x.r.e.o.per, .int .i64 x.r.e.o.hold, .string (txt x.r.e.o.note), .bool x.r.e.none, .slice x.D.a x.D.n x.D.c] 37)).heap.size = w.heap.size + 1 := by simp
  rw [hsz] at hb2
  clear hsz
  have kE := Lib.hid (fun W (h : Mod none_ w W) => sameE_ok W x.r.e x.r.e x.L x.D M E (ha.mod0 h) (hb.mod0 h) q1 q2 q3 q4)
  replace kE := kE.out
  rw [decide_eq_true (rfl : x.r.e = x.r.e)] at kE
  clear ha hb
  replace kE := Lib.hid kE
  replace hm0 := Lib.hid hm0
  replace hb1 := Lib.hid hb1
  replace hb2 := Lib.hid hb2
  go_enter Tryz.func60, Tryz.ntmps60
  go_upto_region 1 with fail
  obtain ⟨W0, hW0⟩ : ∃ W0, W0 = (w.alloc (.cells #[.int .i64 x.r.i.r, .int .i64 x.r.i.n, .int .i64 x.r.bal, .int .i64 x.r.st, .int .i64 x.r.by_, .int .i64 x.r.e.o.c, .int .i64 x.r.e.o.s, .int .i64 x.r.e.o.k, .string (txt x.r.e.o.acct), .string (txt x.r.e.o.peer), .int .i64 x.r.e.o.sum, .slice x.L.a x.L.n x.L.c, .int .i64 x.r.e.o.per, .int .i64 x.r.e.o.hold, .string (txt x.r.e.o.note), .bool x.r.e.none, .slice x.D.a x.D.n x.D.c] 37)).alloc (.cells #[.int .i64 x.r.i.r, .int .i64 x.r.i.n, .int .i64 x.r.bal, .int .i64 x.r.st, .int .i64 x.r.by_, .int .i64 x.r.e.o.c, .int .i64 x.r.e.o.s, .int .i64 x.r.e.o.k, .string (txt x.r.e.o.acct), .string (txt x.r.e.o.peer), .int .i64 x.r.e.o.sum, .slice M.a M.n M.c, .int .i64 x.r.e.o.per, .int .i64 x.r.e.o.hold, .string (txt x.r.e.o.note), .bool x.r.e.none, .slice E.a E.n E.c] 37) := ⟨_, rfl⟩
  rw [← hW0] at hm0 hb1 hb2 ⊢
  have hW0s := Lib.hid (show W0.heap.size = w.heap.size + 2 by rw [hW0]; simp)
  clear hW0
  go_cut [5, 6] from 7 to 10 (fun s5 s6 wx => ∃ p q : Nat, s5 = .pointer (some ⟨p, 0, none⟩) ∧ s6 = .pointer (some ⟨q, 0, none⟩) ∧ Blk wx p 35 #[.int .i64 x.r.bal, .int .i64 x.r.st, .int .i64 x.r.by_, .int .i64 x.r.e.o.c, .int .i64 x.r.e.o.s, .int .i64 x.r.e.o.k, .string (txt x.r.e.o.acct), .string (txt x.r.e.o.peer), .int .i64 x.r.e.o.sum, .slice x.L.a x.L.n x.L.c, .int .i64 x.r.e.o.per, .int .i64 x.r.e.o.hold, .string (txt x.r.e.o.note), .bool x.r.e.none, .slice x.D.a x.D.n x.D.c] ∧ Blk wx q 35 #[.int .i64 x.r.bal, .int .i64 x.r.st, .int .i64 x.r.by_, .int .i64 x.r.e.o.c, .int .i64 x.r.e.o.s, .int .i64 x.r.e.o.k, .string (txt x.r.e.o.acct), .string (txt x.r.e.o.peer), .int .i64 x.r.e.o.sum, .slice M.a M.n M.c, .int .i64 x.r.e.o.per, .int .i64 x.r.e.o.hold, .string (txt x.r.e.o.note), .bool x.r.e.none, .slice E.a E.n E.c] ∧ Mod none_ W0 wx)
  case first =>
    have hSm : ∀ W, Mod none_ W0 W → Blk W w.heap.size 37 #[.int .i64 x.r.i.r, .int .i64 x.r.i.n, .int .i64 x.r.bal, .int .i64 x.r.st, .int .i64 x.r.by_, .int .i64 x.r.e.o.c, .int .i64 x.r.e.o.s, .int .i64 x.r.e.o.k, .string (txt x.r.e.o.acct), .string (txt x.r.e.o.peer), .int .i64 x.r.e.o.sum, .slice x.L.a x.L.n x.L.c, .int .i64 x.r.e.o.per, .int .i64 x.r.e.o.hold, .string (txt x.r.e.o.note), .bool x.r.e.none, .slice x.D.a x.D.n x.D.c] ∧ Blk W (w.heap.size + 1) 37 #[.int .i64 x.r.i.r, .int .i64 x.r.i.n, .int .i64 x.r.bal, .int .i64 x.r.st, .int .i64 x.r.by_, .int .i64 x.r.e.o.c, .int .i64 x.r.e.o.s, .int .i64 x.r.e.o.k, .string (txt x.r.e.o.acct), .string (txt x.r.e.o.peer), .int .i64 x.r.e.o.sum, .slice M.a M.n M.c, .int .i64 x.r.e.o.per, .int .i64 x.r.e.o.hold, .string (txt x.r.e.o.note), .bool x.r.e.none, .slice E.a E.n E.c] := fun W hM => ⟨hb1.out.mod hM (fun h => h), hb2.out.mod hM (fun h => h)⟩
    have hS0 := hSm _ ((Mod.refl none_ W0).drew)
    have hm1 := ((Mod.refl none_ W0).drew).alloc (.cells #[.int .i64 0, .int .i64 0, .int .i64 0, .int .i64 0, .int .i64 0, .int .i64 0, .string ⟨#[]⟩, .string ⟨#[]⟩, .int .i64 0, .slice none 0 0, .int .i64 0, .int .i64 0, .string ⟨#[]⟩, .bool false, .slice none 0 0] 35)
    have hm2 := hm1.alloc (.cells #[.int .i64 0, .int .i64 0, .int .i64 0, .int .i64 0, .int .i64 0, .int .i64 0, .string ⟨#[]⟩, .string ⟨#[]⟩, .int .i64 0, .slice none 0 0, .int .i64 0, .int .i64 0, .string ⟨#[]⟩, .bool false, .slice none 0 0] 35)
    have hS1 := hSm _ hm1
    have hS2 := hSm _ hm2
    have hB1 := (Blk.new W0.drew 35 #[.int .i64 0, .int .i64 0, .int .i64 0, .int .i64 0, .int .i64 0, .int .i64 0, .string ⟨#[]⟩, .string ⟨#[]⟩, .int .i64 0, .slice none 0 0, .int .i64 0, .int .i64 0, .string ⟨#[]⟩, .bool false, .slice none 0 0]).alloc (.cells #[.int .i64 0, .int .i64 0, .int .i64 0, .int .i64 0, .int .i64 0, .int .i64 0, .string ⟨#[]⟩, .string ⟨#[]⟩, .int .i64 0, .slice none 0 0, .int .i64 0, .int .i64 0, .string ⟨#[]⟩, .bool false, .slice none 0 0] 35)
    have hB2 := Blk.new (W0.drew.alloc (.cells #[.int .i64 0, .int .i64 0, .int .i64 0, .int .i64 0, .int .i64 0, .int .i64 0, .string ⟨#[]⟩, .string ⟨#[]⟩, .int .i64 0, .slice none 0 0, .int .i64 0, .int .i64 0, .string ⟨#[]⟩, .bool false, .slice none 0 0] 35)) 35 #[.int .i64 0, .int .i64 0, .int .i64 0, .int .i64 0, .int .i64 0, .int .i64 0, .string ⟨#[]⟩, .string ⟨#[]⟩, .int .i64 0, .slice none 0 0, .int .i64 0, .int .i64 0, .string ⟨#[]⟩, .bool false, .slice none 0 0]
    have hsz : (W0.drew.alloc (.cells #[.int .i64 0, .int .i64 0, .int .i64 0, .int .i64 0, .int .i64 0, .int .i64 0, .string ⟨#[]⟩, .string ⟨#[]⟩, .int .i64 0, .slice none 0 0, .int .i64 0, .int .i64 0, .string ⟨#[]⟩, .bool false, .slice none 0 0] 35)).heap.size = W0.heap.size + 1 := by simp
    rw [hsz] at hB2
    have hsz0 : W0.drew.heap.size = W0.heap.size := rfl
    rw [hsz0] at hB1
    clear hsz hsz0
    refine wp_region_held_drew (S := fun W => Blk W w.heap.size 37 #[.int .i64 x.r.i.r, .int .i64 x.r.i.n, .int .i64 x.r.bal, .int .i64 x.r.st, .int .i64 x.r.by_, .int .i64 x.r.e.o.c, .int .i64 x.r.e.o.s, .int .i64 x.r.e.o.k, .string (txt x.r.e.o.acct), .string (txt x.r.e.o.peer), .int .i64 x.r.e.o.sum, .slice x.L.a x.L.n x.L.c, .int .i64 x.r.e.o.per, .int .i64 x.r.e.o.hold, .string (txt x.r.e.o.note), .bool x.r.e.none, .slice x.D.a x.D.n x.D.c] ∧ Blk W (w.heap.size + 1) 37 #[.int .i64 x.r.i.r, .int .i64 x.r.i.n, .int .i64 x.r.bal, .int .i64 x.r.st, .int .i64 x.r.by_, .int .i64 x.r.e.o.c, .int .i64 x.r.e.o.s, .int .i64 x.r.e.o.k, .string (txt x.r.e.o.acct), .string (txt x.r.e.o.peer), .int .i64 x.r.e.o.sum, .slice M.a M.n M.c, .int .i64 x.r.e.o.per, .int .i64 x.r.e.o.hold, .string (txt x.r.e.o.note), .bool x.r.e.none, .slice E.a E.n E.c]) (by kernel_rfl) hS0 (fun hHeld => ?_)
    refine wpAnyH_take (i := 0) (v := ?_) rfl (by kernel_rfl) (by kernel_rfl) (by kernel_rfl) (fun _ _ _ h => h) (Or.inl ⟨by rfl, ?_⟩) (by assumption) ?_
    rotate_left
    · intro W hSw; (try dsimp only at hSw); go_simp; (try with_reducible rfl)
    try simp only [Act.put, List.getElem_toArray, List.getElem_cons_zero, List.getElem_cons_succ, List.setIfInBounds_toArray, List.set_cons_zero, List.set_cons_succ]
    refine wpAnyH_take (i := 1) rfl (by kernel_rfl) (by kernel_rfl) (by kernel_rfl) (fun _ _ _ h => h) (yieldsIf_load_mid (by rfl) 35 (.tmp 7) rfl w.heap.size 2 rfl [.int .i64 x.r.bal, .int .i64 x.r.st, .int .i64 x.r.by_, .int .i64 x.r.e.o.c, .int .i64 x.r.e.o.s, .int .i64 x.r.e.o.k, .string (txt x.r.e.o.acct), .string (txt x.r.e.o.peer), .int .i64 x.r.e.o.sum, .slice x.L.a x.L.n x.L.c, .int .i64 x.r.e.o.per, .int .i64 x.r.e.o.hold, .string (txt x.r.e.o.note), .bool x.r.e.none, .slice x.D.a x.D.n x.D.c] _ (fun W hW => Blk.range hW.1 2 _ rfl) Tryz.underlying35 rfl slot_size) (by assumption) ?_
    try simp only [Act.put, List.getElem_toArray, List.getElem_cons_zero, List.getElem_cons_succ, List.setIfInBounds_toArray, List.set_cons_zero, List.set_cons_succ]
    refine wpAnyH_take (i := 2) (v := ?_) rfl (by kernel_rfl) (by kernel_rfl) (by kernel_rfl) (fun _ _ _ h => h) (Or.inl ⟨by rfl, ?_⟩) (by assumption) ?_
    rotate_left
    · intro W hSw; (try dsimp only at hSw); go_simp; (try with_reducible rfl)
    try simp only [Act.put, List.getElem_toArray, List.getElem_cons_zero, List.getElem_cons_succ, List.setIfInBounds_toArray, List.set_cons_zero, List.set_cons_succ]
    refine wpAnyH_take (i := 3) rfl (by kernel_rfl) (by kernel_rfl) (by kernel_rfl) (fun _ _ _ h => h) (yieldsIf_load_mid (by rfl) 35 (.tmp 9) rfl (w.heap.size + 1) 2 rfl [.int .i64 x.r.bal, .int .i64 x.r.st, .int .i64 x.r.by_, .int .i64 x.r.e.o.c, .int .i64 x.r.e.o.s, .int .i64 x.r.e.o.k, .string (txt x.r.e.o.acct), .string (txt x.r.e.o.peer), .int .i64 x.r.e.o.sum, .slice M.a M.n M.c, .int .i64 x.r.e.o.per, .int .i64 x.r.e.o.hold, .string (txt x.r.e.o.note), .bool x.r.e.none, .slice E.a E.n E.c] _ (fun W hW => Blk.range hW.2 2 _ rfl) Tryz.underlying35 rfl slot_size) (by assumption) ?_
    try simp only [Act.put, List.getElem_toArray, List.getElem_cons_zero, List.getElem_cons_succ, List.setIfInBounds_toArray, List.set_cons_zero, List.set_cons_succ]
    refine wpAnyH_ready (rs := [4, 5]) (by kernel_rfl) (by simp) ?_
    refine AllReadyH.cons rfl (fun K hK => ?_) (AllReadyH.cons rfl (fun K hK => ?_) AllReadyH.nil)
    focus
      go_simp
      refine hK.out _ _ (hS1) (fun hHeld => ?_)
      clear hK K
      try simp only [Act.put, List.getElem_toArray, List.getElem_cons_zero, List.getElem_cons_succ, List.setIfInBounds_toArray, List.set_cons_zero, List.set_cons_succ]
      refine wpAnyH_ready (rs := [5]) (by kernel_rfl) (by simp) ?_
      refine AllReadyH.cons rfl (fun K hK => ?_) AllReadyH.nil
      go_simp
      refine hK.out _ _ (hS2) (fun hHeld => ?_)
      clear hK K
      try simp only [Act.put, List.getElem_toArray, List.getElem_cons_zero, List.getElem_cons_succ, List.setIfInBounds_toArray, List.set_cons_zero, List.set_cons_succ]
      refine wpAnyH_ready (rs := [6]) (by kernel_rfl) (by simp) ?_
      refine AllReadyH.cons rfl (fun K hK => ?_) AllReadyH.nil
      refine step_store_blk rfl 35 (.tmp 5) (.tmp 8) rfl (W0.heap.size) 0 _ rfl rfl hB1 (by simp) slot_size (by rfl) #[.int .i64 x.r.bal, .int .i64 x.r.st, .int .i64 x.r.by_, .int .i64 x.r.e.o.c, .int .i64 x.r.e.o.s, .int .i64 x.r.e.o.k, .string (txt x.r.e.o.acct), .string (txt x.r.e.o.peer), .int .i64 x.r.e.o.sum, .slice x.L.a x.L.n x.L.c, .int .i64 x.r.e.o.per, .int .i64 x.r.e.o.hold, .string (txt x.r.e.o.note), .bool x.r.e.none, .slice x.D.a x.D.n x.D.c] rfl ?_
      intro w3 hb3 hm3
      have hB3 := hB2.mod hm3 (fun h => by have : W0.heap.size + 1 = W0.heap.size := h; omega)
      have hm3' := hm2.in_new (by omega) hm3
      have hS3 := hSm _ hm3'
      refine hK.out _ _ (hS3) (fun hHeld => ?_)
      clear hK K
      try simp only [Act.put, List.getElem_toArray, List.getElem_cons_zero, List.getElem_cons_succ, List.setIfInBounds_toArray, List.set_cons_zero, List.set_cons_succ]
      refine wpAnyH_ready (rs := [7]) (by kernel_rfl) (by simp) ?_
      refine AllReadyH.cons rfl (fun K hK => ?_) AllReadyH.nil
      refine step_store_blk rfl 35 (.tmp 6) (.tmp 10) rfl (W0.heap.size + 1) 0 _ rfl rfl hB3 (by simp) slot_size (by rfl) #[.int .i64 x.r.bal, .int .i64 x.r.st, .int .i64 x.r.by_, .int .i64 x.r.e.o.c, .int .i64 x.r.e.o.s, .int .i64 x.r.e.o.k, .string (txt x.r.e.o.acct), .string (txt x.r.e.o.peer), .int .i64 x.r.e.o.sum, .slice M.a M.n M.c, .int .i64 x.r.e.o.per, .int .i64 x.r.e.o.hold, .string (txt x.r.e.o.note), .bool x.r.e.none, .slice E.a E.n E.c] rfl ?_
      intro w4 hb4 hm4
      have hb4' := hb3.mod hm4 (fun h => by have : W0.heap.size = W0.heap.size + 1 := h; omega)
      have hm4' := hm3'.in_new (by omega) hm4
      have hS4 := hSm _ hm4'
      refine hK.out _ _ (hS4) (fun hHeld => ?_)
      clear hK K
      try simp only [Act.put, List.getElem_toArray, List.getElem_cons_zero, List.getElem_cons_succ, List.setIfInBounds_toArray, List.set_cons_zero, List.set_cons_succ]
      refine wpAnyH_done (by kernel_rfl) ?_ _
      clear hHeld hS1 hS2 hS3 hS4 hSm hm1 hm2 hm3' hm3 hm4 hB3 hb3 hB1 hB2
      replace hb4 := Lib.hid hb4
      replace hb4' := Lib.hid hb4'
      replace hm4' := Lib.hid hm4'
      go_wp2_with fail
      all_goals go_meet
      exact ⟨W0.heap.size, W0.heap.size + 1, rfl, rfl, hb4'.out, hb4.out, hm4'.out⟩
    focus
      go_simp
      refine hK.out _ _ (hS1) (fun hHeld => ?_)
      clear hK K
      try simp only [Act.put, List.getElem_toArray, List.getElem_cons_zero, List.getElem_cons_succ, List.setIfInBounds_toArray, List.set_cons_zero, List.set_cons_succ]
      refine wpAnyH_ready (rs := [4]) (by kernel_rfl) (by simp) ?_
      refine AllReadyH.cons rfl (fun K hK => ?_) AllReadyH.nil
      go_simp
      refine hK.out _ _ (hS2) (fun hHeld => ?_)
      clear hK K
      try simp only [Act.put, List.getElem_toArray, List.getElem_cons_zero, List.getElem_cons_succ, List.setIfInBounds_toArray, List.set_cons_zero, List.set_cons_succ]
      refine wpAnyH_ready (rs := [6]) (by kernel_rfl) (by simp) ?_
      refine AllReadyH.cons rfl (fun K hK => ?_) AllReadyH.nil
      refine step_store_blk rfl 35 (.tmp 5) (.tmp 8) rfl (W0.heap.size + 1) 0 _ rfl rfl hB2 (by simp) slot_size (by rfl) #[.int .i64 x.r.bal, .int .i64 x.r.st, .int .i64 x.r.by_, .int .i64 x.r.e.o.c, .int .i64 x.r.e.o.s, .int .i64 x.r.e.o.k, .string (txt x.r.e.o.acct), .string (txt x.r.e.o.peer), .int .i64 x.r.e.o.sum, .slice x.L.a x.L.n x.L.c, .int .i64 x.r.e.o.per, .int .i64 x.r.e.o.hold, .string (txt x.r.e.o.note), .bool x.r.e.none, .slice x.D.a x.D.n x.D.c] rfl ?_
      intro w3 hb3 hm3
      have hB3 := hB1.mod hm3 (fun h => by have : W0.heap.size = W0.heap.size + 1 := h; omega)
      have hm3' := hm2.in_new (by omega) hm3
      have hS3 := hSm _ hm3'
      refine hK.out _ _ (hS3) (fun hHeld => ?_)
      clear hK K
      try simp only [Act.put, List.getElem_toArray, List.getElem_cons_zero, List.getElem_cons_succ, List.setIfInBounds_toArray, List.set_cons_zero, List.set_cons_succ]
      refine wpAnyH_ready (rs := [7]) (by kernel_rfl) (by simp) ?_
      refine AllReadyH.cons rfl (fun K hK => ?_) AllReadyH.nil
      refine step_store_blk rfl 35 (.tmp 6) (.tmp 10) rfl (W0.heap.size) 0 _ rfl rfl hB3 (by simp) slot_size (by rfl) #[.int .i64 x.r.bal, .int .i64 x.r.st, .int .i64 x.r.by_, .int .i64 x.r.e.o.c, .int .i64 x.r.e.o.s, .int .i64 x.r.e.o.k, .string (txt x.r.e.o.acct), .string (txt x.r.e.o.peer), .int .i64 x.r.e.o.sum, .slice M.a M.n M.c, .int .i64 x.r.e.o.per, .int .i64 x.r.e.o.hold, .string (txt x.r.e.o.note), .bool x.r.e.none, .slice E.a E.n E.c] rfl ?_
      intro w4 hb4 hm4
      have hb4' := hb3.mod hm4 (fun h => by have : W0.heap.size + 1 = W0.heap.size := h; omega)
      have hm4' := hm3'.in_new (by omega) hm4
      have hS4 := hSm _ hm4'
      refine hK.out _ _ (hS4) (fun hHeld => ?_)
      clear hK K
      try simp only [Act.put, List.getElem_toArray, List.getElem_cons_zero, List.getElem_cons_succ, List.setIfInBounds_toArray, List.set_cons_zero, List.set_cons_succ]
      refine wpAnyH_done (by kernel_rfl) ?_ _
      clear hHeld hS1 hS2 hS3 hS4 hSm hm1 hm2 hm3' hm3 hm4 hB3 hb3 hB1 hB2
      replace hb4 := Lib.hid hb4
      replace hb4' := Lib.hid hb4'
      replace hm4' := Lib.hid hm4'
      go_wp2_with fail
      all_goals go_meet
      exact ⟨W0.heap.size + 1, W0.heap.size, rfl, rfl, hb4'.out, hb4.out, hm4'.out⟩
  case rest =>
    obtain ⟨p, q, rfl, rfl, hbp, hbq, hmx⟩ := hcut
    have hM2 := Lib.hid (hm0.out.trans hmx)
    have hc1 := Lib.hid (hb1.out.mod hmx (fun h => h))
    have hc2 := Lib.hid (hb2.out.mod hmx (fun h => h))
    have z0 := fun i v (h : (#[.int .i64 x.r.bal, .int .i64 x.r.st, .int .i64 x.r.by_, .int .i64 x.r.e.o.c, .int .i64 x.r.e.o.s, .int .i64 x.r.e.o.k, .string (txt x.r.e.o.acct), .string (txt x.r.e.o.peer), .int .i64 x.r.e.o.sum, .slice x.L.a x.L.n x.L.c, .int .i64 x.r.e.o.per, .int .i64 x.r.e.o.hold, .string (txt x.r.e.o.note), .bool x.r.e.none, .slice x.D.a x.D.n x.D.c] : Array Value)[i]? = some v) => hbp.cell_ h
    have a0 : wc.cell? ⟨p, 0, none⟩ = some (.int .i64 x.r.bal) := hbp.cell_ rfl
    have a1 : wc.cell? ⟨p, 1, none⟩ = some (.int .i64 x.r.st) := hbp.cell_ rfl
    have a2 : wc.cell? ⟨p, 2, none⟩ = some (.int .i64 x.r.by_) := hbp.cell_ rfl
    have b0 : wc.cell? ⟨q, 0, none⟩ = some (.int .i64 x.r.bal) := hbq.cell_ rfl
    have b1 : wc.cell? ⟨q, 1, none⟩ = some (.int .i64 x.r.st) := hbq.cell_ rfl
    have b2 : wc.cell? ⟨q, 2, none⟩ = some (.int .i64 x.r.by_) := hbq.cell_ rfl
    clear z0 hmx
    replace hbp := Lib.hid hbp
    replace hbq := Lib.hid hbq
    go_wp2_with (first
      | (refine wpList_load_blk rfl 25 (.tmp 11) rfl w.heap.size 0 rfl hc1.out [.int .i64 x.r.i.r, .int .i64 x.r.i.n] rfl Tryz.underlying25 rfl inst_size ?_)
      | (refine wpList_load_blk rfl 25 (.tmp 13) rfl (w.heap.size + 1) 0 rfl hc2.out [.int .i64 x.r.i.r, .int .i64 x.r.i.n] rfl Tryz.underlying25 rfl inst_size ?_)
      | (refine wpList_step (fun K hK => ?_); rw [if_pos (by rfl)]; refine wp_load_mid 33 (.tmp 38) rfl p 3 rfl [.int .i64 x.r.e.o.c, .int .i64 x.r.e.o.s, .int .i64 x.r.e.o.k, .string (txt x.r.e.o.acct), .string (txt x.r.e.o.peer), .int .i64 x.r.e.o.sum, .slice x.L.a x.L.n x.L.c, .int .i64 x.r.e.o.per, .int .i64 x.r.e.o.hold, .string (txt x.r.e.o.note), .bool x.r.e.none, .slice x.D.a x.D.n x.D.c] _ (Blk.range hbp.out 3 _ rfl) Tryz.underlying33 rfl entry_size ?_; refine hK _ _ ?_)
      | (refine wpList_step (fun K hK => ?_); rw [if_pos (by rfl)]; refine wp_load_mid 33 (.tmp 40) rfl q 3 rfl [.int .i64 x.r.e.o.c, .int .i64 x.r.e.o.s, .int .i64 x.r.e.o.k, .string (txt x.r.e.o.acct), .string (txt x.r.e.o.peer), .int .i64 x.r.e.o.sum, .slice M.a M.n M.c, .int .i64 x.r.e.o.per, .int .i64 x.r.e.o.hold, .string (txt x.r.e.o.note), .bool x.r.e.none, .slice E.a E.n E.c] _ (Blk.range hbq.out 3 _ rfl) Tryz.underlying33 rfl entry_size ?_; refine hK _ _ ?_))
    refine (kE.out _ hM2.out).mono ?_
    rintro e w6 ⟨rfl, hm6⟩
    dsimp only
    replace hm6 := Lib.hid hm6
    go_wp2_with fail
    go_ret
    exact ⟨rfl, hM2.out.trans hm6.out⟩
end Go.Proofs.YtdnbclhidpkpgaaGreat
/-
  Maps by Inst: what they hold, as lists of pairs in whatever order. No condition.
-/
namespace Go.Proofs.YtdnbclhidpkpgaaGreat
set_option linter.unusedVariables false
set_option linter.unusedSimpArgs false
open Go.RowKit
open Go.Maps (Keyed)
def isVal (i : Is) : Value := .agg #[.int .i64 i.r, .int .i64 i.n]
def inI (i : Is) : Prop := (Lit.int .i64 i.r).wf = true ∧ (Lit.int .i64 i.n).wf = true
def klI (i : Is) : Lit := .string (keyBytes [.int .i64 i.r, .int .i64 i.n])
theorem instKeyed : Keyed Tryz.prog 25 := Keyed.of_law (deep_law_laid (by kernel_rfl) (m := 2) (by omega) (by decide +kernel) (by kernel_rfl) (by kernel_rfl))
theorem types_pos : ∃ N, Tryz.prog.types.size = N + 1 := ⟨Tryz.prog.types.size - 1, (Nat.sub_add_cancel (by decide +kernel)).symm⟩
theorem inst_cells : Tryz.prog.cellsOf 25 = 2 := by kernel_rfl
theorem int_cells : Tryz.prog.cellsOf 3 = 1 := by kernel_rfl
theorem inst_lits (N : Nat) (a b : Value) : Tryz.prog.keyLits (N + 1 + 1) 25 [a, b] = (match Tryz.prog.keyLits (N + 1) 3 [a], Tryz.prog.keyLits (N + 1) 3 [b] with | some x, some y => some (x ++ y) | _, _ => none) := by
  conv => lhs; unfold Program.keyLits
  simp only [Tryz.underlying25]
  simp [inst_cells, int_cells]
  cases Tryz.prog.keyLits (N + 1) 3 [a] with
  | none => rfl
  | some x =>
    cases Tryz.prog.keyLits (N + 1) 3 [b] with
    | none => rfl
    | some y => simp
theorem int_lits (N : Nat) (a : Value) : Tryz.prog.keyLits (N + 1) 3 [a] = (match a with | .int q n => if q = .i64 ∧ (Lit.int .i64 n).wf = true then some [.int .i64 n] else none | _ => none) := by
  conv => lhs; unfold Program.keyLits
  simp only [Tryz.underlying3]
  cases a <;> rfl
set_option maxRecDepth 100000 in
theorem klI_of {i : Is} (h : inI i) : keyOf Tryz.prog 25 (isVal i) = some (klI i) := by
  have hkt : Tryz.prog.keyType 25 = true := by kernel_rfl
  unfold keyOf isVal klI
  rw [Tryz.underlying25]
  simp only
  rw [if_pos (by simp [hkt, Value.formed, Tryz.underlying25, inst_cells])]
  obtain ⟨N, hN⟩ := types_pos
  rw [hN]
  show (Tryz.prog.keyLits (N + 1 + 1) 25 [.int .i64 i.r, .int .i64 i.n]).map _ = _
  rw [inst_lits, int_lits, int_lits]
  simp only [h.1, h.2, and_self, if_true]
  rfl
set_option maxRecDepth 100000 in
theorem klI_inv {v : Value} {l : Lit} (h : keyOf Tryz.prog 25 v = some l) : ∃ i, v = isVal i ∧ inI i ∧ l = klI i := by
  unfold keyOf at h
  rw [Tryz.underlying25] at h
  simp only at h
  split at h
  · rename_i hc
    simp only [Bool.and_eq_true] at hc
    obtain ⟨N, hN⟩ := types_pos
    rw [hN] at h
    have hf := hc.2
    unfold Value.formed at hf
    cases v with
    | agg cs =>
      simp only [Tryz.underlying25, inst_cells, beq_iff_eq] at hf
      obtain ⟨a, b, hab⟩ : ∃ a b, cs = #[a, b] := by
        match cs, hf with
        | ⟨[a, b]⟩, _ => exact ⟨a, b, rfl⟩
      subst hab
      change (Tryz.prog.keyLits (N + 1 + 1) 25 [a, b]).map _ = _ at h
      rw [inst_lits, int_lits, int_lits] at h
      cases a <;> first | (simp at h; done) | skip
      cases b <;> first | (simp at h; done) | skip
      rename_i q x q' y
      by_cases h1 : q = .i64 ∧ (Lit.int .i64 x).wf = true
      · by_cases h2 : q' = .i64 ∧ (Lit.int .i64 y).wf = true
        · obtain ⟨rfl, w1⟩ := h1
          obtain ⟨rfl, w2⟩ := h2
          simp only [w1, w2, and_self, if_true] at h
          exact ⟨⟨x, y⟩, rfl, ⟨w1, w2⟩, by simpa [klI] using h.symm⟩
        · simp only [h2, if_false] at h
          split at h <;> first | (simp at h; done) | (rename_i he; cases he)
      · simp only [h1, if_false] at h
        simp at h
    | _ => simp [Tryz.underlying25] at hf
  · cases h
theorem isVal_inj {i j : Is} (h : isVal i = isVal j) : i = j := by
  obtain ⟨a, b⟩ := i
  obtain ⟨c, d⟩ := j
  simp [isVal] at h
  rw [h.1, h.2]
theorem klI_inj {i j : Is} (hi : inI i) (hj : inI j) (h : klI i = klI j) : i = j := by
  have h1 := klI_of hi
  have h2 := klI_of hj
  rw [← h] at h2
  exact isVal_inj (instKeyed.inj h1 h2)
theorem klI_key (i : Is) : WideAt.IsKeyLit (klI i) := trivial
/-! ### what a map holds -/
abbrev InstV := Is × Value
def findI (L : List InstV) (i : Is) : Option Value := (L.find? (fun p => p.1 == i)).map (·.2)
def putI' (i : Is) (v : Value) (L : List InstV) : List InstV := (i, v) :: L.filter fun p => !(p.1 == i)
def dropI (i : Is) (L : List InstV) : List InstV := L.filter fun p => !(p.1 == i)
structure RepI (D : DataW Value) (L : List InstV) : Prop where
  tidy : Maps.Tidy D
  nodup : L.Pairwise fun p q => p.1 ≠ q.1
  wf : ∀ p ∈ L, inI p.1
  size : Maps.size D = L.length
  at_ : ∀ i, inI i → ∀ z, D.atKey (klI i) (.held z) = .held ((findI L i).getD z)
  has : ∀ i, inI i → Maps.has D (klI i) = (findI L i).isSome
theorem findI_nil (i : Is) : findI [] i = none := rfl
theorem findI_put_same (L : List InstV) (i : Is) (v : Value) : findI (putI' i v L) i = some v := by simp [findI, putI']
theorem findI_drop_same (L : List InstV) (i : Is) : findI (dropI i L) i = none := by
  unfold findI dropI
  rw [List.find?_filter]
  rw [Option.map_eq_none_iff, List.find?_eq_none]
  intro x _
  cases (x.1 == i) <;> simp
theorem findI_drop_other (L : List InstV) {i j : Is} (h : j ≠ i) : findI (dropI i L) j = findI L j := by
  unfold findI dropI
  rw [List.find?_filter]
  congr 2
  funext a
  by_cases hj : a.1 = j
  · have h1 : (a.1 == i) = false := by simp [hj, h]
    have h2 : (a.1 == j) = true := by simp [hj]
    rw [h1, h2]; rfl
  · have h2 : (a.1 == j) = false := by simp [hj]
    rw [h2]; simp
theorem findI_put_other (L : List InstV) {i j : Is} (v : Value) (h : j ≠ i) : findI (putI' i v L) j = findI L j := by
  have : findI (putI' i v L) j = findI (dropI i L) j := by
    unfold findI putI' dropI
    rw [List.find?_cons_of_neg (by simpa using fun e => h e.symm)]
  rw [this, findI_drop_other L h]
theorem findI_mem {L : List InstV} {i : Is} {v : Value} (h : findI L i = some v) : (i, v) ∈ L := by
  unfold findI at h
  cases hf : L.find? (fun p => p.1 == i) with
  | none => rw [hf] at h; cases h
  | some p =>
    rw [hf] at h
    simp only [Option.map_some, Option.some.injEq] at h
    have h1 := List.mem_of_find?_eq_some hf
    have h2 := List.find?_some hf
    simp only [beq_iff_eq] at h2
    obtain ⟨a, b⟩ := p
    simp only at h h2
    subst h h2
    exact h1
theorem findI_of_mem {L : List InstV} (hn : L.Pairwise fun p q => p.1 ≠ q.1) {i : Is} {v : Value} (h : (i, v) ∈ L) : findI L i = some v := by
  induction L with
  | nil => cases h
  | cons p L ih =>
    obtain ⟨h1, h2⟩ := List.pairwise_cons.1 hn
    unfold findI
    rcases List.mem_cons.1 h with h | h
    · subst h; simp
    · rw [List.find?_cons_of_neg (by simpa using h1 _ h)]
      exact ih h2 h
theorem findI_none {L : List InstV} {i : Is} (h : findI L i = none) : ∀ p ∈ L, p.1 ≠ i := by
  intro p hp he
  unfold findI at h
  rw [Option.map_eq_none_iff, List.find?_eq_none] at h
  exact h p hp (by simp [he])
theorem drop_none {L : List InstV} {i : Is} (h : findI L i = none) : dropI i L = L := by
  unfold dropI
  rw [List.filter_eq_self]
  intro p hp
  have := findI_none h p hp
  simp [this]
theorem drop_some {L : List InstV} (hn : L.Pairwise fun p q => p.1 ≠ q.1) {i : Is} {v : Value} (h : findI L i = some v) : (dropI i L).length + 1 = L.length := by
  induction L with
  | nil => cases h
  | cons p L ih =>
    obtain ⟨h1, h2⟩ := List.pairwise_cons.1 hn
    by_cases hp : p.1 = i
    · have e : dropI i (p :: L) = L := by
        unfold dropI
        rw [List.filter_cons_of_neg (by simp [hp]), List.filter_eq_self]
        intro q hq
        have := h1 q hq
        rw [hp] at this
        simp [Ne.symm this]
      rw [e]; rfl
    · have e : dropI i (p :: L) = p :: dropI i L := by
        unfold dropI
        rw [List.filter_cons_of_pos (by simp [hp])]
      have hf : findI L i = some v := by
        unfold findI at h ⊢
        rw [List.find?_cons_of_neg (by simpa using hp)] at h
        exact h
      rw [e, List.length_cons, List.length_cons, ih h2 hf]
theorem RepI.nil : RepI (.map []) [] := ⟨Maps.tidy_empty, List.Pairwise.nil, fun p hp => (List.not_mem_nil hp).elim, rfl, fun i hi z => rfl, fun i hi => rfl⟩
theorem RepI.put {D : DataW Value} {L : List InstV} (h : RepI D L) {i : Is} (hi : inI i) (v : Value) : RepI (D.put (klI i) (.held v)) (putI' i v L) := by
  have hne : ∀ {j : Is}, inI j → j ≠ i → klI j ≠ klI i := fun hj h1 h2 => h1 (klI_inj hj hi h2)
  refine ⟨h.tidy.put (klI_key i) _, ?_, fun p hp => ?_, ?_, fun j hj z => ?_, fun j hj => ?_⟩
  · refine List.pairwise_cons.2 ⟨fun q hq => ?_, h.nodup.filter _⟩
    have := (List.mem_filter.1 hq).2
    simp only [Bool.not_eq_true', beq_eq_false_iff_ne, ne_eq] at this
    exact fun e => this e.symm
  · rcases List.mem_cons.1 hp with rfl | hp
    · exact hi
    · exact h.wf p (List.mem_filter.1 hp).1
  · rw [Maps.size_put h.tidy, h.has i hi, h.size]
    show _ = (dropI i L).length + 1
    cases hf : findI L i with
    | none => rw [drop_none hf]; simp
    | some v' => have := drop_some h.nodup hf; simp; omega
  · by_cases e : j = i
    · subst e
      rw [Maps.atKey_put_same h.tidy.isMap (klI_key j), findI_put_same]; rfl
    · rw [Maps.atKey_put_other (hne hj e), h.at_ j hj, findI_put_other L v e]
  · by_cases e : j = i
    · subst e
      rw [Maps.has_put_same h.tidy.isMap (klI_key j), findI_put_same]; rfl
    · rw [Maps.has_put_other (hne hj e), h.has j hj, findI_put_other L v e]
theorem RepI.del {D : DataW Value} {L : List InstV} (h : RepI D L) {i : Is} (hi : inI i) : RepI (D.del (klI i)) (dropI i L) := by
  have hne : ∀ {j : Is}, inI j → j ≠ i → klI j ≠ klI i := fun hj h1 h2 => h1 (klI_inj hj hi h2)
  refine ⟨h.tidy.del _, h.nodup.filter _, fun p hp => h.wf p (List.mem_filter.1 hp).1, ?_, fun j hj z => ?_, fun j hj => ?_⟩
  · have h1 := Maps.size_del (k := klI i) h.tidy
    rw [h.has i hi, h.size] at h1
    cases hf : findI L i with
    | none => rw [drop_none hf]; rw [hf] at h1; simpa using h1
    | some v' => have := drop_some h.nodup hf; rw [hf] at h1; simp at h1; omega
  · by_cases e : j = i
    · subst e
      rw [Maps.atKey_del_same, findI_drop_same]; rfl
    · rw [Maps.atKey_del_other (hne hj e), h.at_ j hj, findI_drop_other L e]
  · by_cases e : j = i
    · subst e
      rw [Maps.has_del_same, findI_drop_same]; rfl
    · rw [Maps.has_del_other (hne hj e), h.has j hj, findI_drop_other L e]
/-- a map by Inst in block b -/
def MapK (w : World) (b : Nat) (L : List InstV) : Prop := ∃ n D, n < maxLen ∧ w.ownsMap Tryz.prog 25 VR b n D ∧ RepI D L
section
variable {F : Nat → Prop} {w w' : World} {b : Nat} {L : List InstV}
theorem MapK.lt (h : MapK w b L) : b < w.heap.size := by obtain ⟨n, D, _, h, _⟩ := h; exact h.lt
theorem MapK.nodup (h : MapK w b L) : L.Pairwise fun p q => p.1 ≠ q.1 := by obtain ⟨n, D, _, _, h⟩ := h; exact h.nodup
theorem MapK.wf (h : MapK w b L) : ∀ p ∈ L, inI p.1 := by obtain ⟨n, D, _, _, h⟩ := h; exact h.wf
theorem MapK.mod (h : MapK w b L) (hm : Mod F w w') (hb : ¬ F b) : MapK w' b L := by
  obtain ⟨n, D, hn, ⟨es, clock, h1, h2⟩, h3⟩ := h
  exact ⟨n, D, hn, ⟨es, clock, (hm.block b (Array.getElem?_eq_some_iff.1 h1).1 hb).trans h1, h2⟩, h3⟩
theorem MapK.alloc (h : MapK w b L) (o : Obj) : MapK (w.alloc o) b L := by obtain ⟨n, D, hn, h1, h3⟩ := h; exact ⟨n, D, hn, h1.alloc o, h3⟩
theorem MapK.made (w : World) : MapK (w.alloc (.map #[] 0)) w.heap.size [] := ⟨0, _, by decide, World.ownsMap_made _ _ _ _, RepI.nil⟩
theorem MapK.tight (h : MapK w b L) : ∃ D, w.ownsMap Tryz.prog 25 VR b L.length D ∧ RepI D L := by
  obtain ⟨n, D, hn, ⟨es, clock, h1, h2, h3, h4⟩, h5⟩ := h
  refine ⟨D, ⟨es, clock, h1, h2, ?_, h4⟩, h5⟩
  have := congrArg Maps.size h4
  rw [h5.size] at this
  rw [this]; simp [Maps.size, length_sorted]
theorem MapK.store_run (h : MapK w b L) {t e : TypeId} (ht : Tryz.prog.underlying t = some (.map 25 e)) (hroom : L.length + 1 < maxLen) {i : Is} (hi : inI i) (val : Value) :
    ∃ w', (Instr.mapUpdate t (.map (some b)) (isVal i) val).run Tryz.prog w = .ok () w' ∧ MapK w' b (putI' i val L) ∧ Mod (· = b) w w' ∧ w'.heap.size = w.heap.size := by
  obtain ⟨D, h1, h2⟩ := h.tight
  obtain ⟨w', hrun, h3, h4⟩ := h1.store instKeyed ht (by omega) (klI_of hi) (d := .held val) (ps := []) (show VR val = some (.held val, []) from rfl)
  refine ⟨w', hrun, ⟨_, _, hroom, h3, h2.put hi val⟩, (Mod.of_grown h4.grown).mono fun i hi => by cases hi; rfl, ?_⟩
  obtain ⟨es, c, es', c', _, rfl⟩ := h4
  simp [ChangeMaps.setBlock]
theorem MapK.look_run (h : MapK w b L) {t e : TypeId} (ht : Tryz.prog.underlying t = some (.map 25 e)) {z : Value} (hz : (zeroValue e).run Tryz.prog w = .ok z w) {i : Is} (hi : inI i) :
    (Instr.lookup t (.map (some b)) (isVal i) true).run Tryz.prog w = .ok (.tuple #[(findI L i).getD z, .bool (findI L i).isSome]) w := by
  obtain ⟨D, h1, h2⟩ := h.tight
  obtain ⟨v, ps, hrun, hv⟩ := h1.look_ok instKeyed ht hz (zd := .held z) (zp := []) rfl (klI_of hi)
  rw [h2.at_ i hi] at hv
  have : v = (findI L i).getD z := by simp [VR] at hv; exact hv.1
  rw [this, h2.has i hi] at hrun
  exact hrun
theorem MapK.len_run (h : MapK w b L) {t e : TypeId} (ht : Tryz.prog.underlying t = some (.map 25 e)) (ty : TypeId) : (Builtin.len_ #[t] ty #[.map (some b)]).run Tryz.prog w = .ok (.int .i64 (L.length : Nat)) w := by
  obtain ⟨D, h1, h2⟩ := h.tight
  have := h1.len ht ty
  rw [h2.size] at this
  exact this
theorem MapK.drop_run (h : MapK w b L) {t e : TypeId} (ht : Tryz.prog.underlying t = some (.map 25 e)) {i : Is} (hi : inI i) (ty : TypeId) :
    ∃ w', (Builtin.delete_ #[t, 25] ty #[.map (some b), isVal i]).run Tryz.prog w = .ok (.tuple #[]) w' ∧ MapK w' b (dropI i L) ∧ Mod (· = b) w w' ∧ w'.heap.size = w.heap.size := by
  obtain ⟨n, D, hn, h1, h2⟩ := h
  obtain ⟨w', hrun, h3, h4⟩ := h1.drop instKeyed ht (klI_of hi) ty
  refine ⟨w', hrun, ⟨n, _, hn, h3, h2.del hi⟩, (Mod.of_grown h4.grown).mono fun i hi => by cases hi; rfl, ?_⟩
  obtain ⟨es, c, es', c', _, rfl⟩ := h4
  simp [ChangeMaps.setBlock]
end
/-- an iterator over a map: R: what is still to come -/
def ItK (w : World) (b r : Nat) (L R : List InstV) : Prop := ∃ n D left cnt, w.ranges Tryz.prog 25 VR b r n D left cnt ∧ RepI D L ∧ R = L.filter fun p => left (klI p.1)
theorem ItK.mod {F : Nat → Prop} {w w' : World} {b r : Nat} {L R : List InstV} (h : ItK w b r L R) (hm : Mod F w w') (hb : ¬ F b) (hr : ¬ F r) : ItK w' b r L R := by
  obtain ⟨n, D, left, cnt, ⟨es, clock, since, seen, c0, h1, h2, h3, h4, h5, h6⟩, h7, h8⟩ := h
  have lb : b < w.heap.size := (Array.getElem?_eq_some_iff.1 h1).1
  have lr : r < w.heap.size := (Array.getElem?_eq_some_iff.1 h5).1
  exact ⟨n, D, left, cnt, ⟨es, clock, since, seen, c0, (hm.block b lb hb).trans h1, h2, h3, h4, (hm.block r lr hr).trans h5, h6⟩, h7, h8⟩
theorem ItK.next {w : World} {b r : Nat} {L R : List InstV} (h : ItK w b r L R) (ty : TypeId) :
    (R = [] ∧ (Instr.next (.pointer (some ⟨r, 0, none⟩)) false ty).run Tryz.prog w = .ok (.tuple #[.bool false]) w) ∨
    ∃ (p : InstV) (w' : World), p ∈ R ∧ p ∈ L ∧ ItK w' b r L (dropI p.1 R) ∧ ((dropI p.1 R).length < R.length ∧ w'.rangeLeft b r < w.rangeLeft b r) ∧ Mod (· = r) w w' ∧ w'.heap.size = w.heap.size ∧
      (Instr.next (.pointer (some ⟨r, 0, none⟩)) false ty).run Tryz.prog w = .ok (.tuple #[.bool true, isVal p.1, p.2]) w' ∧
      (Instr.entry (.pointer (some ⟨r, 0, none⟩))).run Tryz.prog w' = .ok (.tuple #[isVal p.1, p.2]) w' := by
  obtain ⟨n, D, left, cnt, hr, h2, h3⟩ := h
  rcases hr.next instKeyed ty with ⟨h0, hl, hrun⟩ | ⟨key, v, kl, y, w', cnt', hkey, hlk, hv, hat, hrun, hrg, hlt, hgr, hsz, hen⟩
  · refine .inl ⟨?_, hrun⟩
    rw [h3, List.filter_eq_nil_iff]
    intro p _
    rw [hl]; simp
  · right
    obtain ⟨i, rfl, hi, rfl⟩ := klI_inv hkey
    have hy : y = (.held v, []) := by unfold VR at hv; exact (Option.some.inj hv).symm
    subst hy
    have hfs : (findI L i).isSome = true := by
      rw [← h2.has i hi]
      cases hh : Maps.has D (klI i) with
      | true => rfl
      | false =>
        have := Maps.atKey_of_not_has hh (.held (.bool true))
        have h5 := Maps.atKey_of_not_has hh (.held (.bool false))
        rw [hat] at this h5
        rw [this] at h5
        cases h5
    obtain ⟨v', hf⟩ := Option.isSome_iff_exists.1 hfs
    have hvv : v' = v := by
      have h5 := h2.at_ i hi v
      rw [hat, hf] at h5
      simpa using h5.symm
    subst hvv
    have hm := findI_mem hf
    have hmR : (i, v') ∈ R := by rw [h3]; exact List.mem_filter.2 ⟨hm, hlk⟩
    have hR' : dropI i R = L.filter fun p => (left (klI p.1) && !(klI p.1).sameKey (klI i)) := by
      rw [h3]
      unfold dropI
      rw [List.filter_filter]
      refine List.filter_congr fun p hp => ?_
      by_cases e : p.1 = i
      · rw [e]
        have : (klI i).sameKey (klI i) = true := WideAt.sameKey_self (klI_key i)
        simp [this]
      · have : (klI p.1).sameKey (klI i) = false := Maps.sameKey_ne (fun h => e (klI_inj (h2.wf p hp) hi h))
        have e2 : (p.1 == i) = false := by simpa using e
        rw [this, e2]
        simp
    have hRn : R.Pairwise fun p q => p.1 ≠ q.1 := by rw [h3]; exact h2.nodup.filter _
    refine ⟨(i, v'), w', hmR, hm, ⟨n, D, _, cnt', hrg, h2, hR'⟩, ?_, (Mod.of_grown hgr).mono fun k hk => by cases hk; rfl, hsz, hrun, hen⟩
    have := drop_some hRn (findI_of_mem hRn hmR)
    refine ⟨?_, by rw [hrg.left_eq, hr.left_eq]; exact hlt⟩
    show (dropI i R).length < R.length
    omega
end Go.Proofs.YtdnbclhidpkpgaaGreat
/-
  slices.Collect of records that an iterator gives; maps.Values of a map of records by Inst. No condition.
-/
namespace Go.Proofs.YtdnbclhidpkpgaaGreat
set_option linter.unusedVariables false
set_option linter.unusedSimpArgs false
open Go.RowKit Go.Sort Go.Shelf
def rsV (x : Rs) : Value := .agg #[.int .i64 x.r.i.r, .int .i64 x.r.i.n, .int .i64 x.r.bal, .int .i64 x.r.st, .int .i64 x.r.by_, .int .i64 x.r.e.o.c, .int .i64 x.r.e.o.s, .int .i64 x.r.e.o.k, .string (txt x.r.e.o.acct), .string (txt x.r.e.o.peer), .int .i64 x.r.e.o.sum, .slice x.L.a x.L.n x.L.c, .int .i64 x.r.e.o.per, .int .i64 x.r.e.o.hold, .string (txt x.r.e.o.note), .bool x.r.e.none, .slice x.D.a x.D.n x.D.c]
def mapM (M : List Rs) : List InstV := M.map fun x => (x.r.i, rsV x)
theorem grown_of_mod {w w' : World} {g : Nat} (h : Mod (only g) w w') : w.grownBy w' (some g) := ⟨h.os, h.tape, h.output, h.size, fun k hk hne => h.block k hk (fun hh => hne (by have : k = g := hh; rw [this]))⟩
theorem keeps_of_mod {w w' : World} {g : Nat} {t : TypeId} {cs : Array Value} (h : Mod (only g) w w') (hb : Blk w g t cs) : KeepsWalks w w' :=
  KeepsWalks.of_grownBy (grown_of_mod h) (fun j o hj ho => by cases hj; rw [hb] at ho; cases ho; rfl)
theorem wpListIn_store_blk {F : Fence} {n : Nat} {P : Program} {ops : Array Oper} {rest : List Oper} {op : Oper} {a : Act} {w : World} {Q : Exit → Act → World → Prop} (hgd : op.guard = none) (ty : TypeId) (x y : Operand) (ho : op.op = .store ty x y)
    (g o : Nat) (cells : Array Value) (hx : a.eval x = .pointer (some ⟨g, o, none⟩)) (hy : a.eval y = .agg cells) {t : TypeId} {cs : Array Value} (hb : Blk w g t cs) (hn : o + cells.size ≤ cs.size)
    (hi : (P.info? ty).map (·.size) = some cells.size) (h1 : cells.toList.all (·.oneCell') = true) (cs' : Array Value) (hcs : cs.toList.take o ++ (cells.toList ++ cs.toList.drop (o + cells.size)) = cs'.toList)
    (h : ∀ w', Blk w' g t cs' → Mod (only g) w w' → wpListIn F n P ops Q rest (a.put op.dst undef) w') : wpListIn F n P ops Q (op :: rest) a w := by
  refine wpListIn_plain hgd fun K hK' => ?_
  have hrun := run_storeAt_mid (P := P) w g o ty cells (hb.there o _ hn) hi (by rw [← Array.all_toList]; exact h1)
  unfold Oper.wpIn
  refine ⟨?_, ?_⟩
  · simp [Oper.about, ho]
  · rw [Oper.semAt_plain F _ _ (by rw [ho]; intro c hc'; cases hc')]
    simp [execOp, ho, hx, hy, hrun, Result.andThen]
    exact hK' _ _ (h _ (by have e := setL_toList cells.toList cs o (by simpa using hn); rw [Array.length_toList, hcs, Array.toList_inj] at e; rw [← e]; exact Blk.setCells _ _ _ _ hb) (Mod.setCells _ _ _ _ (Mod.refl _ w) rfl))
theorem wpListIn_load_blk {F : Fence} {n : Nat} {P : Program} {ops : Array Oper} {rest : List Oper} {op : Oper} {a : Act} {w : World} {Q : Exit → Act → World → Prop} (hgd : op.guard = none) (ty : TypeId) (x : Operand) (ho : op.op = .load ty x)
    (g o : Nat) (hx : a.eval x = .pointer (some ⟨g, o, none⟩)) {t : TypeId} {cs : Array Value} (hb : Blk w g t cs) (vs : List Value) (hv : (cs.toList.drop o).take vs.length = vs) {d : TypeDesc} (hu : P.underlying ty = some d) (hd : d.isRow = true)
    (hi : (P.info? ty).map (·.size) = some vs.length) (h : wpListIn F n P ops Q rest (a.put op.dst (.agg vs.toArray)) w) : wpListIn F n P ops Q (op :: rest) a w := by
  refine wpListIn_plain hgd fun K hK' => ?_
  have hrun := run_loadAt_mid (P := P) w g o ty vs d (hb.range o vs hv) hu hd hi
  unfold Oper.wpIn
  refine ⟨?_, ?_⟩
  · simp [Oper.about, ho]
  · rw [Oper.semAt_plain F _ _ (by rw [ho]; intro c hc'; cases hc')]
    simp [execOp, ho, hx, hrun, Result.andThen]
    exact hK' _ _ h
/-! ### the iterator -/
theorem ItK.of_walks {w w' : World} {b r : Nat} {L R : List InstV} (h : ItK w b r L R) (hk : KeepsWalks w w') : ItK w' b r L R := by
  obtain ⟨n, D, left, cnt, h1, h2, h3⟩ := h
  exact ⟨n, D, left, cnt, h1.of_walks hk, h2, h3⟩
theorem ItK.iter_walk {w : World} {b r : Nat} {L R : List InstV} (h : ItK w b r L R) : ∃ o : Obj, w.heap[r]? = some o ∧ o.isWalk = true := by
  obtain ⟨n, D, left, cnt, h1, _⟩ := h
  exact h1.iter_walk
theorem grown_new {w w1 w' : World} (h1 : w.grownBy w1 none) {g : Nat} (hg : w.heap.size ≤ g) (h : Mod (only g) w1 w') : w.grownBy w' none :=
  ⟨h.os.trans h1.os, h.tape.trans h1.tape, h.output.trans h1.output, Nat.le_trans h1.size h.size, fun k hk _ => (h.block k (Nat.lt_of_lt_of_le hk h1.size) (fun hh => by have : k = g := hh; omega)).trans (h1.block k hk (by simp))⟩
theorem mapM_drop {M : List Rs} {x : Rs} (hn : (mapM M).Pairwise fun p q => p.1 ≠ q.1) (h : x ∈ M) : ∃ M', dropI x.r.i (mapM M) = mapM M' ∧ (x :: M').Perm M := by
  induction M with
  | nil => cases h
  | cons y M ih =>
    obtain ⟨h1, h2⟩ := List.pairwise_cons.1 hn
    by_cases he : y.r.i = x.r.i
    · have hxy : x = y := by
        rcases List.mem_cons.1 h with h | h
        · exact h
        · exact absurd he (h1 _ (List.mem_map.2 ⟨x, h, rfl⟩))
      subst hxy
      refine ⟨M, ?_, List.Perm.refl _⟩
      show dropI x.r.i ((x.r.i, rsV x) :: mapM M) = _
      unfold dropI
      rw [List.filter_cons_of_neg (by simp), List.filter_eq_self]
      intro q hq
      have := h1 q hq
      simpa using fun e => this e.symm
    · have hx : x ∈ M := by
        rcases List.mem_cons.1 h with h | h
        · subst h; exact absurd rfl he
        · exact h
      obtain ⟨M', e1, e2⟩ := ih h2 hx
      refine ⟨y :: M', ?_, (List.Perm.swap y x M').trans (e2.cons y)⟩
      show dropI x.r.i ((y.r.i, rsV y) :: mapM M) = _
      unfold dropI
      rw [List.filter_cons_of_pos (by simpa using he)]
      show _ :: dropI x.r.i (mapM M) = _
      rw [e1]; rfl
set_option maxRecDepth 100000 in
set_option maxHeartbeats 4000000 in
theorem values1_in (F : Fence) (n : Nat) (hF : F.fn 93) (hro : F.round = none) (hn : 1 ≤ n) (l Bm b : Nat) (M : List Rs) (J : List Rs → World → Prop)
    (hY : ∀ pre x W, J pre W → pre.length < M.length → x ∈ M → YieldAt F (n - 1) Tryz.prog l #[rsV x] W fun e W' => e = .returned (.bool true) ∧ J (pre ++ [x]) W' ∧ KeepsWalks W W')
    (W : World) (hJ : AbidesFrom W.heap.size J) (hm : W.cell? ⟨Bm, 0, none⟩ = some (.map (some b))) (hown : MapK W b (mapM M)) (h0 : J [] W) :
    CallsIn F n Tryz.prog 93 #[.func (.yield l) #[] #[], .pointer (some ⟨Bm, 0, none⟩)] W fun e W' => (∃ v, e = .returned v) ∧ ∃ ss : List Rs, ss.Perm M ∧ J ss W' := by
  obtain ⟨D, ho1, ho2⟩ := hown.tight
  refine callsIn_of_wp Tryz.func93 rfl hF ?_ hro
  simp only [Tryz.ntmps93, List.size_toArray, List.length_cons, List.length_nil, Nat.reduceAdd, Nat.reduceSub, Array.replicate_succ, Array.replicate_zero, List.push_toArray, List.append_toArray, List.nil_append, List.cons_append]
  have hK := Lib.hid (hY)
  replace hY := Lib.hid hY
  replace hJ := Lib.hid hJ
  replace h0 := Lib.hid h0
  replace ho2 := Lib.hid ho2
  replace hown := Lib.hid hown
  gi_wp2_with (first
    | (gi_at_range; refine wpListIn_range_own _ rfl _ 102 rfl 25 37 instKeyed Tryz.underlying102 VR b _ _ rfl ho1 ?_; intro w0 hrg0 hg0 hs0)
    | gi_in)
  go_frame
  have hIt0 : ItK w0 b W.heap.size (mapM M) (mapM M) := ⟨_, D, _, _, hrg0, ho2.out, by
    symm
    rw [List.filter_eq_self]
    intro p hp
    rw [ho2.out.has p.1 (ho2.out.wf p hp), findI_of_mem ho2.out.nodup (show (p.1, p.2) ∈ mapM M from hp)]; rfl⟩
  have hnd := Lib.hid ho2.out.nodup
  have hJ0 := Lib.hid (hJ.out [] W w0 none h0.out hg0 (fun r e => by cases e))
  have hsz0 := Lib.hid (show W.heap.size < w0.heap.size by rw [hs0]; omega)
  clear hrg0 hg0 ho1 hs0
  replace hIt0 := Lib.hid hIt0
  gi_loopw [4] (fun _ wr => ∃ (ss R : List Rs), ItK wr b W.heap.size (mapM M) (mapM R) ∧ (ss ++ R).Perm M ∧ (∀ x ∈ R, x ∈ M) ∧ W.heap.size < wr.heap.size ∧ J ss wr)
    (fun _ wr => wr.rangeLeft b W.heap.size)
  case atStart =>
    exact ⟨[], M, hIt0.out, by simp, fun x hx => hx, hsz0.out, hJ0.out⟩
  case round =>
    obtain ⟨ss, R, hIt, hP, hR, hsz, hJs⟩ := hrel
    rcases hIt.next 0 with ⟨hR0, hrun⟩ | ⟨p, w2, hpR, hpM, hIt2, ⟨hle, hml⟩, hm2, hs2, hrun, hen⟩
    · have hR0' : R = [] := by cases R with | nil => rfl | cons y R => cases hR0
      subst hR0'
      rw [List.append_nil] at hP
      replace hP := Lib.hid hP
      replace hJs := Lib.hid hJs
      clear hIt hR
      gi_wp2
      go_end0
      exact ⟨⟨_, rfl⟩, ss, hP.out, hJs.out⟩
    · obtain ⟨x, hxR, rfl⟩ := List.mem_map.1 hpR
      have hRn : (mapM R).Pairwise fun p q => p.1 ≠ q.1 := by
        have hsub : (mapM R).length = R.length := by simp [mapM]
        obtain ⟨n', D', left, cnt, _, hr2, hr3⟩ := hIt
        rw [hr3]; exact hr2.nodup.filter _
      obtain ⟨R', e1, e2⟩ := mapM_drop hRn hxR
      simp only at hIt2 hrun hen hle
      rw [e1] at hIt2 hle
      have hP2 : (ss ++ [x] ++ R').Perm M := by
        rw [List.append_assoc]
        exact (List.Perm.append_left ss e2).trans hP
      have hlen : ss.length < M.length := by
        have := hP2.length_eq
        simp at this; omega
      have hg2 : wr.grownBy w2 (some W.heap.size) := grown_of_mod (hm2.mono (fun i hi => hi))
      have hJ2 := hJ.out ss wr w2 _ hJs hg2 (fun r e => by cases e; exact ⟨Nat.le_refl _, hIt.iter_walk⟩)
      have hz := Lib.hid (Blk.new w2 37 #[.int .i64 0, .int .i64 0, .int .i64 0, .int .i64 0, .int .i64 0, .int .i64 0, .int .i64 0, .int .i64 0, .string ⟨#[]⟩, .string ⟨#[]⟩, .int .i64 0, .slice none 0 0, .int .i64 0, .int .i64 0, .string ⟨#[]⟩, .bool false, .slice none 0 0])
      unfold rsV at hrun hen
      replace hP := Lib.hid hP
      replace hP2 := Lib.hid hP2
      replace hJs := Lib.hid hJs
      replace hJ2 := Lib.hid hJ2
      replace hlen := Lib.hid hlen
      replace hR := Lib.hid hR
      replace hxR := Lib.hid hxR
      replace e2 := Lib.hid e2
      replace hIt := Lib.hid hIt
      replace hIt2 := Lib.hid hIt2
      replace hRn := Lib.hid hRn
      replace hm2 := Lib.hid hm2
      replace hs2 := Lib.hid hs2
      replace hg2 := Lib.hid hg2
      replace hle := Lib.hid hle
      replace hpR := Lib.hid hpR
      replace hpM := Lib.hid hpM
      gi_wp2_with (first
        | (refine wpListIn_store_blk rfl 37 (.tmp 4) (.tmp 10) rfl w2.heap.size 0 _ rfl rfl hz.out (by simp) rc_size (by rfl) #[.int .i64 x.r.i.r, .int .i64 x.r.i.n, .int .i64 x.r.bal, .int .i64 x.r.st, .int .i64 x.r.by_, .int .i64 x.r.e.o.c, .int .i64 x.r.e.o.s, .int .i64 x.r.e.o.k, .string (txt x.r.e.o.acct), .string (txt x.r.e.o.peer), .int .i64 x.r.e.o.sum, .slice x.L.a x.L.n x.L.c, .int .i64 x.r.e.o.per, .int .i64 x.r.e.o.hold, .string (txt x.r.e.o.note), .bool x.r.e.none, .slice x.D.a x.D.n x.D.c] rfl ?_; intro w3 hb3 hm3; have hm3' := ((Mod.refl none_ w2).alloc (.cells #[.int .i64 0, .int .i64 0, .int .i64 0, .int .i64 0, .int .i64 0, .int .i64 0, .int .i64 0, .int .i64 0, .string ⟨#[]⟩, .string ⟨#[]⟩, .int .i64 0, .slice none 0 0, .int .i64 0, .int .i64 0, .string ⟨#[]⟩, .bool false, .slice none 0 0] 37)).in_new (Nat.le_refl _) hm3; have hg3 := grown_new (World.grownBy_alloc w2 (.cells #[.int .i64 0, .int .i64 0, .int .i64 0, .int .i64 0, .int .i64 0, .int .i64 0, .int .i64 0, .int .i64 0, .string ⟨#[]⟩, .string ⟨#[]⟩, .int .i64 0, .slice none 0 0, .int .i64 0, .int .i64 0, .string ⟨#[]⟩, .bool false, .slice none 0 0] 37) none) (Nat.le_refl _) hm3; have hJ3 := hJ.out ss w2 w3 none hJ2.out hg3 (fun r e => by cases e); have hIt3 := Lib.hid (hIt2.out.mod hm3' (fun h => h) (fun h => h)); have hk23 := Lib.hid (KeepsWalks.of_grownBy hg3 (fun j o hj => by cases hj)); have hsz3 := Lib.hid (show W.heap.size < w3.heap.size from Nat.lt_of_lt_of_le (by have := hs2.out; omega) hg3.size); obtain ⟨fn, tmps, assign, body, hy, hRd⟩ := hK.out ss x w3 hJ3 hlen.out (hR.out x hxR.out); dsimp only [rsV] at hy; clear hm3 hm3' hg3 hJ3; replace hRd := Lib.hid hRd)
        | (refine wpListIn_load_blk rfl 37 (.tmp 4) rfl w2.heap.size 0 rfl hb3 [.int .i64 x.r.i.r, .int .i64 x.r.i.n, .int .i64 x.r.bal, .int .i64 x.r.st, .int .i64 x.r.by_, .int .i64 x.r.e.o.c, .int .i64 x.r.e.o.s, .int .i64 x.r.e.o.k, .string (txt x.r.e.o.acct), .string (txt x.r.e.o.peer), .int .i64 x.r.e.o.sum, .slice x.L.a x.L.n x.L.c, .int .i64 x.r.e.o.per, .int .i64 x.r.e.o.hold, .string (txt x.r.e.o.note), .bool x.r.e.none, .slice x.D.a x.D.n x.D.c] rfl Tryz.underlying37 rfl rc_size ?_)
        | gi_in)
      refine hRd.out.mono ?_
      rintro e w4 ⟨rfl, hJ4, hk4⟩
      have hIt4 := Lib.hid (hIt3.out.of_walks hk4)
      have hlft : Hid (w4.rangeLeft b W.heap.size < wr.rangeLeft b W.heap.size) := Lib.hid (by
        obtain ⟨_, _, _, _, g1, _⟩ := hIt2.out
        have g3 := (g1.of_walks hk23.out).of_walks hk4
        rw [g3.left_eq, ← g1.left_eq]
        exact hml)
      have hsz4 := Lib.hid (show W.heap.size < w4.heap.size from Nat.lt_of_lt_of_le hsz3.out hk4.size)
      clear hml
      replace hJ4 := Lib.hid hJ4
      gi_wp2
      go_roundw
      case rel => exact ⟨ss ++ [x], R', hIt4.out, hP2.out, fun y hy => hR.out y (e2.out.mem_iff.1 (List.mem_cons_of_mem _ hy)), hsz4.out, hJ4.out⟩
      case measure => exact hlft.out
end Go.Proofs.YtdnbclhidpkpgaaGreat
