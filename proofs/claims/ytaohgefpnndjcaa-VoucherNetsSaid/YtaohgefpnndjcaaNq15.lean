import Derived.Test.YtaohgefpnndjcaaNq14
import Derived.Test.YtaohgefpnndjcaaNq13
import Derived.Test.YtaohgefpnndjcaaNq11
import Derived.Deep.RegionHeld3
import Derived.Test.YtaohgefpnndjcaaNq12
import Derived.StillTailTactics
/-
  What Net answers does not hang on the row; its sums add up to all. Plain.
-/
namespace Go.Proofs.Ytaohgefpnndjcaa
set_option linter.unusedVariables false
open Go.RowKit
theorem sorted_same : ∀ {a b : List (List UInt8)}, a.Pairwise (fun x y => bytesBefore x y = true) → b.Pairwise (fun x y => bytesBefore x y = true) → (∀ s, s ∈ a ↔ s ∈ b) → a = b
  | [], [], _, _, _ => rfl
  | [], y :: b, _, _, h => absurd ((h y).2 (by simp)) (by simp)
  | x :: a, [], _, _, h => absurd ((h x).1 (by simp)) (by simp)
  | x :: a, y :: b, ha, hb, h => by
    rw [List.pairwise_cons] at ha hb
    have hxy : x = y := by
      rcases List.mem_cons.1 ((h x).1 (by simp)) with e | hx
      · exact e
      · rcases List.mem_cons.1 ((h y).2 (by simp)) with e | hy
        · exact e.symm
        · have h1 := ha.1 y hy
          have h2 := hb.1 x hx
          rw [bb_asymm h1] at h2; cases h2
    subst hxy
    rw [sorted_same ha.2 hb.2 fun s => ?_]
    constructor
    · intro hs
      rcases List.mem_cons.1 ((h s).1 (List.mem_cons_of_mem _ hs)) with e | h1
      · have := ha.1 s hs; rw [e, bb_irrefl] at this; cases this
      · exact h1
    · intro hs
      rcases List.mem_cons.1 ((h s).2 (List.mem_cons_of_mem _ hs)) with e | h1
      · have := hb.1 s hs; rw [e, bb_irrefl] at this; cases this
      · exact h1
theorem sums_perm {ls ms : List Lg} (h : ls.Perm ms) (s : List UInt8) : isum (sumsOf ls s) = isum (sumsOf ms s) := isum_perm ((h.filter _).map _)
theorem out_eq {ls ms : List Lg} (h : ∀ s, isum (sumsOf ls s) = isum (sumsOf ms s)) (N : List (List UInt8)) : outL ls N = outL ms N := by
  unfold outL
  have e : (fun s => !(isum (sumsOf ls s) == 0)) = fun s => !(isum (sumsOf ms s) == 0) := by funext s; rw [h s]
  rw [e]
  exact List.map_congr_left fun s _ => by rw [h s]
theorem out_sum (ls : List Lg) : ∀ N : List (List UInt8), isum ((outL ls N).map fun l => l.x) = isum (N.map fun s => isum (sumsOf ls s))
  | [] => rfl
  | s :: N => by
    have ih := out_sum ls N
    have e : outL ls (s :: N) = if isum (sumsOf ls s) = 0 then outL ls N else ⟨s, isum (sumsOf ls s)⟩ :: outL ls N := by
      unfold outL
      by_cases e : isum (sumsOf ls s) = 0
      · rw [if_pos e, List.filter_cons_of_neg (by simp [e])]
      · rw [if_neg e, List.filter_cons_of_pos (by simpa using e)]; rfl
    rw [e, List.map_cons, isum_cons, ← ih]
    by_cases e : isum (sumsOf ls s) = 0
    · rw [if_pos e, e]; omega
    · rw [if_neg e, List.map_cons, isum_cons]
theorem isum_one (x : Int) (t : List UInt8) (g : List UInt8 → Int) : ∀ N : List (List UInt8), N.Nodup → isum (N.map fun s => (if t = s then x else 0) + g s) = (if t ∈ N then x else 0) + isum (N.map g)
  | [], _ => by simp [isum_nil]
  | s :: N, h => by
    rw [List.nodup_cons] at h
    have ih := isum_one x t g N h.2
    rw [List.map_cons, List.map_cons, isum_cons, isum_cons, ih]
    by_cases e : t = s
    · subst e
      rw [if_pos rfl, if_neg h.1, if_pos (by simp)]; omega
    · rw [if_neg e]
      by_cases e2 : t ∈ N
      · rw [if_pos e2, if_pos (List.mem_cons_of_mem _ e2)]; omega
      · rw [if_neg e2, if_neg (by simp; exact ⟨e, e2⟩)]; omega
theorem sums_all (N : List (List UInt8)) (hn : N.Nodup) : ∀ ls : List Lg, (∀ l ∈ ls, l.n ∈ N) → isum (N.map fun s => isum (sumsOf ls s)) = isum (ls.map fun l => l.x)
  | [], _ => by
    have : ∀ N : List (List UInt8), isum (N.map fun s => isum (sumsOf [] s)) = 0 := by
      intro N
      induction N with
      | nil => rfl
      | cons s N ih => rw [List.map_cons, isum_cons, ih]; rfl
    rw [this]; rfl
  | l :: ls, h => by
    have ih := sums_all N hn ls fun m hm => h m (List.mem_cons_of_mem _ hm)
    have e : (fun s => isum (sumsOf (l :: ls) s)) = fun s => (if l.n = s then l.x else 0) + isum (sumsOf ls s) := by
      funext s
      unfold sumsOf
      by_cases e : l.n = s
      · rw [if_pos e, List.filter_cons_of_pos (by simpa using e), List.map_cons, isum_cons]
      · rw [if_neg e, List.filter_cons_of_neg (by simpa using e)]; omega
    rw [e, isum_one _ _ _ N hn, if_pos (h l (by simp)), ih, List.map_cons, isum_cons]
theorem sorted_nodup {N : List (List UInt8)} (h : N.Pairwise fun a b => bytesBefore a b = true) : N.Nodup := h.imp fun h => bb_ne h
theorem out_names {ls : List Lg} {N : List (List UInt8)} (h : N.Pairwise fun a b => bytesBefore a b = true) : (outL ls N).Pairwise fun a b => bytesBefore a.n b.n = true := by
  unfold outL
  rw [List.pairwise_map]
  exact h.filter _
theorem out_nz {ls : List Lg} {N : List (List UInt8)} : ∀ l ∈ outL ls N, l.x ≠ 0 := by
  intro l hl
  unfold outL at hl
  obtain ⟨s, hs, rfl⟩ := List.mem_map.1 hl
  have := (List.mem_filter.1 hs).2
  simpa using this
theorem isum_le (B : Int) : ∀ xs : List Int, (∀ x ∈ xs, -B ≤ x ∧ x ≤ B) → -(B * (xs.length : Int)) ≤ isum xs ∧ isum xs ≤ B * (xs.length : Int)
  | [], _ => by simp [isum_nil]
  | x :: xs, h => by
    have ih := isum_le B xs fun y hy => h y (List.mem_cons_of_mem _ hy)
    have hx := h x (by simp)
    rw [isum_cons, List.length_cons]
    have : B * ((xs.length + 1 : Nat) : Int) = B * (xs.length : Int) + B := by rw [Int.natCast_add, Int.mul_add]; simp
    rw [this]
    omega
/-- a leg's sum, cut to 2^40 -/
def cutL (l : Lg) : Lg := ⟨l.n, l.x.tmod 1099511627776⟩
def SmallL (l : Lg) : Prop := -1099511627776 ≤ l.x ∧ l.x ≤ 1099511627776
theorem cut_small (l : Lg) : SmallL (cutL l) := by
  unfold SmallL cutL
  dsimp only
  have h1 := Int.tmod_lt_of_pos l.x (show (0 : Int) < 1099511627776 by omega)
  have h2 := Int.lt_tmod_of_pos l.x (show (0 : Int) < 1099511627776 by omega)
  omega
theorem small_sum {xs : List Lg} (h : ∀ l ∈ xs, SmallL l) (hl : xs.length ≤ 100) : -109951162777600 ≤ isum (xs.map fun l => l.x) ∧ isum (xs.map fun l => l.x) ≤ 109951162777600 := by
  have := isum_le 1099511627776 (xs.map fun l => l.x) fun y hy => by
    obtain ⟨l, hl, rfl⟩ := List.mem_map.1 hy
    exact h l hl
  rw [List.length_map] at this
  omega
theorem small_sums {xs : List Lg} (h : ∀ l ∈ xs, SmallL l) (hl : xs.length ≤ 100) (s : List UInt8) : inI (isum (sumsOf xs s)) = true := by
  have := small_sum (xs := xs.filter fun l => l.n == s) (fun l hm => h l (List.mem_filter.1 hm).1) (Nat.le_trans (List.length_filter_le _ _) hl)
  unfold sumsOf
  exact inI_yes.2 (by omega)
/-- Net of a row and of its rotation: the same, rising, without 0, and together what all are -/
theorem net_same {ls ms : List Lg} (hp : ls.Perm ms) {N M : List (List UInt8)} (hN : N.Pairwise fun a b => bytesBefore a b = true) (hM : M.Pairwise fun a b => bytesBefore a b = true) (h1 : ∀ s, s ∈ N ↔ ∃ l ∈ ls, l.n = s) (h2 : ∀ s, s ∈ M ↔ ∃ l ∈ ms, l.n = s) :
    outL ls N = outL ms M ∧ isum ((outL ls N).map fun l => l.x) = isum (ls.map fun l => l.x) := by
  have e : N = M := sorted_same hN hM fun s => by
    rw [h1, h2]
    constructor
    · rintro ⟨l, hl, e⟩; exact ⟨l, hp.mem_iff.1 hl, e⟩
    · rintro ⟨l, hl, e⟩; exact ⟨l, hp.mem_iff.2 hl, e⟩
  subst e
  exact ⟨out_eq (sums_perm hp) N, by rw [out_sum, sums_all N (sorted_nodup hN) ls fun l hl => (h1 l.n).2 ⟨l, hl, rfl⟩]⟩
theorem flat_rot (lls : List (List Lg)) (k : Nat) : (lls.drop k ++ lls.take k).flatten.Perm lls.flatten := by
  rw [List.flatten_append]
  refine List.perm_append_comm.trans ?_
  rw [← List.flatten_append, List.take_append_drop]
theorem nodup_len : ∀ {a b : List (List UInt8)}, a.Nodup → (∀ s ∈ a, s ∈ b) → a.length ≤ b.length
  | [], _, _, _ => Nat.zero_le _
  | x :: a, b, h, hm => by
    rw [List.nodup_cons] at h
    have h1 : x ∈ b := hm x (by simp)
    have := nodup_len (a := a) (b := b.erase x) h.2 fun s hs => (List.mem_erase_of_ne (fun e : s = x => h.1 (by rw [← e]; exact hs))).2 (hm s (List.mem_cons_of_mem _ hs))
    rw [List.length_erase_of_mem h1] at this
    have := List.length_pos_of_mem h1
    rw [List.length_cons]
    omega
theorem out_few {ls : List Lg} {N : List (List UInt8)} (h : N.Pairwise fun a b => bytesBefore a b = true) (hm : ∀ s, s ∈ N ↔ ∃ l ∈ ls, l.n = s) : (outL ls N).length ≤ ls.length := by
  have h1 : (outL ls N).length ≤ N.length := by unfold outL; rw [List.length_map]; exact List.length_filter_le _ _
  have h2 := nodup_len (b := ls.map fun l => l.n) (sorted_nodup h) fun s hs => by
    obtain ⟨l, hl, e⟩ := (hm s).1 hs
    exact List.mem_map.2 ⟨l, hl, e⟩
  rw [List.length_map] at h2
  omega
/-- the sum of legs, as int64 has it -/
def ws (xs : List Lg) : Int := wrap64 (isum (xs.map fun l => l.x))
theorem ws_nil : ws [] = 0 := by unfold ws; rw [List.map_nil, isum_nil]; unfold wrap64; omega
theorem wrap_add (a b : Int) : wrap64 (wrap64 a + b) = wrap64 (a + b) := by unfold wrap64; omega
theorem ws_snoc (xs : List Lg) (l : Lg) : wrap64 (ws xs + l.x) = ws (xs ++ [l]) := by
  unfold ws
  rw [wrap_add, List.map_append, isum_append]
  congr 1
  show _ = _ + isum [l.x]
  rw [isum_cons, isum_nil]; omega
theorem less_before : ∀ a b : List UInt8, Op.bytesLess a b = bytesBefore a b
  | [], [] => rfl
  | [], _ :: _ => rfl
  | _ :: _, [] => rfl
  | a :: x, b :: y => by
    unfold Op.bytesLess bytesBefore
    rw [less_before x y]
end Go.Proofs.Ytaohgefpnndjcaa
/-
  The reference's Check.
-/
namespace Go.Proofs.Ytaohgefpnndjcaa
set_option linter.unusedVariables false
open Go.RowKit
theorem check_first {C : List Ac} {ls : List Lg} (ho : OkC C) (hs : SortedC C) (h : rightB ls = true) : (allR C ls).2 = firstE (checkE C) ls := by
  obtain ⟨_, hn, _⟩ := (right_iff ls).1 h
  rw [all_first ls hs hn]
  exact firstE_congr fun l _ => check_post ho l
def CkRel (w : World) (q B : Nat) (C : List Ac) (ls : List Lg) (j : Nat) (wr : World) : Prop := firstE (checkE C) ls = firstE (checkE C) (ls.drop j) ∧ RefAt wr q B C ∧ Mod none_ w wr
set_option maxRecDepth 100000 in
set_option maxHeartbeats 4000000 in
theorem rcheck_ok (w : World) (q B : Nat) (C : List Ac) (A : Option Addr) (n c : Nat) (ls : List Lg) (hR : RefAt w q B C) (oC : OkC C) (hs : SortedC C) (h : RdL w A n ls) (hn : n ≤ 1000) (hz : ∀ l ∈ ls, LgOk l) :
    Calls Try.prog 13 #[.pointer (some ⟨q, 0, none⟩), .slice A n c] w fun e w' => e = .returned (.int .i64 (checkR C ls)) ∧ Mod none_ w w' := by
  have hl := h.len
  have hin : I64s (ls.map fun l : Lg => l.x) := by
    intro y hy
    obtain ⟨a, ha, rfl⟩ := List.mem_map.1 hy
    exact (hz a ha).2
  have c0 := Lib.hid (rright_ok w A n c ls h hn hz)
  have hC12 := oC.2
  unfold checkR
  cases hrt : rightB ls with
  | false =>
    rw [hrt] at c0
    rw [if_pos rfl]
    replace h := Lib.hid h
    replace hz := Lib.hid hz
    replace hR := Lib.hid hR
    replace oC := Lib.hid oC
    replace hin := Lib.hid hin
    replace hs := Lib.hid hs
    replace hrt := Lib.hid hrt
    go_enter Try.func13, Try.ntmps13
    go_wp2_with fail
    refine c0.out.mono ?_
    rintro e w1 ⟨rfl, kx, rfl⟩
    dsimp only
    go_wp2_with fail
    go_ret
    exact ⟨rfl, (Mod.refl _ _).drewN _⟩
  | true =>
    rw [hrt] at c0
    rw [if_neg (by simp), check_first oC hs hrt]
    obtain ⟨res, hres⟩ : ∃ r, (if weighB ls = false then (8 : Int) else firstE (checkE C) ls) = r := ⟨_, rfl⟩
    rw [hres]
    replace h := Lib.hid h
    replace hz := Lib.hid hz
    replace hR := Lib.hid hR
    replace oC := Lib.hid oC
    replace hin := Lib.hid hin
    replace hs := Lib.hid hs
    replace hrt := Lib.hid hrt
    replace hres := Lib.hid hres
    go_enter Try.func13, Try.ntmps13
    go_wp2_with fail
    refine c0.out.mono ?_
    rintro e w1 ⟨rfl, kx, rfl⟩
    dsimp only
    go_wp2_with fail
    go_loopw [5, 6] (fun v x wr => ∃ j : Nat, x = .int .i64 j ∧ j ≤ n ∧ ∃ A' c', v = .slice A' j c' ∧ OwI wr A' j c' ((ls.map fun l : Lg => l.x).take j) ∧ Fresh w A' ∧ Mod none_ w wr) (fun _ x _ => n - (intOf x).toNat)
    case atStart => exact ⟨0, rfl, by omega, none, 0, rfl, Ow.nil _ _ _, (fun _ h => by cases h), (Mod.refl _ _).drewN _⟩
    case round =>
      obtain ⟨j, rfl, hj, A', c', rfl, how, hf, hm⟩ := hrel
      by_cases hlt : j < n
      · obtain ⟨g, o, l, rfl, hmem, hjl, y1, y2⟩ := rdl_get (h.out.mod0 hm) hlt
        have hnx : ((ls.map fun l : Lg => l.x).take j) ++ [l.x] = ((ls.map fun l : Lg => l.x).take (j+1)) := by
          have hjlt : j < ls.length := by omega
          rw [List.getElem?_eq_getElem hjlt] at hjl
          injection hjl with hjl
          rw [List.take_succ_eq_append_getElem (by simpa using hjlt), List.getElem_map, hjl]
        have hgl := World.block_lt_of_cell? wr _ y2
        obtain ⟨x, hx⟩ : ∃ x, l.x = x := ⟨_, rfl⟩
        rw [hx] at y2 hnx
        replace how := Lib.hid how
        replace hf := Lib.hid hf
        replace hm := Lib.hid hm
        replace hnx := Lib.hid hnx
        replace hmem := Lib.hid hmem
        replace hjl := Lib.hid hjl
        replace hx := Lib.hid hx
        go_wp2_with (at_builtin; go_loud (refine app64 rfl (.tmp 25) (.tmp 31) rfl rfl (Ow.mod0 how.out ((Mod.refl none_ _).alloc _)) rfl (rdi_one _ _ _) (by omega) ?_; intro A2 c2 w2 ho2 hm2 hA2; replace ho2 := Lib.hid ho2; replace hm2 := Lib.hid hm2; replace hA2 := Lib.hid hA2))
        go_roundw
        case rel =>
          refine ⟨j + 1, by go_num, by omega, A2, c2, rfl, ?_, Fresh.app hf.out (hm.out.alloc _).size hA2.out, (hm.out.alloc _).app hf.out hm2.out⟩
          rw [← hnx.out]; exact ho2.out
        case measure => simp [intOf]; omega
      · have hall : ((ls.map fun l : Lg => l.x).take j) = ls.map fun l : Lg => l.x := List.take_of_length_le (by rw [List.length_map]; omega)
        rw [hall] at how
        have hjn : j ≤ 1000 := by omega
        have ct := Lib.hid (rtotal_ok wr A' j c' (ls.map fun l : Lg => l.x) (Ow.rd how) (by omega) hin.out)
        have hw : weighB ls = (decide (isum (ls.map fun l => l.x) = 0)) := rfl
        generalize isum (ls.map fun l : Lg => l.x) = t at ct hw
        unfold SPost at ct
        clear hall
        by_cases h0 : t = 0
        · subst h0
          rw [show sumR 0 = (0, 0) from rfl] at ct
          replace ct := Lib.hid (ct.out.mono (fun e w' (hp : _ ∧ _) => (⟨hp.1, hp.2⟩ : e = .returned (.tuple #[.int .i64 0, .int .i64 0]) ∧ Mod none_ wr w')))
          have hres2 := hres.out
          rw [hw, if_neg (by simp)] at hres2
          clear hres hw
          replace how := Lib.hid how
          replace hf := Lib.hid hf
          replace hm := Lib.hid hm
          go_wp2_with fail
          refine ct.out.mono ?_
          rintro e w3 ⟨rfl, hm3⟩
          dsimp only
          have hmm := Lib.hid (hm.out.trans hm3)
          clear hm3 how hf hm
          replace hres2 := Lib.hid hres2
          go_wp2_with fail
          go_loopw [9] (fun x wr2 => ∃ i : Nat, x = .int .i64 i ∧ i ≤ n ∧ CkRel w q B C ls i wr2) (fun x _ => n - (intOf x).toNat)
          case atStart => exact ⟨0, rfl, by omega, rfl, hR.out.mod0 hmm.out, hmm.out⟩
          case round =>
            obtain ⟨i, rfl, hi, hfst, hRi, hmi⟩ := hrel
            by_cases hil : i < n
            · obtain ⟨g, o, l, rfl, hmem, hjl, y1, y2⟩ := rdl_get (h.out.mod0 hmi) hil
              have hlok := hz.out l hmem
              have hgl := World.block_lt_of_cell? wr _ y1
              have hdr : ls.drop i = l :: ls.drop (i + 1) := by
                have hjlt : i < ls.length := by omega
                rw [List.getElem?_eq_getElem hjlt] at hjl
                injection hjl with hjl
                rw [List.drop_eq_getElem_cons hjlt, hjl]
              rw [hdr, show firstE (checkE C) (l :: ls.drop (i + 1)) = (if checkE C l ≠ 0 then checkE C l else firstE (checkE C) (ls.drop (i + 1))) from rfl] at hfst
              have cg := Lib.hid (rget_ok wr q B C l.n hRi (by omega))
              unfold GetPost getV at cg
              obtain ⟨ce, hce⟩ : ∃ v, checkE C l = v := ⟨_, rfl⟩
              rw [hce] at hfst
              unfold checkE at hce
              cases hg : getC C l.n with
              | none =>
                rw [hg] at cg hce
                dsimp only at hce
                subst hce
                rw [if_pos (by omega)] at hfst
                unfold zeroA at cg
                replace hRi := Lib.hid hRi
                replace hmi := Lib.hid hmi
                replace hmem := Lib.hid hmem
                replace hjl := Lib.hid hjl
                replace hlok := Lib.hid hlok
                replace hdr := Lib.hid hdr
                replace hg := Lib.hid hg
                replace hfst := Lib.hid hfst
                go_wp2_with fail
                refine cg.out.mono ?_
                rintro e w4 ⟨rfl, hm4⟩
                dsimp only
                have hmm4 := Lib.hid (hmi.out.trans hm4)
                clear hm4
                go_wp2_with fail
                go_ret
                exact ⟨by rw [← hres2.out, hfst.out]; rfl, hmm4.out.alloc _⟩
              | some a =>
                rw [hg] at cg hce
                dsimp only at hce
                unfold acV at cg
                have hwa := oC.out.wf a (getC_mem hg)
                have cl := Lib.hid (fun W => (rless_ok W 0 l.x (by unfold I64; omega) hlok.2).mono (fun e w' hp => SPost.act hp))
                have cad := Lib.hid (fun W => (radd_ok W a.h l.x hwa.1 hlok.2).mono (fun e w' hp => SPost.act hp))
                unfold APost at cl cad
                have hI1 : I64 (actR (0 - l.x)).1 := actR_i64 _
                obtain ⟨⟨r1, r2⟩, hrr⟩ : ∃ r, actR (0 - l.x) = r := ⟨_, rfl⟩
                obtain ⟨⟨s1, s2⟩, hss⟩ : ∃ r, actR (a.h + l.x) = r := ⟨_, rfl⟩
                rw [hrr] at cl hce hI1
                rw [hss] at cad hce
                dsimp only at cl cad hce hI1
                have cf := Lib.hid (fun W => rfree_ok W a r1 hwa hI1)
                obtain ⟨x, hx⟩ : ∃ x, l.x = x := ⟨_, rfl⟩
                rw [hx] at y2 cl cad
                obtain ⟨fb, hfb⟩ : ∃ v, freeB a r1 = v := ⟨_, rfl⟩
                rw [hfb] at cf hce
                unfold acV at cf
                obtain ⟨an, ah, as_, al⟩ := a
                dsimp only at cg cad cf
                replace hRi := Lib.hid hRi
                replace hmi := Lib.hid hmi
                replace hmem := Lib.hid hmem
                replace hjl := Lib.hid hjl
                replace hlok := Lib.hid hlok
                replace hdr := Lib.hid hdr
                replace hg := Lib.hid hg
                replace hfst := Lib.hid hfst
                replace hce := Lib.hid hce
                replace hrr := Lib.hid hrr
                replace hss := Lib.hid hss
                replace hx := Lib.hid hx
                replace hfb := Lib.hid hfb
                replace hwa := Lib.hid hwa
                replace hI1 := Lib.hid hI1
                go_wp2_with fail
                refine cg.out.mono ?_
                rintro e w4 ⟨rfl, hm4⟩
                dsimp only
                have y1' := hm4.cell_some y1 (fun h => h)
                have y2' := hm4.cell_some y2 (fun h => h)
                have hgl4 := World.block_lt_of_cell? w4 _ y1'
                have hmm4 := Lib.hid (hmi.out.trans hm4)
                have hB4 := Blk.new w4 46 #[.string (txt an), .int .i64 ah, .int .i64 as_, .int .i64 al]
                have z2 : (w4.alloc (.cells #[.string (txt an), .int .i64 ah, .int .i64 as_, .int .i64 al] 46)).cell? ⟨g, o + i*2 + 1, none⟩ = some (.int .i64 x) := (World.cell?_alloc_lt _ _ _ (World.block_lt_of_cell? w4 _ y2')).trans y2'
                clear hm4
                replace hB4 := Lib.hid hB4
                replace z2 := Lib.hid z2
                go_wp2_with fail
                refine (cl.out _).mono ?_
                rintro e w5 ⟨rfl, hm5⟩
                dsimp only
                have hB5 := hB4.out.mod hm5 (fun h => h)
                have b1 : w5.cell? ⟨w4.heap.size, 1, none⟩ = some (.int .i64 ah) := hB5.cell_ rfl
                have z25 : w5.cell? ⟨g, o + i*2 + 1, none⟩ = some (.int .i64 x) := hm5.cell_some z2.out (fun h => h)
                have hmm5 := Lib.hid ((hmm4.out.alloc (.cells #[.string (txt an), .int .i64 ah, .int .i64 as_, .int .i64 al] 46)).trans hm5)
                clear hm5
                replace hB5 := Lib.hid hB5
                clear y1 y2 y1' y2' hgl4
                go_upto_region 18 with fail
                go_region_held3 (fun W => W.cell? ⟨w4.heap.size, 1, none⟩ = some (.int .i64 ah) ∧ W.cell? ⟨g, o + i*2 + 1, none⟩ = some (.int .i64 x)) (first | exact ⟨b1, z25⟩ | exact ⟨hm6.cell_some b1 (fun h => h), hm6.cell_some z25 (fun h => h)⟩) ((go_at_call 40; (with_reducible refine (cad.out _).mono ?_); rintro e6 w6 ⟨rfl, hm6⟩; dsimp only))
                all_goals
                  have hB6 := hB5.out.drew.mod hm6 (fun h => h)
                  have d0 : w6.cell? ⟨w4.heap.size, 0, none⟩ = some (.string (txt an)) := hB6.cell_ rfl
                  have d1 : w6.cell? ⟨w4.heap.size, 1, none⟩ = some (.int .i64 ah) := hB6.cell_ rfl
                  have d2 : w6.cell? ⟨w4.heap.size, 2, none⟩ = some (.int .i64 as_) := hB6.cell_ rfl
                  have d3 : w6.cell? ⟨w4.heap.size, 3, none⟩ = some (.int .i64 al) := hB6.cell_ rfl
                  have hmm6 := Lib.hid ((hmm5.out.drew).trans hm6)
                  have hR6 : Hid (RefAt w6 q B C) := Lib.hid (hR.out.mod0 hmm6.out)
                  clear hm6 hB6 b1 z25
                  by_cases h2 : r2 = 0
                  · by_cases h3 : s2 = 0
                    · subst h2
                      subst h3
                      have hce2 := hce.out
                      rw [if_neg (by simp)] at hce2
                      by_cases h4 : 0 < r1
                      · have f1 : decide (0 < r1) = true := decide_eq_true h4
                        cases fb with
                        | false =>
                          rw [if_pos ⟨h4, rfl⟩] at hce2
                          subst hce2
                          have hfst2 := hfst.out
                          rw [if_pos (by omega)] at hfst2
                          replace h4 := Lib.hid h4
                          replace hfst2 := Lib.hid hfst2
                          go_wp2_with fail
                          refine (cf.out _).mono ?_
                          rintro e w7 ⟨rfl, hm7⟩
                          dsimp only
                          have hmm7 := Lib.hid (hmm6.out.trans hm7)
                          clear hm7
                          go_wp2_with fail
                          go_ret
                          exact ⟨by rw [← hres2.out, hfst2.out]; rfl, hmm7.out⟩
                        | true =>
                          rw [if_neg (by simp)] at hce2
                          subst hce2
                          have hfst2 := hfst.out
                          rw [if_neg (by simp)] at hfst2
                          replace h4 := Lib.hid h4
                          replace hfst2 := Lib.hid hfst2
                          go_wp2_with fail
                          refine (cf.out _).mono ?_
                          rintro e w7 ⟨rfl, hm7⟩
                          dsimp only
                          have hmm7 := Lib.hid (hmm6.out.trans hm7)
                          have hR7 := Lib.hid (hR6.out.mod0 hm7)
                          clear hm7
                          go_wp2_with fail
                          go_roundw
                          case rel => exact ⟨i + 1, by go_num, by omega, hfst2.out, hR7.out, hmm7.out⟩
                          case measure => simp [intOf]; omega
                      · have f1 : decide (0 < r1) = false := decide_eq_false h4
                        rw [if_neg (by rintro ⟨h, _⟩; exact h4 h)] at hce2
                        subst hce2
                        have hfst2 := hfst.out
                        rw [if_neg (by simp)] at hfst2
                        replace h4 := Lib.hid h4
                        replace hfst2 := Lib.hid hfst2
                        go_wp2_with fail
                        go_roundw
                        case rel => exact ⟨i + 1, by go_num, by omega, hfst2.out, hR6.out, hmm6.out⟩
                        case measure => simp [intOf]; omega
                    · subst h2
                      have f1 : (s2 == 0) = false := by simpa using h3
                      have hce2 := hce.out
                      rw [if_pos (.inr h3)] at hce2
                      subst hce2
                      have hfst2 := hfst.out
                      rw [if_pos (by omega)] at hfst2
                      replace h3 := Lib.hid h3
                      replace hfst2 := Lib.hid hfst2
                      go_wp2_with fail
                      go_ret
                      exact ⟨by rw [← hres2.out, hfst2.out]; rfl, hmm6.out⟩
                  · have f1 : (r2 == 0) = false := by simpa using h2
                    have hce2 := hce.out
                    rw [if_pos (.inl h2)] at hce2
                    subst hce2
                    have hfst2 := hfst.out
                    rw [if_pos (by omega)] at hfst2
                    replace h2 := Lib.hid h2
                    replace hfst2 := Lib.hid hfst2
                    go_wp2_with fail
                    go_ret
                    exact ⟨by rw [← hres2.out, hfst2.out]; rfl, hmm6.out⟩
            · have hd0 : ls.drop i = [] := List.drop_eq_nil_of_le (by omega)
              rw [hd0] at hfst
              replace hRi := Lib.hid hRi
              replace hmi := Lib.hid hmi
              replace hfst := Lib.hid hfst
              replace hd0 := Lib.hid hd0
              go_wp2_with fail
              go_ret
              exact ⟨by rw [← hres2.out, hfst.out]; rfl, hmi.out⟩
        · have hwf : weighB ls = false := by rw [hw, decide_eq_false h0]
          have hres2 := hres.out
          rw [if_pos hwf] at hres2
          clear hres hw hwf
          cases hi : inI t with
          | false =>
            rw [sumR_no hi] at ct
            replace how := Lib.hid how
            replace hf := Lib.hid hf
            replace hm := Lib.hid hm
            replace hres2 := Lib.hid hres2
            go_wp2_with fail
            refine ct.out.mono ?_
            rintro e w3 ⟨rfl, hm3⟩
            dsimp only
            have hmm := Lib.hid (hm.out.trans hm3)
            clear hm3
            go_wp2_with fail
            go_ret
            exact ⟨by rw [← hres2.out]; rfl, hmm.out⟩
          | true =>
            rw [sumR_yes hi] at ct
            have e1 : (t == 0) = false := by simpa using h0
            replace how := Lib.hid how
            replace hf := Lib.hid hf
            replace hm := Lib.hid hm
            replace hres2 := Lib.hid hres2
            replace h0 := Lib.hid h0
            go_wp2_with fail
            refine ct.out.mono ?_
            rintro e w3 ⟨rfl, hm3⟩
            dsimp only
            have hmm := Lib.hid (hm.out.trans hm3)
            clear hm3
            go_wp2_with fail
            go_ret
            exact ⟨by rw [← hres2.out]; rfl, hmm.out⟩
end Go.Proofs.Ytaohgefpnndjcaa
/-
  The reference's Make.
-/
namespace Go.Proofs.Ytaohgefpnndjcaa
set_option linter.unusedVariables false
open Go.RowKit
theorem upd_set {C : List Ac} {l : Lg} {a : Ac} (hs : SortedC C) (hg : getC C l.n = some a) : updL C l = setC C { a with h := a.h + l.x } := by
  unfold setC updL
  refine List.map_congr_left fun y hy => ?_
  have hn := getC_name hg
  by_cases e : y.n = l.n
  · have : y = a := uniq_n hs hy (getC_mem hg) (by rw [e, hn])
    subst this
    rw [if_pos e, if_pos (by simp)]
  · rw [if_neg e, if_neg (by simp only [beq_iff_eq]; rw [hn]; exact e)]
def MkRel (w : World) (q B : Nat) (C : List Ac) (ls : List Lg) (j : Nat) (wr : World) : Prop := ∃ D, RefAt wr q B D ∧ OkC D ∧ SortedC D ∧ allR C ls = allR D (ls.drop j) ∧ Mod (· = q) w wr
set_option maxRecDepth 100000 in
set_option maxHeartbeats 4000000 in
theorem rmake_ok (w : World) (q B : Nat) (C : List Ac) (A : Option Addr) (n c : Nat) (ls : List Lg) (hR : RefAt w q B C) (oC : OkC C) (hs : SortedC C) (h : RdL w A n ls) (hn : n ≤ 1000) (hz : ∀ l ∈ ls, LgOk l) (hB : B ≤ w.heap.size) (hA : 0 < n → ∀ k, fp A k → ¬ k = q) :
    Calls Try.prog 17 #[.pointer (some ⟨q, 0, none⟩), .slice A n c] w (RfPost w q B (makeR C ls)) := by
  have hl := h.len
  have c0 := Lib.hid (rcheck_ok w q B C A n c ls hR oC hs h hn hz)
  unfold makeR
  obtain ⟨er, her⟩ : ∃ v, checkR C ls = v := ⟨_, rfl⟩
  rw [her] at c0 ⊢
  by_cases h0 : er = 0
  · subst h0
    rw [if_neg (by simp)]
    have hz0 : (allR C ls).2 = 0 := by
      unfold checkR at her
      split at her
      · omega
      · split at her
        · omega
        · exact her
    replace h := Lib.hid h
    replace hz := Lib.hid hz
    replace hR := Lib.hid hR
    replace oC := Lib.hid oC
    replace hs := Lib.hid hs
    replace her := Lib.hid her
    replace hA := Lib.hid hA
    replace hz0 := Lib.hid hz0
    go_enter Try.func17, Try.ntmps17
    go_wp2_with fail
    refine c0.out.mono ?_
    rintro e w1 ⟨rfl, hm1⟩
    dsimp only
    replace hm1 := Lib.hid hm1
    go_wp2_with fail
    go_loopw [6] (fun x wr => ∃ i : Nat, x = .int .i64 i ∧ i ≤ n ∧ MkRel w q B C ls i wr) (fun x _ => n - (intOf x).toNat)
    case atStart => exact ⟨0, rfl, by omega, C, hR.out.mod0 hm1.out, oC.out, hs.out, rfl, hm1.out.any _⟩
    case round =>
      obtain ⟨i, rfl, hi, D, hD, oD, sD, hall, hm⟩ := hrel
      by_cases hil : i < n
      · have t1 : decide ((i : Int) < (n : Int)) = true := decide_eq_true (by omega)
        obtain ⟨g, o, l, rfl, hmem, hjl, y1, y2⟩ := rdl_get (h.out.mod' hm hA.out) hil
        have hlok := hz.out l hmem
        have hgl := World.block_lt_of_cell? wr _ y1
        have hdr : ls.drop i = l :: ls.drop (i + 1) := by
          have hjlt : i < ls.length := by omega
          rw [List.getElem?_eq_getElem hjlt] at hjl
          injection hjl with hjl
          rw [List.drop_eq_getElem_cons hjlt, hjl]
        have hz1 := hz0.out
        rw [hall, hdr, show allR D (l :: ls.drop (i + 1)) = (if (postR D l).2 ≠ 0 then postR D l else allR (postR D l).1 (ls.drop (i + 1))) from rfl] at hz1
        have hp0 : (postR D l).2 = 0 := by
          by_cases hp : (postR D l).2 = 0
          · exact hp
          · rw [if_pos hp] at hz1; exact absurd hz1 hp
        obtain ⟨⟨a, hga, hI⟩, he⟩ := post_eff sD hp0
        have hall2 : allR C ls = allR (updL D l) (ls.drop (i + 1)) := by
          rw [hall, hdr, show allR D (l :: ls.drop (i + 1)) = (if (postR D l).2 ≠ 0 then postR D l else allR (postR D l).1 (ls.drop (i + 1))) from rfl, if_neg (by omega), he]
        have oD2 : OkC (updL D l) := by rw [← he]; exact post_okc oD l
        have sD2 := upd_sorted sD l
        obtain ⟨i0, hst, hget⟩ := stands_of hga
        have hDl : D.length ≤ 1000 := by have := oD.2; omega
        have hnew : updL D l = D.set i0 { a with h := a.h + l.x } := by
          obtain ⟨hi1, hn1, _⟩ := hst
          rw [upd_set sD hga, set_at sD hi1 (by rw [hn1]; exact (getC_name hga).symm)]
        obtain ⟨gD, cD, hcell, hrd, hq, hi0, u1, u2, u3, u4⟩ := hD.at_ hget
        have hCi : D[i0] = a := by rw [List.getElem?_eq_getElem hi0] at hget; injection hget
        have ca := Lib.hid (fun W (h : RefAt W q B D) => (rat_some W q B D l.n i0 h hDl hst).mono (fun e w' (hp : _ ∧ W = w') => (⟨hp.1, hp.2.symm⟩ : e = .returned (.int .i64 i0) ∧ w' = W)))
        obtain ⟨x, hx⟩ : ∃ x, l.x = x := ⟨_, rfl⟩
        rw [hx] at y2 hI hnew
        obtain ⟨v, hv⟩ : ∃ v, a.h + x = v := ⟨_, rfl⟩
        have ew : wrap64 (a.h + x) = v := (IntWalk.wrap64_in _ hI).trans hv
        have ew2 : IntKind.i64.wrap (a.h + x) = v := (IntWalk.i64_in _ hI).trans hv
        rw [hv] at hnew
        have hql := hq.lt
        have hne1 : ¬ g = q := hA.out (by omega) g ⟨_, rfl, rfl⟩
        have hsz := hm.size
        clear u1 u2 u3 u4 hz1
        replace hD := Lib.hid hD
        replace oD := Lib.hid oD
        replace sD := Lib.hid sD
        replace hall := Lib.hid hall
        replace hm := Lib.hid hm
        replace hmem := Lib.hid hmem
        replace hjl := Lib.hid hjl
        replace hlok := Lib.hid hlok
        replace hdr := Lib.hid hdr
        replace hp0 := Lib.hid hp0
        replace hga := Lib.hid hga
        replace hI := Lib.hid hI
        replace he := Lib.hid he
        replace hall2 := Lib.hid hall2
        replace oD2 := Lib.hid oD2
        replace sD2 := Lib.hid sD2
        replace hst := Lib.hid hst
        replace hget := Lib.hid hget
        replace hnew := Lib.hid hnew
        replace hrd := Lib.hid hrd
        replace hq := Lib.hid hq
        replace hCi := Lib.hid hCi
        replace hx := Lib.hid hx
        replace hv := Lib.hid hv
        replace hne1 := Lib.hid hne1
        go_wp2_with (at_builtin; go_loud (refine copyA rfl (.const (.slice none 0 0)) (.tmp 24) rfl rfl rfl hrd.out hDl ?_; intro A' c' w5 ho5 hm5 hf5; obtain ⟨g5, cur5, rfl, _⟩ := Ow.form ho5 (show 0 < D.length by omega); have hq5 := hq.out.mod hm5 (fun h => h); have v2 : w5.frozen? ⟨q, 0, none⟩ = false := hq5.frozen 0; have v1 : w5.cell? ⟨q, 0, none⟩ = some (.slice (some ⟨gD, 0, none⟩) D.length cD) := hq5.cell_ rfl; have v6 := hq5.lt; replace ho5 := Lib.hid ho5; replace hm5 := Lib.hid hm5; replace hf5 := Lib.hid hf5; replace hq5 := Lib.hid hq5))
        obtain ⟨W6, hW6⟩ : ∃ W, w5.setCell ⟨q, 0, none⟩ (.slice (some ⟨g5, 0, none⟩) D.length c') = W := ⟨_, rfl⟩
        have hm6 : Mod (· = q) w5 W6 := by rw [← hW6]; exact (Mod.refl (· = q) w5).setCell (.inl rfl) _
        have v5 : g5 ≠ q := fun e => Ow.ne_blk ho5.out hq5.out (by decide) ⟨_, rfl, e⟩
        have hq6 : Blk W6 q 36 #[.slice (some ⟨g5, 0, none⟩) D.length c'] := by rw [← hW6]; exact hq5.out.set_ 0 _
        have ho6 : OwA W6 (some ⟨g5, 0, none⟩) D.length c' D := Ow.mod ho5.out hm6 (by rintro k ⟨a, ha, rfl⟩; cases ha; exact v5)
        have hge : wr.heap.size ≤ g5 := hf5.out _ rfl
        have hR6 : RefAt W6 q B D := ⟨_, c', hq6, ho6, by rintro k ⟨a, ha, rfl⟩; cases ha; show B ≤ g5; omega⟩
        have p1 : W6.cell? ⟨q, 0, none⟩ = some (.slice (some ⟨g5, 0, none⟩) D.length c') := hq6.cell_ rfl
        have p2 : W6.cell? ⟨g5, i0*4 + 1, none⟩ = (acs D)[i0*4 + 1]? := Ow.cell_ ho6 rfl _ (by omega)
        rw [acs_at_h _ _ hi0, hCi.out] at p2
        have p3 : W6.frozen? ⟨g5, i0*4 + 1, none⟩ = false := Ow.free ho6 rfl _
        have p4 : W6.cell? ⟨g, o + i*2, none⟩ = some (.string (txt l.n)) := hm6.cell_some (hm5.out.cell_some y1 (fun h => h)) hne1.out
        have p5 : W6.cell? ⟨g, o + i*2 + 1, none⟩ = some (.int .i64 x) := hm6.cell_some (hm5.out.cell_some y2 (fun h => h)) hne1.out
        have p6 := hq6.lt
        have p7 := World.block_lt_of_cell? W6 _ p2
        have cad := Lib.hid (ca.out W6.drew (hR6.mod0 (Mod.refl _ _).drew))
        rw [hW6]
        clear y1 y2 hcell hW6
        replace hm6 := Lib.hid hm6
        replace hq6 := Lib.hid hq6
        replace ho6 := Lib.hid ho6
        replace hR6 := Lib.hid hR6
        replace hge := Lib.hid hge
        refine wp_region_still_tail 22 (by kernel_rfl) (by kernel_rfl) ?_
        simp only [List.take_succ_cons, List.take_zero, List.drop_succ_cons, List.drop_zero]
        change wpStill _ _ (World.drew _) _ _ _
        repeat still_step
        still_call (cad.out)
        repeat still_step
        refine wpStill_nil ?_
        change wpList _ _ _ _ _ (World.drew _)
        go_wp2_with fail
        go_roundw
        case rel =>
          have e1 := acs_set_h D i0 hi0 v
          rw [hCi.out] at e1
          refine ⟨i + 1, by go_num, by omega, updL D l, ?_, oD2.out, sD2.out, hall2.out, ?_⟩
          · refine ⟨some ⟨g5, 0, none⟩, c', ?_, ?_, ?_⟩
            · rw [hnew.out, List.length_set]
              exact hq6.out.drew.far (fun e => v5 e.symm) _
            · rw [hnew.out, List.length_set]
              unfold OwA
              rw [← e1]
              exact Ow.set_ (Ow.mod0 ho6.out (Mod.refl _ _).drew) rfl _ _
            · rintro k ⟨a, ha, rfl⟩
              cases ha
              show B ≤ g5
              have := hge.out
              omega
          · refine (((hm.out.trans (hm5.out.any _)).trans hm6.out).drew).setCell (.inr ?_) _
            show w.heap.size ≤ g5
            have := hge.out
            omega
        case measure => simp [intOf]; omega
      · have t1 : decide ((i : Int) < (n : Int)) = false := decide_eq_false (by omega)
        have hd0 : ls.drop i = [] := List.drop_eq_nil_of_le (by omega)
        rw [hd0] at hall
        replace hD := Lib.hid hD
        replace oD := Lib.hid oD
        replace sD := Lib.hid sD
        replace hall := Lib.hid hall
        replace hm := Lib.hid hm
        replace hd0 := Lib.hid hd0
        go_wp2_with fail
        go_ret
        rw [hall.out]
        exact ⟨rfl, hD.out, hm.out⟩
  · rw [if_pos h0]
    have e1 : (er == 0) = false := by simpa using h0
    replace h := Lib.hid h
    replace hz := Lib.hid hz
    replace hR := Lib.hid hR
    replace oC := Lib.hid oC
    replace hs := Lib.hid hs
    replace her := Lib.hid her
    replace hA := Lib.hid hA
    replace h0 := Lib.hid h0
    go_enter Try.func17, Try.ntmps17
    go_wp2_with fail
    refine c0.out.mono ?_
    rintro e w1 ⟨rfl, hm1⟩
    dsimp only
    replace hm1 := Lib.hid hm1
    go_wp2_with fail
    go_loopw [6] (fun x wr => x = .int .i64 0 ∧ Mod none_ w wr) (fun x _ => n - (intOf x).toNat)
    case atStart => exact ⟨rfl, hm1.out⟩
    case round =>
      obtain ⟨rfl, hm⟩ := hrel
      by_cases hn0 : 0 < n
      · have t1 : decide ((0 : Int) < (n : Int)) = true := decide_eq_true (by omega)
        have t2 : decide (0 < n) = true := decide_eq_true hn0
        replace hm := Lib.hid hm
        go_wp2_with fail
        go_ret
        exact ⟨rfl, hR.out.mod0 hm.out, hm.out.any _⟩
      · have t1 : decide ((0 : Int) < (n : Int)) = false := decide_eq_false (by omega)
        have t2 : decide (0 < n) = false := decide_eq_false hn0
        replace hm := Lib.hid hm
        go_wp2_with fail
        go_ret
        exact ⟨rfl, hR.out.mod0 hm.out, hm.out.any _⟩
end Go.Proofs.Ytaohgefpnndjcaa
/-
  The reference's Net: its row of names; append to a slice of names; Ahead for names of any length.
-/
namespace Go.Proofs.Ytaohgefpnndjcaa
set_option linter.unusedVariables false
open Go.RowKit
theorem nvs_length (l : List (List UInt8)) : (nvs l).length = l.length := by unfold nvs; rw [List.length_map]
theorem nvs_append (a b : List (List UInt8)) : nvs (a ++ b) = nvs a ++ nvs b := by unfold nvs; rw [List.map_append]
theorem nvs_one (l : List (List UInt8)) : ∀ u ∈ nvs l, u.oneCell' = true := by
  intro u hu
  unfold nvs at hu
  obtain ⟨b, _, rfl⟩ := List.mem_map.1 hu
  rfl
theorem nminfo : (Try.prog.info? 9).map (fun i => (i.zero, i.size, i.bytes)) = some (some (.string ⟨#[]⟩), 1, 16) := by kernel_rfl
def OwN (w : World) (A : Option Addr) (n c : Nat) (l : List (List UInt8)) : Prop := Ow w 9 1 A n c (nvs l)
def RdN (w : World) (A : Option Addr) (n : Nat) (l : List (List UInt8)) : Prop := Rd w 1 A n (nvs l)
theorem RdN.len {w : World} {A : Option Addr} {n : Nat} {l : List (List UInt8)} (h : RdN w A n l) : l.length = n := by have := h.1; rw [nvs_length] at this; omega
theorem rdn_take {A : Option Addr} {w : World} {n : Nat} {l : List (List UInt8)} (h : RdN w A n l) {k : Nat} (hk : k ≤ n) : RdN w A k (l.take k) := by
  have := Rd.take_ h hk
  rw [Nat.mul_one] at this
  unfold RdN nvs at *
  rw [List.map_take]
  exact this
theorem rdn_drop {A : Option Addr} {w : World} {n c : Nat} {l : List (List UInt8)} (h : RdN w A n l) {k : Nat} (hk : k ≤ n) (hc : n ≤ c) : RdN w (if c = k then A else Option.map (fun x => x.add k) A) (n - k) (l.drop k) := by
  have := Rd.drop_ h hk hc
  simp only [Nat.mul_one] at this
  unfold RdN nvs at *
  rw [List.map_drop]
  exact this
theorem rdn_at {w : World} {A : Option Addr} {n : Nat} {l : List (List UInt8)} (h : RdN w A n l) {j : Nat} (hj : j < n) : ∃ b o, A = some ⟨b, o, none⟩ ∧ ∃ hl : j < l.length, w.cell? ⟨b, o + j, none⟩ = some (.string (txt l[j])) := by
  obtain ⟨b, o, e, hc⟩ := Rd.form h (by omega) (by omega)
  have hl : j < l.length := by rw [h.len]; exact hj
  exact ⟨b, o, e, hl, hc j _ (nvs_get hl)⟩
theorem rdn_one (w : World) (e : TypeId) (g : Nat) (hg : g = w.heap.size) (s : List UInt8) : RdN (w.alloc (.cells #[.string (txt s)] e)) (some ⟨g, 0, none⟩) 1 [s] := by
  subst hg
  exact rdn w e 1 1 w.heap.size #[.string (txt s)] (0, 0) rfl rfl
theorem step_appN {w : World} {ops : Array Oper} {o : Oper} {a : Act} {K : Act → World → Prop} {Q : Exit → Act → World → Prop} {E : Prop} (hgd : o.guard = none) (s x : Operand)
    (ho : o.op = .call { callee := .builtin .append, args := #[s, x], argTypes := #[62, 62] })
    {A : Option Addr} {n c : Nat} {xs : List (List UInt8)} (hs : a.eval s = .slice A n c) (hown : OwN w A n c xs)
    {S : Option Addr} {m d : Nat} {news : List (List UInt8)} (hx : a.eval x = .slice S m d) (hr : RdN w S m news) (hb : (n + m) * 16 ≤ 140737488355328)
    (h : ∀ A' c' w', OwN w' A' (n + m) c' (xs ++ news) → Mod (fp A) w w' → (A' = A ∨ A' = some ⟨w.heap.size, 0, none⟩) → K (a.put o.dst (.slice A' (n + m) c')) w') :
    if Region.wanted o (yielded ops a.tmps) = true then Oper.wp Try.prog o a w K Q else E := by
  obtain ⟨i0, hi, hz0, hz1, hz2⟩ := info_parts nminfo
  refine step_append_ow hgd s x 62 ho 9 i0 _ 1 16 Try.underlying62 hi hz0 hz1 hz2 rfl (by omega) A n c (nvs xs) hs hown S m d (nvs news) hx hr (nvs_one _) (by omega) (by omega) ?_
  intro A' c' w' h1
  rw [← nvs_append] at h1
  exact h A' c' w' h1
theorem fresh_new {w w1 : World} {A : Option Addr} (hA : A = none ∨ A = some ⟨w1.heap.size, 0, none⟩) (h : w.heap.size ≤ w1.heap.size) : Fresh w A := by
  intro a ha
  rcases hA with e | e
  · rw [e] at ha; cases ha
  · rw [e] at ha; cases ha; exact h
/-- the names' row -/
def NmRel (w : World) (ls : List Lg) (N : List (List UInt8)) (NA : Option Addr) (nc : Nat) (W : World) : Prop :=
  OwN W NA N.length nc N ∧ Fresh w NA ∧ N.Pairwise (fun a b => bytesBefore a b = true) ∧ (∀ s, s ∈ N ↔ ∃ l ∈ ls, l.n = s) ∧ Mod none_ w W
theorem NmRel.few {w W : World} {ls : List Lg} {N : List (List UInt8)} {NA : Option Addr} {nc : Nat} (h : NmRel w ls N NA nc W) : N.length ≤ ls.length := by
  have h2 := nodup_len (b := ls.map fun l => l.n) (sorted_nodup h.2.2.1) fun s hs => by
    obtain ⟨l, hl, e⟩ := (h.2.2.2.1 s).1 hs
    exact List.mem_map.2 ⟨l, hl, e⟩
  rwa [List.length_map] at h2
theorem NmRel.drewN {w W : World} {ls : List Lg} {N : List (List UInt8)} {NA : Option Addr} {nc : Nat} (h : NmRel w ls N NA nc W) (k : Nat) : NmRel w ls N NA nc (W.drewN k) :=
  ⟨Ow.mod0 h.1 ((Mod.refl _ _).drewN k), h.2.1, h.2.2.1, h.2.2.2.1, h.2.2.2.2.drewN k⟩
theorem mem_snoc {ls : List Lg} {x : Lg} {N : List (List UInt8)} (h : ∀ s, s ∈ N ↔ ∃ l ∈ ls, l.n = s) {M : List (List UInt8)} (hM : ∀ s, s ∈ M ↔ s ∈ N ∨ s = x.n) : ∀ s, s ∈ M ↔ ∃ l ∈ ls ++ [x], l.n = s := by
  intro s
  rw [hM, h]
  constructor
  · rintro (⟨l, hl, e⟩ | e)
    · exact ⟨l, List.mem_append_left _ hl, e⟩
    · exact ⟨x, by simp, e.symm⟩
  · rintro ⟨l, hl, e⟩
    rcases List.mem_append.1 hl with hl | hl
    · exact .inl ⟨l, hl, e⟩
    · simp at hl; subst hl; exact .inr e.symm
/-- a name's place: all from j on are behind it, the one ahead of j is not -/
theorem insN_sorted {N : List (List UInt8)} {s : List UInt8} {j : Nat} (hs : N.Pairwise fun a b => bytesBefore a b = true) (hj : j ≤ N.length) (h1 : ∀ i (hi : i < N.length), j ≤ i → bytesBefore s N[i] = true)
    (h2 : j = 0 ∨ (bytesBefore s (N[j-1]?.getD []) = false ∧ (N[j-1]?.getD [] == s) = false)) : (N.take j ++ [s] ++ N.drop j).Pairwise fun a b => bytesBefore a b = true := by
  have hsplit : (N.take j ++ N.drop j).Pairwise fun a b => bytesBefore a b = true := by rw [List.take_append_drop]; exact hs
  rw [List.pairwise_append] at hsplit
  obtain ⟨a1, a2, a3⟩ := hsplit
  have hd : ∀ b ∈ N.drop j, bytesBefore s b = true := by
    intro b hb
    obtain ⟨i, hi1, hi2⟩ := List.getElem_of_mem hb
    rw [List.getElem_drop] at hi2
    rw [List.length_drop] at hi1
    rw [← hi2]
    exact h1 _ (by omega) (by omega)
  have ht : ∀ a ∈ N.take j, bytesBefore a s = true := by
    intro a ha
    rcases h2 with rfl | ⟨h3, h4⟩
    · simp at ha
    · obtain ⟨i, hi1, hi2⟩ := List.getElem_of_mem ha
      rw [List.length_take] at hi1
      rw [List.getElem_take] at hi2
      have hjl : j - 1 < N.length := by omega
      rw [List.getElem?_eq_getElem hjl, Option.getD_some] at h3 h4
      have hlast : bytesBefore N[j-1] s = true := by
        rcases bb_total s N[j-1] with h | h | h
        · rw [h] at h3; cases h3
        · rw [h] at h4; simp at h4
        · exact h
      by_cases e : i = j - 1
      · subst e; rw [← hi2]; exact hlast
      · have := (List.pairwise_iff_getElem.1 hs) i (j - 1) (by omega) hjl (by omega)
        rw [hi2] at this
        exact bb_trans _ _ _ this hlast
  rw [List.append_assoc, List.pairwise_append]
  refine ⟨a1, ?_, ?_⟩
  · rw [List.singleton_append, List.pairwise_cons]
    exact ⟨hd, a2⟩
  · intro a ha b hb
    rcases List.mem_append.1 hb with hb | hb
    · simp at hb; subst hb; exact ht a ha
    · exact a3 a ha b hb
theorem insN_mem {N : List (List UInt8)} {s : List UInt8} {j : Nat} : ∀ t, t ∈ N.take j ++ [s] ++ N.drop j ↔ t ∈ N ∨ t = s := by
  intro t
  have : t ∈ N ↔ t ∈ N.take j ∨ t ∈ N.drop j := by
    conv => lhs; rw [← List.take_append_drop j N]
    exact List.mem_append
  rw [this]
  simp only [List.mem_append, List.mem_singleton]
  constructor
  · rintro ((h | h) | h)
    · exact .inl (.inl h)
    · exact .inr h
    · exact .inl (.inr h)
  · rintro ((h | h) | h)
    · exact .inl (.inl h)
    · exact .inr h
    · exact .inl (.inr h)
set_option maxRecDepth 100000 in
set_option maxHeartbeats 2000000 in
theorem aheadL_ok (w : World) (a b : List UInt8) (hal : a.length ≤ 9223372036854775807) (hbl : b.length ≤ 9223372036854775807) : Calls Try.prog 50 #[.string (txt a), .string (txt b)] w fun e w' => e = .returned (.bool (bytesBefore a b)) ∧ ∃ k, w' = w.drewN k := by
  have za := txt_size' a
  have zb := txt_size' b
  go_enter Try.func50, Try.ntmps50
  go_wp2_with fail
  go_loopw [5] (fun x wr => ∃ j : Nat, x = .int .i64 j ∧ j ≤ a.length ∧ j ≤ b.length ∧ a.take j = b.take j ∧ ∃ k, wr = w.drewN k) (fun x _ => a.length - (intOf x).toNat)
  case atStart => exact ⟨0, rfl, by omega, by omega, rfl, 0, rfl⟩
  case round =>
    obtain ⟨j, rfl, hja, hjb, htk, k, rfl⟩ := hrel
    by_cases hla : j < a.length
    · have c1 : decide ((j : Int) < (a.length : Int)) = true := decide_eq_true (by omega)
      by_cases hlb : j < b.length
      · have c2 : decide ((j : Int) < (b.length : Int)) = true := decide_eq_true (by omega)
        obtain ⟨x, hx⟩ : ∃ x, ((txt a)[j]'(by rw [za]; exact hla)).toNat = x := ⟨_, rfl⟩
        obtain ⟨y, hy⟩ : ∃ y, ((txt b)[j]'(by rw [zb]; exact hlb)).toNat = y := ⟨_, rfl⟩
        have hx' : a[j].toNat = x := hx
        have hy' : b[j].toNat = y := hy
        by_cases hxy : x = y
        · subst hxy
          have hab : a[j] = b[j] := UInt8.toNat_inj.1 (by omega)
          have hn : a.take (j + 1) = b.take (j + 1) := by rw [List.take_succ_eq_append_getElem hla, List.take_succ_eq_append_getElem hlb, htk, hab]
          clear hab hx' hy'
          replace htk := Lib.hid htk
          replace hn := Lib.hid hn
          go_wp2_with fail
          go_quiet (fail)
          go_wp2_with fail
          go_roundw
          case rel => exact ⟨j + 1, by go_num, by omega, by omega, hn.out, _, rfl⟩
          case measure => simp [intOf]; omega
        · have hn := bb_at hla hlb htk (by omega)
          rw [hx', hy'] at hn
          have d1 : (x == y) = false := by simpa using hxy
          have d2 : ((x : Int) == (y : Int)) = false := by rw [beq_eq_false_iff_ne]; omega
          clear hx' hy'
          replace htk := Lib.hid htk
          replace hn := Lib.hid hn
          go_wp2_with fail
          go_quiet (fail)
          go_wp2_with fail
          go_quiet (fail)
          go_wp2_with fail
          go_ret
          exact ⟨by rw [hn.out]; rfl, _, by rw [World.drewN_drewN, World.drewN_drewN]⟩
      · have c2 : decide ((j : Int) < (b.length : Int)) = false := decide_eq_false (by omega)
        have hn := bb_end hja hjb htk (.inr (by omega))
        replace htk := Lib.hid htk
        replace hn := Lib.hid hn
        go_wp2_with fail
        go_ret
        exact ⟨by rw [hn.out]; rfl, _, rfl⟩
    · have c1 : decide ((j : Int) < (a.length : Int)) = false := decide_eq_false (by omega)
      have hn := bb_end hja hjb htk (.inl (by omega))
      replace htk := Lib.hid htk
      replace hn := Lib.hid hn
      go_wp2_with fail
      go_ret
      exact ⟨by rw [hn.out]; rfl, _, rfl⟩
end Go.Proofs.Ytaohgefpnndjcaa
