import Derived.Test.YtdekehhmjehicaaGreatQp20
import Derived.Test.YtdekehhmjehicaaGreatQp21
import Derived.BigQuiet
import Derived.Deep.LoopGhost
/-
  PostPlays' walk. No condition.
-/
namespace Go.Proofs.YtdekehhmjehicaaGreat
set_option linter.unusedVariables false
set_option linter.unusedSimpArgs false
open Go.RowKit
/-- a message whose lists lie below -/
def XG (w : World) (x : Ms) : Prop := EnM w x.m.r.e x.L x.D ∧ MsOk x ∧ MsTx x
/-- both bags -/
structure TwoS (w W : World) (p q : Nat) (A : Option Addr) (n c : Nat) (B : Option Addr) (d : Nat) (xs : List Ms) : Prop where
  a : BagSt W p A n c xs
  b : BagR W q B n d xs
  le : n ≤ 400
  ap : ∀ i, bagF p A i → ¬ bagF q B i
  na : ∀ i, bagF p A i → w.heap.size ≤ i
  nb : ∀ i, bagF q B i → w.heap.size ≤ i
  mod : Mod none_ w W
  good : ∀ x ∈ xs, XG w x
theorem TwoS.mod0 {w W W' : World} {p q : Nat} {A : Option Addr} {n c : Nat} {B : Option Addr} {d : Nat} {xs : List Ms} (h : TwoS w W p q A n c B d xs) (hm : Mod none_ W W') : TwoS w W' p q A n c B d xs :=
  ⟨h.a.mod0 hm, h.b.mod0 hm, h.le, h.ap, h.na, h.nb, h.mod.trans hm, h.good⟩
theorem TwoS.mem {w W : World} {p q : Nat} {A : Option Addr} {n c : Nat} {B : Option Addr} {d : Nat} {xs : List Ms} (h : TwoS w W p q A n c B d xs) : MsM W xs := fun x hx => (h.good x hx).1.mod0 h.mod
theorem bagA_lt {W : World} {p : Nat} {A : Option Addr} {n c : Nat} {xs : List Ms} (h : BagSt W p A n c xs) : ∀ i, bagF p A i → i < W.heap.size := fun i hi => by
  rcases hi with rfl | hi
  · exact h.blk.lt
  · exact h.ow.lt i hi
theorem bagB_lt {W : World} {p : Nat} {A : Option Addr} {n c : Nat} {xs : List Ms} (h : BagR W p A n c xs) : ∀ i, bagF p A i → i < W.heap.size := fun i hi => by
  rcases hi with rfl | hi
  · exact h.blk.lt
  · exact h.ow.lt i hi
/-- the one bag's step leaves the other one -/
theorem TwoS.midB {w W W1 : World} {p q : Nat} {A : Option Addr} {n c : Nat} {B : Option Addr} {d : Nat} {xs : List Ms} (h : TwoS w W p q A n c B d xs) (hm : Mod (bagF p A) W W1) : BagR W1 q B n d xs :=
  h.b.mod hm (fun hh => h.ap q hh (.inl rfl)) (fun k hk hh => h.ap k hh (.inr hk))
theorem TwoS.modA {w W W1 : World} {p q : Nat} {A : Option Addr} {n c : Nat} {B : Option Addr} {d : Nat} {xs : List Ms} (h : TwoS w W p q A n c B d xs) (hm : Mod (bagF p A) W W1) : Mod none_ w W1 := h.mod.then hm (fun i hi hk => by have := h.na i hk; omega)
theorem TwoS.both {w W W1 Wm W2 : World} {p q : Nat} {A : Option Addr} {n c : Nat} {B : Option Addr} {d : Nat} {xs : List Ms} (h : TwoS w W p q A n c B d xs) {A' : Option Addr} {n' c' : Nat} {B' : Option Addr} {n'' d' : Nat} {xs' : List Ms}
    (ha : BagSt W1 p A' n' c' xs') (hma : Mod (bagF p A) W W1) (hga : ∀ i, fp A' i → fp A i ∨ W.heap.size ≤ i) (hmm : Mod none_ W1 Wm) (hb : BagR W2 q B' n'' d' xs') (hmb : Mod (bagF q B) Wm W2) (hgb : ∀ i, fp B' i → fp B i ∨ Wm.heap.size ≤ i) (hn : n' ≤ 400) (hg : ∀ x ∈ xs', XG w x) : TwoS w W2 p q A' n' c' B' d' xs' := by
  have hnn : n'' = n' := by rw [← hb.len, ← ha.len]
  subst hnn
  have hw0 : w.heap.size ≤ W.heap.size := h.mod.size
  have hw1 : W.heap.size ≤ W1.heap.size := hma.size
  have hw2 : W1.heap.size ≤ Wm.heap.size := hmm.size
  have na' : ∀ i, bagF p A' i → bagF p A i ∨ W.heap.size ≤ i := fun i hi => by
    rcases hi with rfl | hi
    · exact .inl (.inl rfl)
    · rcases hga i hi with h1 | h1
      · exact .inl (.inr h1)
      · exact .inr h1
  have nb' : ∀ i, bagF q B' i → bagF q B i ∨ Wm.heap.size ≤ i := fun i hi => by
    rcases hi with rfl | hi
    · exact .inl (.inl rfl)
    · rcases hgb i hi with h1 | h1
      · exact .inl (.inr h1)
      · exact .inr h1
  have ap1 : ∀ i, bagF p A' i → ¬ bagF q B i := fun i hi hb' => by
    rcases na' i hi with h1 | h1
    · exact h.ap i h1 hb'
    · have := bagB_lt h.b i hb'; omega
  have ap2 : ∀ i, bagF p A' i → ¬ bagF q B' i := fun i hi hb' => by
    rcases nb' i hb' with h1 | h1
    · exact ap1 i hi h1
    · have := bagA_lt ha i hi; omega
  refine ⟨(ha.mod0 hmm).mod hmb (ap1 p (.inl rfl)) (fun k hk => ap1 k (.inr hk)), hb, hn, ap2, fun i hi => ?_, fun i hi => ?_, ((h.modA hma).trans hmm).then hmb (fun i hi hk => by have := h.nb i hk; omega), hg⟩
  · rcases na' i hi with h1 | h1
    · exact h.na i h1
    · omega
  · rcases nb' i hi with h1 | h1
    · exact h.nb i h1
    · omega
theorem sts_get {w : World} {A : Option Addr} {n : Nat} {ss : List St} (h : Rd w 3 A n (sts ss)) {j : Nat} (hj : j < n) : ∃ b o s, A = some ⟨b, o, none⟩ ∧ s ∈ ss ∧ ss[j]? = some s ∧
    w.cell? ⟨b, o + j*3, none⟩ = some (.int .i64 s.kind) ∧ w.cell? ⟨b, o + j*3 + 1, none⟩ = some (.int .i64 s.k) ∧ w.cell? ⟨b, o + j*3 + 2, none⟩ = some (.slice s.L.a s.L.n s.L.c) := by
  have hl : ss.length = n := by have := h.1; rw [sts_length] at this; omega
  obtain ⟨b, o, e, hc⟩ := Rd.form h (show 0 < n by omega) (by omega)
  have hjl : j < ss.length := by omega
  have hg := flat_get stC 3 (fun _ => rfl) ss j ss[j] (List.getElem?_eq_getElem hjl)
  refine ⟨b, o, ss[j], e, List.getElem_mem hjl, List.getElem?_eq_getElem hjl, ?_, ?_, ?_⟩
  · exact hc (j*3) _ (hg 0 (by omega))
  · rw [Nat.add_assoc]; exact hc (j*3+1) _ (hg 1 (by omega))
  · rw [Nat.add_assoc]; exact hc (j*3+2) _ (hg 2 (by omega))
theorem umod_four (x : Int) : ∃ k : Nat, k < 4 ∧ wrap64 ((IntKind.u64.wrap x).tmod 4) = (k : Int) ∧ (IntKind.u64.wrap x).tmod 4 = (k : Int) := by
  have hx := (wrap_u64_lt x).1
  generalize IntKind.u64.wrap x = q at hx
  have e : q.tmod 4 = q % 4 := Int.tmod_eq_emod_of_nonneg hx
  refine ⟨(q % 4).toNat, by omega, ?_, ?_⟩
  · rw [e, IntWalk.wrap64_in _ ⟨by omega, by omega⟩]; omega
  · rw [e]; omega
theorem fewL_good {w : World} {ms : List Ms} (h : ∀ x ∈ ms, MsGood w x) (n : Nat) : ∀ x ∈ fewL ms n, XG w x := fun x hx => by
  unfold fewL at hx
  obtain ⟨y, hy, rfl⟩ := List.mem_map.1 hx
  obtain ⟨h1, h2, _, h3, h4⟩ := h y (List.mem_of_mem_take hy)
  exact ⟨cut_mem h1, cut_ok h2, h3, h4⟩
theorem lookR_mem {xs : List Ms} {k : Int} {x : Ms} (h : lookR xs k = some x) : x ∈ xs := List.mem_of_getElem? (lookR_some h).2.2
theorem takeL_sub {xs : List Ms} {k : Int} {x : Ms} (h : x ∈ takeL xs k) : x ∈ xs := by
  unfold takeL at h
  split at h
  · exact h
  · unfold dropAt at h
    rcases List.mem_append.1 h with h | h
    · exact List.mem_of_mem_take h
    · exact List.mem_of_mem_drop h
theorem twiceL_sub {xs : List Ms} {k : Int} {n : Nat} {x : Ms} (h : x ∈ twiceL xs k n) : x ∈ xs := by
  unfold twiceL at h
  split at h
  · exact h
  · rename_i y hy
    split at h
    · rcases List.mem_append.1 h with h | h
      · exact h
      · rw [List.mem_singleton] at h; subst h; exact lookR_mem hy
    · exact h
theorem Blk.mod0z {w w' : World} {g : Nat} {t : TypeId} {cs : Array Value} (h : Blk w g t cs) (hm : Mod none_ w w') : Blk w' g t cs := h.mod hm (fun h => h)
theorem same17_zero (w : World) : Calls Tryz.prog 11 #[.agg #[.int .i64 0, .int .i64 0, .int .i64 0, .int .i64 0, .int .i64 0, .int .i64 0, .int .i64 0, .int .i64 0, .int .i64 0, .int .i64 0, .int .i64 0, .string ⟨#[]⟩, .string ⟨#[]⟩, .int .i64 0, .slice none 0 0, .int .i64 0, .int .i64 0, .string ⟨#[]⟩, .bool false, .slice none 0 0], .agg #[.int .i64 0, .int .i64 0, .int .i64 0, .int .i64 0, .int .i64 0, .int .i64 0, .int .i64 0, .int .i64 0, .int .i64 0, .int .i64 0, .int .i64 0, .string ⟨#[]⟩, .string ⟨#[]⟩, .int .i64 0, .slice none 0 0, .int .i64 0, .int .i64 0, .string ⟨#[]⟩, .bool false, .slice none 0 0]] w fun e w' => e = .returned (.bool true) ∧ Mod none_ w w' := by
  have h := same17_eq w zeroMs.m ⟨none, 0, 0⟩ ⟨none, 0, 0⟩ ⟨none, 0, 0⟩ ⟨none, 0, 0⟩ (en0_mem w) (en0_mem w) (by decide) (by decide)
  exact h
set_option maxRecDepth 100000 in
set_option maxHeartbeats 8000000 in
theorem postPlays_walk (w : World) (SA : Option Addr) (N SC : Nat) (ss : List St) (h : Rd w 3 SA N (sts ss)) (hg : ∀ s ∈ ss, StGood w s) :
    Calls Tryz.prog 3 #[.slice SA N SC] w fun e w' => e = .returned (.bool true) ∧ Mod none_ w w' := by
  have kL := Lib.hid (lives_ok w)
  replace h := Lib.hid h
  replace hg := Lib.hid hg
  go_enter Tryz.func3, Tryz.ntmps3
  go_wp2_with fail
  refine kL.out.mono ?_
  rintro e w1 ⟨rfl, hm1⟩
  dsimp only
  replace hm1 := Lib.hid hm1
  clear kL
  go_wp2_with fail
  refine (bagNew_ok w1).mono ?_
  rintro e w2 ⟨rfl, hb2, hm2⟩
  dsimp only
  have hplt := hb2.blk.lt
  have hbB : Blk (w2.alloc (.cells #[.slice none 0 0] 29)) w2.heap.size 29 #[.slice none 0 0] := Blk.new w2 _ _
  have hT0 : TwoS w1 (w2.alloc (.cells #[.slice none 0 0] 29)) w1.heap.size w2.heap.size none 0 0 none 0 [] :=
    ⟨hb2.mod0 ((Mod.refl none_ w2).alloc _), ⟨hbB, Ow.nil _ _ _, fun ⟨a, ha, _⟩ => by cases ha⟩, by omega, fun i hi hj => by
      have h1 := bagF_none _ i hi
      have h2 := bagF_none _ i hj
      omega, fun i hi => by have := bagF_none _ i hi; omega, fun i hi => by have := bagF_none _ i hi; omega, hm2.alloc _, fun x hx => by cases hx⟩
  clear hb2 hm2 hbB
  obtain ⟨W0, hW0⟩ : ∃ W0, W0 = w2.alloc (.cells #[.slice none 0 0] 29) := ⟨_, rfl⟩
  rw [← hW0] at hT0
  generalize hpe : w1.heap.size = p at *
  generalize hqe : w2.heap.size = q at *
  replace hT0 := Lib.hid hT0
  replace hW0 := Lib.hid hW0
  replace hpe := Lib.hid hpe
  replace hqe := Lib.hid hqe
  clear hplt
  go_wp2_with fail
  simp only [hpe.out, hqe.out]
  rw [← hW0.out]
  go_loopg [5] N (fun gk y wr => ∃ (j : Nat) (A : Option Addr) (n c : Nat) (B : Option Addr) (d : Nat) (xs : List Ms), y = .int .i64 j ∧ j + gk = N ∧ TwoS w1 wr p q A n c B d xs)
  case atStart => exact ⟨0, none, 0, 0, none, 0, [], rfl, by omega, hT0.out⟩
  case round =>
    obtain ⟨j, A, n, c, B, d, xs, rfl, hj, hT⟩ := hrel
    by_cases hlt : j < N ∧ j < 100
    case pos =>
      obtain ⟨hlt, hlt2⟩ := hlt
      obtain ⟨b, o, s, rfl, hsm, hs, s0, s1, s2⟩ := sts_get (w := wr) (Rd.mod0 h.out (hm1.out.trans hT.mod)) hlt
      obtain ⟨g1, g2, g3, g4⟩ := hg.out s hsm
      obtain ⟨K, hK, u1, u2⟩ := umod_four s.kind
      have hTa := Lib.hid (hT.mod0 ((Mod.refl none_ wr).alloc (.cells #[.int .i64 s.kind, .int .i64 s.k, .slice s.L.a s.L.n s.L.c] 31)))
      have hsb := Lib.hid (Blk.new wr 31 #[.int .i64 s.kind, .int .i64 s.k, .slice s.L.a s.L.n s.L.c])
      have hna : Hid (∀ i, bagF p A i → i < wr.heap.size) := Lib.hid (bagA_lt hT.a)
      have hnb : Hid (∀ i, bagF q B i → i < wr.heap.size) := Lib.hid (bagB_lt hT.b)
      have g1m := Lib.hid g1
      have g4m := Lib.hid g4
      clear g1 g4
      replace hT := Lib.hid hT
      replace hsm := Lib.hid hsm
      replace hs := Lib.hid hs
      obtain ⟨kd, sk, ⟨LA, Ln, Lc⟩, ms⟩ := s
      dsimp only at s0 s1 s2 g2 g3 u1 u2 hTa hsb g1m g4m
      rcases (show K = 0 ∨ K = 1 ∨ K = 2 ∨ K = 3 by omega) with rfl | rfl | rfl | rfl
      · -- Put
        have u1' : wrap64 ((IntKind.u64.wrap kd).tmod 4) = 0 := u1
        have u2' : (IntKind.u64.wrap kd).tmod 4 = 0 := u2
        clear u1 u2
        have kF := Lib.hid (fun W (hM : Mod none_ w W) => few_ok W LA Ln Lc ms (Rd.mod0 g1m.out hM) (fun x hx => (g4m.out x hx).1.mod0 hM) (fun x hx => (g4m.out x hx).2.1) (by omega) 30 (by omega))
        have hMa := Lib.hid (hm1.out.trans hTa.out.mod)
        go_wp2_with fail
        refine (kF.out _ hMa.out).mono ?_
        rintro e w3 ⟨A8, m8, c8, rfl, ho8, hf8, hm8⟩
        dsimp only
        have hT3 := Lib.hid (hTa.out.mod0 hm8)
        have hl8 : m8 ≤ 30 := by
          have h1 := ho8.len
          have h2 : (fewL ms 30).length ≤ 30 := by unfold fewL; simp; omega
          omega
        have hXG := fewL_good (w := w1) (ms := ms) (fun x hx => ⟨(g4m.out x hx).1.mod0 hm1.out, (g4m.out x hx).2⟩) 30
        have hf8' : ∀ k, fp A8 k → (wr.alloc (.cells #[.int .i64 kd, .int .i64 sk, .slice LA Ln Lc] 31)).heap.size ≤ k := fun k hk => by obtain ⟨a, ha, rfl⟩ := hk; exact hf8 a ha
        have hs8 : wr.heap.size ≤ (wr.alloc (.cells #[.int .i64 kd, .int .i64 sk, .slice LA Ln Lc] 31)).heap.size := by simp
        generalize fewL ms 30 = ys at *
        have kA := Lib.hid (bagPut_ok w3 p A n c xs hT3.out.a hT3.out.le A8 m8 c8 ys ho8.rd (fun x hx => (hXG x hx).1.mod0 hT3.out.mod) (fun x hx => (hXG x hx).2.1) (by omega))
        clear kF hMa hm8 hTa
        replace ho8 := Lib.hid ho8
        replace hf8' := Lib.hid hf8'
        replace hXG := Lib.hid hXG
        replace hs8 := Lib.hid hs8
        go_wp2_with fail
        refine kA.out.mono ?_
        rintro e w4 ⟨A4, c4, rfl, hb4, hm4, hg4⟩
        dsimp only
        have hB4 := hT3.out.midB hm4
        have hM4 := hT3.out.modA hm4
        have hap4 : ∀ k, fp A8 k → ¬ bagF p A k := fun k hk hb => by have h1 := hf8'.out k hk; have h2 := hna.out k hb; have h3 := hs8.out; omega
        have hap5 : ∀ k, fp A8 k → ¬ bagF q B k := fun k hk hb => by have h1 := hf8'.out k hk; have h2 := hnb.out k hb; have h3 := hs8.out; omega
        have kB := Lib.hid (rput_ok w4 q B n d xs hB4 hT3.out.le A8 m8 c8 ys (Rd.mod ho8.out.rd hm4 hap4) (fun x hx => (hXG.out x hx).1.mod0 hM4) (fun x hx => (hXG.out x hx).2.1) (fun x hx => (hXG.out x hx).2.2) (fun _ => hap5) (fun x hx => farM_new (hXG.out x hx).1 (fun k hk => hT3.out.nb k hk)) (by omega))
        have hq4 : n + putN (ys.filter RtM).length n ≤ 400 := by have := hT3.out.le; unfold putN; omega
        obtain ⟨vv, hvv⟩ : ∃ vv : Int, vv = (m8 : Int) - (putN (ys.filter RtM).length n : Nat) := ⟨_, rfl⟩
        rw [← hvv] at kB ⊢
        have hvz : (vv == vv) = true := by simp
        replace hb4 := Lib.hid hb4
        replace hm4 := Lib.hid hm4
        replace hg4 := Lib.hid hg4
        replace hvv := Lib.hid hvv
        clear kA hB4 hM4 hap4 hap5
        go_wp2_with fail
        refine kB.out.mono ?_
        rintro e w5 ⟨B5, n5, d5, rfl, hb5, hn5, hm5, hg5⟩
        dsimp only
        have hT := Lib.hid (hT3.out.both hb4.out hm4.out hg4.out (Mod.refl none_ w4) hb5 hm5 hg5 hq4 (fun x hx => by
          rcases List.mem_append.1 hx with hx | hx
          · exact hT3.out.good x hx
          · exact hXG.out x (List.mem_filter.1 (List.mem_of_mem_take hx)).1))
        clear kB hb5 hn5 hm5 hg5 hb4 hm4 hg4 hT3
        generalize n + putN (ys.filter RtM).length n = n6 at *
        generalize xs ++ (ys.filter RtM).take (putN (ys.filter RtM).length n) = xs6 at *
        have v0 : w5.cell? ⟨q, 0, none⟩ = some (.slice B5 n6 d5) := hT.out.b.blk.cell_ rfl
        have kq := Lib.hid (fun m => (bagLen_ok (w5.drewN m) p A4 n6 c4 xs6 (hT.out.a.mod0 ((Mod.refl none_ _).drewN m))).mono (fun e w' (h : _ ∧ _) => (⟨h.1, h.2.symm⟩ : _ ∧ _)))
        have hnz : ((n6 : Int) != (n6 : Int)) = false := by simp
        go_upto_region 23 with fail
        go_quiet ((go_at_call 15; exact Calls.quiet_of_same (kq.out _)))
        go_wp2_with fail
        go_roundg (gk - 1)
        case measure => omega
        case rel => exact ⟨j + 1, A4, n6, c4, B5, d5, xs6, by go_num, by omega, hT.out.mod0 ((Mod.refl none_ _).drewN _)⟩
      · -- Take
        have u1' : wrap64 ((IntKind.u64.wrap kd).tmod 4) = 1 := u1
        have u2' : (IntKind.u64.wrap kd).tmod 4 = 1 := u2
        clear u1 u2 g1m g4m
        have kA := Lib.hid (bagTake_ok _ p A n c xs hTa.out.a hTa.out.le sk)
        have hgood := Lib.hid hTa.out.good
        have hsz1 : Hid ((wr.alloc (.cells #[.int .i64 kd, .int .i64 sk, .slice LA Ln Lc] 31)).heap.size = wr.heap.size + 1) := Lib.hid (by simp)
        go_wp2_with fail
        refine kA.out.mono ?_
        rintro e w3 ⟨v, n3, rfl, hv3, hb3, hn3, hm3⟩
        have hs3 := hsb.out.mod hm3 (fun hh => by have := hna.out _ hh; omega)
        have hB3 := hTa.out.midB hm3
        have hz3 := Lib.hid (Blk.new w3 46 #[.int .i64 0, .int .i64 0, .int .i64 0, .int .i64 0, .int .i64 0, .int .i64 0, .int .i64 0, .int .i64 0, .int .i64 0, .int .i64 0, .int .i64 0, .string ⟨#[]⟩, .string ⟨#[]⟩, .int .i64 0, .slice none 0 0, .int .i64 0, .int .i64 0, .string ⟨#[]⟩, .bool false, .slice none 0 0])
        have hsz3 : wr.heap.size < w3.heap.size := by have := hm3.size; have := hsz1.out; omega
        clear kA
        cases hlk : lookR xs sk with
        | some x =>
          obtain rfl : v = .tuple #[.agg #[.int .i64 x.m.frm, .int .i64 x.m.to, .int .i64 x.m.kind, .int .i64 x.m.r.i.r, .int .i64 x.m.r.i.n, .int .i64 x.m.r.bal, .int .i64 x.m.r.st, .int .i64 x.m.r.by_, .int .i64 x.m.r.e.o.c, .int .i64 x.m.r.e.o.s, .int .i64 x.m.r.e.o.k, .string (txt x.m.r.e.o.acct), .string (txt x.m.r.e.o.peer), .int .i64 x.m.r.e.o.sum, .slice x.L.a x.L.n x.L.c, .int .i64 x.m.r.e.o.per, .int .i64 x.m.r.e.o.hold, .string (txt x.m.r.e.o.note), .bool x.m.r.e.none, .slice x.D.a x.D.n x.D.c], .bool true] := by
            rcases hv3 with ⟨y, hy, h2⟩ | ⟨hy, _⟩
            · rw [hlk] at hy; injection hy with hy; rw [hy]; exact h2
            · rw [hlk] at hy; cases hy
          dsimp only
          have hxg := Lib.hid (hgood.out x (lookR_mem hlk))
          clear hv3
          replace hb3 := Lib.hid hb3
          replace hm3 := Lib.hid hm3
          replace hs3 := Lib.hid hs3
          replace hB3 := Lib.hid hB3
          replace hlk := Lib.hid hlk
          go_upto_region 15 with (refine wpList_store_blk rfl 46 (.tmp 9) (.tmp 62) rfl w3.heap.size 0 _ rfl rfl hz3.out (by simp) msg_sizeG (by rfl) #[.int .i64 x.m.frm, .int .i64 x.m.to, .int .i64 x.m.kind, .int .i64 x.m.r.i.r, .int .i64 x.m.r.i.n, .int .i64 x.m.r.bal, .int .i64 x.m.r.st, .int .i64 x.m.r.by_, .int .i64 x.m.r.e.o.c, .int .i64 x.m.r.e.o.s, .int .i64 x.m.r.e.o.k, .string (txt x.m.r.e.o.acct), .string (txt x.m.r.e.o.peer), .int .i64 x.m.r.e.o.sum, .slice x.L.a x.L.n x.L.c, .int .i64 x.m.r.e.o.per, .int .i64 x.m.r.e.o.hold, .string (txt x.m.r.e.o.note), .bool x.m.r.e.none, .slice x.D.a x.D.n x.D.c] rfl ?_; intro w4 hb4 hm4; replace hb4 := Lib.hid hb4; replace hm4 := Lib.hid hm4)
          have hm34 := ((Mod.refl none_ w3).alloc (.cells #[.int .i64 0, .int .i64 0, .int .i64 0, .int .i64 0, .int .i64 0, .int .i64 0, .int .i64 0, .int .i64 0, .int .i64 0, .int .i64 0, .int .i64 0, .string ⟨#[]⟩, .string ⟨#[]⟩, .int .i64 0, .slice none 0 0, .int .i64 0, .int .i64 0, .string ⟨#[]⟩, .bool false, .slice none 0 0] 46)).in_new (Nat.le_refl _) hm4.out
          have hs4 := hs3.out.mod hm34 (fun h => h)
          have x4 : w4.cell? ⟨wr.heap.size, 1, none⟩ = some (.int .i64 sk) := hs4.cell_ rfl
          have kB := Lib.hid (rtake_ok w4 q B n d xs (hB3.out.mod0 hm34) hTa.out.le sk)
          replace hm34 := Lib.hid hm34
          replace hs4 := Lib.hid hs4
          clear hm4 hs3 hz3
          go_wp2_with fail
          refine kB.out.mono ?_
          rintro e w5 ⟨v5, hv5, B5, n5, d5, rfl, hb5, hn5, hm5, hg5⟩
          obtain rfl : v5 = .tuple #[.agg #[.int .i64 x.m.frm, .int .i64 x.m.to, .int .i64 x.m.kind, .int .i64 x.m.r.i.r, .int .i64 x.m.r.i.n, .int .i64 x.m.r.bal, .int .i64 x.m.r.st, .int .i64 x.m.r.by_, .int .i64 x.m.r.e.o.c, .int .i64 x.m.r.e.o.s, .int .i64 x.m.r.e.o.k, .string (txt x.m.r.e.o.acct), .string (txt x.m.r.e.o.peer), .int .i64 x.m.r.e.o.sum, .slice x.L.a x.L.n x.L.c, .int .i64 x.m.r.e.o.per, .int .i64 x.m.r.e.o.hold, .string (txt x.m.r.e.o.note), .bool x.m.r.e.none, .slice x.D.a x.D.n x.D.c], .bool true] := by
            rcases hv5 with ⟨y, hy, h2⟩ | ⟨hy, h2⟩
            · rw [hlk.out] at hy; injection hy with hy; rw [hy]; exact h2
            · rw [hlk.out] at hy; cases hy
          dsimp only
          have hT5 := Lib.hid (hTa.out.both hb3.out hm3.out (fun i hi => .inl hi) hm34.out hb5 hm5 hg5 hn3 (fun y hy => hgood.out y (takeL_sub hy)))
          have hb5c := Lib.hid (hb4.out.mod hm5 (fun hh => by have := hnb.out _ hh; omega))
          have hz5 := Lib.hid (Blk.new w5 46 #[.int .i64 0, .int .i64 0, .int .i64 0, .int .i64 0, .int .i64 0, .int .i64 0, .int .i64 0, .int .i64 0, .int .i64 0, .int .i64 0, .int .i64 0, .string ⟨#[]⟩, .string ⟨#[]⟩, .int .i64 0, .slice none 0 0, .int .i64 0, .int .i64 0, .string ⟨#[]⟩, .bool false, .slice none 0 0])
          clear kB hv5 hb5 hn5 hm5 hg5 hb3 hm3 hm34 hs4 x4 hb4
          go_upto_region 16 with (refine wpList_store_blk rfl 46 (.tmp 11) (.tmp 69) rfl w5.heap.size 0 _ rfl rfl hz5.out (by simp) msg_sizeG (by rfl) #[.int .i64 x.m.frm, .int .i64 x.m.to, .int .i64 x.m.kind, .int .i64 x.m.r.i.r, .int .i64 x.m.r.i.n, .int .i64 x.m.r.bal, .int .i64 x.m.r.st, .int .i64 x.m.r.by_, .int .i64 x.m.r.e.o.c, .int .i64 x.m.r.e.o.s, .int .i64 x.m.r.e.o.k, .string (txt x.m.r.e.o.acct), .string (txt x.m.r.e.o.peer), .int .i64 x.m.r.e.o.sum, .slice x.L.a x.L.n x.L.c, .int .i64 x.m.r.e.o.per, .int .i64 x.m.r.e.o.hold, .string (txt x.m.r.e.o.note), .bool x.m.r.e.none, .slice x.D.a x.D.n x.D.c] rfl ?_; intro w6 hb6 hm6; replace hb6 := Lib.hid hb6; replace hm6 := Lib.hid hm6)
          have hm56 := ((Mod.refl none_ w5).alloc (.cells #[.int .i64 0, .int .i64 0, .int .i64 0, .int .i64 0, .int .i64 0, .int .i64 0, .int .i64 0, .int .i64 0, .int .i64 0, .int .i64 0, .int .i64 0, .string ⟨#[]⟩, .string ⟨#[]⟩, .int .i64 0, .slice none 0 0, .int .i64 0, .int .i64 0, .string ⟨#[]⟩, .bool false, .slice none 0 0] 46)).in_new (Nat.le_refl _) hm6.out
          have hT6 := Lib.hid (hT5.out.mod0 hm56)
          have hb9 := Lib.hid (hb5c.out.mod0z hm56)
          have kS := Lib.hid (same17_eq w6 x.m x.L x.D x.L x.D (hxg.out.1.mod0 hT6.out.mod) (hxg.out.1.mod0 hT6.out.mod) hxg.out.2.1.1 hxg.out.2.1.2.1)
          clear hm56 hm6 hb5c hT5 hz5
          go_wp2_with (first
            | (show wpList _ _ _ (⟨some 75, _, _, _, _, _⟩ :: _) _ _; go_loud (refine wp_load_msg (by rfl) (.tmp 9) rfl w3.heap.size rfl hb9.out rfl ?_))
            | (show wpList _ _ _ (⟨some 76, _, _, _, _, _⟩ :: _) _ _; go_loud (refine wp_load_msg (by rfl) (.tmp 11) rfl w5.heap.size rfl hb6.out rfl ?_)))
          with_reducible refine kS.out.mono ?_
          rintro e w7 ⟨rfl, hm7⟩
          dsimp only
          have hT := Lib.hid (hT6.out.mod0 hm7)
          clear hm7 kS hT6 hb9 hb6
          generalize takeL xs sk = xs6 at *
          have v0 : w7.cell? ⟨q, 0, none⟩ = some (.slice B5 n3 d5) := hT.out.b.blk.cell_ rfl
          have kq := Lib.hid (fun m => (bagLen_ok (w7.drewN m) p A n3 c xs6 (hT.out.a.mod0 ((Mod.refl none_ _).drewN m))).mono (fun e w' (h : _ ∧ _) => (⟨h.1, h.2.symm⟩ : _ ∧ _)))
          have hnz : ((n3 : Int) != (n3 : Int)) = false := by simp
          go_upto_region 23 with fail
          go_quiet ((go_at_call 15; exact Calls.quiet_of_same (kq.out _)))
          go_wp2_with fail
          go_roundg (gk - 1)
          case measure => omega
          case rel => exact ⟨j + 1, A, n3, c, B5, d5, xs6, by go_num, by omega, hT.out.mod0 ((Mod.refl none_ _).drewN _)⟩
        | none =>
          obtain rfl : v = .tuple #[.agg #[.int .i64 0, .int .i64 0, .int .i64 0, .int .i64 0, .int .i64 0, .int .i64 0, .int .i64 0, .int .i64 0, .int .i64 0, .int .i64 0, .int .i64 0, .string ⟨#[]⟩, .string ⟨#[]⟩, .int .i64 0, .slice none 0 0, .int .i64 0, .int .i64 0, .string ⟨#[]⟩, .bool false, .slice none 0 0], .bool false] := by
            rcases hv3 with ⟨y, hy, h2⟩ | ⟨_, h2⟩
            · rw [hlk] at hy; cases hy
            · exact h2
          dsimp only
          clear hv3
          replace hb3 := Lib.hid hb3
          replace hm3 := Lib.hid hm3
          replace hs3 := Lib.hid hs3
          replace hB3 := Lib.hid hB3
          replace hlk := Lib.hid hlk
          go_upto_region 15 with (refine wpList_store_blk rfl 46 (.tmp 9) (.tmp 62) rfl w3.heap.size 0 _ rfl rfl hz3.out (by simp) msg_sizeG (by rfl) #[.int .i64 0, .int .i64 0, .int .i64 0, .int .i64 0, .int .i64 0, .int .i64 0, .int .i64 0, .int .i64 0, .int .i64 0, .int .i64 0, .int .i64 0, .string ⟨#[]⟩, .string ⟨#[]⟩, .int .i64 0, .slice none 0 0, .int .i64 0, .int .i64 0, .string ⟨#[]⟩, .bool false, .slice none 0 0] rfl ?_; intro w4 hb4 hm4; replace hb4 := Lib.hid hb4; replace hm4 := Lib.hid hm4)
          have hm34 := ((Mod.refl none_ w3).alloc (.cells #[.int .i64 0, .int .i64 0, .int .i64 0, .int .i64 0, .int .i64 0, .int .i64 0, .int .i64 0, .int .i64 0, .int .i64 0, .int .i64 0, .int .i64 0, .string ⟨#[]⟩, .string ⟨#[]⟩, .int .i64 0, .slice none 0 0, .int .i64 0, .int .i64 0, .string ⟨#[]⟩, .bool false, .slice none 0 0] 46)).in_new (Nat.le_refl _) hm4.out
          have hs4 := hs3.out.mod hm34 (fun h => h)
          have x4 : w4.cell? ⟨wr.heap.size, 1, none⟩ = some (.int .i64 sk) := hs4.cell_ rfl
          have kB := Lib.hid (rtake_ok w4 q B n d xs (hB3.out.mod0 hm34) hTa.out.le sk)
          replace hm34 := Lib.hid hm34
          replace hs4 := Lib.hid hs4
          clear hm4 hs3 hz3
          go_wp2_with fail
          refine kB.out.mono ?_
          rintro e w5 ⟨v5, hv5, B5, n5, d5, rfl, hb5, hn5, hm5, hg5⟩
          obtain rfl : v5 = .tuple #[.agg #[.int .i64 0, .int .i64 0, .int .i64 0, .int .i64 0, .int .i64 0, .int .i64 0, .int .i64 0, .int .i64 0, .int .i64 0, .int .i64 0, .int .i64 0, .string ⟨#[]⟩, .string ⟨#[]⟩, .int .i64 0, .slice none 0 0, .int .i64 0, .int .i64 0, .string ⟨#[]⟩, .bool false, .slice none 0 0], .bool false] := by
            rcases hv5 with ⟨y, hy, h2⟩ | ⟨hy, h2⟩
            · rw [hlk.out] at hy; cases hy
            · rw [hlk.out] at hy; exact h2
          dsimp only
          have hT5 := Lib.hid (hTa.out.both hb3.out hm3.out (fun i hi => .inl hi) hm34.out hb5 hm5 hg5 hn3 (fun y hy => hgood.out y (takeL_sub hy)))
          have hb5c := Lib.hid (hb4.out.mod hm5 (fun hh => by have := hnb.out _ hh; omega))
          have hz5 := Lib.hid (Blk.new w5 46 #[.int .i64 0, .int .i64 0, .int .i64 0, .int .i64 0, .int .i64 0, .int .i64 0, .int .i64 0, .int .i64 0, .int .i64 0, .int .i64 0, .int .i64 0, .string ⟨#[]⟩, .string ⟨#[]⟩, .int .i64 0, .slice none 0 0, .int .i64 0, .int .i64 0, .string ⟨#[]⟩, .bool false, .slice none 0 0])
          clear kB hv5 hb5 hn5 hm5 hg5 hb3 hm3 hm34 hs4 x4 hb4
          go_upto_region 16 with (refine wpList_store_blk rfl 46 (.tmp 11) (.tmp 69) rfl w5.heap.size 0 _ rfl rfl hz5.out (by simp) msg_sizeG (by rfl) #[.int .i64 0, .int .i64 0, .int .i64 0, .int .i64 0, .int .i64 0, .int .i64 0, .int .i64 0, .int .i64 0, .int .i64 0, .int .i64 0, .int .i64 0, .string ⟨#[]⟩, .string ⟨#[]⟩, .int .i64 0, .slice none 0 0, .int .i64 0, .int .i64 0, .string ⟨#[]⟩, .bool false, .slice none 0 0] rfl ?_; intro w6 hb6 hm6; replace hb6 := Lib.hid hb6; replace hm6 := Lib.hid hm6)
          have hm56 := ((Mod.refl none_ w5).alloc (.cells #[.int .i64 0, .int .i64 0, .int .i64 0, .int .i64 0, .int .i64 0, .int .i64 0, .int .i64 0, .int .i64 0, .int .i64 0, .int .i64 0, .int .i64 0, .string ⟨#[]⟩, .string ⟨#[]⟩, .int .i64 0, .slice none 0 0, .int .i64 0, .int .i64 0, .string ⟨#[]⟩, .bool false, .slice none 0 0] 46)).in_new (Nat.le_refl _) hm6.out
          have hT6 := Lib.hid (hT5.out.mod0 hm56)
          have hb9 := Lib.hid (hb5c.out.mod0z hm56)
          have kS := Lib.hid (same17_zero w6)
          clear hm56 hm6 hb5c hT5 hz5
          go_wp2_with (first
            | (show wpList _ _ _ (⟨some 75, _, _, _, _, _⟩ :: _) _ _; go_loud (refine wp_load_msg (by rfl) (.tmp 9) rfl w3.heap.size rfl hb9.out rfl ?_))
            | (show wpList _ _ _ (⟨some 76, _, _, _, _, _⟩ :: _) _ _; go_loud (refine wp_load_msg (by rfl) (.tmp 11) rfl w5.heap.size rfl hb6.out rfl ?_)))
          with_reducible refine kS.out.mono ?_
          rintro e w7 ⟨rfl, hm7⟩
          dsimp only
          have hT := Lib.hid (hT6.out.mod0 hm7)
          clear hm7 kS hT6 hb9 hb6
          generalize takeL xs sk = xs6 at *
          have v0 : w7.cell? ⟨q, 0, none⟩ = some (.slice B5 n3 d5) := hT.out.b.blk.cell_ rfl
          have kq := Lib.hid (fun m => (bagLen_ok (w7.drewN m) p A n3 c xs6 (hT.out.a.mod0 ((Mod.refl none_ _).drewN m))).mono (fun e w' (h : _ ∧ _) => (⟨h.1, h.2.symm⟩ : _ ∧ _)))
          have hnz : ((n3 : Int) != (n3 : Int)) = false := by simp
          go_upto_region 23 with fail
          go_quiet ((go_at_call 15; exact Calls.quiet_of_same (kq.out _)))
          go_wp2_with fail
          go_roundg (gk - 1)
          case measure => omega
          case rel => exact ⟨j + 1, A, n3, c, B5, d5, xs6, by go_num, by omega, hT.out.mod0 ((Mod.refl none_ _).drewN _)⟩
      · -- Twice
        have u1' : wrap64 ((IntKind.u64.wrap kd).tmod 4) = 2 := u1
        have u2' : (IntKind.u64.wrap kd).tmod 4 = 2 := u2
        clear u1 u2 g1m g4m
        have hgood := Lib.hid hTa.out.good
        have hTd := Lib.hid (hTa.out.mod0 (Mod.refl none_ _).drew)
        have hsz1 : Hid ((wr.alloc (.cells #[.int .i64 kd, .int .i64 sk, .slice LA Ln Lc] 31)).heap.size = wr.heap.size + 1) := Lib.hid (by simp)
        have kA := Lib.hid (bagTwice_ok _ p A n c xs hTd.out.a hTd.out.le sk)
        obtain ⟨zb, hzb⟩ : ∃ zb, zb = twiceB xs sk n := ⟨_, rfl⟩
        rw [← hzb] at kA
        have hzz : (zb == zb) = true := by simp
        have hS0 : (wr.alloc (.cells #[.int .i64 kd, .int .i64 sk, .slice LA Ln Lc] 31)).drew.cell? ⟨wr.heap.size, 1, none⟩ = some (.int .i64 sk) := hsb.out.cell_ rfl
        replace hzb := Lib.hid hzb
        go_upto_region 18 with fail
        refine wp_region_held_drew (S := fun W => W.cell? ⟨wr.heap.size, 1, none⟩ = some (.int .i64 sk)) (by kernel_rfl) hS0 (fun hHeld => ?_)
        refine wpAnyH_take (i := 0) (v := ?_) rfl (by kernel_rfl) (by kernel_rfl) (by kernel_rfl) (fun _ _ _ h => h) (Or.inl ⟨by rfl, ?_⟩) (by assumption) ?_
        rotate_left
        · intro W hSw; (try dsimp only at hSw); go_simp; (try with_reducible rfl)
        try simp only [Act.put, List.getElem_toArray, List.getElem_cons_zero, List.getElem_cons_succ, List.setIfInBounds_toArray, List.set_cons_zero, List.set_cons_succ]
        refine wpAnyH_take (i := 1) (v := ?_) rfl (by kernel_rfl) (by kernel_rfl) (by kernel_rfl) (fun _ _ _ h => h) (Or.inl ⟨by rfl, ?_⟩) (by assumption) ?_
        rotate_left
        · intro W hSw; (try dsimp only at hSw); go_simp; (try with_reducible rfl)
        try simp only [Act.put, List.getElem_toArray, List.getElem_cons_zero, List.getElem_cons_succ, List.setIfInBounds_toArray, List.set_cons_zero, List.set_cons_succ]
        refine wpAnyH_take (i := 4) (v := ?_) rfl (by kernel_rfl) (by kernel_rfl) (by kernel_rfl) (fun _ _ _ h => h) (Or.inl ⟨by rfl, ?_⟩) (by assumption) ?_
        rotate_left
        · intro W hSw; (try dsimp only at hSw); go_simp; (try with_reducible rfl)
        try simp only [Act.put, List.getElem_toArray, List.getElem_cons_zero, List.getElem_cons_succ, List.setIfInBounds_toArray, List.set_cons_zero, List.set_cons_succ]
        refine wpAnyH_take (i := 5) (v := ?_) rfl (by kernel_rfl) (by kernel_rfl) (by kernel_rfl) (fun _ _ _ h => h) (Or.inl ⟨by rfl, ?_⟩) (by assumption) ?_
        rotate_left
        · intro W hSw; (try dsimp only at hSw); go_simp; (try with_reducible rfl)
        try simp only [Act.put, List.getElem_toArray, List.getElem_cons_zero, List.getElem_cons_succ, List.setIfInBounds_toArray, List.set_cons_zero, List.set_cons_succ]
        refine wpAnyH_take (i := 2) (v := ?_) rfl (by kernel_rfl) (by kernel_rfl) (by kernel_rfl) (fun _ _ _ h => h) (Or.inl ⟨by rfl, ?_⟩) (by assumption) ?_
        rotate_left
        · intro W hSw; have hSx := hSw; go_simp; (try with_reducible rfl)
        try simp only [Act.put, List.getElem_toArray, List.getElem_cons_zero, List.getElem_cons_succ, List.setIfInBounds_toArray, List.set_cons_zero, List.set_cons_succ]
        refine wpAnyH_take (i := 6) (v := ?_) rfl (by kernel_rfl) (by kernel_rfl) (by kernel_rfl) (fun _ _ _ h => h) (Or.inl ⟨by rfl, ?_⟩) (by assumption) ?_
        rotate_left
        · intro W hSw; have hSx := hSw; go_simp; (try with_reducible rfl)
        try simp only [Act.put, List.getElem_toArray, List.getElem_cons_zero, List.getElem_cons_succ, List.setIfInBounds_toArray, List.set_cons_zero, List.set_cons_succ]
        refine wpAnyH_ready (rs := [3]) (by kernel_rfl) (by simp) ?_
        refine AllReadyH.cons rfl (fun K hK => ?_) AllReadyH.nil
        go_simp
        refine kA.out.mono ?_
        rintro e w3 ⟨A3, n3, c3, rfl, hb3, hn3, hm3, hg3⟩
        dsimp only
        have hs3 : w3.cell? ⟨wr.heap.size, 1, none⟩ = some (.int .i64 sk) := hm3.cell_some hS0 (fun hh => by have := hna.out _ hh; dsimp only at this; omega)
        have hB3 := hTd.out.midB hm3
        have kB := rtwice_ok w3 q B n d xs hB3 hTd.out.le sk
        rw [← hzb.out] at kB
        replace kB := Lib.hid kB
        replace hb3 := Lib.hid hb3
        replace hm3 := Lib.hid hm3
        replace hg3 := Lib.hid hg3
        go_wp2_with fail
        refine hK.out _ _ hs3 (fun hHeld => ?_)
        clear hK K
        try simp only [Act.put, List.getElem_toArray, List.getElem_cons_zero, List.getElem_cons_succ, List.setIfInBounds_toArray, List.set_cons_zero, List.set_cons_succ]
        refine wpAnyH_ready (rs := [7]) (by kernel_rfl) (by simp) ?_
        refine AllReadyH.cons rfl (fun K hK => ?_) AllReadyH.nil
        go_simp
        refine kB.out.mono ?_
        rintro e w5 ⟨B5, n5, d5, rfl, hb5, hn5, hm5, hg5⟩
        dsimp only
        have hs5 : w5.cell? ⟨wr.heap.size, 1, none⟩ = some (.int .i64 sk) := hm5.cell_some hs3 (fun hh => by have := hnb.out _ hh; dsimp only at this; omega)
        have hT := Lib.hid (hTd.out.both hb3.out hm3.out hg3.out (Mod.refl none_ w3) hb5 hm5 hg5 hn3 (fun y hy => hgood.out y (twiceL_sub hy)))
        clear hb5 hn5 hm5 hg5 hb3 hm3 hg3 hB3 kA
        go_wp2_with fail
        refine hK.out _ _ hs5 (fun hHeld => ?_)
        clear hK K
        try simp only [Act.put, List.getElem_toArray, List.getElem_cons_zero, List.getElem_cons_succ, List.setIfInBounds_toArray, List.set_cons_zero, List.set_cons_succ]
        refine wpAnyH_take (i := 8) (v := ?_) rfl (by kernel_rfl) (by kernel_rfl) (by kernel_rfl) (fun _ _ _ h => h) (Or.inl ⟨by rfl, ?_⟩) (by assumption) ?_
        rotate_left
        · intro W hSw; (try dsimp only at hSw); go_simp; (try with_reducible rfl)
        try simp only [Act.put, List.getElem_toArray, List.getElem_cons_zero, List.getElem_cons_succ, List.setIfInBounds_toArray, List.set_cons_zero, List.set_cons_succ]
        refine wpAnyH_take (i := 9) (v := ?_) rfl (by kernel_rfl) (by kernel_rfl) (by kernel_rfl) (fun _ _ _ h => h) (Or.inl ⟨by rfl, ?_⟩) (by assumption) ?_
        rotate_left
        · intro W hSw; (try dsimp only at hSw); go_simp; (try with_reducible rfl)
        try simp only [Act.put, List.getElem_toArray, List.getElem_cons_zero, List.getElem_cons_succ, List.setIfInBounds_toArray, List.set_cons_zero, List.set_cons_succ]
        refine wpAnyH_done (by kernel_rfl) ?_ _
        clear hHeld hS0 hs3 hs5 kB hTd hTa
        generalize twiceL xs sk n = xs6 at *
        have v0 : w5.cell? ⟨q, 0, none⟩ = some (.slice B5 n3 d5) := hT.out.b.blk.cell_ rfl
        have kq := Lib.hid (fun m => (bagLen_ok (w5.drewN m) p A3 n3 c3 xs6 (hT.out.a.mod0 ((Mod.refl none_ _).drewN m))).mono (fun e w' (h : _ ∧ _) => (⟨h.1, h.2.symm⟩ : _ ∧ _)))
        have hnz : ((n3 : Int) != (n3 : Int)) = false := by simp
        go_upto_region 23 with fail
        go_quiet ((go_at_call 15; exact Calls.quiet_of_same (kq.out _)))
        go_wp2_with fail
        go_roundg (gk - 1)
        case measure => omega
        case rel => exact ⟨j + 1, A3, n3, c3, B5, d5, xs6, by go_num, by omega, hT.out.mod0 ((Mod.refl none_ _).drewN _)⟩
      · -- Look
        have u1' : wrap64 ((IntKind.u64.wrap kd).tmod 4) = 3 := u1
        have u2' : (IntKind.u64.wrap kd).tmod 4 = 3 := u2
        clear u1 u2 g1m g4m
        have kA := Lib.hid (bagLook_ok _ p A n c xs hTa.out.a sk)
        go_wp2_with fail
        refine kA.out.mono ?_
        rintro e w3 ⟨v, rfl, hv3, hm3⟩
        have hs3 := hsb.out.mod hm3 (fun h => h)
        have hT3 := hTa.out.mod0 hm3
        have hz3 := Lib.hid (Blk.new w3 46 #[.int .i64 0, .int .i64 0, .int .i64 0, .int .i64 0, .int .i64 0, .int .i64 0, .int .i64 0, .int .i64 0, .int .i64 0, .int .i64 0, .int .i64 0, .string ⟨#[]⟩, .string ⟨#[]⟩, .int .i64 0, .slice none 0 0, .int .i64 0, .int .i64 0, .string ⟨#[]⟩, .bool false, .slice none 0 0])
        have hll := hT3.a.len
        clear kA hTa
        cases hlk : lookR xs sk with
        | some x =>
          obtain rfl : v = .tuple #[.agg #[.int .i64 x.m.frm, .int .i64 x.m.to, .int .i64 x.m.kind, .int .i64 x.m.r.i.r, .int .i64 x.m.r.i.n, .int .i64 x.m.r.bal, .int .i64 x.m.r.st, .int .i64 x.m.r.by_, .int .i64 x.m.r.e.o.c, .int .i64 x.m.r.e.o.s, .int .i64 x.m.r.e.o.k, .string (txt x.m.r.e.o.acct), .string (txt x.m.r.e.o.peer), .int .i64 x.m.r.e.o.sum, .slice x.L.a x.L.n x.L.c, .int .i64 x.m.r.e.o.per, .int .i64 x.m.r.e.o.hold, .string (txt x.m.r.e.o.note), .bool x.m.r.e.none, .slice x.D.a x.D.n x.D.c], .bool true] := by
            rcases hv3 with ⟨y, hy, h2⟩ | ⟨hy, _⟩
            · rw [hlk] at hy; injection hy with hy; rw [hy]; exact h2
            · rw [hlk] at hy; cases hy
          dsimp only
          obtain ⟨l1, l2, l3⟩ := lookR_some hlk
          obtain ⟨k, rfl⟩ : ∃ k : Nat, sk = (k : Int) := ⟨sk.toNat, by omega⟩
          simp only [Int.toNat_natCast] at l2 l3
          have hkn : k < n := by omega
          have hxg := Lib.hid (hT3.good x (lookR_mem hlk))
          clear hv3 l1 l2
          replace hs3 := Lib.hid hs3
          replace hT3 := Lib.hid hT3
          replace hlk := Lib.hid hlk
          replace hm3 := Lib.hid hm3
          replace l3 := Lib.hid l3
          go_upto_region 21 with (refine wpList_store_blk rfl 46 (.tmp 13) (.tmp 97) rfl w3.heap.size 0 _ rfl rfl hz3.out (by simp) msg_sizeG (by rfl) #[.int .i64 x.m.frm, .int .i64 x.m.to, .int .i64 x.m.kind, .int .i64 x.m.r.i.r, .int .i64 x.m.r.i.n, .int .i64 x.m.r.bal, .int .i64 x.m.r.st, .int .i64 x.m.r.by_, .int .i64 x.m.r.e.o.c, .int .i64 x.m.r.e.o.s, .int .i64 x.m.r.e.o.k, .string (txt x.m.r.e.o.acct), .string (txt x.m.r.e.o.peer), .int .i64 x.m.r.e.o.sum, .slice x.L.a x.L.n x.L.c, .int .i64 x.m.r.e.o.per, .int .i64 x.m.r.e.o.hold, .string (txt x.m.r.e.o.note), .bool x.m.r.e.none, .slice x.D.a x.D.n x.D.c] rfl ?_; intro w4 hb4 hm4; replace hb4 := Lib.hid hb4; replace hm4 := Lib.hid hm4)
          have hm34 := ((Mod.refl none_ w3).alloc (.cells #[.int .i64 0, .int .i64 0, .int .i64 0, .int .i64 0, .int .i64 0, .int .i64 0, .int .i64 0, .int .i64 0, .int .i64 0, .int .i64 0, .int .i64 0, .string ⟨#[]⟩, .string ⟨#[]⟩, .int .i64 0, .slice none 0 0, .int .i64 0, .int .i64 0, .string ⟨#[]⟩, .bool false, .slice none 0 0] 46)).in_new (Nat.le_refl _) hm4.out
          have hs4 := hs3.out.mod hm34 (fun h => h)
          have hT4 := hT3.out.mod0 hm34
          have x4 : w4.cell? ⟨wr.heap.size, 1, none⟩ = some (.int .i64 (k : Int)) := hs4.cell_ rfl
          have x5 : w4.cell? ⟨q, 0, none⟩ = some (.slice B n d) := hT4.b.blk.cell_ rfl
          have dk1 : decide ((0 : Int) ≤ (k : Int)) = true := decide_eq_true (by omega)
          have dk2 : decide ((k : Int) < (n : Int)) = true := decide_eq_true (by omega)
          have dk3 : decide (k < n) = true := decide_eq_true hkn
          have dk4 : decide (0 ≤ k) = true := decide_eq_true (by omega)
          obtain ⟨bb, oo, y, hBB, hym, hy, hry⟩ := rdm_get (w := w4) hT4.b.ow.rd hkn
          obtain rfl : y = x := by have := l3.out; rw [hy] at this; injection this
          subst hBB
          unfold msC at hry
          replace hs4 := Lib.hid hs4
          replace hT4 := Lib.hid hT4
          replace hry := Lib.hid hry
          replace hym := Lib.hid hym
          replace hy := Lib.hid hy
          clear hm34 hm4 hs3 hT3 hz3
          go_quiet (fail)
          go_upto_region 22 with fail
          obtain ⟨w5, hw5⟩ : ∃ w5, w5 = w4.drewN nq := ⟨_, rfl⟩
          rw [← hw5]
          have hM45 : Mod none_ w4 w5 := by rw [hw5]; exact (Mod.refl none_ w4).drewN nq
          have y1 := hM45.cell_some x4 (fun h => h)
          have y2 := hM45.cell_some x5 (fun h => h)
          have y3 := hb4.out.mod0z hM45
          have y4 := rangeM_mod hry.out hM45
          clear x4 x5
          replace hw5 := Lib.hid hw5
          have hS0 : Blk w5.drew w3.heap.size 46 #[.int .i64 y.m.frm, .int .i64 y.m.to, .int .i64 y.m.kind, .int .i64 y.m.r.i.r, .int .i64 y.m.r.i.n, .int .i64 y.m.r.bal, .int .i64 y.m.r.st, .int .i64 y.m.r.by_, .int .i64 y.m.r.e.o.c, .int .i64 y.m.r.e.o.s, .int .i64 y.m.r.e.o.k, .string (txt y.m.r.e.o.acct), .string (txt y.m.r.e.o.peer), .int .i64 y.m.r.e.o.sum, .slice y.L.a y.L.n y.L.c, .int .i64 y.m.r.e.o.per, .int .i64 y.m.r.e.o.hold, .string (txt y.m.r.e.o.note), .bool y.m.r.e.none, .slice y.D.a y.D.n y.D.c] ∧ w5.drew.cell? ⟨wr.heap.size, 1, none⟩ = some (.int .i64 (k : Int)) ∧ w5.drew.cell? ⟨q, 0, none⟩ = some (.slice (some ⟨bb, oo, none⟩) n d) ∧ w5.drew.rangeAt bb (oo + k * 20) [.int .i64 y.m.frm, .int .i64 y.m.to, .int .i64 y.m.kind, .int .i64 y.m.r.i.r, .int .i64 y.m.r.i.n, .int .i64 y.m.r.bal, .int .i64 y.m.r.st, .int .i64 y.m.r.by_, .int .i64 y.m.r.e.o.c, .int .i64 y.m.r.e.o.s, .int .i64 y.m.r.e.o.k, .string (txt y.m.r.e.o.acct), .string (txt y.m.r.e.o.peer), .int .i64 y.m.r.e.o.sum, .slice y.L.a y.L.n y.L.c, .int .i64 y.m.r.e.o.per, .int .i64 y.m.r.e.o.hold, .string (txt y.m.r.e.o.note), .bool y.m.r.e.none, .slice y.D.a y.D.n y.D.c] := ⟨y3, y1, y2, y4⟩
          have hMd : Mod none_ w4 w5.drew := hM45.drew
          clear y3 y4
          have kS := Lib.hid (same17_eq w5.drew y.m y.L y.D y.L y.D (hxg.out.1.mod0 (hT4.out.mod.trans hMd)) (hxg.out.1.mod0 (hT4.out.mod.trans hMd)) hxg.out.2.1.1 hxg.out.2.1.2.1)
          have hi1 : (0 : Int) ≤ (k : Int) := by omega
          have hi2 : (k : Int) < (n : Int) := by omega
          refine wp_region_held_drew (S := fun W => Blk W w3.heap.size 46 #[.int .i64 y.m.frm, .int .i64 y.m.to, .int .i64 y.m.kind, .int .i64 y.m.r.i.r, .int .i64 y.m.r.i.n, .int .i64 y.m.r.bal, .int .i64 y.m.r.st, .int .i64 y.m.r.by_, .int .i64 y.m.r.e.o.c, .int .i64 y.m.r.e.o.s, .int .i64 y.m.r.e.o.k, .string (txt y.m.r.e.o.acct), .string (txt y.m.r.e.o.peer), .int .i64 y.m.r.e.o.sum, .slice y.L.a y.L.n y.L.c, .int .i64 y.m.r.e.o.per, .int .i64 y.m.r.e.o.hold, .string (txt y.m.r.e.o.note), .bool y.m.r.e.none, .slice y.D.a y.D.n y.D.c] ∧ W.cell? ⟨wr.heap.size, 1, none⟩ = some (.int .i64 (k : Int)) ∧ W.cell? ⟨q, 0, none⟩ = some (.slice (some ⟨bb, oo, none⟩) n d) ∧ W.rangeAt bb (oo + k * 20) [.int .i64 y.m.frm, .int .i64 y.m.to, .int .i64 y.m.kind, .int .i64 y.m.r.i.r, .int .i64 y.m.r.i.n, .int .i64 y.m.r.bal, .int .i64 y.m.r.st, .int .i64 y.m.r.by_, .int .i64 y.m.r.e.o.c, .int .i64 y.m.r.e.o.s, .int .i64 y.m.r.e.o.k, .string (txt y.m.r.e.o.acct), .string (txt y.m.r.e.o.peer), .int .i64 y.m.r.e.o.sum, .slice y.L.a y.L.n y.L.c, .int .i64 y.m.r.e.o.per, .int .i64 y.m.r.e.o.hold, .string (txt y.m.r.e.o.note), .bool y.m.r.e.none, .slice y.D.a y.D.n y.D.c]) (by kernel_rfl) hS0 (fun hHeld => ?_)
          refine wpAnyH_take (i := 0) (v := ?_) rfl (by kernel_rfl) (by kernel_rfl) (by kernel_rfl) (fun _ _ _ h => h) (Or.inl ⟨by rfl, ?_⟩) (by assumption) ?_
          rotate_left
          · intro W hSw; (try dsimp only at hSw); go_simp; (try with_reducible rfl)
          try simp only [Act.put, List.getElem_toArray, List.getElem_cons_zero, List.getElem_cons_succ, List.setIfInBounds_toArray, List.set_cons_zero, List.set_cons_succ]
          refine wpAnyH_take (i := 1) (v := ?_) rfl (by kernel_rfl) (by kernel_rfl) (by kernel_rfl) (fun _ _ _ h => h) (Or.inl ⟨by rfl, ?_⟩) (by assumption) ?_
          rotate_left
          · intro W hSw; (try dsimp only at hSw); go_simp; (try with_reducible rfl)
          try simp only [Act.put, List.getElem_toArray, List.getElem_cons_zero, List.getElem_cons_succ, List.setIfInBounds_toArray, List.set_cons_zero, List.set_cons_succ]
          refine wpAnyH_take (i := 2) (v := ?_) rfl (by kernel_rfl) (by kernel_rfl) (by kernel_rfl) (fun _ _ _ h => h) (Or.inl ⟨by rfl, ?_⟩) (by assumption) ?_
          rotate_left
          · intro W hSw; (try dsimp only at hSw); go_simp; (try with_reducible rfl)
          try simp only [Act.put, List.getElem_toArray, List.getElem_cons_zero, List.getElem_cons_succ, List.setIfInBounds_toArray, List.set_cons_zero, List.set_cons_succ]
          refine wpAnyH_take (i := 3) (v := ?_) rfl (by kernel_rfl) (by kernel_rfl) (by kernel_rfl) (fun _ _ _ h => h) (Or.inl ⟨by rfl, ?_⟩) (by assumption) ?_
          rotate_left
          · intro W hSw; (try dsimp only at hSw); go_simp; (try with_reducible rfl)
          try simp only [Act.put, List.getElem_toArray, List.getElem_cons_zero, List.getElem_cons_succ, List.setIfInBounds_toArray, List.set_cons_zero, List.set_cons_succ]
          refine wpAnyH_take (i := 4) (v := ?_) rfl (by kernel_rfl) (by kernel_rfl) (by kernel_rfl) (fun _ _ _ h => h) (Or.inl ⟨by rfl, ?_⟩) (by assumption) ?_
          rotate_left
          · intro W hSw; (try dsimp only at hSw); go_simp; (try with_reducible rfl)
          try simp only [Act.put, List.getElem_toArray, List.getElem_cons_zero, List.getElem_cons_succ, List.setIfInBounds_toArray, List.set_cons_zero, List.set_cons_succ]
          refine wpAnyH_take (i := 5) (v := ?_) rfl (by kernel_rfl) (by kernel_rfl) (by kernel_rfl) (fun _ _ _ h => h) (Or.inl ⟨by rfl, ?_⟩) (by assumption) ?_
          rotate_left
          · intro W hSw; (try dsimp only at hSw); go_simp; (try with_reducible rfl)
          try simp only [Act.put, List.getElem_toArray, List.getElem_cons_zero, List.getElem_cons_succ, List.setIfInBounds_toArray, List.set_cons_zero, List.set_cons_succ]
          refine wpAnyH_take (i := 6) (v := ?_) rfl (by kernel_rfl) (by kernel_rfl) (by kernel_rfl) (fun _ _ _ h => h) (Or.inl ⟨by rfl, ?_⟩) (by assumption) ?_
          rotate_left
          · intro W hSw; (try dsimp only at hSw); go_simp; (try with_reducible rfl)
          try simp only [Act.put, List.getElem_toArray, List.getElem_cons_zero, List.getElem_cons_succ, List.setIfInBounds_toArray, List.set_cons_zero, List.set_cons_succ]
          refine wpAnyH_take (i := 7) rfl (by kernel_rfl) (by kernel_rfl) (by kernel_rfl) (fun _ _ _ h => h) (yieldsIf_load_mid (by rfl) 46 (.tmp 13) rfl w3.heap.size 0 rfl [.int .i64 y.m.frm, .int .i64 y.m.to, .int .i64 y.m.kind, .int .i64 y.m.r.i.r, .int .i64 y.m.r.i.n, .int .i64 y.m.r.bal, .int .i64 y.m.r.st, .int .i64 y.m.r.by_, .int .i64 y.m.r.e.o.c, .int .i64 y.m.r.e.o.s, .int .i64 y.m.r.e.o.k, .string (txt y.m.r.e.o.acct), .string (txt y.m.r.e.o.peer), .int .i64 y.m.r.e.o.sum, .slice y.L.a y.L.n y.L.c, .int .i64 y.m.r.e.o.per, .int .i64 y.m.r.e.o.hold, .string (txt y.m.r.e.o.note), .bool y.m.r.e.none, .slice y.D.a y.D.n y.D.c] _ (fun W hW => Blk.range hW.1 0 _ rfl) Tryz.underlying46 rfl msg_sizeG) (by assumption) ?_
          try simp only [Act.put, List.getElem_toArray, List.getElem_cons_zero, List.getElem_cons_succ, List.setIfInBounds_toArray, List.set_cons_zero, List.set_cons_succ]
          refine wpAnyH_take (i := 8) (v := ?_) rfl (by kernel_rfl) (by kernel_rfl) (by kernel_rfl) (fun _ _ _ h => h) (Or.inl ⟨by rfl, ?_⟩) (by assumption) ?_
          rotate_left
          · intro W hSw; (try dsimp only at hSw); go_simp; (try with_reducible rfl)
          try simp only [Act.put, List.getElem_toArray, List.getElem_cons_zero, List.getElem_cons_succ, List.setIfInBounds_toArray, List.set_cons_zero, List.set_cons_succ]
          refine wpAnyH_take (i := 9) (v := ?_) rfl (by kernel_rfl) (by kernel_rfl) (by kernel_rfl) (fun _ _ _ h => h) (Or.inl ⟨by rfl, ?_⟩) (by assumption) ?_
          rotate_left
          · intro W hSw; (try dsimp only at hSw); go_simp; (try with_reducible rfl)
          try simp only [Act.put, List.getElem_toArray, List.getElem_cons_zero, List.getElem_cons_succ, List.setIfInBounds_toArray, List.set_cons_zero, List.set_cons_succ]
          refine wpAnyH_take (i := 10) (v := ?_) rfl (by kernel_rfl) (by kernel_rfl) (by kernel_rfl) (fun _ _ _ h => h) (Or.inl ⟨by rfl, ?_⟩) (by assumption) ?_
          rotate_left
          · intro W hSw; (try dsimp only at hSw); go_simp; (try with_reducible rfl)
          try simp only [Act.put, List.getElem_toArray, List.getElem_cons_zero, List.getElem_cons_succ, List.setIfInBounds_toArray, List.set_cons_zero, List.set_cons_succ]
          refine wpAnyH_take (i := 11) (v := ?_) rfl (by kernel_rfl) (by kernel_rfl) (by kernel_rfl) (fun _ _ _ h => h) (Or.inl ⟨by rfl, ?_⟩) (by assumption) ?_
          rotate_left
          · intro W hSw; have hSx := hSw.2.2.1; go_simp; (try with_reducible rfl)
          try simp only [Act.put, List.getElem_toArray, List.getElem_cons_zero, List.getElem_cons_succ, List.setIfInBounds_toArray, List.set_cons_zero, List.set_cons_succ]
          refine wpAnyH_take (i := 12) (v := ?_) rfl (by kernel_rfl) (by kernel_rfl) (by kernel_rfl) (fun _ _ _ h => h) (Or.inl ⟨by rfl, ?_⟩) (by assumption) ?_
          rotate_left
          · intro W hSw; (try dsimp only at hSw); go_simp; (try with_reducible rfl)
          try simp only [Act.put, List.getElem_toArray, List.getElem_cons_zero, List.getElem_cons_succ, List.setIfInBounds_toArray, List.set_cons_zero, List.set_cons_succ]
          refine wpAnyH_take (i := 13) (v := ?_) rfl (by kernel_rfl) (by kernel_rfl) (by kernel_rfl) (fun _ _ _ h => h) (Or.inl ⟨by rfl, ?_⟩) (by assumption) ?_
          rotate_left
          · intro W hSw; have hSx := hSw.2.1; go_simp; (try with_reducible rfl)
          try simp only [Act.put, List.getElem_toArray, List.getElem_cons_zero, List.getElem_cons_succ, List.setIfInBounds_toArray, List.set_cons_zero, List.set_cons_succ]
          refine wpAnyH_take (i := 14) (v := ?_) rfl (by kernel_rfl) (by kernel_rfl) (by kernel_rfl) (fun _ _ _ h => h) (Or.inl ⟨by rfl, ?_⟩) (by assumption) ?_
          rotate_left
          · intro W hSw; (try dsimp only at hSw); go_simp; (try with_reducible rfl)
          try simp only [Act.put, List.getElem_toArray, List.getElem_cons_zero, List.getElem_cons_succ, List.setIfInBounds_toArray, List.set_cons_zero, List.set_cons_succ]
          refine wpAnyH_take (i := 15) rfl (by kernel_rfl) (by kernel_rfl) (by kernel_rfl) (fun _ _ _ h => h) (yieldsIf_load_mid (by rfl) 46 (.tmp 126) rfl bb (oo + k * 20) rfl [.int .i64 y.m.frm, .int .i64 y.m.to, .int .i64 y.m.kind, .int .i64 y.m.r.i.r, .int .i64 y.m.r.i.n, .int .i64 y.m.r.bal, .int .i64 y.m.r.st, .int .i64 y.m.r.by_, .int .i64 y.m.r.e.o.c, .int .i64 y.m.r.e.o.s, .int .i64 y.m.r.e.o.k, .string (txt y.m.r.e.o.acct), .string (txt y.m.r.e.o.peer), .int .i64 y.m.r.e.o.sum, .slice y.L.a y.L.n y.L.c, .int .i64 y.m.r.e.o.per, .int .i64 y.m.r.e.o.hold, .string (txt y.m.r.e.o.note), .bool y.m.r.e.none, .slice y.D.a y.D.n y.D.c] _ (fun W hW => hW.2.2.2) Tryz.underlying46 rfl msg_sizeG) (by assumption) ?_
          try simp only [Act.put, List.getElem_toArray, List.getElem_cons_zero, List.getElem_cons_succ, List.setIfInBounds_toArray, List.set_cons_zero, List.set_cons_succ]
          refine wpAnyH_ready (rs := [16]) (by kernel_rfl) (by simp) ?_
          refine AllReadyH.cons rfl (fun K hK => ?_) AllReadyH.nil
          go_simp
          (with_reducible refine kS.out.mono ?_); rintro e w6 ⟨rfl, hm6⟩; dsimp only
          have hS6 : Blk w6 w3.heap.size 46 #[.int .i64 y.m.frm, .int .i64 y.m.to, .int .i64 y.m.kind, .int .i64 y.m.r.i.r, .int .i64 y.m.r.i.n, .int .i64 y.m.r.bal, .int .i64 y.m.r.st, .int .i64 y.m.r.by_, .int .i64 y.m.r.e.o.c, .int .i64 y.m.r.e.o.s, .int .i64 y.m.r.e.o.k, .string (txt y.m.r.e.o.acct), .string (txt y.m.r.e.o.peer), .int .i64 y.m.r.e.o.sum, .slice y.L.a y.L.n y.L.c, .int .i64 y.m.r.e.o.per, .int .i64 y.m.r.e.o.hold, .string (txt y.m.r.e.o.note), .bool y.m.r.e.none, .slice y.D.a y.D.n y.D.c] ∧ w6.cell? ⟨wr.heap.size, 1, none⟩ = some (.int .i64 (k : Int)) ∧ w6.cell? ⟨q, 0, none⟩ = some (.slice (some ⟨bb, oo, none⟩) n d) ∧ w6.rangeAt bb (oo + k * 20) [.int .i64 y.m.frm, .int .i64 y.m.to, .int .i64 y.m.kind, .int .i64 y.m.r.i.r, .int .i64 y.m.r.i.n, .int .i64 y.m.r.bal, .int .i64 y.m.r.st, .int .i64 y.m.r.by_, .int .i64 y.m.r.e.o.c, .int .i64 y.m.r.e.o.s, .int .i64 y.m.r.e.o.k, .string (txt y.m.r.e.o.acct), .string (txt y.m.r.e.o.peer), .int .i64 y.m.r.e.o.sum, .slice y.L.a y.L.n y.L.c, .int .i64 y.m.r.e.o.per, .int .i64 y.m.r.e.o.hold, .string (txt y.m.r.e.o.note), .bool y.m.r.e.none, .slice y.D.a y.D.n y.D.c] := ⟨hS0.1.mod0z hm6, hm6.cell_some hS0.2.1 (fun h => h), hm6.cell_some hS0.2.2.1 (fun h => h), rangeM_mod hS0.2.2.2 hm6⟩
          have hT := Lib.hid (hT4.out.mod0 (hMd.trans hm6))
          clear hm6
          go_wp2_with fail
          refine hK.out _ _ (hS6) (fun hHeld => ?_)
          clear hK K
          try simp only [Act.put, List.getElem_toArray, List.getElem_cons_zero, List.getElem_cons_succ, List.setIfInBounds_toArray, List.set_cons_zero, List.set_cons_succ]
          refine wpAnyH_take (i := 17) (v := ?_) rfl (by kernel_rfl) (by kernel_rfl) (by kernel_rfl) (fun _ _ _ h => h) (Or.inl ⟨by rfl, ?_⟩) (by assumption) ?_
          rotate_left
          · intro W hSw; (try dsimp only at hSw); go_simp; (try with_reducible rfl)
          try simp only [Act.put, List.getElem_toArray, List.getElem_cons_zero, List.getElem_cons_succ, List.setIfInBounds_toArray, List.set_cons_zero, List.set_cons_succ]
          refine wpAnyH_take (i := 18) (v := ?_) rfl (by kernel_rfl) (by kernel_rfl) (by kernel_rfl) (fun _ _ _ h => h) (Or.inl ⟨by rfl, ?_⟩) (by assumption) ?_
          rotate_left
          · intro W hSw; (try dsimp only at hSw); go_simp; (try with_reducible rfl)
          try simp only [Act.put, List.getElem_toArray, List.getElem_cons_zero, List.getElem_cons_succ, List.setIfInBounds_toArray, List.set_cons_zero, List.set_cons_succ]
          refine wpAnyH_take (i := 19) (v := ?_) rfl (by kernel_rfl) (by kernel_rfl) (by kernel_rfl) (fun _ _ _ h => h) (Or.inl ⟨by rfl, ?_⟩) (by assumption) ?_
          rotate_left
          · intro W hSw; (try dsimp only at hSw); go_simp; (try with_reducible rfl)
          try simp only [Act.put, List.getElem_toArray, List.getElem_cons_zero, List.getElem_cons_succ, List.setIfInBounds_toArray, List.set_cons_zero, List.set_cons_succ]
          refine wpAnyH_done (by kernel_rfl) ?_ _
          clear hHeld hS0 hS6 hMd hT4 hM45 y1 y2 kS
          have v0 : w6.cell? ⟨q, 0, none⟩ = some (.slice (some ⟨bb, oo, none⟩) n d) := hT.out.b.blk.cell_ rfl
          have kq := Lib.hid (fun m => (bagLen_ok (w6.drewN m) p A n c xs (hT.out.a.mod0 ((Mod.refl none_ _).drewN m))).mono (fun e w' (h : _ ∧ _) => (⟨h.1, h.2.symm⟩ : _ ∧ _)))
          have hnz : ((n : Int) != (n : Int)) = false := by simp
          go_upto_region 23 with fail
          go_quiet ((go_at_call 15; exact Calls.quiet_of_same (kq.out _)))
          go_wp2_with fail
          go_roundg (gk - 1)
          case measure => omega
          case rel => exact ⟨j + 1, A, n, c, (some ⟨bb, oo, none⟩), d, xs, by go_num, by omega, hT.out.mod0 ((Mod.refl none_ _).drewN _)⟩
        | none =>
          obtain rfl : v = .tuple #[.agg #[.int .i64 0, .int .i64 0, .int .i64 0, .int .i64 0, .int .i64 0, .int .i64 0, .int .i64 0, .int .i64 0, .int .i64 0, .int .i64 0, .int .i64 0, .string ⟨#[]⟩, .string ⟨#[]⟩, .int .i64 0, .slice none 0 0, .int .i64 0, .int .i64 0, .string ⟨#[]⟩, .bool false, .slice none 0 0], .bool false] := by
            rcases hv3 with ⟨y, hy, h2⟩ | ⟨_, h2⟩
            · rw [hlk] at hy; cases hy
            · exact h2
          dsimp only
          have hout : sk < 0 ∨ (0 ≤ sk ∧ (n : Int) ≤ sk) := by
            unfold lookR at hlk
            by_cases h0 : 0 ≤ sk
            · rw [if_pos h0, List.getElem?_eq_none_iff] at hlk
              exact .inr ⟨h0, by omega⟩
            · exact .inl (by omega)
          clear hv3
          replace hs3 := Lib.hid hs3
          replace hT3 := Lib.hid hT3
          replace hlk := Lib.hid hlk
          replace hm3 := Lib.hid hm3
          go_upto_region 21 with (refine wpList_store_blk rfl 46 (.tmp 13) (.tmp 97) rfl w3.heap.size 0 _ rfl rfl hz3.out (by simp) msg_sizeG (by rfl) #[.int .i64 0, .int .i64 0, .int .i64 0, .int .i64 0, .int .i64 0, .int .i64 0, .int .i64 0, .int .i64 0, .int .i64 0, .int .i64 0, .int .i64 0, .string ⟨#[]⟩, .string ⟨#[]⟩, .int .i64 0, .slice none 0 0, .int .i64 0, .int .i64 0, .string ⟨#[]⟩, .bool false, .slice none 0 0] rfl ?_; intro w4 hb4 hm4; replace hb4 := Lib.hid hb4; replace hm4 := Lib.hid hm4)
          have hm34 := ((Mod.refl none_ w3).alloc (.cells #[.int .i64 0, .int .i64 0, .int .i64 0, .int .i64 0, .int .i64 0, .int .i64 0, .int .i64 0, .int .i64 0, .int .i64 0, .int .i64 0, .int .i64 0, .string ⟨#[]⟩, .string ⟨#[]⟩, .int .i64 0, .slice none 0 0, .int .i64 0, .int .i64 0, .string ⟨#[]⟩, .bool false, .slice none 0 0] 46)).in_new (Nat.le_refl _) hm4.out
          have hs4 := hs3.out.mod hm34 (fun h => h)
          have hT4 := hT3.out.mod0 hm34
          have x4 : w4.cell? ⟨wr.heap.size, 1, none⟩ = some (.int .i64 sk) := hs4.cell_ rfl
          have x5 : w4.cell? ⟨q, 0, none⟩ = some (.slice B n d) := hT4.b.blk.cell_ rfl
          replace hs4 := Lib.hid hs4
          replace hT4 := Lib.hid hT4
          clear hm34 hm4 hs3 hT3 hz3 hb4
          rcases hout with ho | ⟨ho, ho2⟩
          · have dk1 : decide ((0 : Int) ≤ sk) = false := decide_eq_false (by omega)
            go_quiet (fail)
            go_upto_region 22 with fail
            obtain ⟨w5, hw5⟩ : ∃ w5, w5 = w4.drewN nq := ⟨_, rfl⟩
            rw [← hw5]
            have hT5 := Lib.hid (show TwoS w1 w5 p q A n c B d xs by rw [hw5]; exact hT4.out.mod0 ((Mod.refl none_ w4).drewN nq))
            clear x4 x5
            replace hw5 := Lib.hid hw5
            go_quiet (fail)
            obtain ⟨w6, hw6⟩ : ∃ w6, w6 = w5.drewN nq := ⟨_, rfl⟩
            rw [← hw6]
            have hT := Lib.hid (show TwoS w1 w6 p q A n c B d xs by rw [hw6]; exact hT5.out.mod0 ((Mod.refl none_ w5).drewN nq))
            replace hw6 := Lib.hid hw6
            have v0 : w6.cell? ⟨q, 0, none⟩ = some (.slice B n d) := hT.out.b.blk.cell_ rfl
            have kq := Lib.hid (fun m => (bagLen_ok (w6.drewN m) p A n c xs (hT.out.a.mod0 ((Mod.refl none_ _).drewN m))).mono (fun e w' (h : _ ∧ _) => (⟨h.1, h.2.symm⟩ : _ ∧ _)))
            have hnz : ((n : Int) != (n : Int)) = false := by simp
            go_upto_region 23 with fail
            go_quiet ((go_at_call 15; exact Calls.quiet_of_same (kq.out _)))
            go_wp2_with fail
            go_roundg (gk - 1)
            case measure => omega
            case rel => exact ⟨j + 1, A, n, c, B, d, xs, by go_num, by omega, hT.out.mod0 ((Mod.refl none_ _).drewN _)⟩
          · have dk1 : decide ((0 : Int) ≤ sk) = true := decide_eq_true (by omega)
            have dk2 : decide (sk < (n : Int)) = false := decide_eq_false (by omega)
            go_quiet (fail)
            go_upto_region 22 with fail
            obtain ⟨w5, hw5⟩ : ∃ w5, w5 = w4.drewN nq := ⟨_, rfl⟩
            rw [← hw5]
            have hT5 := Lib.hid (show TwoS w1 w5 p q A n c B d xs by rw [hw5]; exact hT4.out.mod0 ((Mod.refl none_ w4).drewN nq))
            clear x4 x5
            replace hw5 := Lib.hid hw5
            go_quiet (fail)
            obtain ⟨w6, hw6⟩ : ∃ w6, w6 = w5.drewN nq := ⟨_, rfl⟩
            rw [← hw6]
            have hT := Lib.hid (show TwoS w1 w6 p q A n c B d xs by rw [hw6]; exact hT5.out.mod0 ((Mod.refl none_ w5).drewN nq))
            replace hw6 := Lib.hid hw6
            have v0 : w6.cell? ⟨q, 0, none⟩ = some (.slice B n d) := hT.out.b.blk.cell_ rfl
            have kq := Lib.hid (fun m => (bagLen_ok (w6.drewN m) p A n c xs (hT.out.a.mod0 ((Mod.refl none_ _).drewN m))).mono (fun e w' (h : _ ∧ _) => (⟨h.1, h.2.symm⟩ : _ ∧ _)))
            have hnz : ((n : Int) != (n : Int)) = false := by simp
            go_upto_region 23 with fail
            go_quiet ((go_at_call 15; exact Calls.quiet_of_same (kq.out _)))
            go_wp2_with fail
            go_roundg (gk - 1)
            case measure => omega
            case rel => exact ⟨j + 1, A, n, c, B, d, xs, by go_num, by omega, hT.out.mod0 ((Mod.refl none_ _).drewN _)⟩
    case neg =>
      by_cases hjN : j < N
      · have hj2 : ¬ j < 100 := fun h => hlt ⟨hjN, h⟩
        have dj1 : decide ((j : Int) < (N : Int)) = true := decide_eq_true (by omega)
        clear hlt
        replace hT := Lib.hid hT
        go_wp2_with fail
        go_loopg [16] 7 (fun gk y wr2 => ∃ t : Nat, y = .int .i64 (t : Int) ∧ t + gk = 7 ∧ TwoS w1 wr2 p q A n c B d xs)
        case atStart => exact ⟨0, rfl, by omega, hT.out⟩
        case round =>
          obtain ⟨t, rfl, ht, hT2⟩ := hrel
          by_cases ht7 : t < 7
          case pos =>
            have hTw := Lib.hid hT2
            have dt7 : decide ((t : Int) < 7) = true := decide_eq_true (by omega)
            have hll := hT2.b.len
            obtain ⟨wv, hwv⟩ : ∃ wv, wv = wr := ⟨_, rfl⟩
            rw [← hwv] at hTw
            replace hwv := Lib.hid hwv
            clear hT2 hT
            go_wp2_with fail
            go_loopg [17, 18] n (fun gk v y wr3 => ∃ (i m ce : Nat) (C : Option Addr), y = .int .i64 (i : Int) ∧ i + gk = n ∧ v = .slice C m ce ∧ m ≤ i ∧ OwN wr3 C m ce (places (t : Int) 0 (xs.take i)) ∧ Fresh wv C ∧ Mod none_ wv wr3)
            case atStart => exact ⟨0, 0, 0, none, rfl, by omega, rfl, by omega, Ow.nil _ _ _, (fun a ha => by cases ha), by rw [hwv.out]; exact Mod.refl _ _⟩
            case round =>
              obtain ⟨i, m, ce, C, rfl, hi, rfl, hmi, ho, hf, hm⟩ := hrel
              have x5 : wr.cell? ⟨q, 0, none⟩ = some (.slice B n d) := hm.cell_some (hTw.out.b.blk.cell_ rfl) (fun h => h)
              by_cases hin : i < n
              case pos =>
                obtain ⟨bb, oo, x, hBB, hxm, hx, hrg⟩ := rdm_get (w := wr) (Rd.mod0 hTw.out.b.ow.rd hm) hin
                rw [hBB] at x5
                have x6 : wr.cell? ⟨bb, oo + i * 20 + 1, none⟩ = some (.int .i64 x.m.to) := hrg 1 _ rfl
                have hpl := places_snoc (t : Int) x (xs.take i) 0
                have htk : xs.take (i + 1) = xs.take i ++ [x] := by rw [List.take_add_one, hx] <;> rfl
                have hlj : (xs.take i).length = i := by rw [List.length_take, hll]; omega
                rw [← htk, hlj, Nat.zero_add] at hpl
                have hi1 : (0 : Int) ≤ (i : Int) := by omega
                have hi2 : (i : Int) < (n : Int) := by omega
                have hn4 := hTw.out.le
                have hi400 : i < 400 := by omega
                clear htk hlj hrg
                replace ho := Lib.hid ho
                replace hf := Lib.hid hf
                replace hm := Lib.hid hm
                replace hxm := Lib.hid hxm
                replace hx := Lib.hid hx
                replace hBB := Lib.hid hBB
                replace hll := Lib.hid hll
                replace hn4 := Lib.hid hn4
                by_cases hto : x.m.to = (t : Int)
                · rw [if_pos hto] at hpl
                  rw [hto] at x6
                  have hm8 : m ≤ 400 := by have := hn4.out; omega
                  have hoA := Lib.hid (ho.out.mod0 ((Mod.refl none_ wr).alloc (.cells #[.int .i64 (i : Int)] 3)))
                  have hmA := Lib.hid (hm.out.alloc (.cells #[.int .i64 (i : Int)] 3))
                  replace hpl := Lib.hid hpl
                  replace hto := Lib.hid hto
                  go_wp2_with (at_builtin; go_loud (refine appN rfl (.tmp 166) (.tmp 168) rfl rfl hoA.out rfl (rdi_one wr 3 (i : Int)) (by omega) ?_; intro A3 c3 w3 ho3 hm3 hA3; replace ho3 := Lib.hid ho3; replace hm3 := Lib.hid hm3; replace hA3 := Lib.hid hA3))
                  go_roundg (gk - 1)
                  case measure => omega
                  case rel => exact ⟨i + 1, m + 1, c3, A3, by go_num, by omega, rfl, by omega, by rw [hpl.out]; exact ho3.out, Fresh.app hf.out hmA.out.size hA3.out, hmA.out.app hf.out hm3.out⟩
                · rw [if_neg hto, List.append_nil] at hpl
                  have hne : (x.m.to == (t : Int)) = false := by simpa using hto
                  replace hpl := Lib.hid hpl
                  replace hto := Lib.hid hto
                  go_wp2_with fail
                  go_roundg (gk - 1)
                  case measure => omega
                  case rel => exact ⟨i + 1, m, ce, C, by go_num, by omega, rfl, by omega, by rw [hpl.out]; exact ho.out, hf.out, hm.out⟩
              case neg =>
                obtain rfl : i = n := by omega
                rw [List.take_of_length_le (by rw [hll]; exact Nat.le_refl _)] at ho
                have hTe := hTw.out.mod0 hm
                have hn4 := hTe.le
                have hm8 : m ≤ 400 := by omega
                obtain ⟨we, hwe⟩ : ∃ we, we = wr := ⟨_, rfl⟩
                rw [← hwe] at ho hTe x5 ⊢
                have kF := Lib.hid (bagFor_ok we p A i c xs hTe.a hTe.le (t : Int))
                replace ho := Lib.hid ho
                replace hf := Lib.hid hf
                replace hm := Lib.hid hm
                replace hTe := Lib.hid hTe
                replace hwe := Lib.hid hwe
                replace hn4 := Lib.hid hn4
                go_wp2_with fail
                refine kF.out.mono ?_
                rintro e w7 ⟨A7, m7, c7, rfl, ho7, hf7, hm7⟩
                dsimp only
                have hmm : m7 = m := by
                  have h1 := ho7.1
                  have h2 := ho.out.1
                  omega
                subst hmm
                have kS := Lib.hid (sameInts_eq w7 A7 C m7 c7 ce (places (t : Int) 0 xs) ho7.rd (Rd.mod0 ho.out.rd hm7) (by omega))
                have hT7 := Lib.hid (hTe.out.mod0 hm7)
                clear ho7 hf7 hm7 kF
                go_wp2_with fail
                refine kS.out.mono ?_
                rintro e w8 ⟨rfl, mm, hmm8⟩
                dsimp only
                have hT8 := Lib.hid (show TwoS w1 w8 p q A i c B d xs by rw [hmm8]; exact hT7.out.mod0 ((Mod.refl none_ w7).drewN mm))
                replace hmm8 := Lib.hid hmm8
                clear kS hT7
                go_wp2_with fail
                go_roundg (6 - t)
                case measure => omega
                case rel => exact ⟨t + 1, by go_num, by omega, hT8.out⟩
          case neg =>
            obtain rfl : t = 7 := by omega
            have x5 : wr.drew.cell? ⟨q, 0, none⟩ = some (.slice B n d) := hT2.b.blk.cell_ rfl
            have hn4 := hT2.le
            have kA := Lib.hid (bagAll_ok wr.drew p A n c xs (hT2.a.mod0 (Mod.refl none_ wr).drew) (by omega))
            have hTd := Lib.hid (hT2.mod0 (Mod.refl none_ wr).drew)
            clear hT2 hT
            go_upto_region 36 with fail
            refine wp_region_held_drew (S := fun W => W.cell? ⟨q, 0, none⟩ = some (.slice B n d)) (by kernel_rfl) x5 (fun hHeld => ?_)
            refine wpAnyH_take (i := 0) (v := ?_) rfl (by kernel_rfl) (by kernel_rfl) (by kernel_rfl) (fun _ _ _ h => h) (Or.inl ⟨by rfl, ?_⟩) (by assumption) ?_
            rotate_left
            · intro W hSw; (try dsimp only at hSw); go_simp; (try with_reducible rfl)
            try simp only [Act.put, List.getElem_toArray, List.getElem_cons_zero, List.getElem_cons_succ, List.setIfInBounds_toArray, List.set_cons_zero, List.set_cons_succ]
            refine wpAnyH_take (i := 2) (v := ?_) rfl (by kernel_rfl) (by kernel_rfl) (by kernel_rfl) (fun _ _ _ h => h) (Or.inl ⟨by rfl, ?_⟩) (by assumption) ?_
            rotate_left
            · intro W hSw; (try dsimp only at hSw); go_simp; (try with_reducible rfl)
            try simp only [Act.put, List.getElem_toArray, List.getElem_cons_zero, List.getElem_cons_succ, List.setIfInBounds_toArray, List.set_cons_zero, List.set_cons_succ]
            refine wpAnyH_take (i := 3) (v := ?_) rfl (by kernel_rfl) (by kernel_rfl) (by kernel_rfl) (fun _ _ _ h => h) (Or.inl ⟨by rfl, ?_⟩) (by assumption) ?_
            rotate_left
            · intro W hSw; (try dsimp only at hSw); go_simp; (try with_reducible rfl)
            try simp only [Act.put, List.getElem_toArray, List.getElem_cons_zero, List.getElem_cons_succ, List.setIfInBounds_toArray, List.set_cons_zero, List.set_cons_succ]
            refine wpAnyH_take (i := 4) (v := ?_) rfl (by kernel_rfl) (by kernel_rfl) (by kernel_rfl) (fun _ _ _ h => h) (Or.inl ⟨by rfl, ?_⟩) (by assumption) ?_
            rotate_left
            · intro W hSw; (try dsimp only at hSw); go_simp; (try with_reducible rfl)
            try simp only [Act.put, List.getElem_toArray, List.getElem_cons_zero, List.getElem_cons_succ, List.setIfInBounds_toArray, List.set_cons_zero, List.set_cons_succ]
            refine wpAnyH_take (i := 5) (v := ?_) rfl (by kernel_rfl) (by kernel_rfl) (by kernel_rfl) (fun _ _ _ h => h) (Or.inl ⟨by rfl, ?_⟩) (by assumption) ?_
            rotate_left
            · intro W hSw; have hSx := hSw; go_simp; (try with_reducible rfl)
            try simp only [Act.put, List.getElem_toArray, List.getElem_cons_zero, List.getElem_cons_succ, List.setIfInBounds_toArray, List.set_cons_zero, List.set_cons_succ]
            refine wpAnyH_ready (rs := [1]) (by kernel_rfl) (by simp) ?_
            refine AllReadyH.cons rfl (fun K hK => ?_) AllReadyH.nil
            go_simp
            refine kA.out.mono ?_
            rintro e w7 ⟨A7, c7, rfl, ho7, hf7, hm7⟩
            dsimp only
            have x7 := hm7.cell_some x5 (fun h => h)
            have hT7 := Lib.hid (hTd.out.mod0 hm7)
            have kS := Lib.hid (sameAll17_eq w7 A7 B n c7 d xs ho7.rd hT7.out.b.ow.rd hT7.out.mem (fun x hx => (hT7.out.good x hx).2.1) (by omega))
            clear ho7 hf7 hm7 kA hTd
            go_wp2_with fail
            refine hK.out _ _ x7 (fun hHeld => ?_)
            clear hK K
            try simp only [Act.put, List.getElem_toArray, List.getElem_cons_zero, List.getElem_cons_succ, List.setIfInBounds_toArray, List.set_cons_zero, List.set_cons_succ]
            refine wpAnyH_ready (rs := [6]) (by kernel_rfl) (by simp) ?_
            refine AllReadyH.cons rfl (fun K hK => ?_) AllReadyH.nil
            go_simp
            refine kS.out.mono ?_
            rintro e w8 ⟨rfl, hm8⟩
            dsimp only
            have x8 := hm8.cell_some x7 (fun h => h)
            have hfin := Lib.hid (hm1.out.trans (hT7.out.mod.trans hm8))
            clear hm8 kS hT7
            go_wp2_with fail
            refine hK.out _ _ x8 (fun hHeld => ?_)
            clear hK K
            try simp only [Act.put, List.getElem_toArray, List.getElem_cons_zero, List.getElem_cons_succ, List.setIfInBounds_toArray, List.set_cons_zero, List.set_cons_succ]
            refine wpAnyH_take (i := 7) (v := ?_) rfl (by kernel_rfl) (by kernel_rfl) (by kernel_rfl) (fun _ _ _ h => h) (Or.inl ⟨by rfl, ?_⟩) (by assumption) ?_
            rotate_left
            · intro W hSw; (try dsimp only at hSw); go_simp; (try with_reducible rfl)
            try simp only [Act.put, List.getElem_toArray, List.getElem_cons_zero, List.getElem_cons_succ, List.setIfInBounds_toArray, List.set_cons_zero, List.set_cons_succ]
            refine wpAnyH_done (by kernel_rfl) ?_ _
            clear hHeld x5 x7 x8
            go_wp2_with fail
            go_ret
            exact ⟨rfl, hfin.out⟩

      · have dj1 : ¬ (j : Int) < (N : Int) := by omega
        clear hlt
        replace hT := Lib.hid hT
        go_wp2_with fail
        go_loopg [16] 7 (fun gk y wr2 => ∃ t : Nat, y = .int .i64 (t : Int) ∧ t + gk = 7 ∧ TwoS w1 wr2 p q A n c B d xs)
        case atStart => exact ⟨0, rfl, by omega, hT.out⟩
        case round =>
          obtain ⟨t, rfl, ht, hT2⟩ := hrel
          by_cases ht7 : t < 7
          case pos =>
            have hTw := Lib.hid hT2
            have dt7 : decide ((t : Int) < 7) = true := decide_eq_true (by omega)
            have hll := hT2.b.len
            obtain ⟨wv, hwv⟩ : ∃ wv, wv = wr := ⟨_, rfl⟩
            rw [← hwv] at hTw
            replace hwv := Lib.hid hwv
            clear hT2 hT
            go_wp2_with fail
            go_loopg [17, 18] n (fun gk v y wr3 => ∃ (i m ce : Nat) (C : Option Addr), y = .int .i64 (i : Int) ∧ i + gk = n ∧ v = .slice C m ce ∧ m ≤ i ∧ OwN wr3 C m ce (places (t : Int) 0 (xs.take i)) ∧ Fresh wv C ∧ Mod none_ wv wr3)
            case atStart => exact ⟨0, 0, 0, none, rfl, by omega, rfl, by omega, Ow.nil _ _ _, (fun a ha => by cases ha), by rw [hwv.out]; exact Mod.refl _ _⟩
            case round =>
              obtain ⟨i, m, ce, C, rfl, hi, rfl, hmi, ho, hf, hm⟩ := hrel
              have x5 : wr.cell? ⟨q, 0, none⟩ = some (.slice B n d) := hm.cell_some (hTw.out.b.blk.cell_ rfl) (fun h => h)
              by_cases hin : i < n
              case pos =>
                obtain ⟨bb, oo, x, hBB, hxm, hx, hrg⟩ := rdm_get (w := wr) (Rd.mod0 hTw.out.b.ow.rd hm) hin
                rw [hBB] at x5
                have x6 : wr.cell? ⟨bb, oo + i * 20 + 1, none⟩ = some (.int .i64 x.m.to) := hrg 1 _ rfl
                have hpl := places_snoc (t : Int) x (xs.take i) 0
                have htk : xs.take (i + 1) = xs.take i ++ [x] := by rw [List.take_add_one, hx] <;> rfl
                have hlj : (xs.take i).length = i := by rw [List.length_take, hll]; omega
                rw [← htk, hlj, Nat.zero_add] at hpl
                have hi1 : (0 : Int) ≤ (i : Int) := by omega
                have hi2 : (i : Int) < (n : Int) := by omega
                have hn4 := hTw.out.le
                have hi400 : i < 400 := by omega
                clear htk hlj hrg
                replace ho := Lib.hid ho
                replace hf := Lib.hid hf
                replace hm := Lib.hid hm
                replace hxm := Lib.hid hxm
                replace hx := Lib.hid hx
                replace hBB := Lib.hid hBB
                replace hll := Lib.hid hll
                replace hn4 := Lib.hid hn4
                by_cases hto : x.m.to = (t : Int)
                · rw [if_pos hto] at hpl
                  rw [hto] at x6
                  have hm8 : m ≤ 400 := by have := hn4.out; omega
                  have hoA := Lib.hid (ho.out.mod0 ((Mod.refl none_ wr).alloc (.cells #[.int .i64 (i : Int)] 3)))
                  have hmA := Lib.hid (hm.out.alloc (.cells #[.int .i64 (i : Int)] 3))
                  replace hpl := Lib.hid hpl
                  replace hto := Lib.hid hto
                  go_wp2_with (at_builtin; go_loud (refine appN rfl (.tmp 166) (.tmp 168) rfl rfl hoA.out rfl (rdi_one wr 3 (i : Int)) (by omega) ?_; intro A3 c3 w3 ho3 hm3 hA3; replace ho3 := Lib.hid ho3; replace hm3 := Lib.hid hm3; replace hA3 := Lib.hid hA3))
                  go_roundg (gk - 1)
                  case measure => omega
                  case rel => exact ⟨i + 1, m + 1, c3, A3, by go_num, by omega, rfl, by omega, by rw [hpl.out]; exact ho3.out, Fresh.app hf.out hmA.out.size hA3.out, hmA.out.app hf.out hm3.out⟩
                · rw [if_neg hto, List.append_nil] at hpl
                  have hne : (x.m.to == (t : Int)) = false := by simpa using hto
                  replace hpl := Lib.hid hpl
                  replace hto := Lib.hid hto
                  go_wp2_with fail
                  go_roundg (gk - 1)
                  case measure => omega
                  case rel => exact ⟨i + 1, m, ce, C, by go_num, by omega, rfl, by omega, by rw [hpl.out]; exact ho.out, hf.out, hm.out⟩
              case neg =>
                obtain rfl : i = n := by omega
                rw [List.take_of_length_le (by rw [hll]; exact Nat.le_refl _)] at ho
                have hTe := hTw.out.mod0 hm
                have hn4 := hTe.le
                have hm8 : m ≤ 400 := by omega
                obtain ⟨we, hwe⟩ : ∃ we, we = wr := ⟨_, rfl⟩
                rw [← hwe] at ho hTe x5 ⊢
                have kF := Lib.hid (bagFor_ok we p A i c xs hTe.a hTe.le (t : Int))
                replace ho := Lib.hid ho
                replace hf := Lib.hid hf
                replace hm := Lib.hid hm
                replace hTe := Lib.hid hTe
                replace hwe := Lib.hid hwe
                replace hn4 := Lib.hid hn4
                go_wp2_with fail
                refine kF.out.mono ?_
                rintro e w7 ⟨A7, m7, c7, rfl, ho7, hf7, hm7⟩
                dsimp only
                have hmm : m7 = m := by
                  have h1 := ho7.1
                  have h2 := ho.out.1
                  omega
                subst hmm
                have kS := Lib.hid (sameInts_eq w7 A7 C m7 c7 ce (places (t : Int) 0 xs) ho7.rd (Rd.mod0 ho.out.rd hm7) (by omega))
                have hT7 := Lib.hid (hTe.out.mod0 hm7)
                clear ho7 hf7 hm7 kF
                go_wp2_with fail
                refine kS.out.mono ?_
                rintro e w8 ⟨rfl, mm, hmm8⟩
                dsimp only
                have hT8 := Lib.hid (show TwoS w1 w8 p q A i c B d xs by rw [hmm8]; exact hT7.out.mod0 ((Mod.refl none_ w7).drewN mm))
                replace hmm8 := Lib.hid hmm8
                clear kS hT7
                go_wp2_with fail
                go_roundg (6 - t)
                case measure => omega
                case rel => exact ⟨t + 1, by go_num, by omega, hT8.out⟩
          case neg =>
            obtain rfl : t = 7 := by omega
            have x5 : wr.drew.cell? ⟨q, 0, none⟩ = some (.slice B n d) := hT2.b.blk.cell_ rfl
            have hn4 := hT2.le
            have kA := Lib.hid (bagAll_ok wr.drew p A n c xs (hT2.a.mod0 (Mod.refl none_ wr).drew) (by omega))
            have hTd := Lib.hid (hT2.mod0 (Mod.refl none_ wr).drew)
            clear hT2 hT
            go_upto_region 36 with fail
            refine wp_region_held_drew (S := fun W => W.cell? ⟨q, 0, none⟩ = some (.slice B n d)) (by kernel_rfl) x5 (fun hHeld => ?_)
            refine wpAnyH_take (i := 0) (v := ?_) rfl (by kernel_rfl) (by kernel_rfl) (by kernel_rfl) (fun _ _ _ h => h) (Or.inl ⟨by rfl, ?_⟩) (by assumption) ?_
            rotate_left
            · intro W hSw; (try dsimp only at hSw); go_simp; (try with_reducible rfl)
            try simp only [Act.put, List.getElem_toArray, List.getElem_cons_zero, List.getElem_cons_succ, List.setIfInBounds_toArray, List.set_cons_zero, List.set_cons_succ]
            refine wpAnyH_take (i := 2) (v := ?_) rfl (by kernel_rfl) (by kernel_rfl) (by kernel_rfl) (fun _ _ _ h => h) (Or.inl ⟨by rfl, ?_⟩) (by assumption) ?_
            rotate_left
            · intro W hSw; (try dsimp only at hSw); go_simp; (try with_reducible rfl)
            try simp only [Act.put, List.getElem_toArray, List.getElem_cons_zero, List.getElem_cons_succ, List.setIfInBounds_toArray, List.set_cons_zero, List.set_cons_succ]
            refine wpAnyH_take (i := 3) (v := ?_) rfl (by kernel_rfl) (by kernel_rfl) (by kernel_rfl) (fun _ _ _ h => h) (Or.inl ⟨by rfl, ?_⟩) (by assumption) ?_
            rotate_left
            · intro W hSw; (try dsimp only at hSw); go_simp; (try with_reducible rfl)
            try simp only [Act.put, List.getElem_toArray, List.getElem_cons_zero, List.getElem_cons_succ, List.setIfInBounds_toArray, List.set_cons_zero, List.set_cons_succ]
            refine wpAnyH_take (i := 4) (v := ?_) rfl (by kernel_rfl) (by kernel_rfl) (by kernel_rfl) (fun _ _ _ h => h) (Or.inl ⟨by rfl, ?_⟩) (by assumption) ?_
            rotate_left
            · intro W hSw; (try dsimp only at hSw); go_simp; (try with_reducible rfl)
            try simp only [Act.put, List.getElem_toArray, List.getElem_cons_zero, List.getElem_cons_succ, List.setIfInBounds_toArray, List.set_cons_zero, List.set_cons_succ]
            refine wpAnyH_take (i := 5) (v := ?_) rfl (by kernel_rfl) (by kernel_rfl) (by kernel_rfl) (fun _ _ _ h => h) (Or.inl ⟨by rfl, ?_⟩) (by assumption) ?_
            rotate_left
            · intro W hSw; have hSx := hSw; go_simp; (try with_reducible rfl)
            try simp only [Act.put, List.getElem_toArray, List.getElem_cons_zero, List.getElem_cons_succ, List.setIfInBounds_toArray, List.set_cons_zero, List.set_cons_succ]
            refine wpAnyH_ready (rs := [1]) (by kernel_rfl) (by simp) ?_
            refine AllReadyH.cons rfl (fun K hK => ?_) AllReadyH.nil
            go_simp
            refine kA.out.mono ?_
            rintro e w7 ⟨A7, c7, rfl, ho7, hf7, hm7⟩
            dsimp only
            have x7 := hm7.cell_some x5 (fun h => h)
            have hT7 := Lib.hid (hTd.out.mod0 hm7)
            have kS := Lib.hid (sameAll17_eq w7 A7 B n c7 d xs ho7.rd hT7.out.b.ow.rd hT7.out.mem (fun x hx => (hT7.out.good x hx).2.1) (by omega))
            clear ho7 hf7 hm7 kA hTd
            go_wp2_with fail
            refine hK.out _ _ x7 (fun hHeld => ?_)
            clear hK K
            try simp only [Act.put, List.getElem_toArray, List.getElem_cons_zero, List.getElem_cons_succ, List.setIfInBounds_toArray, List.set_cons_zero, List.set_cons_succ]
            refine wpAnyH_ready (rs := [6]) (by kernel_rfl) (by simp) ?_
            refine AllReadyH.cons rfl (fun K hK => ?_) AllReadyH.nil
            go_simp
            refine kS.out.mono ?_
            rintro e w8 ⟨rfl, hm8⟩
            dsimp only
            have x8 := hm8.cell_some x7 (fun h => h)
            have hfin := Lib.hid (hm1.out.trans (hT7.out.mod.trans hm8))
            clear hm8 kS hT7
            go_wp2_with fail
            refine hK.out _ _ x8 (fun hHeld => ?_)
            clear hK K
            try simp only [Act.put, List.getElem_toArray, List.getElem_cons_zero, List.getElem_cons_succ, List.setIfInBounds_toArray, List.set_cons_zero, List.set_cons_succ]
            refine wpAnyH_take (i := 7) (v := ?_) rfl (by kernel_rfl) (by kernel_rfl) (by kernel_rfl) (fun _ _ _ h => h) (Or.inl ⟨by rfl, ?_⟩) (by assumption) ?_
            rotate_left
            · intro W hSw; (try dsimp only at hSw); go_simp; (try with_reducible rfl)
            try simp only [Act.put, List.getElem_toArray, List.getElem_cons_zero, List.getElem_cons_succ, List.setIfInBounds_toArray, List.set_cons_zero, List.set_cons_succ]
            refine wpAnyH_done (by kernel_rfl) ?_ _
            clear hHeld x5 x7 x8
            go_wp2_with fail
            go_ret
            exact ⟨rfl, hfin.out⟩

end Go.Proofs.YtdekehhmjehicaaGreat
