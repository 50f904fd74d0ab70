/-
  The accounts that a law of chapter 7 begins with: a chart and the reference's, the same.
-/
import Derived.Test.YtaohgefpnndjcaaVoArg
import Derived.Test.YtaohgefpnndjcaaVoLives
import Derived.Test.YtaohgefpnndjcaaChRef4
import Derived.Deep.RegionHeld3
namespace Go.Proofs.Ytaohgefpnndjcaa
set_option linter.unusedVariables false
open Go.RowKit
theorem ins_sorted {a : Ac} : ∀ {C : List Ac}, SortedC C → (∀ x ∈ C, x.n ≠ a.n) → SortedC (insC a C)
  | [], _, _ => by unfold insC SortedC; simp
  | y :: l, hs, hn => by
    obtain ⟨h1, h2⟩ := List.pairwise_cons.1 hs
    unfold insC
    split
    · rename_i hay
      refine List.pairwise_cons.2 ⟨fun x hx => ?_, hs⟩
      rcases List.mem_cons.1 hx with rfl | hx
      · exact hay
      · exact bb_trans _ _ _ hay (h1 x hx)
    · rename_i hay
      have hya : bytesBefore y.n a.n = true := by
        rcases bb_total a.n y.n with h | h | h
        · exact absurd h hay
        · exact absurd h.symm (hn y (by simp))
        · exact h
      refine List.pairwise_cons.2 ⟨fun x hx => ?_, ins_sorted h2 (fun x hx => hn x (by simp [hx]))⟩
      rcases insC_mem hx with rfl | hx
      · exact hya
      · exact h1 x hx
theorem set_sorted {C : List Ac} (h : SortedC C) (b : Ac) : SortedC (setC C b) := by
  have e : ∀ x : Ac, (if x.n == b.n then b else x).n = x.n := fun x => by
    split
    · rename_i hh; exact (by simpa using hh : x.n = b.n).symm
    · rfl
  unfold setC SortedC
  rw [List.pairwise_map]
  exact h.imp fun hxy => by rw [e, e]; exact hxy
theorem open_sorted {C : List Ac} (h : SortedC C) (s : List UInt8) (x : Int) : SortedC (openR C s x).1 := by
  unfold openR
  split
  · exact h
  · split
    · exact h
    · split
      · exact h
      · rename_i h1 h2 h3
        refine ins_sorted h (fun y hy he => h2 ?_)
        cases hg : getC C s with
        | some a => rfl
        | none =>
          have := List.find?_eq_none.1 hg y hy
          simp at this
          exact absurd he this
theorem turn_sorted {C : List Ac} (h : SortedC C) (s : List UInt8) (x : Int) (act : Act_) (hn : ∀ a, (act a).1.n = a.n) : SortedC (turnR C s x act).1 := by
  unfold turnR
  split
  · exact h
  · split
    · exact h
    · split
      · exact h
      · split
        · exact h
        · exact set_sorted h _
def Both (w : World) (p b q B : Nat) (W : World) : Prop := ∃ C, ChAt W p b C ∧ RefAt W q B C ∧ OkC C ∧ Mod none_ w W
def AccPost (w : World) (e : Ending) (w' : World) : Prop := ∃ p b q C, e = .returned (.tuple #[.pointer (some ⟨p, 0, none⟩), .pointer (some ⟨q, 0, none⟩)]) ∧ ChAt w' p b C ∧ RefAt w' q (q + 1) C ∧ OkC C ∧ Mod none_ w w' ∧ w.heap.size ≤ p ∧ w.heap.size ≤ b ∧ p < q ∧ b < q ∧ q + 1 ≤ w'.heap.size
set_option maxRecDepth 100000 in
set_option maxHeartbeats 4000000 in
theorem accts_ok (w : World) (A : Option Addr) (n c : Nat) (os : List Ac) (hr : RdA w A n os) (hok : ∀ o ∈ os, AcOk o) :
    Calls Try.prog 10 #[.slice A n c] w (AccPost w) := by
  have k1 := Lib.hid (fun W => new_ok W)
  have hlen := hr.len
  replace hr := Lib.hid hr
  replace hok := Lib.hid hok
  go_enter Try.func10, Try.ntmps10
  go_wp2_with fail
  refine (k1.out _).mono ?_
  rintro e w1 ⟨p, b, rfl, hc1, hm1, hp, hb⟩
  dsimp only
  have hbl := hc1.2.1.lt
  have hpl := hc1.1.lt
  have hB0 : Hid (Both w p b w1.heap.size (w1.heap.size + 1) (w1.alloc (.cells #[.slice none 0 0] 36))) :=
    Lib.hid ⟨[], hc1.alloc _, ⟨none, 0, Blk.new _ _ _, Ow.nil _ _ _, (fun k ⟨a, ha, _⟩ => by cases ha)⟩, OkC.nil, hm1.alloc _⟩
  have hqb : w1.heap.size ≠ b := by omega
  have hqp : w1.heap.size ≠ p := by omega
  have hw1s : w.heap.size ≤ w1.heap.size := hm1.size
  replace hc1 := Lib.hid hc1
  replace hm1 := Lib.hid hm1
  go_wp2_with fail
  have hsz1 : (w1.alloc (.cells #[.slice none 0 0] 36)).heap.size = w1.heap.size + 1 := by simp
  generalize w1.heap.size = q at *
  go_loopw [6] (fun v wr => ∃ j : Nat, v = .int .i64 j ∧ j ≤ n ∧ j ≤ 14 ∧ (q + 1 ≤ wr.heap.size) ∧ Both w p b q (q + 1) wr) (fun v _ => n - (intOf v).toNat)
  case atStart => exact ⟨0, rfl, by omega, by omega, by omega, hB0.out⟩
  case round =>
    obtain ⟨j, rfl, hj, hj14, hqs, C, hC, hR, oC, hm⟩ := hrel
    clear hB0
    by_cases hgo : j < n ∧ j < 14
    · obtain ⟨hlt, hl14⟩ := hgo
      have d1 : decide ((j : Int) < (n : Int)) = true := decide_eq_true (by omega)
      have d2 : decide ((j : Int) < 14) = true := decide_eq_true (by omega)
      have hjo : j < os.length := by omega
      obtain ⟨g, o, rfl, y1, y2, y3, y4⟩ := rda_get (Rd.mod0 hr.out hm) hjo (by omega)
      have hao := hok.out os[j] (List.getElem_mem hjo)
      generalize os[j] = a at y1 y2 y3 y4 hao
      obtain ⟨s, xh, xs, xl⟩ := a
      obtain ⟨hz, ih, is, il⟩ := hao
      dsimp only at y1 y2 y3 y4 hz ih is il
      have hgl := World.block_lt_of_cell? wr _ y1
      have hs0 := hC.sorted
      -- the lists, step by step
      have o1 := open_okc oC s xl il
      obtain ⟨C1, hC1⟩ : ∃ C1, (openR C s xl).1 = C1 := ⟨_, rfl⟩
      obtain ⟨e1, he1⟩ : ∃ e1, (openR C s xl).2 = e1 := ⟨_, rfl⟩
      rw [hC1] at o1
      have i1 : I64 (-1) := by unfold I64; omega
      have o2 := give_okc o1 s (-1)
      obtain ⟨C2, hC2⟩ : ∃ C2, (turnR C1 s (-1) (giveA (-1))).1 = C2 := ⟨_, rfl⟩
      obtain ⟨e2, he2⟩ : ∃ e2, (turnR C1 s (-1) (giveA (-1))).2 = e2 := ⟨_, rfl⟩
      rw [hC2] at o2
      have o3 := give_okc o2 s xh
      obtain ⟨C3, hC3⟩ : ∃ C3, (turnR C2 s xh (giveA xh)).1 = C3 := ⟨_, rfl⟩
      obtain ⟨e3, he3⟩ : ∃ e3, (turnR C2 s xh (giveA xh)).2 = e3 := ⟨_, rfl⟩
      rw [hC3] at o3
      have o4 := aside_okc o3 s xs
      obtain ⟨C4, hC4⟩ : ∃ C4, (turnR C3 s xs (asideA xs)).1 = C4 := ⟨_, rfl⟩
      obtain ⟨e4, he4⟩ : ∃ e4, (turnR C3 s xs (asideA xs)).2 = e4 := ⟨_, rfl⟩
      rw [hC4] at o4
      have kO := fun W (h : ChAt W p b C) => (open_ok W p b C (txt s) xl h hz oC).mono (fun e w' (hp : ChPost W p b (openR C s xl) e w') => show e = .returned (.int .i64 e1) ∧ ChAt w' p b C1 ∧ Mod (· = b) W w' by obtain ⟨h1, h2, h3⟩ := hp; exact ⟨by rw [h1, he1], by rw [← hC1]; exact h2, h3⟩)
      have kG := fun W (h : ChAt W p b C1) => (give_ok W p b C1 (txt s) (-1) h hz o1.wf i1 (room_of o1)).mono (fun e w' (hp : ChPost W p b (turnR C1 s (-1) (giveA (-1))) e w') => show e = .returned (.int .i64 e2) ∧ ChAt w' p b C2 ∧ Mod (· = b) W w' by obtain ⟨h1, h2, h3⟩ := hp; exact ⟨by rw [h1, he2], by rw [← hC2]; exact h2, h3⟩)
      have kG3 := Lib.hid (fun W (h : ChAt W p b C2) => (give_ok W p b C2 (txt s) xh h hz o2.wf ih (room_of o2)).mono (fun e w' (hp : ChPost W p b (turnR C2 s xh (giveA xh)) e w') => show e = .returned (.int .i64 e3) ∧ ChAt w' p b C3 ∧ Mod (· = b) W w' by obtain ⟨h1, h2, h3⟩ := hp; exact ⟨by rw [h1, he3], by rw [← hC3]; exact h2, h3⟩))
      have kA4 := Lib.hid (fun W (h : ChAt W p b C3) => (aside_ok W p b C3 (txt s) xs h hz o3.wf is (room_of o3)).mono (fun e w' (hp : ChPost W p b (turnR C3 s xs (asideA xs)) e w') => show e = .returned (.int .i64 e4) ∧ ChAt w' p b C4 ∧ Mod (· = b) W w' by obtain ⟨h1, h2, h3⟩ := hp; exact ⟨by rw [h1, he4], by rw [← hC4]; exact h2, h3⟩))
      have srt : ∀ {W : World} {D : List Ac}, ChAt W p b D → SortedC D := fun h => h.sorted
      have rO := fun W (h : RefAt W q (q+1) C) (hB : q + 1 ≤ W.heap.size) => (ropen_ok W q (q+1) C s xl h hs0 oC hz hB).mono (fun e w' (hp : RfPost W q (q+1) (openR C s xl) e w') => show e = .returned (.int .i64 e1) ∧ RefAt w' q (q+1) C1 ∧ Mod (· = q) W w' by obtain ⟨h1, h2, h3⟩ := hp; exact ⟨by rw [h1, he1], by rw [← hC1]; exact h2, h3⟩)
      have s1 : SortedC C1 := by rw [← hC1]; exact open_sorted hs0 s xl
      have s2 : SortedC C2 := by rw [← hC2]; exact turn_sorted s1 s (-1) (giveA (-1)) (fun _ => rfl)
      have s3 : SortedC C3 := by rw [← hC3]; exact turn_sorted s2 s xh (giveA xh) (fun _ => rfl)
      have rG := fun W (h : RefAt W q (q+1) C1) (hB : q + 1 ≤ W.heap.size) => (rgive_ok W q (q+1) C1 s (-1) h s1 o1 i1 hB).mono (fun e w' (hp : RfPost W q (q+1) (turnR C1 s (-1) (giveA (-1))) e w') => show e = .returned (.int .i64 e2) ∧ RefAt w' q (q+1) C2 ∧ Mod (· = q) W w' by obtain ⟨h1, h2, h3⟩ := hp; exact ⟨by rw [h1, he2], by rw [← hC2]; exact h2, h3⟩)
      have rG3 := Lib.hid (fun W (h : RefAt W q (q+1) C2) (hB : q + 1 ≤ W.heap.size) => (rgive_ok W q (q+1) C2 s xh h s2 o2 ih hB).mono (fun e w' (hp : RfPost W q (q+1) (turnR C2 s xh (giveA xh)) e w') => show e = .returned (.int .i64 e3) ∧ RefAt w' q (q+1) C3 ∧ Mod (· = q) W w' by obtain ⟨h1, h2, h3⟩ := hp; exact ⟨by rw [h1, he3], by rw [← hC3]; exact h2, h3⟩))
      have rA4 := Lib.hid (fun W (h : RefAt W q (q+1) C3) (hB : q + 1 ≤ W.heap.size) => (raside_ok W q (q+1) C3 s xs h s3 o3 is hB).mono (fun e w' (hp : RfPost W q (q+1) (turnR C3 s xs (asideA xs)) e w') => show e = .returned (.int .i64 e4) ∧ RefAt w' q (q+1) C4 ∧ Mod (· = q) W w' by obtain ⟨h1, h2, h3⟩ := hp; exact ⟨by rw [h1, he4], by rw [← hC4]; exact h2, h3⟩))
      clear hC1 he1 hC2 he2 hC3 he3 hC4 he4 srt
      obtain ⟨gb, hgb⟩ : ∃ gb, wr.heap.size = gb := ⟨_, rfl⟩
      let cells : World → Prop := fun W => W.cell? ⟨gb, 0, none⟩ = some (.string (txt s)) ∧ W.cell? ⟨gb, 1, none⟩ = some (.int .i64 xh) ∧ W.cell? ⟨gb, 2, none⟩ = some (.int .i64 xs) ∧ W.cell? ⟨gb, 3, none⟩ = some (.int .i64 xl)
      have cm : ∀ (F : Nat → Prop) (W W' : World), cells W → Mod F W W' → ¬ F gb → cells W' := fun F W W' h hmm hf => ⟨hmm.cell_some h.1 hf, hmm.cell_some h.2.1 hf, hmm.cell_some h.2.2.1 hf, hmm.cell_some h.2.2.2 hf⟩
      let Cs : Nat → List Ac := fun i => if i = 0 then C else if i = 1 then C1 else if i = 2 then C2 else if i = 3 then C3 else C4
      let St : World → Nat → Nat → Prop := fun W i m => cells W ∧ ChAt W p b (Cs i) ∧ RefAt W q (q+1) (Cs m) ∧ Mod none_ w W ∧ q + 1 ≤ W.heap.size
      have hgbb : ¬ gb = b := by omega
      have hgbq : ¬ gb = q := by omega
      have w0 : Mod none_ wr (wr.alloc (.cells #[.string (txt s), .int .i64 xh, .int .i64 xs, .int .i64 xl] 46)).drew := ((Mod.refl _ _).alloc _).drew
      have hB := Blk.new wr 46 #[.string (txt s), .int .i64 xh, .int .i64 xs, .int .i64 xl]
      rw [hgb] at hB
      have hst0 : Hid (St (wr.alloc (.cells #[.string (txt s), .int .i64 xh, .int .i64 xs, .int .i64 xl] 46)).drew 0 0) := Lib.hid ⟨⟨hB.cell_ rfl, hB.cell_ rfl, hB.cell_ rfl, hB.cell_ rfl⟩, hC.mod0 w0, hR.mod0 w0, hm.then w0 (fun _ _ h => h), Nat.le_trans hqs w0.size⟩
      have upC : ∀ (W w' : World) (i i' m : Nat), Hid (St W i m) → ChAt w' p b (Cs i') → Mod (· = b) W w' → Hid (St w' i' m) := fun W w' i i' m h hc hmm => Lib.hid ⟨cm _ _ _ h.out.1 hmm hgbb, hc, h.out.2.2.1.mod hmm hqb (fun k hk _ he => by have : k = b := he; omega), h.out.2.2.2.1.then hmm (fun k hk he => by have : k = b := he; omega), Nat.le_trans h.out.2.2.2.2 hmm.size⟩
      have upR : ∀ (W w' : World) (i m m' : Nat), Hid (St W i m) → RefAt w' q (q+1) (Cs m') → Mod (· = q) W w' → Hid (St w' i m') := fun W w' i m m' h hc hmm => Lib.hid ⟨cm _ _ _ h.out.1 hmm hgbq, h.out.2.1.mod hmm (fun he => hqp he.symm) (fun he => hqb he.symm), hc, h.out.2.2.2.1.then hmm (fun k hk he => by have : k = q := he; omega), Nat.le_trans h.out.2.2.2.2 hmm.size⟩
      have k0 := Lib.hid (fun W m (h : Hid (St W 0 m)) => (kO W h.out.2.1).mono (fun e w' hp => (⟨hp.1, upC W w' 0 1 m h hp.2.1 hp.2.2⟩ : e = .returned (.int .i64 e1) ∧ Hid (St w' 1 m))))
      have k1 := Lib.hid (fun W m (h : Hid (St W 1 m)) => (kG W h.out.2.1).mono (fun e w' hp => (⟨hp.1, upC W w' 1 2 m h hp.2.1 hp.2.2⟩ : e = .returned (.int .i64 e2) ∧ Hid (St w' 2 m))))
      have r0 := Lib.hid (fun W i (h : Hid (St W i 0)) => (rO W h.out.2.2.1 h.out.2.2.2.2).mono (fun e w' hp => (⟨hp.1, upR W w' i 0 1 h hp.2.1 hp.2.2⟩ : e = .returned (.int .i64 e1) ∧ Hid (St w' i 1))))
      have r1 := Lib.hid (fun W i (h : Hid (St W i 1)) => (rG W h.out.2.2.1 h.out.2.2.2.2).mono (fun e w' hp => (⟨hp.1, upR W w' i 1 2 h hp.2.1 hp.2.2⟩ : e = .returned (.int .i64 e2) ∧ Hid (St w' i 2))))
      have k2 := Lib.hid (fun W m (h : Hid (St W 2 m)) => (kG3.out W h.out.2.1).mono (fun e w' hp => (⟨hp.1, upC W w' 2 3 m h hp.2.1 hp.2.2⟩ : e = .returned (.int .i64 e3) ∧ Hid (St w' 3 m))))
      have k3 := Lib.hid (fun W m (h : Hid (St W 3 m)) => (kA4.out W h.out.2.1).mono (fun e w' hp => (⟨hp.1, upC W w' 3 4 m h hp.2.1 hp.2.2⟩ : e = .returned (.int .i64 e4) ∧ Hid (St w' 4 m))))
      have r2 := Lib.hid (fun W i (h : Hid (St W i 2)) => (rG3.out W h.out.2.2.1 h.out.2.2.2.2).mono (fun e w' hp => (⟨hp.1, upR W w' i 2 3 h hp.2.1 hp.2.2⟩ : e = .returned (.int .i64 e3) ∧ Hid (St w' i 3))))
      have r3 := Lib.hid (fun W i (h : Hid (St W i 3)) => (rA4.out W h.out.2.2.1 h.out.2.2.2.2).mono (fun e w' hp => (⟨hp.1, upR W w' i 3 4 h hp.2.1 hp.2.2⟩ : e = .returned (.int .i64 e4) ∧ Hid (St w' i 4))))
      have kc := Lib.hid (fun W i m (h : Hid (St W i m)) => show W.cell? ⟨gb, 0, none⟩ = some (.string (txt s)) ∧ W.cell? ⟨gb, 1, none⟩ = some (.int .i64 xh) ∧ W.cell? ⟨gb, 2, none⟩ = some (.int .i64 xs) ∧ W.cell? ⟨gb, 3, none⟩ = some (.int .i64 xl) from h.out.1)
      have kz := Lib.hid (fun W (h : Hid (St W 4 4)) => show ChAt W p b C4 ∧ RefAt W q (q+1) C4 ∧ Mod none_ w W ∧ q + 1 ≤ W.heap.size from h.out.2)
      clear_value St
      clear upC upR cm kO kG rO rG kG3 kA4 rG3 rA4
      clear_value cells Cs
      clear cells Cs
      clear hB w0
      replace hC := Lib.hid hC
      replace hR := Lib.hid hR
      replace oC := Lib.hid oC
      replace hm := Lib.hid hm
      replace hs0 := Lib.hid hs0
      replace o1 := Lib.hid o1
      replace o2 := Lib.hid o2
      replace o3 := Lib.hid o3
      replace o4 := Lib.hid o4
      replace s1 := Lib.hid s1
      replace s2 := Lib.hid s2
      replace s3 := Lib.hid s3
      replace hz := Lib.hid hz
      replace ih := Lib.hid ih
      replace is := Lib.hid is
      replace il := Lib.hid il
      replace i1 := Lib.hid i1
      go_upto_region 6 with fail
      go_region_held3 (fun W => W.cell? ⟨gb, 0, none⟩ = some (.string (txt s)) ∧ W.cell? ⟨gb, 1, none⟩ = some (.int .i64 xh) ∧ W.cell? ⟨gb, 2, none⟩ = some (.int .i64 xs) ∧ W.cell? ⟨gb, 3, none⟩ = some (.int .i64 xl)) (first | exact kc.out _ _ _ hst0 | exact kc.out _ _ _ (by assumption)) (first
        | (go_at_call 26; (with_reducible refine (k0.out _ _ (by assumption)).mono ?_); rintro e5 x1 ⟨rfl, h1⟩; dsimp only)
        | (go_at_call 28; (with_reducible refine (r0.out _ _ (by assumption)).mono ?_); rintro e6 x2 ⟨rfl, h2⟩; dsimp only)
        | (go_at_call 29; (with_reducible refine (k1.out _ _ (by assumption)).mono ?_); rintro e7 x3 ⟨rfl, h3⟩; dsimp only)
        | (go_at_call 30; (with_reducible refine (r1.out _ _ (by assumption)).mono ?_); rintro e8 x4 ⟨rfl, h4⟩; dsimp only))
      all_goals
        obtain ⟨t0, t1, t2, t3⟩ := kc.out _ 2 2 (by assumption)
        go_wp2_with fail
        refine (k2.out _ 2 (by assumption)).mono ?_
        rintro e9 x9 ⟨rfl, h9⟩
        dsimp only
        obtain ⟨t0, t1, t2, t3⟩ := kc.out _ 3 2 h9
        go_wp2_with fail
        refine (r2.out _ 3 h9).mono ?_
        rintro e10 x10 ⟨rfl, h10⟩
        dsimp only
        obtain ⟨t0, t1, t2, t3⟩ := kc.out _ 3 3 h10
        go_wp2_with fail
        refine (k3.out _ 3 h10).mono ?_
        rintro e11 x11 ⟨rfl, h11⟩
        dsimp only
        obtain ⟨t0, t1, t2, t3⟩ := kc.out _ 4 3 h11
        go_wp2_with fail
        refine (r3.out _ 4 h11).mono ?_
        rintro e12 x12 ⟨rfl, h12⟩
        dsimp only
        obtain ⟨hC12, hR12, hm12, hq12⟩ := kz.out _ h12
        replace hC12 := Lib.hid hC12
        replace hR12 := Lib.hid hR12
        replace hm12 := Lib.hid hm12
        go_wp2_with fail
        go_roundw
        case rel => exact ⟨j + 1, by go_num, by omega, by omega, hq12, C4, hC12.out, hR12.out, o4.out, hm12.out⟩
        case measure => simp [intOf]; omega
    · by_cases hlt : j < n
      · have d1 : decide ((j : Int) < (n : Int)) = true := decide_eq_true (by omega)
        have d2 : decide ((j : Int) < 14) = false := decide_eq_false (by omega)
        replace hC := Lib.hid hC
        replace hR := Lib.hid hR
        replace oC := Lib.hid oC
        replace hm := Lib.hid hm
        go_wp2_with fail
        go_ret2
        exact ⟨p, b, q, C, rfl, hC.out, hR.out, oC.out, hm.out, hp, hb, hpl, hbl, hqs⟩
      · have d1 : decide ((j : Int) < (n : Int)) = false := decide_eq_false (by omega)
        replace hC := Lib.hid hC
        replace hR := Lib.hid hR
        replace oC := Lib.hid oC
        replace hm := Lib.hid hm
        go_wp2_with fail
        go_ret2
        exact ⟨p, b, q, C, rfl, hC.out, hR.out, oC.out, hm.out, hp, hb, hpl, hbl, hqs⟩
end Go.Proofs.Ytaohgefpnndjcaa
