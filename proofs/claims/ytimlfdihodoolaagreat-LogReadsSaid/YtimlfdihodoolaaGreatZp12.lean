import Derived.Test.YtimlfdihodoolaaGreatZp10
import Derived.Deep.DeepCutAuto
import Derived.Test.YtimlfdihodoolaaGreatZp11
import Derived.Test.YtimlfdihodoolaaGreatZp3
import Derived.Sort.Grow
import Derived.Shelf.SlSortCmp.WholeK
import Derived.Ground.SlsfProg
import Derived.Test.YtimlfdihodoolaaGreatProg
/-
  The contract of disk.Up. No condition.
-/
namespace Go.Proofs.YtimlfdihodoolaaGreat
set_option linter.unusedVariables false
set_option linter.unusedSimpArgs false
open Go.RowKit

theorem spv_length (xs : List (Int × UInt8)) : (spv xs).length = xs.length * 2 := by
  induction xs with
  | nil => rfl
  | cons x xs ih => simp only [spv, List.flatMap_cons, List.length_append, List.length_cons, List.length_nil] at ih ⊢; omega
theorem spv_at (xs : List (Int × UInt8)) : ∀ (j : Nat) (hj : j < xs.length), (spv xs)[j * 2]? = some (.int .i64 xs[j].1) ∧ (spv xs)[j * 2 + 1]? = some (bv xs[j].2) := by
  induction xs with
  | nil => intro j hj; cases hj
  | cons x xs ih =>
    intro j hj
    cases j with
    | zero => simp [spv]
    | succ j =>
      have := ih j (by simpa using hj)
      have e : (j + 1) * 2 = j * 2 + 2 := by omega
      rw [e]
      simpa [spv] using this

/-- What holds behind j spoils. -/
def UpRel (w : World) (p : Nat) (A : Option Addr) (c : Nat) (l : List UInt8) (s r : Nat) (b : Bool) (kp : Nat) (xs : List (Int × UInt8)) (j : Nat) (wr : World) : Prop :=
  Dk wr p A c ⟨spoils_ s kp l (xs.take j), s, r, b⟩ ∧ Mod (dkf p A) w wr

section
variable (p : Nat) (A : Option Addr) (c : Nat) (l : List UInt8) (s r : Nat) (w : World)
end
end Go.Proofs.YtimlfdihodoolaaGreat
/-
  log.Put on a disk: what it tells, and what the disk has then. No condition.
-/
namespace Go.Proofs.YtimlfdihodoolaaGreat
set_option linter.unusedVariables false
set_option linter.unusedSimpArgs false
open Go.RowKit
theorem allR_or (xs : List Rs) : (∀ x ∈ xs, RtR x = true) ∨ ∃ x ∈ xs, RtR x = false := by
  by_cases h : ∀ x ∈ xs, RtR x = true
  · exact .inl h
  · refine .inr ?_
    simp only [Classical.not_forall] at h
    obtain ⟨x, hx, h⟩ := h
    exact ⟨x, hx, by simpa using h⟩
/-- what Put on a disk that isn't broken tells, and what is then there, and sure -/
def putR (l : List UInt8) (s r : Nat) (xs : List Rs) : Int × List UInt8 × Nat :=
  if xs.all RtR then if xs = [] then (0, l, s) else if l.length + (logB xs).length ≤ r then (0, l ++ logB xs, l.length + (logB xs).length) else (5, l, s) else (1, l, s)
theorem Nw.step {w w1 : World} {A A1 : Option Addr} {p : Nat} (h : Nw w A A1) : ∀ i, i < w.heap.size → dkf p A1 i → dkf p A i := by
  intro i hi hk
  rcases hk with hk | hk
  · exact .inl hk
  · rcases h with rfl | h
    · exact .inr hk
    · obtain ⟨a, ha, rfl⟩ := hk; have := h a ha; omega
theorem put_ok (w : World) (p : Nat) (A : Option Addr) (c : Nat) (l : List UInt8) (s r : Nat) (hd : Dk w p A c ⟨l, s, r, false⟩) (B : Option Addr) (n d : Nat) (xs : List Rs) (h : RsL w B n xs) (hn : n ≤ 1000) :
    Calls Tryz.prog 11 #[.pointer (some ⟨p, 0, none⟩), .slice B n d] w fun e w' =>
      ∃ A' c' a l' s', e = .returned (.int .i64 a) ∧ putR l s r xs = (a, l', s') ∧ Dk w' p A' c' ⟨l', s', r, false⟩ ∧ Nw w A A' ∧ Mod (dkf p A) w w' := by
  have hl := h.len
  refine put_gen w _ B n d xs h hn _ ?_ ?_ ?_
  · intro W hm ⟨x, hx, hr⟩
    refine ⟨A, c, 1, l, s, rfl, ?_, hd.mod0 hm, .inl rfl, hm.any _⟩
    unfold putR
    rw [if_neg (by rw [List.all_eq_true]; intro hh; rw [hh x hx] at hr; cases hr)]
  · intro W hm h0
    have hx : xs = [] := List.eq_nil_of_length_eq_zero (by omega)
    refine ⟨A, c, 0, l, s, rfl, ?_, hd.mod0 hm, .inl rfl, hm.any _⟩
    unfold putR
    rw [if_pos (by rw [hx] <;> rfl), if_pos hx]
  · intro W B' m d' hm hpos hall hb hf hmd
    have hx : xs ≠ [] := by intro hh; rw [hh] at hl; simp at hl; omega
    have hlen := hb.len
    by_cases hr : l.length + m ≤ r
    · refine (disk_append p A c l s r W (hd.mod0 hm) B' m d' _ hb hr).mono ?_
      rintro e w1 ⟨rfl, A1, ⟨c1, hd1⟩, hn1, hm1⟩
      refine ⟨0, rfl, .inr ⟨rfl, ?_⟩⟩
      refine (disk_sync p A1 c1 _ s r w1 hd1).mono ?_
      rintro e w2 ⟨rfl, hd2, hm2⟩
      have hnw : Nw w A A1 := by
        rcases hn1 with h1 | h1
        · exact .inl h1
        · exact .inr (fun a ha => Nat.le_trans hm.size (h1 a ha))
      refine ⟨_, rfl, A1, c1, 0, _, _, rfl, ?_, hd2, hnw, ?_⟩
      · unfold putR
        rw [if_pos (by rw [List.all_eq_true]; exact hall), if_neg hx, if_pos (by omega), List.length_append]
      · exact ((hm.any _).trans hm1).then hm2 (Nw.step (w1 := w1) hnw)
    · refine (disk_append_full p A c l s r W (hd.mod0 hm) B' m d' (by omega)).mono ?_
      rintro e w1 ⟨rfl, k, rfl⟩
      refine ⟨5, rfl, .inl ⟨by decide, A, c, 5, l, s, rfl, ?_, (hd.mod0 hm).mod0 ((Mod.refl none_ W).drewN k), .inl rfl, (hm.drewN k).any _⟩⟩
      unfold putR
      rw [if_pos (by rw [List.all_eq_true]; exact hall), if_neg hx, if_neg (by omega)]
theorem put_down (w : World) (dv : Value) (hdv : dv = .pointer none ∨ ∃ p A c l s r, dv = .pointer (some ⟨p, 0, none⟩) ∧ Dk w p A c ⟨l, s, r, true⟩) (B : Option Addr) (n d : Nat) (xs : List Rs) (h : RsL w B n xs) (hn : n ≤ 1000) :
    Calls Tryz.prog 11 #[dv, .slice B n d] w fun e w' => e = .returned (.int .i64 (if xs.all RtR then if xs = [] then 0 else 14 else 1)) ∧ Mod none_ w w' := by
  have hl := h.len
  refine put_gen w _ B n d xs h hn _ ?_ ?_ ?_
  · intro W hm ⟨x, hx, hr⟩
    refine ⟨?_, hm⟩
    rw [if_neg (by rw [List.all_eq_true]; intro hh; rw [hh x hx] at hr; cases hr)]
  · intro W hm h0
    have hx : xs = [] := List.eq_nil_of_length_eq_zero (by omega)
    refine ⟨?_, hm⟩
    rw [if_pos (by rw [hx] <;> rfl), if_pos hx]
  · intro W B' m d' hm hpos hall hb hf hmd
    have hx : xs ≠ [] := by intro hh; rw [hh] at hl; simp at hl; omega
    have key : Calls Tryz.prog 32 #[dv, .slice B' m d'] W fun e w' => e = .returned (.int .i64 14) ∧ W = w' := by
      rcases hdv with rfl | ⟨p, A, c, l, s, r, rfl, hd⟩
      · exact disk_append_nil _ _
      · exact disk_append_down p A c l s r W _ (hd.mod0 hm)
    refine key.mono ?_
    rintro e w1 ⟨rfl, rfl⟩
    refine ⟨14, rfl, .inl ⟨by decide, ?_, hm⟩⟩
    rw [if_pos (by rw [List.all_eq_true]; exact hall), if_neg hx]
end Go.Proofs.YtimlfdihodoolaaGreat
/-
  Frames, as a function on lists: what is scanned of frames that are whole. No condition.
-/
namespace Go.Proofs.YtimlfdihodoolaaGreat
set_option linter.unusedVariables false
set_option linter.unusedSimpArgs false
section
variable {l r : List UInt8}
theorem num_frame (h : okL l) : num (frameOf l ++ r) = l.length := by
  obtain ⟨h1, h2⟩ := h
  simp [num, frameOf, fhead, by_toNat]
  omega
theorem sumOf_frame : sumOf (frameOf l ++ r) = crc l := by
  have := crc_lt l
  simp [sumOf, frameOf, fhead, by_toNat]
  omega
theorem body_frame (h : okL l) : body (frameOf l ++ r) = l := by
  unfold body
  rw [num_frame h]
  have e : frameOf l ++ r = fhead l ++ (l ++ r) := by simp [frameOf]
  rw [e, List.drop_left' (by rfl)]
  simp
theorem drop_frame : (frameOf l ++ r).drop (6 + l.length) = r := List.drop_left' (frameOf_length l)
theorem stop_frame (h : okL l) : stopE (frameOf l ++ r) = 0 := by
  have h' := h
  obtain ⟨h1, h2⟩ := h'
  refine stop_no ?_ ?_ ?_ ?_
  · rw [List.length_append, frameOf_length]; omega
  · rw [num_frame h]; omega
  · rw [num_frame h, List.length_append, frameOf_length]; omega
  · rw [body_frame h, sumOf_frame]
theorem scan_frame (h : okL l) (r : List UInt8) : scan (frameOf l ++ r) = (l :: (scan r).1, 6 + l.length + (scan r).2.1, (scan r).2.2) := by
  rw [scan_go _ (by rw [List.length_append, frameOf_length]; omega) (stop_frame h), num_frame h, body_frame h, drop_frame]
end
theorem scan_flat : ∀ (ls : List (List UInt8)) (r : List UInt8), (∀ l ∈ ls, okL l) → scan (ls.flatMap frameOf ++ r) = (ls ++ (scan r).1, (ls.flatMap frameOf).length + (scan r).2.1, (scan r).2.2) := by
  intro ls
  induction ls with
  | nil => intro r _; simp
  | cons l ls ih =>
    intro r h
    rw [List.flatMap_cons, List.append_assoc, scan_frame (h l (by simp)), ih r (fun x hx => h x (by simp [hx]))]
    simp [frameOf_length, Nat.add_assoc]
theorem scan_flat0 (ls : List (List UInt8)) (h : ∀ l ∈ ls, okL l) : scan (ls.flatMap frameOf) = (ls, (ls.flatMap frameOf).length, 0) := by
  have := scan_flat ls [] h
  rw [scan_nil [] rfl] at this
  simpa using this
theorem scanF_le : ∀ (f : Nat) (l : List UInt8), (scanF f l).1.length ≤ l.length ∧ (scanF f l).2.1 ≤ l.length := by
  intro f
  induction f with
  | zero => intro l; exact ⟨Nat.zero_le _, Nat.zero_le _⟩
  | succ f ih =>
    intro l
    simp only [scanF]
    by_cases h0 : l.length = 0
    · rw [if_pos h0]; exact ⟨Nat.zero_le _, Nat.zero_le _⟩
    · rw [if_neg h0]
      by_cases h1 : stopE l ≠ 0
      · rw [if_pos h1]; exact ⟨Nat.zero_le _, Nat.zero_le _⟩
      · rw [if_neg h1]
        have h2 : 6 + num l ≤ l.length := by
          rcases Nat.lt_or_ge l.length (6 + num l) with h | h
          · exfalso
            apply h1
            unfold stopE
            split <;> try omega
            split <;> try omega
          · exact h
        have := ih (l.drop (6 + num l))
        rw [List.length_drop] at this
        simp only [List.length_cons]
        omega
theorem scan_le (l : List UInt8) : (scan l).1.length ≤ l.length ∧ (scan l).2.1 ≤ l.length := scanF_le _ l
theorem crc_nine : crc [49, 50, 51, 52, 53, 54, 55, 56, 57] = 3421780262 := by kernel_rfl
end Go.Proofs.YtimlfdihodoolaaGreat
/-
  log.Scan. No condition.
-/
namespace Go.Proofs.YtimlfdihodoolaaGreat
set_option linter.unusedVariables false
set_option linter.unusedSimpArgs false
open Go.RowKit
def scanR : List (List UInt8) → List Rc × Nat
  | [] => ([], 0)
  | f :: fs => if (rdRec f).2 = 0 then ((rdRec f).1 :: (scanR fs).1, 6 + f.length + (scanR fs).2) else ([], 0)
def logScan (b : List UInt8) : List Rc × Nat := scanR (scan b).1
theorem scanR_no {f : List UInt8} {fs : List (List UInt8)} (h : (rdRec f).2 ≠ 0) : scanR (f :: fs) = ([], 0) := by rw [scanR, if_neg h]
theorem scanR_yes {f : List UInt8} {fs : List (List UInt8)} {r : Rc} (h : rdRec f = (r, 0)) : scanR (f :: fs) = (r :: (scanR fs).1, 6 + f.length + (scanR fs).2) := by
  rw [scanR, h, if_pos rfl]
theorem drop_at {α : Type} {l : List α} {j : Nat} {x : α} (h : l[j]? = some x) : l.drop j = x :: l.drop (j + 1) := by
  obtain ⟨b1, b2⟩ := List.getElem?_eq_some_iff.1 h
  rw [List.drop_eq_getElem_cons b1, b2]
theorem rdRec_in {b : List UInt8} {x : Rc} {f : Nat} (h : rdRec b = (x, f)) : (x.e.o = od0 ∨ okOd x.e.o) ∧ x.e.deps.length ≤ 100 := by
  rcases rdRec_two b with h1 | h1
  · rw [h] at h1
    dsimp only at h1
    subst h1
    obtain ⟨_, _, h3⟩ := rdRec_yes h
    have h5 := h3.2.2.2.2
    by_cases hs : x.st = 0
    · rw [if_pos hs] at h5
      rw [h5]
      exact ⟨.inl rfl, by decide⟩
    · rw [if_neg hs] at h5
      obtain ⟨h6, h7, _⟩ := h5
      refine ⟨?_, h7⟩
      by_cases hb : x.e.none = true
      · rw [if_pos hb] at h6; exact .inl h6
      · rw [if_neg hb] at h6; exact .inr h6.2
  · rw [h] at h1
    simp only [Prod.mk.injEq] at h1
    rw [h1.1]
    exact ⟨.inl rfl, by decide⟩
theorem rangeAt_mod {w w' : World} {g o : Nat} {vs : List Value} (h : w.rangeAt g o vs) (hm : Mod none_ w w') : w'.rangeAt g o vs := fun j v hv => hm.cell_some (h j v hv) (fun h => h)
/-- what was read of a record asks nothing more -/
theorem rdRec_ok {f : List UInt8} {r : Rc} (h : rdRec f = (r, 0)) {w : World} {L D : SV} (hE : EnM w r.e L D) : RsOk ⟨r, L, D⟩ ∧ numsE r.e := by
  obtain ⟨h1, h2, h3⟩ := rdRec_yes h
  obtain ⟨v1, v2⟩ := rdRec_in h
  obtain ⟨v3, v4, v5⟩ := od_facts v1
  have e1 := hE.od.rd.len
  have e2 := hE.rd.len
  refine ⟨⟨?_, ?_, v4, v5⟩, ?_⟩
  · show L.n ≤ _; omega
  · show D.n ≤ _; omega
  · unfold numsE
    rcases v1 with v1 | v1
    · rw [v1]; exact ⟨⟨by decide, by decide⟩, fun l hl => by cases hl⟩
    · exact ⟨v1.2.2.2.2.2.1, fun l hl => (v1.2.2.2.2.2.2.2.1 l hl).2⟩
/-- records that the call made: the row, and what its records' lists hold -/
structure RsN (w W : World) (A : Option Addr) (n c : Nat) (xs : List Rs) : Prop where
  ow : OwR W A n c xs
  mem : RsM W xs
  far : FarsR (fp A) xs
  new : Fresh w A
  news : ∀ x ∈ xs, Fresh w x.L.a ∧ Fresh w x.D.a
  ok : ∀ x ∈ xs, RsOk x ∧ numsE x.r.e
theorem RsN.nil (w W : World) : RsN w W none 0 0 [] := ⟨Ow.nil _ _ _, fun x hx => by (cases hx), fun x hx => by (cases hx), fun a ha => by (cases ha), fun x hx => by (cases hx), fun x hx => by (cases hx)⟩
theorem RsN.mod0 {w W W' : World} {A : Option Addr} {n c : Nat} {xs : List Rs} (h : RsN w W A n c xs) (hm : Mod none_ W W') : RsN w W' A n c xs := ⟨h.ow.mod0 hm, h.mem.mod0 hm, h.far, h.new, h.news, h.ok⟩
theorem RsN.len {w W : World} {A : Option Addr} {n c : Nat} {xs : List Rs} (h : RsN w W A n c xs) : xs.length = n := OwR.len h.ow
theorem RsN.list {w W : World} {A : Option Addr} {n c : Nat} {xs : List Rs} (h : RsN w W A n c xs) : RsL W A n xs := ⟨h.ow.rd, h.mem, fun x hx => (h.ok x hx).1, fun x hx => (h.ok x hx).2⟩
theorem RsN.weaken {w w1 W : World} {A : Option Addr} {n c : Nat} {xs : List Rs} (h : RsN w1 W A n c xs) (h0 : w.heap.size ≤ w1.heap.size) : RsN w W A n c xs := ⟨h.ow, h.mem, h.far, fun a ha => Nat.le_trans h0 (h.new a ha), fun x hx => ⟨fun a ha => Nat.le_trans h0 ((h.news x hx).1 a ha), fun a ha => Nat.le_trans h0 ((h.news x hx).2 a ha)⟩, h.ok⟩
/-- what is changed below leaves them -/
theorem RsN.modB {w W W' : World} {A : Option Addr} {n c : Nat} {xs : List Rs} (h : RsN w W A n c xs) {F : Nat → Prop} (hm : Mod F W W') (hF : ∀ k, F k → k < w.heap.size) : RsN w W' A n c xs := by
  have key : ∀ {B : Option Addr}, Fresh w B → ∀ k, fp B k → ¬ F k := fun hB k ⟨a, ha, hk⟩ hf => by have := hB a ha; have := hF k hf; omega
  exact ⟨h.ow.mod hm (key h.new), h.mem.mod (fun x hx => ⟨fun _ => key (h.news x hx).1, fun _ => key (h.news x hx).2⟩) hm, h.far, h.new, h.news, h.ok⟩
theorem RsN.push {w w1 W W' : World} {A A' : Option Addr} {n c c' : Nat} {xs : List Rs} (h : RsN w W A n c xs) (h0 : w.heap.size ≤ W.heap.size) {x : Rs} (hx : EnM W x.r.e x.L x.D) (hA1 : ∀ k, fp A k → k < w1.heap.size) (hw1 : w.heap.size ≤ w1.heap.size) (hxf : Fresh w1 x.L.a ∧ Fresh w1 x.D.a) (hok : RsOk x ∧ numsE x.r.e)
    (ho : OwR W' A' (n + 1) c' (xs ++ [x])) (hm : Mod (fp A) W W') (hA : A' = A ∨ A' = some ⟨W.heap.size, 0, none⟩) : RsN w W' A' (n + 1) c' (xs ++ [x]) := by
  have hxfar : FarR (fp A) x := ⟨fun _ k ⟨a, ha, hk⟩ hf => by have := hxf.1 a ha; have := hA1 k hf; omega, fun _ k ⟨a, ha, hk⟩ hf => by have := hxf.2 a ha; have := hA1 k hf; omega⟩
  have hall : ∀ y ∈ xs ++ [x], EnM W y.r.e y.L y.D ∧ FarR (fp A) y := fun y hy => by
    rcases List.mem_append.1 hy with hy | hy
    · exact ⟨h.mem y hy, h.far y hy⟩
    · simp at hy; subst hy; exact ⟨hx, hxfar⟩
  refine ⟨ho, fun y hy => (hall y hy).2.en (hall y hy).1 hm, fun y hy => ?_, ?_, fun y hy => ?_, fun y hy => ?_⟩
  · rcases hA with rfl | rfl
    · exact (hall y hy).2
    · exact farR_new (hall y hy).1 (fun k ⟨a, ha, hk⟩ => by cases ha; simp at hk; omega)
  · rcases hA with rfl | rfl
    · exact h.new
    · intro a ha; cases ha; exact h0
  · rcases List.mem_append.1 hy with hy | hy
    · exact h.news y hy
    · simp at hy; subst hy; exact ⟨fun a ha => Nat.le_trans hw1 (hxf.1 a ha), fun a ha => Nat.le_trans hw1 (hxf.2 a ha)⟩
  · rcases List.mem_append.1 hy with hy | hy
    · exact h.ok y hy
    · simp at hy; subst hy; exact hok
theorem scanF_short : ∀ (k : Nat) (l : List UInt8), ∀ f ∈ (scanF k l).1, f.length ≤ 4096
  | 0, _, f, h => by simp [scanF] at h
  | k + 1, l, f, h => by
    simp only [scanF] at h
    split at h
    · cases h
    · split at h
      · cases h
      · rename_i h1
        rcases List.mem_cons.1 h with rfl | h
        · have hb : (body l).length ≤ num l := by unfold body; rw [List.length_take]; omega
          have hn : num l ≤ 4096 := by
            unfold stopE at h1
            by_cases c1 : l.length < 2
            · rw [if_pos c1] at h1; omega
            · rw [if_neg c1] at h1
              by_cases c2 : num l < 1 ∨ 4096 < num l
              · rw [if_pos c2] at h1; omega
              · omega
          omega
        · exact scanF_short k _ f h
theorem scan_short (b : List UInt8) : ∀ f ∈ (scan b).1, f.length ≤ 4096 := scanF_short _ b
def LScanPost (w : World) (b : List UInt8) (e : Ending) (w' : World) : Prop :=
  ∃ A n c xs, e = .returned (.tuple #[.slice A n c, .int .i64 ((logScan b).2 : Nat)]) ∧ RsN w w' A n c xs ∧ xs.map (·.r) = (logScan b).1 ∧ Mod none_ w w'
set_option maxRecDepth 100000 in
set_option maxHeartbeats 8000000 in
theorem logScan_ok (w : World) (A : Option Addr) (n c : Nat) (b : List UInt8) (h : RdB w A n b) (hn : n ≤ c) (hc : c ≤ 9223372036854775807) (hs : n ≤ 1000000) :
    Calls Tryz.prog 7 #[.slice A n c] w (LScanPost w b) := by
  have hl := h.len
  have kS := Lib.hid (scan_ok w A n c b h hn hc hs)
  have hle := scan_le b
  have hsh := scan_short b
  replace h := Lib.hid h
  go_enter Tryz.func7, Tryz.ntmps7
  go_wp2_with fail
  go_step3
  go_wp2_with fail
  refine kS.out.mono ?_
  rintro e w1 ⟨LA, m, lc, ss, rfl, hL, hLA, hm1⟩
  dsimp only
  have hsc : (logScan b) = scanR (scan b).1 := rfl
  have hLl := hL.len
  have hLe := hle.1
  generalize (scan b).1 = fs at *
  generalize (scan b).2.1 = sn at *
  generalize (scan b).2.2 = se at *
  rw [hl] at hLe
  have hmn : m ≤ 1000000 := by omega
  replace hL := Lib.hid hL
  replace hLA := Lib.hid hLA
  replace hm1 := Lib.hid hm1
  replace hsc := Lib.hid hsc
  replace hLl := Lib.hid hLl
  replace hsh := Lib.hid hsh
  clear kS hle
  go_wp2_with fail
  go_step3
  go_wp2_with fail
  go_loopw [7, 8, 23] (fun v s y wr => ∃ (j q : Nat) (B : Option Addr) (d : Nat) (xs : List Rs), y = .int .i64 j ∧ j ≤ m ∧ v = .slice B j d ∧ s = .int .i64 q ∧ q ≤ j * 5000 ∧ RsN w1 wr B j d xs ∧ Mod none_ w1 wr ∧ (scanR fs).1 = xs.map (·.r) ++ (scanR (fs.drop j)).1 ∧ (scanR fs).2 = q + (scanR (fs.drop j)).2) (fun _ _ y _ => m - (intOf y).toNat)
  case atStart => exact ⟨0, 0, none, 0, [], rfl, by omega, rfl, rfl, by omega, (RsN.nil w1 w1), Mod.refl _ _, by simp, by simp⟩
  case round =>
    obtain ⟨j, q, B, d, xs, rfl, hj, rfl, rfl, hq, hN, hm, e1, e2⟩ := hrel
    by_cases hlt : j < m
    · obtain ⟨g, o, ⟨Sa, Sn, Sc⟩, f, hA, hs1, hf1, hcell, hrb, hsn, hscap⟩ := RdLb.at_ (RdLb.mod0 hL.out.rdl hm) hlt
      subst hA
      simp only at hcell hrb hsn hscap
      have hfs := drop_at hf1
      have hfl := hsh.out f (List.mem_of_getElem? hf1)
      have hfn := hrb.len
      have hf0 : Sn ≤ 4096 := by omega
      have kR := logRead_ok wr Sa Sn Sc f hrb (by omega)
      obtain ⟨x, er, hxe⟩ := duo_ (rdRec f)
      rw [hxe] at kR
      rw [hfs] at e1 e2
      have hz : ∀ W, Hid (Blk (World.alloc W (.cells #[.int .i64 0, .int .i64 0, .int .i64 0, .int .i64 0, .int .i64 0, .int .i64 0, .int .i64 0, .int .i64 0, .string ⟨#[]⟩, .string ⟨#[]⟩, .int .i64 0, .slice none 0 0, .int .i64 0, .int .i64 0, .string ⟨#[]⟩, .bool false, .slice none 0 0] 37)) W.heap.size 37 #[.int .i64 0, .int .i64 0, .int .i64 0, .int .i64 0, .int .i64 0, .int .i64 0, .int .i64 0, .int .i64 0, .string ⟨#[]⟩, .string ⟨#[]⟩, .int .i64 0, .slice none 0 0, .int .i64 0, .int .i64 0, .string ⟨#[]⟩, .bool false, .slice none 0 0]) := fun W => Lib.hid (Blk.new W 37 #[.int .i64 0, .int .i64 0, .int .i64 0, .int .i64 0, .int .i64 0, .int .i64 0, .int .i64 0, .int .i64 0, .string ⟨#[]⟩, .string ⟨#[]⟩, .int .i64 0, .slice none 0 0, .int .i64 0, .int .i64 0, .string ⟨#[]⟩, .bool false, .slice none 0 0])
      replace kR := Lib.hid kR
      replace hN := Lib.hid hN
      replace hm := Lib.hid hm
      replace e1 := Lib.hid e1
      replace e2 := Lib.hid e2
      replace hs1 := Lib.hid hs1
      replace hf1 := Lib.hid hf1
      replace hfs := Lib.hid hfs
      replace hrb := Lib.hid hrb
      replace hxe := Lib.hid hxe
      replace hfl := Lib.hid hfl
      replace hfn := Lib.hid hfn
      go_wp2_with fail
      with_reducible refine kR.out.mono ?_
      rintro e w3 ⟨x3, f3, L3, D3, he, rfl, hE3, hfL, hfD, hm3⟩
      simp only [Prod.mk.injEq] at he
      obtain ⟨rfl, rfl⟩ := he
      dsimp only
      have hz3 := hz w3
      have hM3 := Lib.hid (hm.out.trans hm3)
      have hN3 := Lib.hid (hN.out.mod0 hm3)
      have hrb3 := Lib.hid (Rd.mod0 hrb.out hm3 : RdB w3 Sa Sn f)
      have hNlt := Lib.hid (hN.out.ow.lt)
      have hm13 := Lib.hid hm.out
      clear kR hm3 hN hm
      replace hE3 := Lib.hid hE3
      replace hfL := Lib.hid hfL
      replace hfD := Lib.hid hfD
      by_cases her : er = 0
      · subst her
        have hrr := rdRec_yes hxe.out
        have hle1 : 1 ≤ Sn := by have := hfn.out; have := hrr.2.1; have := recB_pos x; rw [← hrr.2.1] at this; omega
        have hok := Lib.hid (rdRec_ok hxe.out hE3.out)
        replace e1 := e1.out
        replace e2 := e2.out
        rw [scanR_yes hxe.out] at e1 e2
        replace e1 := Lib.hid e1
        replace e2 := Lib.hid e2
        clear hrr
        have h00 : (((0 : Nat) : Int)) = 0 := rfl
        rw [h00]
        clear h00
        go_wp2_with (refine wpList_store_blk rfl 37 (.tmp 11) (.tmp 30) rfl w3.heap.size 0 _ rfl rfl hz3.out (by simp) rc_size (by rfl) #[.int .i64 x.i.r, .int .i64 x.i.n, .int .i64 x.bal, .int .i64 x.st, .int .i64 x.by_, .int .i64 x.e.o.c, .int .i64 x.e.o.s, .int .i64 x.e.o.k, .string (txt x.e.o.acct), .string (txt x.e.o.peer), .int .i64 x.e.o.sum, .slice L3.a L3.n L3.c, .int .i64 x.e.o.per, .int .i64 x.e.o.hold, .string (txt x.e.o.note), .bool x.e.none, .slice D3.a D3.n D3.c] rfl ?_; intro w4 hb4 hm4; have hm4' := Lib.hid (((Mod.refl none_ w3).alloc (.cells #[.int .i64 0, .int .i64 0, .int .i64 0, .int .i64 0, .int .i64 0, .int .i64 0, .int .i64 0, .int .i64 0, .string ⟨#[]⟩, .string ⟨#[]⟩, .int .i64 0, .slice none 0 0, .int .i64 0, .int .i64 0, .string ⟨#[]⟩, .bool false, .slice none 0 0] 37)).in_new (Nat.le_refl _) hm4); replace hb4 := Lib.hid hb4; clear hm4)
        have hM4 := Lib.hid (hM3.out.trans hm4'.out)
        have kF := Lib.hid (frame_yes w4 Sa Sn Sc f (Rd.mod0 hrb3.out hm4'.out) hle1 hf0)
        with_reducible refine kF.out.mono ?_
        rintro e w5 ⟨A5, c5, rfl, -, -, hm5⟩
        dsimp only
        have hM5 := Lib.hid (hM4.out.trans hm5)
        have hmm := hm4'.out.trans hm5
        have hN5 := Lib.hid ((hN3.out.mod0 hmm).mod0 ((Mod.refl none_ w5).alloc (.cells #[.int .i64 x.i.r, .int .i64 x.i.n, .int .i64 x.bal, .int .i64 x.st, .int .i64 x.by_, .int .i64 x.e.o.c, .int .i64 x.e.o.s, .int .i64 x.e.o.k, .string (txt x.e.o.acct), .string (txt x.e.o.peer), .int .i64 x.e.o.sum, .slice L3.a L3.n L3.c, .int .i64 x.e.o.per, .int .i64 x.e.o.hold, .string (txt x.e.o.note), .bool x.e.none, .slice D3.a D3.n D3.c] 37)))
        have hE5 := Lib.hid ((hE3.out.mod0 hmm).mod0 ((Mod.refl none_ w5).alloc (.cells #[.int .i64 x.i.r, .int .i64 x.i.n, .int .i64 x.bal, .int .i64 x.st, .int .i64 x.by_, .int .i64 x.e.o.c, .int .i64 x.e.o.s, .int .i64 x.e.o.k, .string (txt x.e.o.acct), .string (txt x.e.o.peer), .int .i64 x.e.o.sum, .slice L3.a L3.n L3.c, .int .i64 x.e.o.per, .int .i64 x.e.o.hold, .string (txt x.e.o.note), .bool x.e.none, .slice D3.a D3.n D3.c] 37)))
        have hb5 := Lib.hid (hb4.out.mod hm5 (fun h => h))
        have hone := Lib.hid (rdR_one w5 ⟨x, L3, D3⟩)
        have hM6 := Lib.hid (hM5.out.alloc (.cells #[.int .i64 x.i.r, .int .i64 x.i.n, .int .i64 x.bal, .int .i64 x.st, .int .i64 x.by_, .int .i64 x.e.o.c, .int .i64 x.e.o.s, .int .i64 x.e.o.k, .string (txt x.e.o.acct), .string (txt x.e.o.peer), .int .i64 x.e.o.sum, .slice L3.a L3.n L3.c, .int .i64 x.e.o.per, .int .i64 x.e.o.hold, .string (txt x.e.o.note), .bool x.e.none, .slice D3.a D3.n D3.c] 37))
        have hsz := Lib.hid (show w1.heap.size ≤ (w5.alloc (.cells #[.int .i64 x.i.r, .int .i64 x.i.n, .int .i64 x.bal, .int .i64 x.st, .int .i64 x.by_, .int .i64 x.e.o.c, .int .i64 x.e.o.s, .int .i64 x.e.o.k, .string (txt x.e.o.acct), .string (txt x.e.o.peer), .int .i64 x.e.o.sum, .slice L3.a L3.n L3.c, .int .i64 x.e.o.per, .int .i64 x.e.o.hold, .string (txt x.e.o.note), .bool x.e.none, .slice D3.a D3.n D3.c] 37)).heap.size from hM6.out.size)
        clear hm5 hmm hm4' hb4 kF hz3 hrb3 hE3 hN3 hM3 hM4 hM5
        go_wp2_with (first
          | (refine wpList_load_row rfl 37 (.tmp 11) rfl w3.heap.size rfl _ _ _ _ hb5.out Tryz.underlying37 rfl rc_size ?_)
          | (at_builtin; go_loud (refine appR rfl (.tmp 39) (.tmp 41) rfl rfl hN5.out.ow rfl hone.out (by omega) ?_; intro A7 c7 w7 ho7 hm7 hA7; replace ho7 := Lib.hid ho7; replace hm7 := Lib.hid hm7; replace hA7 := Lib.hid hA7)))
        go_roundw
        case rel =>
          refine ⟨j + 1, q + (6 + Sn), A7, c7, xs ++ [⟨x, L3, D3⟩], by go_num, by omega, rfl, by go_num, by omega, hN5.out.push (w1 := wr) hsz.out hE5.out hNlt.out hm13.out.size ⟨hfL.out, hfD.out⟩ hok.out ho7.out hm7.out hA7.out, ?_, ?_, ?_⟩
          · exact hM6.out.then hm7.out (fun i hi hf => by obtain ⟨a, ha, hk⟩ := hf; have := hN5.out.new a ha; omega)
          · rw [e1.out]; simp
          · rw [e2.out, hfn.out]; omega
        case measure => simp [intOf]; omega
      · have her2 : ((er : Int) != 0) = true := by simp; omega
        have hres : logScan b = (xs.map (·.r), q) := by
          have h1 := e1.out; have h2 := e2.out
          rw [scanR_no (by rw [hxe.out]; exact her)] at h1 h2
          rw [hsc.out]
          exact Prod.ext (by rw [h1]; simp) (by rw [h2]; simp)
        replace hres := Lib.hid hres
        clear e1 e2 her hrb3 hE3
        go_wp2_with (refine wpList_store_blk rfl 37 (.tmp 11) (.tmp 30) rfl w3.heap.size 0 _ rfl rfl hz3.out (by simp) rc_size (by rfl) #[.int .i64 x.i.r, .int .i64 x.i.n, .int .i64 x.bal, .int .i64 x.st, .int .i64 x.by_, .int .i64 x.e.o.c, .int .i64 x.e.o.s, .int .i64 x.e.o.k, .string (txt x.e.o.acct), .string (txt x.e.o.peer), .int .i64 x.e.o.sum, .slice L3.a L3.n L3.c, .int .i64 x.e.o.per, .int .i64 x.e.o.hold, .string (txt x.e.o.note), .bool x.e.none, .slice D3.a D3.n D3.c] rfl ?_; intro w4 hb4 hm4; have hm4' := Lib.hid (((Mod.refl none_ w3).alloc (.cells #[.int .i64 0, .int .i64 0, .int .i64 0, .int .i64 0, .int .i64 0, .int .i64 0, .int .i64 0, .int .i64 0, .string ⟨#[]⟩, .string ⟨#[]⟩, .int .i64 0, .slice none 0 0, .int .i64 0, .int .i64 0, .string ⟨#[]⟩, .bool false, .slice none 0 0] 37)).in_new (Nat.le_refl _) hm4); clear hm4 hb4)
        rw [Exit.noGoto_ret]
        go_ret2
        exact ⟨B, j, d, xs, by rw [hres.out] <;> rfl, (hN3.out.mod0 hm4'.out).weaken hm1.out.size, by rw [hres.out], hm1.out.trans (hM3.out.trans hm4'.out)⟩
    · obtain rfl : j = m := by omega
      have hres : logScan b = (xs.map (·.r), q) := by
        rw [List.drop_of_length_le (by rw [hLl.out]; exact Nat.le_refl _)] at e1 e2
        rw [hsc.out]
        exact Prod.ext (by rw [e1]; simp [scanR]) (by rw [e2]; simp [scanR])
      have hend : LScanPost w b (.returned (.tuple #[.slice B j d, .int .i64 (q : Int)])) wr := ⟨B, j, d, xs, by rw [hres], hN.weaken hm1.out.size, by rw [hres], hm1.out.trans hm⟩
      replace hend := Lib.hid hend
      replace hN := Lib.hid hN
      replace hm := Lib.hid hm
      replace e1 := Lib.hid e1
      replace e2 := Lib.hid e2
      clear hres
      go_wp2_with fail
      rw [Exit.noGoto_ret]
      go_ret2
      exact hend.out
end Go.Proofs.YtimlfdihodoolaaGreat
/-
  How records stand: log.Last's comparing, to the world. No condition.
-/
namespace Go.Proofs.YtimlfdihodoolaaGreat
set_option linter.unusedVariables false
set_option linter.unusedSimpArgs false
open Go.RowKit
/-- draws, and new blocks behind -/
def Lay (W W' : World) : Prop := ∃ q os, W' = Sort.grow (W.drewN q) os
theorem Lay.refl (W : World) : Lay W W := ⟨0, #[], by rw [Sort.grow_empty] <;> rfl⟩
theorem Lay.alloc {W W' : World} (h : Lay W W') (o : Obj) : Lay W (W'.alloc o) := by
  obtain ⟨q, os, rfl⟩ := h
  exact ⟨q, os.push o, by simp [Sort.grow, World.alloc]⟩
theorem Lay.drew {W W' : World} (h : Lay W W') : Lay W W'.drew := by
  obtain ⟨q, os, rfl⟩ := h
  exact ⟨q + 1, os, rfl⟩
theorem Lay.trans {W W' W'' : World} (h : Lay W W') (k : Lay W' W'') : Lay W W'' := by
  obtain ⟨q, os, rfl⟩ := h
  obtain ⟨q', os', rfl⟩ := k
  refine ⟨q + q', os ++ os', ?_⟩
  simp [Sort.grow, World.drewN, Array.append_assoc, Nat.add_assoc]
theorem Lay.mod {W W' : World} (h : Lay W W') : Mod none_ W W' := by
  obtain ⟨q, os, rfl⟩ := h
  exact ⟨rfl, rfl, rfl, by simp [Sort.grow, World.drewN], fun i hi _ => by show (W.heap ++ os)[i]? = _; rw [Array.getElem?_append_left hi]⟩
set_option maxRecDepth 100000 in
set_option maxHeartbeats 4000000 in
theorem compare_lay (w : World) (a b : Is) : Calls Tryz.prog 66 #[.agg #[.int .i64 a.r, .int .i64 a.n], .agg #[.int .i64 b.r, .int .i64 b.n]] w fun e w' => e = .returned (.int .i64 (cmpIs a b)) ∧ Lay w w' := by
  obtain ⟨ar, an⟩ := a
  obtain ⟨br, bn⟩ := b
  dsimp only
  have kC := Lib.hid (fun W a b => cmpI_ok W a b)
  obtain ⟨z, hz⟩ : ∃ z, cmpIs ⟨ar, an⟩ ⟨br, bn⟩ = z := ⟨_, rfl⟩
  rw [hz]
  have kO := Lib.hid (fun W b h => show Calls Tryz.prog 87 #[.slice (some ⟨b, 0, none⟩) 2 2] W (fun e w' => e = .returned (.int .i64 z) ∧ W = w') from by
    rw [← hz]; exact or2_ok W b (cmpI ar br) (cmpI an bn) h)
  clear hz
  go_enter Tryz.func66, Tryz.ntmps66
  go_wp2_with fail
  go_region_held3 (fun W => W.cell? ⟨w.heap.size, 0, none⟩ = some (.int .i64 ar) ∧ W.cell? ⟨w.heap.size, 1, none⟩ = some (.int .i64 an) ∧ W.cell? ⟨w.heap.size + 1, 0, none⟩ = some (.int .i64 br) ∧ W.cell? ⟨w.heap.size + 1, 1, none⟩ = some (.int .i64 bn)) (go_keep)
    (first | (go_at_call 88; with_reducible refine (kC.out _ _ _).mono ?_; rintro e w1 ⟨rfl, rfl⟩) | (go_at_call 87; refine (kO.out _ _ (by show RdI _ _ _ _; exact rdn _ _ 1 2 _ _ (0, 0) (by simp) rfl)).mono ?_; rintro e w1 ⟨rfl, rfl⟩))
  go_wp2_with fail
  go_ret
  exact ⟨rfl, ((((Lay.refl w).alloc _).alloc _).alloc _).drew⟩
set_option maxRecDepth 100000 in
theorem ahead_lay (w : World) (a b : Is) : Calls Tryz.prog 38 #[.agg #[.int .i64 a.r, .int .i64 a.n], .agg #[.int .i64 b.r, .int .i64 b.n]] w fun e w' => e = .returned (.bool (isLt a b)) ∧ Lay w w' := by
  have kC := Lib.hid (fun W => compare_lay W a b)
  have hz := cmpIs_lt a b
  generalize cmpIs a b = z at *
  replace hz := Lib.hid hz
  go_enter Tryz.func38, Tryz.ntmps38
  go_wp2_with fail
  with_reducible refine (kC.out _).mono ?_
  rintro e w1 ⟨rfl, hm⟩
  dsimp only
  have hm1 := (((Lay.refl w).alloc _).alloc _).trans hm
  replace hm := Lib.hid hm
  replace hm1 := Lib.hid hm1
  go_wp2_with fail
  go_ret
  exact ⟨by rw [← hz.out] <;> rfl, hm1.out⟩
def cfR (x y : Rs) : Int := if isLt x.r.i y.r.i then -1 else if x.r.i = y.r.i then 0 else 1
set_option maxRecDepth 100000 in
set_option maxHeartbeats 4000000 in
theorem lastCmp_ok (w : World) (x y : Rs) : Calls Tryz.prog 37 #[.agg #[.int .i64 x.r.i.r, .int .i64 x.r.i.n, .int .i64 x.r.bal, .int .i64 x.r.st, .int .i64 x.r.by_, .int .i64 x.r.e.o.c, .int .i64 x.r.e.o.s, .int .i64 x.r.e.o.k, .string (txt x.r.e.o.acct), .string (txt x.r.e.o.peer), .int .i64 x.r.e.o.sum, .slice x.L.a x.L.n x.L.c, .int .i64 x.r.e.o.per, .int .i64 x.r.e.o.hold, .string (txt x.r.e.o.note), .bool x.r.e.none, .slice x.D.a x.D.n x.D.c], .agg #[.int .i64 y.r.i.r, .int .i64 y.r.i.n, .int .i64 y.r.bal, .int .i64 y.r.st, .int .i64 y.r.by_, .int .i64 y.r.e.o.c, .int .i64 y.r.e.o.s, .int .i64 y.r.e.o.k, .string (txt y.r.e.o.acct), .string (txt y.r.e.o.peer), .int .i64 y.r.e.o.sum, .slice y.L.a y.L.n y.L.c, .int .i64 y.r.e.o.per, .int .i64 y.r.e.o.hold, .string (txt y.r.e.o.note), .bool y.r.e.none, .slice y.D.a y.D.n y.D.c]] w fun e w' => e = .returned (.int .i64 (cfR x y)) ∧ Lay w w' := by
  have kA := Lib.hid (fun W => ahead_lay W x.r.i y.r.i)
  have hb1 := Lib.hid ((Blk.new w 37 #[.int .i64 x.r.i.r, .int .i64 x.r.i.n, .int .i64 x.r.bal, .int .i64 x.r.st, .int .i64 x.r.by_, .int .i64 x.r.e.o.c, .int .i64 x.r.e.o.s, .int .i64 x.r.e.o.k, .string (txt x.r.e.o.acct), .string (txt x.r.e.o.peer), .int .i64 x.r.e.o.sum, .slice x.L.a x.L.n x.L.c, .int .i64 x.r.e.o.per, .int .i64 x.r.e.o.hold, .string (txt x.r.e.o.note), .bool x.r.e.none, .slice x.D.a x.D.n x.D.c]).alloc (.cells #[.int .i64 y.r.i.r, .int .i64 y.r.i.n, .int .i64 y.r.bal, .int .i64 y.r.st, .int .i64 y.r.by_, .int .i64 y.r.e.o.c, .int .i64 y.r.e.o.s, .int .i64 y.r.e.o.k, .string (txt y.r.e.o.acct), .string (txt y.r.e.o.peer), .int .i64 y.r.e.o.sum, .slice y.L.a y.L.n y.L.c, .int .i64 y.r.e.o.per, .int .i64 y.r.e.o.hold, .string (txt y.r.e.o.note), .bool y.r.e.none, .slice y.D.a y.D.n y.D.c] 37))
  have hb2 := Lib.hid (Blk.new (w.alloc (.cells #[.int .i64 x.r.i.r, .int .i64 x.r.i.n, .int .i64 x.r.bal, .int .i64 x.r.st, .int .i64 x.r.by_, .int .i64 x.r.e.o.c, .int .i64 x.r.e.o.s, .int .i64 x.r.e.o.k, .string (txt x.r.e.o.acct), .string (txt x.r.e.o.peer), .int .i64 x.r.e.o.sum, .slice x.L.a x.L.n x.L.c, .int .i64 x.r.e.o.per, .int .i64 x.r.e.o.hold, .string (txt x.r.e.o.note), .bool x.r.e.none, .slice x.D.a x.D.n x.D.c] 37)) 37 #[.int .i64 y.r.i.r, .int .i64 y.r.i.n, .int .i64 y.r.bal, .int .i64 y.r.st, .int .i64 y.r.by_, .int .i64 y.r.e.o.c, .int .i64 y.r.e.o.s, .int .i64 y.r.e.o.k, .string (txt y.r.e.o.acct), .string (txt y.r.e.o.peer), .int .i64 y.r.e.o.sum, .slice y.L.a y.L.n y.L.c, .int .i64 y.r.e.o.per, .int .i64 y.r.e.o.hold, .string (txt y.r.e.o.note), .bool y.r.e.none, .slice y.D.a y.D.n y.D.c])
  have hl0 := Lib.hid (((Lay.refl w).alloc (.cells #[.int .i64 x.r.i.r, .int .i64 x.r.i.n, .int .i64 x.r.bal, .int .i64 x.r.st, .int .i64 x.r.by_, .int .i64 x.r.e.o.c, .int .i64 x.r.e.o.s, .int .i64 x.r.e.o.k, .string (txt x.r.e.o.acct), .string (txt x.r.e.o.peer), .int .i64 x.r.e.o.sum, .slice x.L.a x.L.n x.L.c, .int .i64 x.r.e.o.per, .int .i64 x.r.e.o.hold, .string (txt x.r.e.o.note), .bool x.r.e.none, .slice x.D.a x.D.n x.D.c] 37)).alloc (.cells #[.int .i64 y.r.i.r, .int .i64 y.r.i.n, .int .i64 y.r.bal, .int .i64 y.r.st, .int .i64 y.r.by_, .int .i64 y.r.e.o.c, .int .i64 y.r.e.o.s, .int .i64 y.r.e.o.k, .string (txt y.r.e.o.acct), .string (txt y.r.e.o.peer), .int .i64 y.r.e.o.sum, .slice y.L.a y.L.n y.L.c, .int .i64 y.r.e.o.per, .int .i64 y.r.e.o.hold, .string (txt y.r.e.o.note), .bool y.r.e.none, .slice y.D.a y.D.n y.D.c] 37))
  have hei := fun W => eql_is W x.r.i y.r.i
  unfold isV at hei
  have hcf : cfR x y = if isLt x.r.i y.r.i then -1 else if x.r.i = y.r.i then 0 else 1 := rfl
  obtain ⟨z, hz⟩ : ∃ z, z = cfR x y := ⟨_, rfl⟩
  rw [← hz] at hcf ⊢
  clear hz
  replace hcf := Lib.hid hcf
  go_enter Tryz.func37, Tryz.ntmps37
  go_wp2_with fail
  with_reducible refine (kA.out _).mono ?_
  rintro e w1 ⟨rfl, hl1⟩
  dsimp only
  have hL1 := Lib.hid (hl0.out.trans hl1)
  have hb1' := Lib.hid (hb1.out.mod hl1.mod (fun h => h))
  have hb2' := Lib.hid (hb2.out.mod hl1.mod (fun h => h))
  have hsz : (w.alloc (.cells #[.int .i64 x.r.i.r, .int .i64 x.r.i.n, .int .i64 x.r.bal, .int .i64 x.r.st, .int .i64 x.r.by_, .int .i64 x.r.e.o.c, .int .i64 x.r.e.o.s, .int .i64 x.r.e.o.k, .string (txt x.r.e.o.acct), .string (txt x.r.e.o.peer), .int .i64 x.r.e.o.sum, .slice x.L.a x.L.n x.L.c, .int .i64 x.r.e.o.per, .int .i64 x.r.e.o.hold, .string (txt x.r.e.o.note), .bool x.r.e.none, .slice x.D.a x.D.n x.D.c] 37)).heap.size = w.heap.size + 1 := by simp
  rw [hsz] at hb2'
  clear hl1 hsz hb1 hb2 hl0 kA
  cases hlt : isLt x.r.i y.r.i with
  | true =>
    rw [hlt] at hcf
    have hz : z = -1 := hcf.out
    clear hcf
    replace hz := Lib.hid hz
    replace hlt := Lib.hid hlt
    go_wp2_with fail
    go_ret
    exact ⟨by rw [hz.out] <;> rfl, hL1.out⟩
  | false =>
    rw [hlt] at hcf
    have hcf' : z = if x.r.i = y.r.i then 0 else 1 := hcf.out
    clear hcf
    by_cases he : x.r.i = y.r.i
    · rw [if_pos he] at hcf'
      have hde : decide (x.r.i = y.r.i) = true := decide_eq_true he
      replace hcf' := Lib.hid hcf'
      replace he := Lib.hid he
      replace hlt := Lib.hid hlt
      go_wp2_with (first
        | (refine wpList_load_blk rfl 25 (.tmp 12) rfl w.heap.size 0 rfl hb1'.out [.int .i64 x.r.i.r, .int .i64 x.r.i.n] rfl Tryz.underlying25 rfl inst_size ?_)
        | (refine wpList_load_blk rfl 25 (.tmp 14) rfl (w.heap.size + 1) 0 rfl hb2'.out [.int .i64 y.r.i.r, .int .i64 y.r.i.n] rfl Tryz.underlying25 rfl inst_size ?_))
      go_ret
      exact ⟨by rw [hcf'.out] <;> rfl, hL1.out⟩
    · rw [if_neg he] at hcf'
      have hde : decide (x.r.i = y.r.i) = false := decide_eq_false he
      replace hcf' := Lib.hid hcf'
      replace he := Lib.hid he
      replace hlt := Lib.hid hlt
      go_wp2_with (first
        | (refine wpList_load_blk rfl 25 (.tmp 12) rfl w.heap.size 0 rfl hb1'.out [.int .i64 x.r.i.r, .int .i64 x.r.i.n] rfl Tryz.underlying25 rfl inst_size ?_)
        | (refine wpList_load_blk rfl 25 (.tmp 14) rfl (w.heap.size + 1) 0 rfl hb2'.out [.int .i64 y.r.i.r, .int .i64 y.r.i.n] rfl Tryz.underlying25 rfl inst_size ?_))
      go_ret
      exact ⟨by rw [hcf'.out] <;> rfl, hL1.out⟩
end Go.Proofs.YtimlfdihodoolaaGreat
/-
  DERIVED: THE SHELF's CONTRACTS AT THIS DUMP, IN PLAIN WORDS (tools/lay-plain.mjs out of 'TryzSortF.lean', which tools/lay-shelf.mjs wrote): THE SAME DECLARATIONS UNDER THE SAME NAMES: 'import', 'namespace', 'open', 'def', 'theorem' AND NOTHING ELSE: no command of the shelf's: FOR A HAND-IN. Each laying: the table of numbers ('.._ren') and one theorem, a field a fact of the dump's own or the kernel's comparison; each contract: ONE APPLICATION.
-/
namespace Go.Proofs
open Go.Shelf
def Tryz.sortf64_ren : Go.Shelf.Ren := ⟨fun | 6 => 64 | 15 => 86 | 14 => 85 | 28 => 104 | 29 => 105 | 20 => 96 | 21 => 97 | 22 => 98 | 23 => 99 | 24 => 100 | 25 => 101 | 26 => 102 | 27 => 103 | 46 => 125 | 47 => 126 | 48 => 127 | 49 => 128 | 50 => 129 | 57 => 131 | n => n, fun | 22 => 41 | 24 => 37 | 25 => 87 | 3 => 3 | 39 => 101 | 0 => 0 | 53 => 103 | 55 => 114 | 4 => 4 | 46 => 139 | 45 => 138 | 50 => 143 | 5 => 5 | 9 => 9 | 66 => 148 | 70 => 152 | 76 => 156 | 77 => 157 | n => n, fun | n => n⟩
theorem Tryz.sortf64 : Go.Proofs.SlLaysF0.n6 Tryz.prog Tryz.sortf64_ren := {
  mixed := by kernel_rfl
  f6 := ⟨Tryz.f64.name, by decide, Tryz.func64.trans (congrArg some (by kernel_rfl))⟩
  f14 := ⟨Tryz.f85.name, by decide, Tryz.func85.trans (congrArg some (by kernel_rfl))⟩
  f15 := Tryz.func86.trans (congrArg some (by kernel_rfl))
  f20 := ⟨Tryz.f96.name, by decide, Tryz.func96.trans (congrArg some (by kernel_rfl))⟩
  f21 := ⟨Tryz.f97.name, by decide, Tryz.func97.trans (congrArg some (by kernel_rfl))⟩
  f22 := ⟨Tryz.f98.name, by decide, Tryz.func98.trans (congrArg some (by kernel_rfl))⟩
  f23 := ⟨Tryz.f99.name, by decide, Tryz.func99.trans (congrArg some (by kernel_rfl))⟩
  f24 := ⟨Tryz.f100.name, by decide, Tryz.func100.trans (congrArg some (by kernel_rfl))⟩
  f25 := ⟨Tryz.f101.name, by decide, Tryz.func101.trans (congrArg some (by kernel_rfl))⟩
  f26 := ⟨Tryz.f102.name, by decide, Tryz.func102.trans (congrArg some (by kernel_rfl))⟩
  f27 := ⟨Tryz.f103.name, by decide, Tryz.func103.trans (congrArg some (by kernel_rfl))⟩
  f28 := Tryz.func104.trans (congrArg some (by kernel_rfl))
  f29 := Tryz.func105.trans (congrArg some (by kernel_rfl))
  f46 := ⟨Tryz.f125.name, by decide, Tryz.func125.trans (congrArg some (by kernel_rfl))⟩
  f47 := Tryz.func126.trans (congrArg some (by kernel_rfl))
  f48 := Tryz.func127.trans (congrArg some (by kernel_rfl))
  f49 := ⟨Tryz.f128.name, by decide, Tryz.func128.trans (congrArg some (by kernel_rfl))⟩
  f50 := ⟨Tryz.f129.name, by decide, Tryz.func129.trans (congrArg some (by kernel_rfl))⟩
  f57 := ⟨Tryz.f131.name, by decide, Tryz.func131.trans (congrArg some (by kernel_rfl))⟩
  t0 := Tryz.underlying0
  a0 := Tryz.isAgg0
  z0 := Tryz.sizeOf0
  v0 := Tryz.zeroValue0
  t3 := Tryz.underlying3
  a3 := Tryz.isAgg3
  z3 := Tryz.sizeOf3
  v3 := Tryz.zeroValue3
  t4 := Tryz.underlying4
  a4 := Tryz.isAgg4
  z4 := Tryz.sizeOf4
  v4 := Tryz.zeroValue4
  t5 := Tryz.underlying5
  a5 := Tryz.isAgg5
  z5 := Tryz.sizeOf5
  v5 := Tryz.zeroValue5
  t9 := Tryz.underlying9
  a9 := Tryz.isAgg9
  z9 := Tryz.sizeOf9
  v9 := Tryz.zeroValue9
  t22 := Tryz.underlying41
  a22 := Tryz.isAgg41
  z22 := Tryz.sizeOf41
  v22 := Tryz.zeroValue41
  t25 := Tryz.underlying87
  a25 := Tryz.isAgg87
  z25 := Tryz.sizeOf87
  v25 := Tryz.zeroValue87
  t39 := Tryz.underlying101
  a39 := Tryz.isAgg101
  z39 := Tryz.sizeOf101
  v39 := Tryz.zeroValue101
  t45 := Tryz.underlying138
  a45 := Tryz.isAgg138
  z45 := Tryz.sizeOf138
  v45 := Tryz.zeroValue138
  t46 := Tryz.underlying139
  a46 := Tryz.isAgg139
  z46 := Tryz.sizeOf139
  v46 := Tryz.zeroValue139
  t50 := Tryz.underlying143
  a50 := Tryz.isAgg143
  z50 := Tryz.sizeOf143
  v50 := Tryz.zeroValue143
  t53 := Tryz.underlying103
  a53 := Tryz.isAgg103
  z53 := Tryz.sizeOf103
  v53 := Tryz.zeroValue103
  t55 := Tryz.underlying114
  a55 := Tryz.isAgg114
  z55 := Tryz.sizeOf114
  v55 := Tryz.zeroValue114
  t66 := Tryz.underlying148
  a66 := Tryz.isAgg148
  z66 := Tryz.sizeOf148
  v66 := Tryz.zeroValue148
  t70 := Tryz.underlying152
  a70 := Tryz.isAgg152
  z70 := Tryz.sizeOf152
  v70 := Tryz.zeroValue152
  t76 := Tryz.underlying156
  a76 := Tryz.isAgg156
  z76 := Tryz.sizeOf156
  v76 := Tryz.zeroValue156
  t77 := Tryz.underlying157
  a77 := Tryz.isAgg157
  z77 := Tryz.sizeOf157
  v77 := Tryz.zeroValue157 }
end Go.Proofs
