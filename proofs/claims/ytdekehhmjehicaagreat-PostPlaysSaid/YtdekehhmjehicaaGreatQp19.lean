import Derived.Test.YtdekehhmjehicaaGreatQp18
/-
  The reference's bag: Take. No condition.
-/
namespace Go.Proofs.YtdekehhmjehicaaGreat
set_option linter.unusedVariables false
set_option linter.unusedSimpArgs false
open Go.RowKit
theorem OwM.none_ (w : World) : OwM w none 0 0 [] := Ow.nil _ _ _
def RTakePost (w : World) (p : Nat) (A : Option Addr) (xs : List Ms) (k : Int) (e : Ending) (w' : World) : Prop := ∃ v, LookV xs k v ∧ RBagPost w p A v (takeL xs k) e w'
set_option maxRecDepth 100000 in
set_option maxHeartbeats 4000000 in
theorem rtake_ok (w : World) (p : Nat) (A : Option Addr) (n c : Nat) (xs : List Ms) (h : BagR w p A n c xs) (hn : n ≤ 400) (k : Int) :
    Calls Tryz.prog 10 #[.pointer (some ⟨p, 0, none⟩), .int .i64 k] w (RTakePost w p A xs k) := by
  have hb0 := Lib.hid (Blk.new w 46 #[.int .i64 0, .int .i64 0, .int .i64 0, .int .i64 0, .int .i64 0, .int .i64 0, .int .i64 0, .int .i64 0, .int .i64 0, .int .i64 0, .int .i64 0, .string ⟨#[]⟩, .string ⟨#[]⟩, .int .i64 0, .slice none 0 0, .int .i64 0, .int .i64 0, .string ⟨#[]⟩, .bool false, .slice none 0 0])
  have hm0 := Lib.hid ((Mod.refl none_ w).alloc (.cells #[.int .i64 0, .int .i64 0, .int .i64 0, .int .i64 0, .int .i64 0, .int .i64 0, .int .i64 0, .int .i64 0, .int .i64 0, .int .i64 0, .int .i64 0, .string ⟨#[]⟩, .string ⟨#[]⟩, .int .i64 0, .slice none 0 0, .int .i64 0, .int .i64 0, .string ⟨#[]⟩, .bool false, .slice none 0 0] 46))
  have c0 : (w.alloc (.cells #[.int .i64 0, .int .i64 0, .int .i64 0, .int .i64 0, .int .i64 0, .int .i64 0, .int .i64 0, .int .i64 0, .int .i64 0, .int .i64 0, .int .i64 0, .string ⟨#[]⟩, .string ⟨#[]⟩, .int .i64 0, .slice none 0 0, .int .i64 0, .int .i64 0, .string ⟨#[]⟩, .bool false, .slice none 0 0] 46)).cell? ⟨p, 0, none⟩ = some (.slice A n c) := (h.mod0 hm0.out).blk.cell_ rfl
  have hl := h.len
  have hpl := Lib.hid h.blk.lt
  have hAl := Lib.hid h.ow.lt
  by_cases hk : k < 0
  case pos =>
    have hr : lookR xs k = none := by unfold lookR; rw [if_neg (by omega)]
    have hr2 : takeL xs k = xs := by unfold takeL; rw [hr]
    replace h := Lib.hid h
    replace hl := Lib.hid hl
    replace hr := Lib.hid hr
    replace hr2 := Lib.hid hr2
    go_enter Tryz.func10, Tryz.ntmps10
    go_wp2_with (refine wpList_store_blk rfl 46 (.tmp 4) (.tmp 18) rfl w.heap.size 0 _ rfl rfl hb0.out (by simp) msg_sizeG (by rfl) #[.int .i64 0, .int .i64 0, .int .i64 0, .int .i64 0, .int .i64 0, .int .i64 0, .int .i64 0, .int .i64 0, .int .i64 0, .int .i64 0, .int .i64 0, .string ⟨#[]⟩, .string ⟨#[]⟩, .int .i64 0, .slice none 0 0, .int .i64 0, .int .i64 0, .string ⟨#[]⟩, .bool false, .slice none 0 0] rfl ?_; intro w2 hb2 hm2; replace hb2 := Lib.hid hb2; replace hm2 := Lib.hid hm2)
    refine ret_row_tmp rfl w.heap.size rfl hb2.out Tryz.underlying46 rfl msg_sizeG (.bool false) rfl rfl ?_
    have hM := hm0.out.in_new (Nat.le_refl _) hm2.out
    exact ⟨_, .inr ⟨hr.out, rfl⟩, A, n, c, rfl, by rw [hr2.out]; exact h.out.mod0 hM, hn, hM.any _, fun i hi => .inl hi⟩
  obtain ⟨j, rfl⟩ : ∃ j : Nat, k = (j : Int) := ⟨k.toNat, by omega⟩
  by_cases hj : j < n
  case neg =>
    have hr : lookR xs (j : Int) = none := by unfold lookR; rw [if_pos (by omega), List.getElem?_eq_none (by simp; omega)]
    have hr2 : takeL xs (j : Int) = xs := by unfold takeL; rw [hr]
    have hnj : decide (n ≤ j) = true := decide_eq_true (by omega)
    have hnj2 : (n : Int) ≤ (j : Int) := by omega
    replace h := Lib.hid h
    replace hl := Lib.hid hl
    replace hr := Lib.hid hr
    replace hr2 := Lib.hid hr2
    go_enter Tryz.func10, Tryz.ntmps10
    go_wp2_with (refine wpList_store_blk rfl 46 (.tmp 4) (.tmp 18) rfl w.heap.size 0 _ rfl rfl hb0.out (by simp) msg_sizeG (by rfl) #[.int .i64 0, .int .i64 0, .int .i64 0, .int .i64 0, .int .i64 0, .int .i64 0, .int .i64 0, .int .i64 0, .int .i64 0, .int .i64 0, .int .i64 0, .string ⟨#[]⟩, .string ⟨#[]⟩, .int .i64 0, .slice none 0 0, .int .i64 0, .int .i64 0, .string ⟨#[]⟩, .bool false, .slice none 0 0] rfl ?_; intro w2 hb2 hm2; replace hb2 := Lib.hid hb2; replace hm2 := Lib.hid hm2)
    refine ret_row_tmp rfl w.heap.size rfl hb2.out Tryz.underlying46 rfl msg_sizeG (.bool false) rfl rfl ?_
    have hM := hm0.out.in_new (Nat.le_refl _) hm2.out
    exact ⟨_, .inr ⟨hr.out, rfl⟩, A, n, c, rfl, by rw [hr2.out]; exact h.out.mod0 hM, hn, hM.any _, fun i hi => .inl hi⟩
  case pos =>
  obtain ⟨b, o, x, hA, hxm, hx, hrg⟩ := rdm_get (w := w) h.ow.rd hj
  have hr : lookR xs (j : Int) = some x := by unfold lookR; rw [if_pos (by omega)]; simpa using hx
  have hr2 : takeL xs (j : Int) = xs.take j ++ xs.drop (j + 1) := by unfold takeL; rw [hr] <;> rfl
  have hnj : decide (n ≤ j) = false := decide_eq_false (by omega)
  have hnj2 : ¬ (n : Int) ≤ (j : Int) := by omega
  have hrg1 : (w.alloc (.cells #[.int .i64 0, .int .i64 0, .int .i64 0, .int .i64 0, .int .i64 0, .int .i64 0, .int .i64 0, .int .i64 0, .int .i64 0, .int .i64 0, .int .i64 0, .string ⟨#[]⟩, .string ⟨#[]⟩, .int .i64 0, .slice none 0 0, .int .i64 0, .int .i64 0, .string ⟨#[]⟩, .bool false, .slice none 0 0] 46)).rangeAt b (o + j * 20) [.int .i64 x.m.frm, .int .i64 x.m.to, .int .i64 x.m.kind, .int .i64 x.m.r.i.r, .int .i64 x.m.r.i.n, .int .i64 x.m.r.bal, .int .i64 x.m.r.st, .int .i64 x.m.r.by_, .int .i64 x.m.r.e.o.c, .int .i64 x.m.r.e.o.s, .int .i64 x.m.r.e.o.k, .string (txt x.m.r.e.o.acct), .string (txt x.m.r.e.o.peer), .int .i64 x.m.r.e.o.sum, .slice x.L.a x.L.n x.L.c, .int .i64 x.m.r.e.o.per, .int .i64 x.m.r.e.o.hold, .string (txt x.m.r.e.o.note), .bool x.m.r.e.none, .slice x.D.a x.D.n x.D.c] := fun k v hv => hm0.out.cell_some (hrg k v hv) (fun h => h)
  have hz1 := Lib.hid (Blk.new (w.alloc (.cells #[.int .i64 0, .int .i64 0, .int .i64 0, .int .i64 0, .int .i64 0, .int .i64 0, .int .i64 0, .int .i64 0, .int .i64 0, .int .i64 0, .int .i64 0, .string ⟨#[]⟩, .string ⟨#[]⟩, .int .i64 0, .slice none 0 0, .int .i64 0, .int .i64 0, .string ⟨#[]⟩, .bool false, .slice none 0 0] 46)) 46 #[.int .i64 0, .int .i64 0, .int .i64 0, .int .i64 0, .int .i64 0, .int .i64 0, .int .i64 0, .int .i64 0, .int .i64 0, .int .i64 0, .int .i64 0, .string ⟨#[]⟩, .string ⟨#[]⟩, .int .i64 0, .slice none 0 0, .int .i64 0, .int .i64 0, .string ⟨#[]⟩, .bool false, .slice none 0 0])
  have hsz1 : (w.alloc (.cells #[.int .i64 0, .int .i64 0, .int .i64 0, .int .i64 0, .int .i64 0, .int .i64 0, .int .i64 0, .int .i64 0, .int .i64 0, .int .i64 0, .int .i64 0, .string ⟨#[]⟩, .string ⟨#[]⟩, .int .i64 0, .slice none 0 0, .int .i64 0, .int .i64 0, .string ⟨#[]⟩, .bool false, .slice none 0 0] 46)).heap.size = w.heap.size + 1 := by simp
  rw [hsz1] at hz1
  clear hsz1
  obtain ⟨r, hr3⟩ : ∃ r, n = j + 1 + r := ⟨n - (j + 1), by omega⟩
  subst hr3
  obtain ⟨d, hd⟩ : ∃ d, c = j + 1 + d := ⟨c - (j + 1), by have := h.ow.2.1; omega⟩
  subst hd
  have hrd : r ≤ d := by have := h.ow.2.1; omega
  subst hA
  clear hrg
  replace h := Lib.hid h
  replace hl := Lib.hid hl
  replace hxm := Lib.hid hxm
  replace hx := Lib.hid hx
  replace hr := Lib.hid hr
  replace hr2 := Lib.hid hr2
  replace hrg1 := Lib.hid hrg1
  go_enter Tryz.func10, Tryz.ntmps10
  go_upto_region 4 with (first
    | (refine wpList_load_mid rfl 46 (.tmp 24) rfl b (o + j * 20) rfl _ _ hrg1.out Tryz.underlying46 rfl msg_sizeG ?_)
    | (refine wpList_store_blk rfl 46 (.tmp 6) (.tmp 25) rfl (w.heap.size + 1) 0 _ rfl rfl hz1.out (by simp) msg_sizeG (by rfl) #[.int .i64 x.m.frm, .int .i64 x.m.to, .int .i64 x.m.kind, .int .i64 x.m.r.i.r, .int .i64 x.m.r.i.n, .int .i64 x.m.r.bal, .int .i64 x.m.r.st, .int .i64 x.m.r.by_, .int .i64 x.m.r.e.o.c, .int .i64 x.m.r.e.o.s, .int .i64 x.m.r.e.o.k, .string (txt x.m.r.e.o.acct), .string (txt x.m.r.e.o.peer), .int .i64 x.m.r.e.o.sum, .slice x.L.a x.L.n x.L.c, .int .i64 x.m.r.e.o.per, .int .i64 x.m.r.e.o.hold, .string (txt x.m.r.e.o.note), .bool x.m.r.e.none, .slice x.D.a x.D.n x.D.c] rfl ?_; intro w2 hb2 hm2))
  have hM2 : Mod none_ w w2 := (hm0.out.alloc (.cells #[.int .i64 0, .int .i64 0, .int .i64 0, .int .i64 0, .int .i64 0, .int .i64 0, .int .i64 0, .int .i64 0, .int .i64 0, .int .i64 0, .int .i64 0, .string ⟨#[]⟩, .string ⟨#[]⟩, .int .i64 0, .slice none 0 0, .int .i64 0, .int .i64 0, .string ⟨#[]⟩, .bool false, .slice none 0 0] 46)).in_new (g := w.heap.size + 1) (by omega) hm2
  have hbz2 : Blk w2 w.heap.size 46 #[.int .i64 0, .int .i64 0, .int .i64 0, .int .i64 0, .int .i64 0, .int .i64 0, .int .i64 0, .int .i64 0, .int .i64 0, .int .i64 0, .int .i64 0, .string ⟨#[]⟩, .string ⟨#[]⟩, .int .i64 0, .slice none 0 0, .int .i64 0, .int .i64 0, .string ⟨#[]⟩, .bool false, .slice none 0 0] := (hb0.out.alloc _).mod hm2 (fun h => by have : w.heap.size = w.heap.size + 1 := h; omega)
  have hs2 := h.out.mod0 hM2
  have c2 : w2.drew.cell? ⟨p, 0, none⟩ = some (.slice (some ⟨b, o, none⟩) (j + 1 + r) (j + 1 + d)) := hs2.blk.cell_ rfl
  have c2' : w2.cell? ⟨p, 0, none⟩ = some (.slice (some ⟨b, o, none⟩) (j + 1 + r) (j + 1 + d)) := hs2.blk.cell_ rfl
  have hl1 : Hid (RdM w2.drew (some ⟨b, o, none⟩) j (xs.take j)) := Lib.hid (rdM_take (w := w2) hs2.ow.rd (by omega))
  have hl2 : Hid (RdM w2 (if j + 1 + d = j + 1 then some ⟨b, o, none⟩ else (some (⟨b, o, none⟩ : Addr)).map (·.add ((j + 1) * 20))) (j + 1 + r - (j + 1)) (xs.drop (j + 1))) := Lib.hid (rdM_drop hs2.ow.rd (k := j + 1) (c := j + 1 + d) (by omega) (by omega))
  have fin1 : ∀ A3 c3 w3, OwM w3 A3 (0 + j) c3 ([] ++ xs.take j) → Mod (fp none) w2.drew w3 → (A3 = none ∨ A3 = some ⟨w2.drew.heap.size, 0, none⟩) →
      w3.cell? ⟨p, 0, none⟩ = some (.slice (some ⟨b, o, none⟩) (j + 1 + r) (j + 1 + d)) ∧ ∀ S m, (d = 0 → S = some (⟨b, o, none⟩ : Addr)) → (d ≠ 0 → S = some (⟨b, o + (j + 1) * 20, none⟩ : Addr)) → m = r → RdM w3 S m (xs.drop (j + 1)) := by
    intro A3 c3 w3 ho3 hm3 hA3
    have hm3' : Mod none_ w2 w3 := (Mod.refl none_ w2).drew.trans hm3.nil_own
    refine ⟨hm3'.cell_some c2' (fun h => h), fun S m e1 e2 e3 => ?_⟩
    have e4 : (if j + 1 + d = j + 1 then some (⟨b, o, none⟩ : Addr) else (some (⟨b, o, none⟩ : Addr)).map (·.add ((j + 1) * 20))) = S := by
      by_cases hd0 : d = 0
      · rw [e1 hd0, if_pos (by omega)]
      · rw [e2 hd0, if_neg (by omega)]
        simp [Addr.add]
    have hl3 := hl2.out
    rw [e4, show j + 1 + r - (j + 1) = m by omega] at hl3
    exact Rd.mod0 hl3 hm3'
  have hAl2 : ∀ k, bagF p (some (⟨b, o, none⟩ : Addr)) k → k < w.heap.size := fun k hk => by
    rcases hk with rfl | hk
    · exact hpl.out
    · exact hAl.out k hk
  have fin2 : ∀ (A3 : Option Addr) (c3 : Nat) (w3 : World) (A5 : Option Addr) (c5 : Nat) (w5 : World), Mod (fp none) w2.drew w3 → (A3 = none ∨ A3 = some ⟨w2.drew.heap.size, 0, none⟩) → OwM w5 A5 (j + r) c5 (xs.take j ++ xs.drop (j + 1)) → Mod (fp A3) w3 w5 → (A5 = A3 ∨ A5 = some ⟨w3.heap.size, 0, none⟩) →
      w5.cell? ⟨p, 0, none⟩ = some (.slice (some ⟨b, o, none⟩) (j + 1 + r) (j + 1 + d)) ∧ w5.frozen? ⟨p, 0, none⟩ = false ∧
      (Blk (w5.setCell ⟨p, 0, none⟩ (.slice A5 (j + r) c5)) (w.heap.size + 1) 46 #[.int .i64 x.m.frm, .int .i64 x.m.to, .int .i64 x.m.kind, .int .i64 x.m.r.i.r, .int .i64 x.m.r.i.n, .int .i64 x.m.r.bal, .int .i64 x.m.r.st, .int .i64 x.m.r.by_, .int .i64 x.m.r.e.o.c, .int .i64 x.m.r.e.o.s, .int .i64 x.m.r.e.o.k, .string (txt x.m.r.e.o.acct), .string (txt x.m.r.e.o.peer), .int .i64 x.m.r.e.o.sum, .slice x.L.a x.L.n x.L.c, .int .i64 x.m.r.e.o.per, .int .i64 x.m.r.e.o.hold, .string (txt x.m.r.e.o.note), .bool x.m.r.e.none, .slice x.D.a x.D.n x.D.c] ∧ Blk (w5.setCell ⟨p, 0, none⟩ (.slice A5 (j + r) c5)) w.heap.size 46 #[.int .i64 0, .int .i64 0, .int .i64 0, .int .i64 0, .int .i64 0, .int .i64 0, .int .i64 0, .int .i64 0, .int .i64 0, .int .i64 0, .int .i64 0, .string ⟨#[]⟩, .string ⟨#[]⟩, .int .i64 0, .slice none 0 0, .int .i64 0, .int .i64 0, .string ⟨#[]⟩, .bool false, .slice none 0 0] ∧ (Mod (bagF p (some ⟨b, o, none⟩)) w (w5.setCell ⟨p, 0, none⟩ (.slice A5 (j + r) c5)) ∧ ∀ i, fp A5 i → w2.heap.size ≤ i) ∧ BagR (w5.setCell ⟨p, 0, none⟩ (.slice A5 (j + r) c5)) p A5 (j + r) c5 (xs.take j ++ xs.drop (j + 1))) := by
    intro A3 c3 w3 A5 c5 w5 hm3 hA3 ho5 hm5 hA5
    have hm35 : Mod none_ w2.drew w5 := hm3.then_own hA3 hm5
    have hm25 : Mod none_ w2 w5 := (Mod.refl none_ w2).drew.trans hm35
    have hb5 := hs2.blk.mod hm25 (fun h => h)
    have hM5 := hM2.trans hm25
    have hfr : ∀ i, fp A5 i → w2.heap.size ≤ i := by
      intro i hi
      rcases hA5 with rfl | rfl
      · rcases hA3 with rfl | rfl
        · obtain ⟨a, ha, _⟩ := hi; cases ha
        · obtain ⟨a, ha, rfl⟩ := hi; cases ha; exact Nat.le_refl _
      · obtain ⟨a, ha, rfl⟩ := hi; cases ha; exact Nat.le_trans (Nat.le_refl _) hm3.size
    have hpw := hpl.out
    have hnp : ¬ fp A5 p := fun hh => by have := hfr p hh; have := hM2.size; omega
    refine ⟨hb5.cell_ rfl, hb5.frozen 0, (hb2.mod hm25 (fun h => h)).far (by show ¬ w.heap.size + 1 = p; omega) _, (hbz2.mod hm25 (fun h => h)).far (by show ¬ w.heap.size = p; omega) _, ⟨(hM5.any _).setCell (p := ⟨p, 0, none⟩) (.inl (.inl rfl)) _, hfr⟩, ⟨hb5.set_ 0 _, ho5.mod ((Mod.refl (only p) w5).set_only 0 _) (fun k hk hh => by have : k = p := hh; subst this; exact hnp hk), hnp⟩⟩
  have fin3 : ∀ A5 c5 w6 w7, (Mod (bagF p (some ⟨b, o, none⟩)) w w6 ∧ ∀ i, fp A5 i → w2.heap.size ≤ i) → BagR w6 p A5 (j + r) c5 (xs.take j ++ xs.drop (j + 1)) → Mod (only w.heap.size) w6 w7 → RTakePost w p (some ⟨b, o, none⟩) xs (j : Int) (.returned (.tuple #[.agg #[.int .i64 x.m.frm, .int .i64 x.m.to, .int .i64 x.m.kind, .int .i64 x.m.r.i.r, .int .i64 x.m.r.i.n, .int .i64 x.m.r.bal, .int .i64 x.m.r.st, .int .i64 x.m.r.by_, .int .i64 x.m.r.e.o.c, .int .i64 x.m.r.e.o.s, .int .i64 x.m.r.e.o.k, .string (txt x.m.r.e.o.acct), .string (txt x.m.r.e.o.peer), .int .i64 x.m.r.e.o.sum, .slice x.L.a x.L.n x.L.c, .int .i64 x.m.r.e.o.per, .int .i64 x.m.r.e.o.hold, .string (txt x.m.r.e.o.note), .bool x.m.r.e.none, .slice x.D.a x.D.n x.D.c], .bool true])) w7 := by
    intro A5 c5 w6 w7 hM6 hs6 hm7
    have hpw := hpl.out
    have hsz2 := hM2.size
    refine ⟨_, .inl ⟨x, hr.out, rfl⟩, A5, j + r, c5, rfl, by rw [hr2.out]; exact hs6.mod hm7 (fun hh => by have : p = w.heap.size := hh; omega) (fun k hk hh => by have : k = w.heap.size := hh; have := hM6.2 k hk; have := hb2.lt; omega), by omega, hM6.1.then hm7 (fun i hi hk => by have : i = w.heap.size := hk; omega), fun i hi => .inr (by have := hM6.2 i hi; omega)⟩
  have hcap : j ≤ j + 1 + d := by omega
  have hcap2 : (j : Int) ≤ ((j + 1 + d : Nat) : Int) := by omega
  have hw13 : IntKind.i64.wrap ((j : Int) + 1) = ((j + 1 : Nat) : Int) := by rw [IntKind.wrap_i64]; omega
  have hw15 : (0 : Int) ≤ (j : Int) + 1 := by omega
  have hw16 : (j : Int) ≤ (j : Int) + 1 + (d : Int) := by omega
  have hw17 : (j : Int) + 1 ≤ (j : Int) + 1 + (r : Int) := by omega
  have hw14 : (0 : Int) ≤ ((j + 1 : Nat) : Int) := by omega
  clear c0 hm2 hs2 hbz2 hAl2
  replace hb2 := Lib.hid hb2
  replace hM2 := Lib.hid hM2
  by_cases d0 : d = 0
  case pos =>
    subst d0
    obtain rfl : r = 0 := by omega
    have hc3 : (j : Int) ≤ (j : Int) + 1 := by omega
    have hc4 : ((j + 1 : Nat) : Int) ≤ (j : Int) + 1 := by omega
    refine wp_region_held_drew (S := fun _ => True) (by kernel_rfl) trivial (fun hHeld => ?_)
    refine wpAnyH_take (i := 0) (v := ?_) rfl (by kernel_rfl) (by kernel_rfl) (by kernel_rfl) (fun _ _ _ h => h) (Or.inl ⟨by rfl, ?_⟩) trivial ?_
    rotate_left
    · intro W hSw; (try dsimp only at hSw); go_simp; (try with_reducible rfl)
    try simp only [Act.put, List.getElem_toArray, List.getElem_cons_zero, List.getElem_cons_succ, List.setIfInBounds_toArray, List.set_cons_zero, List.set_cons_succ]
    refine wpAnyH_take (i := 1) (v := ?_) rfl (by kernel_rfl) (by kernel_rfl) (by kernel_rfl) (fun _ _ _ h => h) (Or.inl ⟨by rfl, ?_⟩) trivial ?_
    rotate_left
    · intro W hSw; (try dsimp only at hSw); go_simp; (try with_reducible rfl)
    try simp only [Act.put, List.getElem_toArray, List.getElem_cons_zero, List.getElem_cons_succ, List.setIfInBounds_toArray, List.set_cons_zero, List.set_cons_succ]
    refine wpAnyH_take (i := 2) (v := ?_) rfl (by kernel_rfl) (by kernel_rfl) (by kernel_rfl) (fun _ _ _ h => h) (Or.inl ⟨by rfl, ?_⟩) trivial ?_
    rotate_left
    · intro W hSw; (try dsimp only at hSw); go_simp; (try with_reducible rfl)
    try simp only [Act.put, List.getElem_toArray, List.getElem_cons_zero, List.getElem_cons_succ, List.setIfInBounds_toArray, List.set_cons_zero, List.set_cons_succ]
    refine wpAnyH_take (i := 3) (v := ?_) rfl (by kernel_rfl) (by kernel_rfl) (by kernel_rfl) (fun _ _ _ h => h) (Or.inl ⟨by rfl, ?_⟩) trivial ?_
    rotate_left
    · intro W hSw; (try dsimp only at hSw); go_simp; (try with_reducible rfl)
    try simp only [Act.put, List.getElem_toArray, List.getElem_cons_zero, List.getElem_cons_succ, List.setIfInBounds_toArray, List.set_cons_zero, List.set_cons_succ]
    refine wpAnyH_take (i := 5) (v := ?_) rfl (by kernel_rfl) (by kernel_rfl) (by kernel_rfl) (fun _ _ _ h => h) (Or.inl ⟨by rfl, ?_⟩) trivial ?_
    rotate_left
    · intro W hSw; (try dsimp only at hSw); go_simp; (try with_reducible rfl)
    try simp only [Act.put, List.getElem_toArray, List.getElem_cons_zero, List.getElem_cons_succ, List.setIfInBounds_toArray, List.set_cons_zero, List.set_cons_succ]
    refine wpAnyH_take (i := 8) (v := ?_) rfl (by kernel_rfl) (by kernel_rfl) (by kernel_rfl) (fun _ _ _ h => h) (Or.inl ⟨by rfl, ?_⟩) trivial ?_
    rotate_left
    · intro W hSw; (try dsimp only at hSw); go_simp; (try with_reducible rfl)
    try simp only [Act.put, List.getElem_toArray, List.getElem_cons_zero, List.getElem_cons_succ, List.setIfInBounds_toArray, List.set_cons_zero, List.set_cons_succ]
    refine wpAnyH_take (i := 9) (v := ?_) rfl (by kernel_rfl) (by kernel_rfl) (by kernel_rfl) (fun _ _ _ h => h) (Or.inl ⟨by rfl, ?_⟩) trivial ?_
    rotate_left
    · intro W hSw; (try dsimp only at hSw); go_simp; (try with_reducible rfl)
    try simp only [Act.put, List.getElem_toArray, List.getElem_cons_zero, List.getElem_cons_succ, List.setIfInBounds_toArray, List.set_cons_zero, List.set_cons_succ]
    refine wpAnyH_take (i := 10) (v := ?_) rfl (by kernel_rfl) (by kernel_rfl) (by kernel_rfl) (fun _ _ _ h => h) (Or.inl ⟨by rfl, ?_⟩) trivial ?_
    rotate_left
    · intro W hSw; (try dsimp only at hSw); go_simp; (try with_reducible rfl)
    try simp only [Act.put, List.getElem_toArray, List.getElem_cons_zero, List.getElem_cons_succ, List.setIfInBounds_toArray, List.set_cons_zero, List.set_cons_succ]
    refine wpAnyH_take (i := 12) (v := ?_) rfl (by kernel_rfl) (by kernel_rfl) (by kernel_rfl) (fun _ _ _ h => h) (Or.inl ⟨by rfl, ?_⟩) trivial ?_
    rotate_left
    · intro W hSw; (try dsimp only at hSw); go_simp; (try with_reducible rfl)
    try simp only [Act.put, List.getElem_toArray, List.getElem_cons_zero, List.getElem_cons_succ, List.setIfInBounds_toArray, List.set_cons_zero, List.set_cons_succ]
    refine wpAnyH_take (i := 13) (v := ?_) rfl (by kernel_rfl) (by kernel_rfl) (by kernel_rfl) (fun _ _ _ h => h) (Or.inl ⟨by rfl, ?_⟩) trivial ?_
    rotate_left
    · intro W hSw; (try dsimp only at hSw); go_simp; (try with_reducible rfl)
    try simp only [Act.put, List.getElem_toArray, List.getElem_cons_zero, List.getElem_cons_succ, List.setIfInBounds_toArray, List.set_cons_zero, List.set_cons_succ]
    refine wpAnyH_ready (rs := [4, 11]) (by kernel_rfl) (by simp) ?_
    refine AllReadyH.cons rfl (fun K hK => ?_) (AllReadyH.cons rfl (fun K hK => ?_) AllReadyH.nil)
    · go_simp
      refine hK.out _ _ trivial (fun hHeld => ?_)
      clear hK K
      try simp only [Act.put, List.getElem_toArray, List.getElem_cons_zero, List.getElem_cons_succ, List.setIfInBounds_toArray, List.set_cons_zero, List.set_cons_succ]
      refine wpAnyH_take (i := 6) (v := ?_) rfl (by kernel_rfl) (by kernel_rfl) (by kernel_rfl) (fun _ _ _ h => h) (Or.inl ⟨by rfl, ?_⟩) trivial ?_
      rotate_left
      · intro W hSw; (try dsimp only at hSw); go_simp; (try with_reducible rfl)
      try simp only [Act.put, List.getElem_toArray, List.getElem_cons_zero, List.getElem_cons_succ, List.setIfInBounds_toArray, List.set_cons_zero, List.set_cons_succ]
      refine wpAnyH_ready (rs := [7, 11]) (by kernel_rfl) (by simp) ?_
      refine AllReadyH.cons rfl (fun K hK => ?_) (AllReadyH.cons rfl (fun K hK => ?_) AllReadyH.nil)
      · refine step_appM rfl (.const (.slice none 0 0)) (.tmp 32) rfl rfl (OwM.none_ _) rfl hl1.out (by omega) ?_
        intro A3 c3 w3 ho3 hm3 hA3
        obtain ⟨z1, z2⟩ := fin1 A3 c3 w3 ho3 hm3 hA3
        rw [Nat.zero_add, List.nil_append] at ho3
        rw [Nat.zero_add]
        refine hK.out _ _ trivial (fun hHeld => ?_)
        clear hK K
        try simp only [Act.put, List.getElem_toArray, List.getElem_cons_zero, List.getElem_cons_succ, List.setIfInBounds_toArray, List.set_cons_zero, List.set_cons_succ]
        refine wpAnyH_ready (rs := [11]) (by kernel_rfl) (by simp) ?_
        refine AllReadyH.cons rfl (fun K hK => ?_) AllReadyH.nil
        go_simp
        refine hK.out _ _ trivial (fun hHeld => ?_)
        clear hK K
        try simp only [Act.put, List.getElem_toArray, List.getElem_cons_zero, List.getElem_cons_succ, List.setIfInBounds_toArray, List.set_cons_zero, List.set_cons_succ]
        refine wpAnyH_take (i := 14) (v := ?_) rfl (by kernel_rfl) (by kernel_rfl) (by kernel_rfl) (fun _ _ _ h => h) (Or.inl ⟨by rfl, ?_⟩) trivial ?_
        rotate_left
        · intro W hSw; (try dsimp only at hSw); go_simp; (try with_reducible rfl)
        try simp only [Act.put, List.getElem_toArray, List.getElem_cons_zero, List.getElem_cons_succ, List.setIfInBounds_toArray, List.set_cons_zero, List.set_cons_succ]
        refine wpAnyH_ready (rs := [15]) (by kernel_rfl) (by simp) ?_
        refine AllReadyH.cons rfl (fun K hK => ?_) AllReadyH.nil
        refine step_appM rfl (.tmp 33) (.tmp 40) rfl rfl ho3 rfl (z2 _ _ (by first | (intro _; rfl) | (intro h; exact absurd h d0)) (by first | (intro _; rfl) | (intro h; exact absurd rfl h)) (by omega)) (by omega) ?_
        intro A5 c5 w5 ho5 hm5 hA5
        obtain ⟨y1, y2, y3⟩ := fin2 A3 c3 w3 A5 c5 w5 hm3 hA3 ho5 hm5 hA5
        clear ho5 hm5 hA5
        refine hK.out _ _ trivial (fun hHeld => ?_)
        clear hK K
        try simp only [Act.put, List.getElem_toArray, List.getElem_cons_zero, List.getElem_cons_succ, List.setIfInBounds_toArray, List.set_cons_zero, List.set_cons_succ]
        refine wpAnyH_take (i := 16) (v := ?_) rfl (by kernel_rfl) (by kernel_rfl) (by kernel_rfl) (fun _ _ _ h => h) (Or.inl ⟨by rfl, ?_⟩) trivial ?_
        rotate_left
        · intro W hSw; (try dsimp only at hSw); go_simp; (try with_reducible rfl)
        try simp only [Act.put, List.getElem_toArray, List.getElem_cons_zero, List.getElem_cons_succ, List.setIfInBounds_toArray, List.set_cons_zero, List.set_cons_succ]
        refine wpAnyH_take (i := 17) (v := ?_) rfl (by kernel_rfl) (by kernel_rfl) (by kernel_rfl) (fun _ _ _ h => h) (Or.inl ⟨by rfl, ?_⟩) trivial ?_
        rotate_left
        · intro W hSw; (try dsimp only at hSw); go_simp; (try with_reducible rfl)
        try simp only [Act.put, List.getElem_toArray, List.getElem_cons_zero, List.getElem_cons_succ, List.setIfInBounds_toArray, List.set_cons_zero, List.set_cons_succ]
        refine wpAnyH_ready (rs := [18]) (by kernel_rfl) (by simp) ?_
        refine AllReadyH.cons rfl (fun K hK => ?_) AllReadyH.nil
        go_simp
        refine hK.out _ _ trivial (fun hHeld => ?_)
        clear hK K
        try simp only [Act.put, List.getElem_toArray, List.getElem_cons_zero, List.getElem_cons_succ, List.setIfInBounds_toArray, List.set_cons_zero, List.set_cons_succ]
        refine wpAnyH_done (by kernel_rfl) ?_ _
        clear hHeld ho3 hm3 hA3 z1 z2 y1 y2
        obtain ⟨q4, b4, hM4, hs4⟩ := y3
        replace q4 := Lib.hid q4
        replace b4 := Lib.hid b4
        replace hM4 := Lib.hid hM4
        replace hs4 := Lib.hid hs4
        go_wp2_with (first
          | (refine wpList_load_row rfl 46 (.tmp 6) rfl (w.heap.size + 1) rfl _ _ _ _ q4.out Tryz.underlying46 rfl msg_sizeG ?_)
          | (refine wpList_store_blk rfl 46 (.tmp 4) (.tmp 44) rfl w.heap.size 0 _ rfl rfl b4.out (by simp) msg_sizeG (by rfl) #[.int .i64 x.m.frm, .int .i64 x.m.to, .int .i64 x.m.kind, .int .i64 x.m.r.i.r, .int .i64 x.m.r.i.n, .int .i64 x.m.r.bal, .int .i64 x.m.r.st, .int .i64 x.m.r.by_, .int .i64 x.m.r.e.o.c, .int .i64 x.m.r.e.o.s, .int .i64 x.m.r.e.o.k, .string (txt x.m.r.e.o.acct), .string (txt x.m.r.e.o.peer), .int .i64 x.m.r.e.o.sum, .slice x.L.a x.L.n x.L.c, .int .i64 x.m.r.e.o.per, .int .i64 x.m.r.e.o.hold, .string (txt x.m.r.e.o.note), .bool x.m.r.e.none, .slice x.D.a x.D.n x.D.c] rfl ?_; intro w7 hb7 hm7; replace hb7 := Lib.hid hb7; replace hm7 := Lib.hid hm7))
        refine ret_row_tmp rfl w.heap.size rfl hb7.out Tryz.underlying46 rfl msg_sizeG (.bool true) rfl rfl ?_
        exact fin3 _ _ _ _ hM4.out hs4.out hm7.out
      · go_simp
        refine hK.out _ _ trivial (fun hHeld => ?_)
        clear hK K
        try simp only [Act.put, List.getElem_toArray, List.getElem_cons_zero, List.getElem_cons_succ, List.setIfInBounds_toArray, List.set_cons_zero, List.set_cons_succ]
        refine wpAnyH_take (i := 14) (v := ?_) rfl (by kernel_rfl) (by kernel_rfl) (by kernel_rfl) (fun _ _ _ h => h) (Or.inl ⟨by rfl, ?_⟩) trivial ?_
        rotate_left
        · intro W hSw; (try dsimp only at hSw); go_simp; (try with_reducible rfl)
        try simp only [Act.put, List.getElem_toArray, List.getElem_cons_zero, List.getElem_cons_succ, List.setIfInBounds_toArray, List.set_cons_zero, List.set_cons_succ]
        refine wpAnyH_ready (rs := [7]) (by kernel_rfl) (by simp) ?_
        refine AllReadyH.cons rfl (fun K hK => ?_) AllReadyH.nil
        refine step_appM rfl (.const (.slice none 0 0)) (.tmp 32) rfl rfl (OwM.none_ _) rfl hl1.out (by omega) ?_
        intro A3 c3 w3 ho3 hm3 hA3
        obtain ⟨z1, z2⟩ := fin1 A3 c3 w3 ho3 hm3 hA3
        rw [Nat.zero_add, List.nil_append] at ho3
        rw [Nat.zero_add]
        refine hK.out _ _ trivial (fun hHeld => ?_)
        clear hK K
        try simp only [Act.put, List.getElem_toArray, List.getElem_cons_zero, List.getElem_cons_succ, List.setIfInBounds_toArray, List.set_cons_zero, List.set_cons_succ]
        refine wpAnyH_ready (rs := [15]) (by kernel_rfl) (by simp) ?_
        refine AllReadyH.cons rfl (fun K hK => ?_) AllReadyH.nil
        refine step_appM rfl (.tmp 33) (.tmp 40) rfl rfl ho3 rfl (z2 _ _ (by first | (intro _; rfl) | (intro h; exact absurd h d0)) (by first | (intro _; rfl) | (intro h; exact absurd rfl h)) (by omega)) (by omega) ?_
        intro A5 c5 w5 ho5 hm5 hA5
        obtain ⟨y1, y2, y3⟩ := fin2 A3 c3 w3 A5 c5 w5 hm3 hA3 ho5 hm5 hA5
        clear ho5 hm5 hA5
        refine hK.out _ _ trivial (fun hHeld => ?_)
        clear hK K
        try simp only [Act.put, List.getElem_toArray, List.getElem_cons_zero, List.getElem_cons_succ, List.setIfInBounds_toArray, List.set_cons_zero, List.set_cons_succ]
        refine wpAnyH_take (i := 16) (v := ?_) rfl (by kernel_rfl) (by kernel_rfl) (by kernel_rfl) (fun _ _ _ h => h) (Or.inl ⟨by rfl, ?_⟩) trivial ?_
        rotate_left
        · intro W hSw; (try dsimp only at hSw); go_simp; (try with_reducible rfl)
        try simp only [Act.put, List.getElem_toArray, List.getElem_cons_zero, List.getElem_cons_succ, List.setIfInBounds_toArray, List.set_cons_zero, List.set_cons_succ]
        refine wpAnyH_take (i := 17) (v := ?_) rfl (by kernel_rfl) (by kernel_rfl) (by kernel_rfl) (fun _ _ _ h => h) (Or.inl ⟨by rfl, ?_⟩) trivial ?_
        rotate_left
        · intro W hSw; (try dsimp only at hSw); go_simp; (try with_reducible rfl)
        try simp only [Act.put, List.getElem_toArray, List.getElem_cons_zero, List.getElem_cons_succ, List.setIfInBounds_toArray, List.set_cons_zero, List.set_cons_succ]
        refine wpAnyH_ready (rs := [18]) (by kernel_rfl) (by simp) ?_
        refine AllReadyH.cons rfl (fun K hK => ?_) AllReadyH.nil
        go_simp
        refine hK.out _ _ trivial (fun hHeld => ?_)
        clear hK K
        try simp only [Act.put, List.getElem_toArray, List.getElem_cons_zero, List.getElem_cons_succ, List.setIfInBounds_toArray, List.set_cons_zero, List.set_cons_succ]
        refine wpAnyH_done (by kernel_rfl) ?_ _
        clear hHeld ho3 hm3 hA3 z1 z2 y1 y2
        obtain ⟨q4, b4, hM4, hs4⟩ := y3
        replace q4 := Lib.hid q4
        replace b4 := Lib.hid b4
        replace hM4 := Lib.hid hM4
        replace hs4 := Lib.hid hs4
        go_wp2_with (first
          | (refine wpList_load_row rfl 46 (.tmp 6) rfl (w.heap.size + 1) rfl _ _ _ _ q4.out Tryz.underlying46 rfl msg_sizeG ?_)
          | (refine wpList_store_blk rfl 46 (.tmp 4) (.tmp 44) rfl w.heap.size 0 _ rfl rfl b4.out (by simp) msg_sizeG (by rfl) #[.int .i64 x.m.frm, .int .i64 x.m.to, .int .i64 x.m.kind, .int .i64 x.m.r.i.r, .int .i64 x.m.r.i.n, .int .i64 x.m.r.bal, .int .i64 x.m.r.st, .int .i64 x.m.r.by_, .int .i64 x.m.r.e.o.c, .int .i64 x.m.r.e.o.s, .int .i64 x.m.r.e.o.k, .string (txt x.m.r.e.o.acct), .string (txt x.m.r.e.o.peer), .int .i64 x.m.r.e.o.sum, .slice x.L.a x.L.n x.L.c, .int .i64 x.m.r.e.o.per, .int .i64 x.m.r.e.o.hold, .string (txt x.m.r.e.o.note), .bool x.m.r.e.none, .slice x.D.a x.D.n x.D.c] rfl ?_; intro w7 hb7 hm7; replace hb7 := Lib.hid hb7; replace hm7 := Lib.hid hm7))
        refine ret_row_tmp rfl w.heap.size rfl hb7.out Tryz.underlying46 rfl msg_sizeG (.bool true) rfl rfl ?_
        exact fin3 _ _ _ _ hM4.out hs4.out hm7.out
    · go_simp
      refine hK.out _ _ trivial (fun hHeld => ?_)
      clear hK K
      try simp only [Act.put, List.getElem_toArray, List.getElem_cons_zero, List.getElem_cons_succ, List.setIfInBounds_toArray, List.set_cons_zero, List.set_cons_succ]
      refine wpAnyH_take (i := 14) (v := ?_) rfl (by kernel_rfl) (by kernel_rfl) (by kernel_rfl) (fun _ _ _ h => h) (Or.inl ⟨by rfl, ?_⟩) trivial ?_
      rotate_left
      · intro W hSw; (try dsimp only at hSw); go_simp; (try with_reducible rfl)
      try simp only [Act.put, List.getElem_toArray, List.getElem_cons_zero, List.getElem_cons_succ, List.setIfInBounds_toArray, List.set_cons_zero, List.set_cons_succ]
      refine wpAnyH_ready (rs := [4]) (by kernel_rfl) (by simp) ?_
      refine AllReadyH.cons rfl (fun K hK => ?_) AllReadyH.nil
      go_simp
      refine hK.out _ _ trivial (fun hHeld => ?_)
      clear hK K
      try simp only [Act.put, List.getElem_toArray, List.getElem_cons_zero, List.getElem_cons_succ, List.setIfInBounds_toArray, List.set_cons_zero, List.set_cons_succ]
      refine wpAnyH_take (i := 6) (v := ?_) rfl (by kernel_rfl) (by kernel_rfl) (by kernel_rfl) (fun _ _ _ h => h) (Or.inl ⟨by rfl, ?_⟩) trivial ?_
      rotate_left
      · intro W hSw; (try dsimp only at hSw); go_simp; (try with_reducible rfl)
      try simp only [Act.put, List.getElem_toArray, List.getElem_cons_zero, List.getElem_cons_succ, List.setIfInBounds_toArray, List.set_cons_zero, List.set_cons_succ]
      refine wpAnyH_ready (rs := [7]) (by kernel_rfl) (by simp) ?_
      refine AllReadyH.cons rfl (fun K hK => ?_) AllReadyH.nil
      refine step_appM rfl (.const (.slice none 0 0)) (.tmp 32) rfl rfl (OwM.none_ _) rfl hl1.out (by omega) ?_
      intro A3 c3 w3 ho3 hm3 hA3
      obtain ⟨z1, z2⟩ := fin1 A3 c3 w3 ho3 hm3 hA3
      rw [Nat.zero_add, List.nil_append] at ho3
      rw [Nat.zero_add]
      refine hK.out _ _ trivial (fun hHeld => ?_)
      clear hK K
      try simp only [Act.put, List.getElem_toArray, List.getElem_cons_zero, List.getElem_cons_succ, List.setIfInBounds_toArray, List.set_cons_zero, List.set_cons_succ]
      refine wpAnyH_ready (rs := [15]) (by kernel_rfl) (by simp) ?_
      refine AllReadyH.cons rfl (fun K hK => ?_) AllReadyH.nil
      refine step_appM rfl (.tmp 33) (.tmp 40) rfl rfl ho3 rfl (z2 _ _ (by first | (intro _; rfl) | (intro h; exact absurd h d0)) (by first | (intro _; rfl) | (intro h; exact absurd rfl h)) (by omega)) (by omega) ?_
      intro A5 c5 w5 ho5 hm5 hA5
      obtain ⟨y1, y2, y3⟩ := fin2 A3 c3 w3 A5 c5 w5 hm3 hA3 ho5 hm5 hA5
      clear ho5 hm5 hA5
      refine hK.out _ _ trivial (fun hHeld => ?_)
      clear hK K
      try simp only [Act.put, List.getElem_toArray, List.getElem_cons_zero, List.getElem_cons_succ, List.setIfInBounds_toArray, List.set_cons_zero, List.set_cons_succ]
      refine wpAnyH_take (i := 16) (v := ?_) rfl (by kernel_rfl) (by kernel_rfl) (by kernel_rfl) (fun _ _ _ h => h) (Or.inl ⟨by rfl, ?_⟩) trivial ?_
      rotate_left
      · intro W hSw; (try dsimp only at hSw); go_simp; (try with_reducible rfl)
      try simp only [Act.put, List.getElem_toArray, List.getElem_cons_zero, List.getElem_cons_succ, List.setIfInBounds_toArray, List.set_cons_zero, List.set_cons_succ]
      refine wpAnyH_take (i := 17) (v := ?_) rfl (by kernel_rfl) (by kernel_rfl) (by kernel_rfl) (fun _ _ _ h => h) (Or.inl ⟨by rfl, ?_⟩) trivial ?_
      rotate_left
      · intro W hSw; (try dsimp only at hSw); go_simp; (try with_reducible rfl)
      try simp only [Act.put, List.getElem_toArray, List.getElem_cons_zero, List.getElem_cons_succ, List.setIfInBounds_toArray, List.set_cons_zero, List.set_cons_succ]
      refine wpAnyH_ready (rs := [18]) (by kernel_rfl) (by simp) ?_
      refine AllReadyH.cons rfl (fun K hK => ?_) AllReadyH.nil
      go_simp
      refine hK.out _ _ trivial (fun hHeld => ?_)
      clear hK K
      try simp only [Act.put, List.getElem_toArray, List.getElem_cons_zero, List.getElem_cons_succ, List.setIfInBounds_toArray, List.set_cons_zero, List.set_cons_succ]
      refine wpAnyH_done (by kernel_rfl) ?_ _
      clear hHeld ho3 hm3 hA3 z1 z2 y1 y2
      obtain ⟨q4, b4, hM4, hs4⟩ := y3
      replace q4 := Lib.hid q4
      replace b4 := Lib.hid b4
      replace hM4 := Lib.hid hM4
      replace hs4 := Lib.hid hs4
      go_wp2_with (first
        | (refine wpList_load_row rfl 46 (.tmp 6) rfl (w.heap.size + 1) rfl _ _ _ _ q4.out Tryz.underlying46 rfl msg_sizeG ?_)
        | (refine wpList_store_blk rfl 46 (.tmp 4) (.tmp 44) rfl w.heap.size 0 _ rfl rfl b4.out (by simp) msg_sizeG (by rfl) #[.int .i64 x.m.frm, .int .i64 x.m.to, .int .i64 x.m.kind, .int .i64 x.m.r.i.r, .int .i64 x.m.r.i.n, .int .i64 x.m.r.bal, .int .i64 x.m.r.st, .int .i64 x.m.r.by_, .int .i64 x.m.r.e.o.c, .int .i64 x.m.r.e.o.s, .int .i64 x.m.r.e.o.k, .string (txt x.m.r.e.o.acct), .string (txt x.m.r.e.o.peer), .int .i64 x.m.r.e.o.sum, .slice x.L.a x.L.n x.L.c, .int .i64 x.m.r.e.o.per, .int .i64 x.m.r.e.o.hold, .string (txt x.m.r.e.o.note), .bool x.m.r.e.none, .slice x.D.a x.D.n x.D.c] rfl ?_; intro w7 hb7 hm7; replace hb7 := Lib.hid hb7; replace hm7 := Lib.hid hm7))
      refine ret_row_tmp rfl w.heap.size rfl hb7.out Tryz.underlying46 rfl msg_sizeG (.bool true) rfl rfl ?_
      exact fin3 _ _ _ _ hM4.out hs4.out hm7.out
  case neg =>
    refine wp_region_held_drew (S := fun _ => True) (by kernel_rfl) trivial (fun hHeld => ?_)
    refine wpAnyH_take (i := 0) (v := ?_) rfl (by kernel_rfl) (by kernel_rfl) (by kernel_rfl) (fun _ _ _ h => h) (Or.inl ⟨by rfl, ?_⟩) trivial ?_
    rotate_left
    · intro W hSw; (try dsimp only at hSw); go_simp; (try with_reducible rfl)
    try simp only [Act.put, List.getElem_toArray, List.getElem_cons_zero, List.getElem_cons_succ, List.setIfInBounds_toArray, List.set_cons_zero, List.set_cons_succ]
    refine wpAnyH_take (i := 1) (v := ?_) rfl (by kernel_rfl) (by kernel_rfl) (by kernel_rfl) (fun _ _ _ h => h) (Or.inl ⟨by rfl, ?_⟩) trivial ?_
    rotate_left
    · intro W hSw; (try dsimp only at hSw); go_simp; (try with_reducible rfl)
    try simp only [Act.put, List.getElem_toArray, List.getElem_cons_zero, List.getElem_cons_succ, List.setIfInBounds_toArray, List.set_cons_zero, List.set_cons_succ]
    refine wpAnyH_take (i := 2) (v := ?_) rfl (by kernel_rfl) (by kernel_rfl) (by kernel_rfl) (fun _ _ _ h => h) (Or.inl ⟨by rfl, ?_⟩) trivial ?_
    rotate_left
    · intro W hSw; (try dsimp only at hSw); go_simp; (try with_reducible rfl)
    try simp only [Act.put, List.getElem_toArray, List.getElem_cons_zero, List.getElem_cons_succ, List.setIfInBounds_toArray, List.set_cons_zero, List.set_cons_succ]
    refine wpAnyH_take (i := 3) (v := ?_) rfl (by kernel_rfl) (by kernel_rfl) (by kernel_rfl) (fun _ _ _ h => h) (Or.inl ⟨by rfl, ?_⟩) trivial ?_
    rotate_left
    · intro W hSw; (try dsimp only at hSw); go_simp; (try with_reducible rfl)
    try simp only [Act.put, List.getElem_toArray, List.getElem_cons_zero, List.getElem_cons_succ, List.setIfInBounds_toArray, List.set_cons_zero, List.set_cons_succ]
    refine wpAnyH_take (i := 5) (v := ?_) rfl (by kernel_rfl) (by kernel_rfl) (by kernel_rfl) (fun _ _ _ h => h) (Or.inl ⟨by rfl, ?_⟩) trivial ?_
    rotate_left
    · intro W hSw; (try dsimp only at hSw); go_simp; (try with_reducible rfl)
    try simp only [Act.put, List.getElem_toArray, List.getElem_cons_zero, List.getElem_cons_succ, List.setIfInBounds_toArray, List.set_cons_zero, List.set_cons_succ]
    refine wpAnyH_take (i := 8) (v := ?_) rfl (by kernel_rfl) (by kernel_rfl) (by kernel_rfl) (fun _ _ _ h => h) (Or.inl ⟨by rfl, ?_⟩) trivial ?_
    rotate_left
    · intro W hSw; (try dsimp only at hSw); go_simp; (try with_reducible rfl)
    try simp only [Act.put, List.getElem_toArray, List.getElem_cons_zero, List.getElem_cons_succ, List.setIfInBounds_toArray, List.set_cons_zero, List.set_cons_succ]
    refine wpAnyH_take (i := 9) (v := ?_) rfl (by kernel_rfl) (by kernel_rfl) (by kernel_rfl) (fun _ _ _ h => h) (Or.inl ⟨by rfl, ?_⟩) trivial ?_
    rotate_left
    · intro W hSw; (try dsimp only at hSw); go_simp; (try with_reducible rfl)
    try simp only [Act.put, List.getElem_toArray, List.getElem_cons_zero, List.getElem_cons_succ, List.setIfInBounds_toArray, List.set_cons_zero, List.set_cons_succ]
    refine wpAnyH_take (i := 10) (v := ?_) rfl (by kernel_rfl) (by kernel_rfl) (by kernel_rfl) (fun _ _ _ h => h) (Or.inl ⟨by rfl, ?_⟩) trivial ?_
    rotate_left
    · intro W hSw; (try dsimp only at hSw); go_simp; (try with_reducible rfl)
    try simp only [Act.put, List.getElem_toArray, List.getElem_cons_zero, List.getElem_cons_succ, List.setIfInBounds_toArray, List.set_cons_zero, List.set_cons_succ]
    refine wpAnyH_take (i := 12) (v := ?_) rfl (by kernel_rfl) (by kernel_rfl) (by kernel_rfl) (fun _ _ _ h => h) (Or.inl ⟨by rfl, ?_⟩) trivial ?_
    rotate_left
    · intro W hSw; (try dsimp only at hSw); go_simp; (try with_reducible rfl)
    try simp only [Act.put, List.getElem_toArray, List.getElem_cons_zero, List.getElem_cons_succ, List.setIfInBounds_toArray, List.set_cons_zero, List.set_cons_succ]
    refine wpAnyH_take (i := 13) (v := ?_) rfl (by kernel_rfl) (by kernel_rfl) (by kernel_rfl) (fun _ _ _ h => h) (Or.inl ⟨by rfl, ?_⟩) trivial ?_
    rotate_left
    · intro W hSw; (try dsimp only at hSw); go_simp; (try with_reducible rfl)
    try simp only [Act.put, List.getElem_toArray, List.getElem_cons_zero, List.getElem_cons_succ, List.setIfInBounds_toArray, List.set_cons_zero, List.set_cons_succ]
    refine wpAnyH_ready (rs := [4, 11]) (by kernel_rfl) (by simp) ?_
    refine AllReadyH.cons rfl (fun K hK => ?_) (AllReadyH.cons rfl (fun K hK => ?_) AllReadyH.nil)
    · go_simp
      refine hK.out _ _ trivial (fun hHeld => ?_)
      clear hK K
      try simp only [Act.put, List.getElem_toArray, List.getElem_cons_zero, List.getElem_cons_succ, List.setIfInBounds_toArray, List.set_cons_zero, List.set_cons_succ]
      refine wpAnyH_take (i := 6) (v := ?_) rfl (by kernel_rfl) (by kernel_rfl) (by kernel_rfl) (fun _ _ _ h => h) (Or.inl ⟨by rfl, ?_⟩) trivial ?_
      rotate_left
      · intro W hSw; (try dsimp only at hSw); go_simp; (try with_reducible rfl)
      try simp only [Act.put, List.getElem_toArray, List.getElem_cons_zero, List.getElem_cons_succ, List.setIfInBounds_toArray, List.set_cons_zero, List.set_cons_succ]
      refine wpAnyH_ready (rs := [7, 11]) (by kernel_rfl) (by simp) ?_
      refine AllReadyH.cons rfl (fun K hK => ?_) (AllReadyH.cons rfl (fun K hK => ?_) AllReadyH.nil)
      · refine step_appM rfl (.const (.slice none 0 0)) (.tmp 32) rfl rfl (OwM.none_ _) rfl hl1.out (by omega) ?_
        intro A3 c3 w3 ho3 hm3 hA3
        obtain ⟨z1, z2⟩ := fin1 A3 c3 w3 ho3 hm3 hA3
        rw [Nat.zero_add, List.nil_append] at ho3
        rw [Nat.zero_add]
        refine hK.out _ _ trivial (fun hHeld => ?_)
        clear hK K
        try simp only [Act.put, List.getElem_toArray, List.getElem_cons_zero, List.getElem_cons_succ, List.setIfInBounds_toArray, List.set_cons_zero, List.set_cons_succ]
        refine wpAnyH_ready (rs := [11]) (by kernel_rfl) (by simp) ?_
        refine AllReadyH.cons rfl (fun K hK => ?_) AllReadyH.nil
        go_simp
        refine hK.out _ _ trivial (fun hHeld => ?_)
        clear hK K
        try simp only [Act.put, List.getElem_toArray, List.getElem_cons_zero, List.getElem_cons_succ, List.setIfInBounds_toArray, List.set_cons_zero, List.set_cons_succ]
        refine wpAnyH_take (i := 14) (v := ?_) rfl (by kernel_rfl) (by kernel_rfl) (by kernel_rfl) (fun _ _ _ h => h) (Or.inl ⟨by rfl, ?_⟩) trivial ?_
        rotate_left
        · intro W hSw; (try dsimp only at hSw); go_simp; (try with_reducible rfl)
        try simp only [Act.put, List.getElem_toArray, List.getElem_cons_zero, List.getElem_cons_succ, List.setIfInBounds_toArray, List.set_cons_zero, List.set_cons_succ]
        refine wpAnyH_ready (rs := [15]) (by kernel_rfl) (by simp) ?_
        refine AllReadyH.cons rfl (fun K hK => ?_) AllReadyH.nil
        refine step_appM rfl (.tmp 33) (.tmp 40) rfl rfl ho3 rfl (z2 _ _ (by first | (intro _; rfl) | (intro h; exact absurd h d0)) (by first | (intro _; rfl) | (intro h; exact absurd rfl h)) (by omega)) (by omega) ?_
        intro A5 c5 w5 ho5 hm5 hA5
        obtain ⟨y1, y2, y3⟩ := fin2 A3 c3 w3 A5 c5 w5 hm3 hA3 ho5 hm5 hA5
        clear ho5 hm5 hA5
        refine hK.out _ _ trivial (fun hHeld => ?_)
        clear hK K
        try simp only [Act.put, List.getElem_toArray, List.getElem_cons_zero, List.getElem_cons_succ, List.setIfInBounds_toArray, List.set_cons_zero, List.set_cons_succ]
        refine wpAnyH_take (i := 16) (v := ?_) rfl (by kernel_rfl) (by kernel_rfl) (by kernel_rfl) (fun _ _ _ h => h) (Or.inl ⟨by rfl, ?_⟩) trivial ?_
        rotate_left
        · intro W hSw; (try dsimp only at hSw); go_simp; (try with_reducible rfl)
        try simp only [Act.put, List.getElem_toArray, List.getElem_cons_zero, List.getElem_cons_succ, List.setIfInBounds_toArray, List.set_cons_zero, List.set_cons_succ]
        refine wpAnyH_take (i := 17) (v := ?_) rfl (by kernel_rfl) (by kernel_rfl) (by kernel_rfl) (fun _ _ _ h => h) (Or.inl ⟨by rfl, ?_⟩) trivial ?_
        rotate_left
        · intro W hSw; (try dsimp only at hSw); go_simp; (try with_reducible rfl)
        try simp only [Act.put, List.getElem_toArray, List.getElem_cons_zero, List.getElem_cons_succ, List.setIfInBounds_toArray, List.set_cons_zero, List.set_cons_succ]
        refine wpAnyH_ready (rs := [18]) (by kernel_rfl) (by simp) ?_
        refine AllReadyH.cons rfl (fun K hK => ?_) AllReadyH.nil
        go_simp
        refine hK.out _ _ trivial (fun hHeld => ?_)
        clear hK K
        try simp only [Act.put, List.getElem_toArray, List.getElem_cons_zero, List.getElem_cons_succ, List.setIfInBounds_toArray, List.set_cons_zero, List.set_cons_succ]
        refine wpAnyH_done (by kernel_rfl) ?_ _
        clear hHeld ho3 hm3 hA3 z1 z2 y1 y2
        obtain ⟨q4, b4, hM4, hs4⟩ := y3
        replace q4 := Lib.hid q4
        replace b4 := Lib.hid b4
        replace hM4 := Lib.hid hM4
        replace hs4 := Lib.hid hs4
        go_wp2_with (first
          | (refine wpList_load_row rfl 46 (.tmp 6) rfl (w.heap.size + 1) rfl _ _ _ _ q4.out Tryz.underlying46 rfl msg_sizeG ?_)
          | (refine wpList_store_blk rfl 46 (.tmp 4) (.tmp 44) rfl w.heap.size 0 _ rfl rfl b4.out (by simp) msg_sizeG (by rfl) #[.int .i64 x.m.frm, .int .i64 x.m.to, .int .i64 x.m.kind, .int .i64 x.m.r.i.r, .int .i64 x.m.r.i.n, .int .i64 x.m.r.bal, .int .i64 x.m.r.st, .int .i64 x.m.r.by_, .int .i64 x.m.r.e.o.c, .int .i64 x.m.r.e.o.s, .int .i64 x.m.r.e.o.k, .string (txt x.m.r.e.o.acct), .string (txt x.m.r.e.o.peer), .int .i64 x.m.r.e.o.sum, .slice x.L.a x.L.n x.L.c, .int .i64 x.m.r.e.o.per, .int .i64 x.m.r.e.o.hold, .string (txt x.m.r.e.o.note), .bool x.m.r.e.none, .slice x.D.a x.D.n x.D.c] rfl ?_; intro w7 hb7 hm7; replace hb7 := Lib.hid hb7; replace hm7 := Lib.hid hm7))
        refine ret_row_tmp rfl w.heap.size rfl hb7.out Tryz.underlying46 rfl msg_sizeG (.bool true) rfl rfl ?_
        exact fin3 _ _ _ _ hM4.out hs4.out hm7.out
      · go_simp
        refine hK.out _ _ trivial (fun hHeld => ?_)
        clear hK K
        try simp only [Act.put, List.getElem_toArray, List.getElem_cons_zero, List.getElem_cons_succ, List.setIfInBounds_toArray, List.set_cons_zero, List.set_cons_succ]
        refine wpAnyH_take (i := 14) (v := ?_) rfl (by kernel_rfl) (by kernel_rfl) (by kernel_rfl) (fun _ _ _ h => h) (Or.inl ⟨by rfl, ?_⟩) trivial ?_
        rotate_left
        · intro W hSw; (try dsimp only at hSw); go_simp; (try with_reducible rfl)
        try simp only [Act.put, List.getElem_toArray, List.getElem_cons_zero, List.getElem_cons_succ, List.setIfInBounds_toArray, List.set_cons_zero, List.set_cons_succ]
        refine wpAnyH_ready (rs := [7]) (by kernel_rfl) (by simp) ?_
        refine AllReadyH.cons rfl (fun K hK => ?_) AllReadyH.nil
        refine step_appM rfl (.const (.slice none 0 0)) (.tmp 32) rfl rfl (OwM.none_ _) rfl hl1.out (by omega) ?_
        intro A3 c3 w3 ho3 hm3 hA3
        obtain ⟨z1, z2⟩ := fin1 A3 c3 w3 ho3 hm3 hA3
        rw [Nat.zero_add, List.nil_append] at ho3
        rw [Nat.zero_add]
        refine hK.out _ _ trivial (fun hHeld => ?_)
        clear hK K
        try simp only [Act.put, List.getElem_toArray, List.getElem_cons_zero, List.getElem_cons_succ, List.setIfInBounds_toArray, List.set_cons_zero, List.set_cons_succ]
        refine wpAnyH_ready (rs := [15]) (by kernel_rfl) (by simp) ?_
        refine AllReadyH.cons rfl (fun K hK => ?_) AllReadyH.nil
        refine step_appM rfl (.tmp 33) (.tmp 40) rfl rfl ho3 rfl (z2 _ _ (by first | (intro _; rfl) | (intro h; exact absurd h d0)) (by first | (intro _; rfl) | (intro h; exact absurd rfl h)) (by omega)) (by omega) ?_
        intro A5 c5 w5 ho5 hm5 hA5
        obtain ⟨y1, y2, y3⟩ := fin2 A3 c3 w3 A5 c5 w5 hm3 hA3 ho5 hm5 hA5
        clear ho5 hm5 hA5
        refine hK.out _ _ trivial (fun hHeld => ?_)
        clear hK K
        try simp only [Act.put, List.getElem_toArray, List.getElem_cons_zero, List.getElem_cons_succ, List.setIfInBounds_toArray, List.set_cons_zero, List.set_cons_succ]
        refine wpAnyH_take (i := 16) (v := ?_) rfl (by kernel_rfl) (by kernel_rfl) (by kernel_rfl) (fun _ _ _ h => h) (Or.inl ⟨by rfl, ?_⟩) trivial ?_
        rotate_left
        · intro W hSw; (try dsimp only at hSw); go_simp; (try with_reducible rfl)
        try simp only [Act.put, List.getElem_toArray, List.getElem_cons_zero, List.getElem_cons_succ, List.setIfInBounds_toArray, List.set_cons_zero, List.set_cons_succ]
        refine wpAnyH_take (i := 17) (v := ?_) rfl (by kernel_rfl) (by kernel_rfl) (by kernel_rfl) (fun _ _ _ h => h) (Or.inl ⟨by rfl, ?_⟩) trivial ?_
        rotate_left
        · intro W hSw; (try dsimp only at hSw); go_simp; (try with_reducible rfl)
        try simp only [Act.put, List.getElem_toArray, List.getElem_cons_zero, List.getElem_cons_succ, List.setIfInBounds_toArray, List.set_cons_zero, List.set_cons_succ]
        refine wpAnyH_ready (rs := [18]) (by kernel_rfl) (by simp) ?_
        refine AllReadyH.cons rfl (fun K hK => ?_) AllReadyH.nil
        go_simp
        refine hK.out _ _ trivial (fun hHeld => ?_)
        clear hK K
        try simp only [Act.put, List.getElem_toArray, List.getElem_cons_zero, List.getElem_cons_succ, List.setIfInBounds_toArray, List.set_cons_zero, List.set_cons_succ]
        refine wpAnyH_done (by kernel_rfl) ?_ _
        clear hHeld ho3 hm3 hA3 z1 z2 y1 y2
        obtain ⟨q4, b4, hM4, hs4⟩ := y3
        replace q4 := Lib.hid q4
        replace b4 := Lib.hid b4
        replace hM4 := Lib.hid hM4
        replace hs4 := Lib.hid hs4
        go_wp2_with (first
          | (refine wpList_load_row rfl 46 (.tmp 6) rfl (w.heap.size + 1) rfl _ _ _ _ q4.out Tryz.underlying46 rfl msg_sizeG ?_)
          | (refine wpList_store_blk rfl 46 (.tmp 4) (.tmp 44) rfl w.heap.size 0 _ rfl rfl b4.out (by simp) msg_sizeG (by rfl) #[.int .i64 x.m.frm, .int .i64 x.m.to, .int .i64 x.m.kind, .int .i64 x.m.r.i.r, .int .i64 x.m.r.i.n, .int .i64 x.m.r.bal, .int .i64 x.m.r.st, .int .i64 x.m.r.by_, .int .i64 x.m.r.e.o.c, .int .i64 x.m.r.e.o.s, .int .i64 x.m.r.e.o.k, .string (txt x.m.r.e.o.acct), .string (txt x.m.r.e.o.peer), .int .i64 x.m.r.e.o.sum, .slice x.L.a x.L.n x.L.c, .int .i64 x.m.r.e.o.per, .int .i64 x.m.r.e.o.hold, .string (txt x.m.r.e.o.note), .bool x.m.r.e.none, .slice x.D.a x.D.n x.D.c] rfl ?_; intro w7 hb7 hm7; replace hb7 := Lib.hid hb7; replace hm7 := Lib.hid hm7))
        refine ret_row_tmp rfl w.heap.size rfl hb7.out Tryz.underlying46 rfl msg_sizeG (.bool true) rfl rfl ?_
        exact fin3 _ _ _ _ hM4.out hs4.out hm7.out
    · go_simp
      refine hK.out _ _ trivial (fun hHeld => ?_)
      clear hK K
      try simp only [Act.put, List.getElem_toArray, List.getElem_cons_zero, List.getElem_cons_succ, List.setIfInBounds_toArray, List.set_cons_zero, List.set_cons_succ]
      refine wpAnyH_take (i := 14) (v := ?_) rfl (by kernel_rfl) (by kernel_rfl) (by kernel_rfl) (fun _ _ _ h => h) (Or.inl ⟨by rfl, ?_⟩) trivial ?_
      rotate_left
      · intro W hSw; (try dsimp only at hSw); go_simp; (try with_reducible rfl)
      try simp only [Act.put, List.getElem_toArray, List.getElem_cons_zero, List.getElem_cons_succ, List.setIfInBounds_toArray, List.set_cons_zero, List.set_cons_succ]
      refine wpAnyH_ready (rs := [4]) (by kernel_rfl) (by simp) ?_
      refine AllReadyH.cons rfl (fun K hK => ?_) AllReadyH.nil
      go_simp
      refine hK.out _ _ trivial (fun hHeld => ?_)
      clear hK K
      try simp only [Act.put, List.getElem_toArray, List.getElem_cons_zero, List.getElem_cons_succ, List.setIfInBounds_toArray, List.set_cons_zero, List.set_cons_succ]
      refine wpAnyH_take (i := 6) (v := ?_) rfl (by kernel_rfl) (by kernel_rfl) (by kernel_rfl) (fun _ _ _ h => h) (Or.inl ⟨by rfl, ?_⟩) trivial ?_
      rotate_left
      · intro W hSw; (try dsimp only at hSw); go_simp; (try with_reducible rfl)
      try simp only [Act.put, List.getElem_toArray, List.getElem_cons_zero, List.getElem_cons_succ, List.setIfInBounds_toArray, List.set_cons_zero, List.set_cons_succ]
      refine wpAnyH_ready (rs := [7]) (by kernel_rfl) (by simp) ?_
      refine AllReadyH.cons rfl (fun K hK => ?_) AllReadyH.nil
      refine step_appM rfl (.const (.slice none 0 0)) (.tmp 32) rfl rfl (OwM.none_ _) rfl hl1.out (by omega) ?_
      intro A3 c3 w3 ho3 hm3 hA3
      obtain ⟨z1, z2⟩ := fin1 A3 c3 w3 ho3 hm3 hA3
      rw [Nat.zero_add, List.nil_append] at ho3
      rw [Nat.zero_add]
      refine hK.out _ _ trivial (fun hHeld => ?_)
      clear hK K
      try simp only [Act.put, List.getElem_toArray, List.getElem_cons_zero, List.getElem_cons_succ, List.setIfInBounds_toArray, List.set_cons_zero, List.set_cons_succ]
      refine wpAnyH_ready (rs := [15]) (by kernel_rfl) (by simp) ?_
      refine AllReadyH.cons rfl (fun K hK => ?_) AllReadyH.nil
      refine step_appM rfl (.tmp 33) (.tmp 40) rfl rfl ho3 rfl (z2 _ _ (by first | (intro _; rfl) | (intro h; exact absurd h d0)) (by first | (intro _; rfl) | (intro h; exact absurd rfl h)) (by omega)) (by omega) ?_
      intro A5 c5 w5 ho5 hm5 hA5
      obtain ⟨y1, y2, y3⟩ := fin2 A3 c3 w3 A5 c5 w5 hm3 hA3 ho5 hm5 hA5
      clear ho5 hm5 hA5
      refine hK.out _ _ trivial (fun hHeld => ?_)
      clear hK K
      try simp only [Act.put, List.getElem_toArray, List.getElem_cons_zero, List.getElem_cons_succ, List.setIfInBounds_toArray, List.set_cons_zero, List.set_cons_succ]
      refine wpAnyH_take (i := 16) (v := ?_) rfl (by kernel_rfl) (by kernel_rfl) (by kernel_rfl) (fun _ _ _ h => h) (Or.inl ⟨by rfl, ?_⟩) trivial ?_
      rotate_left
      · intro W hSw; (try dsimp only at hSw); go_simp; (try with_reducible rfl)
      try simp only [Act.put, List.getElem_toArray, List.getElem_cons_zero, List.getElem_cons_succ, List.setIfInBounds_toArray, List.set_cons_zero, List.set_cons_succ]
      refine wpAnyH_take (i := 17) (v := ?_) rfl (by kernel_rfl) (by kernel_rfl) (by kernel_rfl) (fun _ _ _ h => h) (Or.inl ⟨by rfl, ?_⟩) trivial ?_
      rotate_left
      · intro W hSw; (try dsimp only at hSw); go_simp; (try with_reducible rfl)
      try simp only [Act.put, List.getElem_toArray, List.getElem_cons_zero, List.getElem_cons_succ, List.setIfInBounds_toArray, List.set_cons_zero, List.set_cons_succ]
      refine wpAnyH_ready (rs := [18]) (by kernel_rfl) (by simp) ?_
      refine AllReadyH.cons rfl (fun K hK => ?_) AllReadyH.nil
      go_simp
      refine hK.out _ _ trivial (fun hHeld => ?_)
      clear hK K
      try simp only [Act.put, List.getElem_toArray, List.getElem_cons_zero, List.getElem_cons_succ, List.setIfInBounds_toArray, List.set_cons_zero, List.set_cons_succ]
      refine wpAnyH_done (by kernel_rfl) ?_ _
      clear hHeld ho3 hm3 hA3 z1 z2 y1 y2
      obtain ⟨q4, b4, hM4, hs4⟩ := y3
      replace q4 := Lib.hid q4
      replace b4 := Lib.hid b4
      replace hM4 := Lib.hid hM4
      replace hs4 := Lib.hid hs4
      go_wp2_with (first
        | (refine wpList_load_row rfl 46 (.tmp 6) rfl (w.heap.size + 1) rfl _ _ _ _ q4.out Tryz.underlying46 rfl msg_sizeG ?_)
        | (refine wpList_store_blk rfl 46 (.tmp 4) (.tmp 44) rfl w.heap.size 0 _ rfl rfl b4.out (by simp) msg_sizeG (by rfl) #[.int .i64 x.m.frm, .int .i64 x.m.to, .int .i64 x.m.kind, .int .i64 x.m.r.i.r, .int .i64 x.m.r.i.n, .int .i64 x.m.r.bal, .int .i64 x.m.r.st, .int .i64 x.m.r.by_, .int .i64 x.m.r.e.o.c, .int .i64 x.m.r.e.o.s, .int .i64 x.m.r.e.o.k, .string (txt x.m.r.e.o.acct), .string (txt x.m.r.e.o.peer), .int .i64 x.m.r.e.o.sum, .slice x.L.a x.L.n x.L.c, .int .i64 x.m.r.e.o.per, .int .i64 x.m.r.e.o.hold, .string (txt x.m.r.e.o.note), .bool x.m.r.e.none, .slice x.D.a x.D.n x.D.c] rfl ?_; intro w7 hb7 hm7; replace hb7 := Lib.hid hb7; replace hm7 := Lib.hid hm7))
      refine ret_row_tmp rfl w.heap.size rfl hb7.out Tryz.underlying46 rfl msg_sizeG (.bool true) rfl rfl ?_
      exact fin3 _ _ _ _ hM4.out hs4.out hm7.out
end Go.Proofs.YtdekehhmjehicaaGreat
