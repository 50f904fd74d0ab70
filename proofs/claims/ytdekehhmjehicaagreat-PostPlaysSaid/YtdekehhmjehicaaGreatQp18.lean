import Derived.Test.YtdekehhmjehicaaGreatQp17
import Derived.Test.YtdekehhmjehicaaGreatQp11
import Derived.StillTailTactics
import Derived.Test.YtdekehhmjehicaaGreatQp1
/-
  The bag: Twice, For. No condition.
-/
namespace Go.Proofs.YtdekehhmjehicaaGreat
set_option linter.unusedVariables false
set_option linter.unusedSimpArgs false
open Go.RowKit
/-- what Twice leaves, and tells -/
def twiceL (xs : List Ms) (k : Int) (n : Nat) : List Ms := match lookR xs k with | none => xs | some x => if n < 400 then xs ++ [x] else xs
def twiceB (xs : List Ms) (k : Int) (n : Nat) : Bool := match lookR xs k with | none => false | some _ => decide (n < 400)
theorem rdM_one (w : World) (x : Ms) : RdM (w.alloc (.cells #[.int .i64 x.m.frm, .int .i64 x.m.to, .int .i64 x.m.kind, .int .i64 x.m.r.i.r, .int .i64 x.m.r.i.n, .int .i64 x.m.r.bal, .int .i64 x.m.r.st, .int .i64 x.m.r.by_, .int .i64 x.m.r.e.o.c, .int .i64 x.m.r.e.o.s, .int .i64 x.m.r.e.o.k, .string (txt x.m.r.e.o.acct), .string (txt x.m.r.e.o.peer), .int .i64 x.m.r.e.o.sum, .slice x.L.a x.L.n x.L.c, .int .i64 x.m.r.e.o.per, .int .i64 x.m.r.e.o.hold, .string (txt x.m.r.e.o.note), .bool x.m.r.e.none, .slice x.D.a x.D.n x.D.c] 46)) (some ⟨w.heap.size, 0, none⟩) 1 [x] :=
  rdn w 46 20 1 w.heap.size #[.int .i64 x.m.frm, .int .i64 x.m.to, .int .i64 x.m.kind, .int .i64 x.m.r.i.r, .int .i64 x.m.r.i.n, .int .i64 x.m.r.bal, .int .i64 x.m.r.st, .int .i64 x.m.r.by_, .int .i64 x.m.r.e.o.c, .int .i64 x.m.r.e.o.s, .int .i64 x.m.r.e.o.k, .string (txt x.m.r.e.o.acct), .string (txt x.m.r.e.o.peer), .int .i64 x.m.r.e.o.sum, .slice x.L.a x.L.n x.L.c, .int .i64 x.m.r.e.o.per, .int .i64 x.m.r.e.o.hold, .string (txt x.m.r.e.o.note), .bool x.m.r.e.none, .slice x.D.a x.D.n x.D.c] (0, 0) rfl rfl
set_option maxRecDepth 100000 in
set_option maxHeartbeats 4000000 in
theorem bagTwice_ok (w : World) (p : Nat) (A : Option Addr) (n c : Nat) (xs : List Ms) (h : BagSt w p A n c xs) (hn : n ≤ 400) (k : Int) :
    Calls Tryz.prog 12 #[.pointer (some ⟨p, 0, none⟩), .int .i64 k] w fun e w' =>
      ∃ A' n' c', e = .returned (.bool (twiceB xs k n)) ∧ BagSt w' p A' n' c' (twiceL xs k n) ∧ n' ≤ 400 ∧ Mod (bagF p A) w w' ∧ ∀ i, fp A' i → fp A i ∨ w.heap.size ≤ i := by
  have kL := Lib.hid (bagLook_ok w p A n c xs h k)
  have h0 := Lib.hid h
  clear h
  go_enter Tryz.func12, Tryz.ntmps12
  go_wp2_with fail
  with_reducible refine kL.out.mono ?_
  rintro e w1 ⟨v, rfl, hv, hm1⟩
  have hs1 := Lib.hid (h0.out.mod0 hm1)
  have hq := Lib.hid (Blk.new w1 46 #[.int .i64 0, .int .i64 0, .int .i64 0, .int .i64 0, .int .i64 0, .int .i64 0, .int .i64 0, .int .i64 0, .int .i64 0, .int .i64 0, .int .i64 0, .string ⟨#[]⟩, .string ⟨#[]⟩, .int .i64 0, .slice none 0 0, .int .i64 0, .int .i64 0, .string ⟨#[]⟩, .bool false, .slice none 0 0])
  rcases hv with ⟨x, hx, rfl⟩ | ⟨hx, rfl⟩
  · dsimp only
    have hB : Hid (twiceB xs k n = decide (n < 400)) := Lib.hid (by unfold twiceB; rw [hx])
    have hL : Hid (twiceL xs k n = if n < 400 then xs ++ [x] else xs) := Lib.hid (by unfold twiceL; rw [hx])
    replace hx := Lib.hid hx
    replace hm1 := Lib.hid hm1
    go_wp2_with (first
      | (refine wpList_store_blk rfl 46 (.tmp 5) (.tmp 11) rfl w1.heap.size 0 _ rfl rfl hq.out (by simp) msg_size (by rfl) #[.int .i64 x.m.frm, .int .i64 x.m.to, .int .i64 x.m.kind, .int .i64 x.m.r.i.r, .int .i64 x.m.r.i.n, .int .i64 x.m.r.bal, .int .i64 x.m.r.st, .int .i64 x.m.r.by_, .int .i64 x.m.r.e.o.c, .int .i64 x.m.r.e.o.s, .int .i64 x.m.r.e.o.k, .string (txt x.m.r.e.o.acct), .string (txt x.m.r.e.o.peer), .int .i64 x.m.r.e.o.sum, .slice x.L.a x.L.n x.L.c, .int .i64 x.m.r.e.o.per, .int .i64 x.m.r.e.o.hold, .string (txt x.m.r.e.o.note), .bool x.m.r.e.none, .slice x.D.a x.D.n x.D.c] rfl ?_; intro w2 hq2 hm2; have hm2' := ((Mod.refl none_ w1).alloc (.cells #[.int .i64 0, .int .i64 0, .int .i64 0, .int .i64 0, .int .i64 0, .int .i64 0, .int .i64 0, .int .i64 0, .int .i64 0, .int .i64 0, .int .i64 0, .string ⟨#[]⟩, .string ⟨#[]⟩, .int .i64 0, .slice none 0 0, .int .i64 0, .int .i64 0, .string ⟨#[]⟩, .bool false, .slice none 0 0] 46)).in_new (Nat.le_refl _) hm2; have hM2 := Lib.hid (hm1.out.trans hm2'); have hs2 := Lib.hid (hs1.out.mod0 (hm2'.alloc (.cells #[.int .i64 x.m.frm, .int .i64 x.m.to, .int .i64 x.m.kind, .int .i64 x.m.r.i.r, .int .i64 x.m.r.i.n, .int .i64 x.m.r.bal, .int .i64 x.m.r.st, .int .i64 x.m.r.by_, .int .i64 x.m.r.e.o.c, .int .i64 x.m.r.e.o.s, .int .i64 x.m.r.e.o.k, .string (txt x.m.r.e.o.acct), .string (txt x.m.r.e.o.peer), .int .i64 x.m.r.e.o.sum, .slice x.L.a x.L.n x.L.c, .int .i64 x.m.r.e.o.per, .int .i64 x.m.r.e.o.hold, .string (txt x.m.r.e.o.note), .bool x.m.r.e.none, .slice x.D.a x.D.n x.D.c] 46))); replace hq2 := Lib.hid hq2; clear hm2 hm2')
      | (refine wpList_step (fun K hK => ?_); rw [if_pos (by rfl)]; refine wp_load_row 46 (.tmp 5) rfl w1.heap.size rfl _ _ _ _ hq2.out Tryz.underlying46 rfl msg_size ?_; refine hK _ _ ?_))
    have kP := bagput_ok _ p A n c xs hs2.out hn (some ⟨w2.heap.size, 0, none⟩) 1 1 [x] (rdM_one w2 x) (by omega) (by omega)
    unfold PutPost at kP
    simp only [List.length_singleton] at kP
    with_reducible refine kP.mono ?_
    rintro e w3 ⟨A3, c3, rfl, hb3, hm3, hf3⟩
    dsimp only
    have hM3 := Lib.hid (((hM2.out.alloc (.cells #[.int .i64 x.m.frm, .int .i64 x.m.to, .int .i64 x.m.kind, .int .i64 x.m.r.i.r, .int .i64 x.m.r.i.n, .int .i64 x.m.r.bal, .int .i64 x.m.r.st, .int .i64 x.m.r.by_, .int .i64 x.m.r.e.o.c, .int .i64 x.m.r.e.o.s, .int .i64 x.m.r.e.o.k, .string (txt x.m.r.e.o.acct), .string (txt x.m.r.e.o.peer), .int .i64 x.m.r.e.o.sum, .slice x.L.a x.L.n x.L.c, .int .i64 x.m.r.e.o.per, .int .i64 x.m.r.e.o.hold, .string (txt x.m.r.e.o.note), .bool x.m.r.e.none, .slice x.D.a x.D.n x.D.c] 46)).any (bagF p A)).trans hm3)
    have hf4 : Hid (∀ i, fp A3 i → fp A i ∨ w.heap.size ≤ i) := Lib.hid (fun i hi => by
      rcases hf3 i hi with h1 | h1
      · exact .inl h1
      · exact .inr (Nat.le_trans (hM2.out.alloc (.cells #[.int .i64 x.m.frm, .int .i64 x.m.to, .int .i64 x.m.kind, .int .i64 x.m.r.i.r, .int .i64 x.m.r.i.n, .int .i64 x.m.r.bal, .int .i64 x.m.r.st, .int .i64 x.m.r.by_, .int .i64 x.m.r.e.o.c, .int .i64 x.m.r.e.o.s, .int .i64 x.m.r.e.o.k, .string (txt x.m.r.e.o.acct), .string (txt x.m.r.e.o.peer), .int .i64 x.m.r.e.o.sum, .slice x.L.a x.L.n x.L.c, .int .i64 x.m.r.e.o.per, .int .i64 x.m.r.e.o.hold, .string (txt x.m.r.e.o.note), .bool x.m.r.e.none, .slice x.D.a x.D.n x.D.c] 46)).size h1))
    clear hm3 hf3 kP
    by_cases hlt : n < 400
    · have hp1 : putN 1 n = 1 := by unfold putN; omega
      rw [hp1] at hb3 ⊢
      simp only [List.take_succ_cons, List.take_zero] at hb3
      replace hb3 := Lib.hid hb3
      go_wp2_with fail
      go_ret
      refine ⟨A3, n + 1, c3, by rw [hB.out, decide_eq_true hlt] <;> rfl, by rw [hL.out, if_pos hlt]; exact hb3.out, by omega, hM3.out, hf4.out⟩
    · have hp1 : putN 1 n = 0 := by unfold putN; omega
      rw [hp1] at hb3 ⊢
      simp only [List.take_zero, List.append_nil, Nat.add_zero] at hb3
      replace hb3 := Lib.hid hb3
      go_wp2_with fail
      go_ret
      refine ⟨A3, n, c3, by rw [hB.out, decide_eq_false hlt] <;> rfl, by rw [hL.out, if_neg hlt]; exact hb3.out, hn, hM3.out, hf4.out⟩
  · dsimp only
    have hB : Hid (twiceB xs k n = false) := Lib.hid (by unfold twiceB; rw [hx])
    have hL : Hid (twiceL xs k n = xs) := Lib.hid (by unfold twiceL; rw [hx])
    replace hx := Lib.hid hx
    replace hm1 := Lib.hid hm1
    go_wp2_with (refine wpList_store_blk rfl 46 (.tmp 5) (.tmp 11) rfl w1.heap.size 0 _ rfl rfl hq.out (by simp) msg_size (by rfl) #[.int .i64 0, .int .i64 0, .int .i64 0, .int .i64 0, .int .i64 0, .int .i64 0, .int .i64 0, .int .i64 0, .int .i64 0, .int .i64 0, .int .i64 0, .string ⟨#[]⟩, .string ⟨#[]⟩, .int .i64 0, .slice none 0 0, .int .i64 0, .int .i64 0, .string ⟨#[]⟩, .bool false, .slice none 0 0] rfl ?_; intro w2 hq2 hm2; have hm2' := ((Mod.refl none_ w1).alloc (.cells #[.int .i64 0, .int .i64 0, .int .i64 0, .int .i64 0, .int .i64 0, .int .i64 0, .int .i64 0, .int .i64 0, .int .i64 0, .int .i64 0, .int .i64 0, .string ⟨#[]⟩, .string ⟨#[]⟩, .int .i64 0, .slice none 0 0, .int .i64 0, .int .i64 0, .string ⟨#[]⟩, .bool false, .slice none 0 0] 46)).in_new (Nat.le_refl _) hm2; have hM2 := Lib.hid (hm1.out.trans hm2'); have hs2 := Lib.hid (hs1.out.mod0 hm2'); clear hm2 hm2' hq2)
    go_ret
    exact ⟨A, n, c, by rw [hB.out] <;> rfl, by rw [hL.out]; exact hs2.out, hn, hM2.out.any _, fun i hi => .inl hi⟩
set_option maxRecDepth 100000 in
theorem bagTwice_nil (w : World) (j : Nat) : Calls Tryz.prog 12 #[.pointer none, .int .i64 (j : Int)] w fun e w' => e = .returned (.bool false) ∧ Mod none_ w w' := by
  go_enter Tryz.func12, Tryz.ntmps12
  go_wp2_with fail
  refine (bagLook_nil w j).mono ?_
  rintro e w1 ⟨rfl, hm1⟩
  dsimp only
  have hq := Lib.hid (Blk.new w1 46 #[.int .i64 0, .int .i64 0, .int .i64 0, .int .i64 0, .int .i64 0, .int .i64 0, .int .i64 0, .int .i64 0, .int .i64 0, .int .i64 0, .int .i64 0, .string ⟨#[]⟩, .string ⟨#[]⟩, .int .i64 0, .slice none 0 0, .int .i64 0, .int .i64 0, .string ⟨#[]⟩, .bool false, .slice none 0 0])
  replace hm1 := Lib.hid hm1
  go_wp2_with (refine wpList_store_blk rfl 46 (.tmp 5) (.tmp 11) rfl w1.heap.size 0 _ rfl rfl hq.out (by simp) msg_size (by rfl) #[.int .i64 0, .int .i64 0, .int .i64 0, .int .i64 0, .int .i64 0, .int .i64 0, .int .i64 0, .int .i64 0, .int .i64 0, .int .i64 0, .int .i64 0, .string ⟨#[]⟩, .string ⟨#[]⟩, .int .i64 0, .slice none 0 0, .int .i64 0, .int .i64 0, .string ⟨#[]⟩, .bool false, .slice none 0 0] rfl ?_; intro w2 hq2 hm2; have hm2' := ((Mod.refl none_ w1).alloc (.cells #[.int .i64 0, .int .i64 0, .int .i64 0, .int .i64 0, .int .i64 0, .int .i64 0, .int .i64 0, .int .i64 0, .int .i64 0, .int .i64 0, .int .i64 0, .string ⟨#[]⟩, .string ⟨#[]⟩, .int .i64 0, .slice none 0 0, .int .i64 0, .int .i64 0, .string ⟨#[]⟩, .bool false, .slice none 0 0] 46)).in_new (Nat.le_refl _) hm2; have hM2 := Lib.hid (hm1.out.trans hm2'); clear hm2 hm2' hq2)
  go_ret
  exact ⟨rfl, hM2.out⟩
theorem intinfo : (Tryz.prog.info? 3).map (fun i => (i.zero, i.size, i.bytes)) = some (some (.int .i64 0), 1, 8) := by kernel_rfl
def OwN (w : World) (A : Option Addr) (n c : Nat) (l : List Int) : Prop := Ow w 3 1 A n c (ivs l)
theorem appN {w : World} {ops : Array Oper} {rest : List Oper} {o : Oper} {a : Act} {Q : Exit → Act → World → Prop} (hgd : o.guard = none) (s x : Operand)
    (ho : o.op = .call { callee := .builtin .append, args := #[s, x], argTypes := #[52, 52] })
    {A : Option Addr} {n c : Nat} {xs : List Int} (hs : a.eval s = .slice A n c) (hown : OwN w A n c xs)
    {S : Option Addr} {m d : Nat} {news : List Int} (hx : a.eval x = .slice S m d) (hr : RdI w S m news) (hb : (n + m) * 8 ≤ 140737488355328)
    (h : ∀ A' c' w', OwN w' A' (n + m) c' (xs ++ news) → Mod (fp A) w w' → (A' = A ∨ A' = some ⟨w.heap.size, 0, none⟩) → wpList Tryz.prog ops Q rest (a.put o.dst (.slice A' (n + m) c')) w') : wpList Tryz.prog ops Q (o :: rest) a w := by
  obtain ⟨i0, hi, hz0, hz1, hz2⟩ := info_parts intinfo
  refine wpList_append_ow hgd s x 52 ho 3 i0 _ 1 8 Tryz.underlying52 hi hz0 hz1 hz2 rfl (by omega) A n c (ivs xs) hs hown S m d (ivs news) hx hr (ivs_one _) (by omega) (by omega) ?_
  intro A' c' w' h1
  rw [← ivs_append] at h1
  exact h A' c' w' h1
/-- the places of the messages to a replica -/
def places (tr : Int) : Nat → List Ms → List Int
  | _, [] => []
  | i, x :: xs => if x.m.to = tr then (i : Int) :: places tr (i + 1) xs else places tr (i + 1) xs
theorem places_snoc (tr : Int) (x : Ms) : ∀ (xs : List Ms) (i : Nat), places tr i (xs ++ [x]) = places tr i xs ++ if x.m.to = tr then [((i + xs.length : Nat) : Int)] else []
  | [], i => by simp [places]
  | y :: ys, i => by
    have := places_snoc tr x ys (i + 1)
    simp only [List.cons_append, places]
    rw [this]
    have e : i + 1 + ys.length = i + (y :: ys).length := by simp; omega
    rw [e]
    split <;> simp
theorem places_len (tr : Int) : ∀ (xs : List Ms) (i : Nat), (places tr i xs).length ≤ xs.length
  | [], i => by simp [places]
  | y :: ys, i => by
    have := places_len tr ys (i + 1)
    simp only [places]
    split <;> simp <;> omega
set_option maxRecDepth 100000 in
set_option maxHeartbeats 4000000 in
theorem bagFor_ok (w : World) (p : Nat) (A : Option Addr) (n c : Nat) (xs : List Ms) (h : BagSt w p A n c xs) (hn : n ≤ 400) (tr : Int) :
    Calls Tryz.prog 17 #[.pointer (some ⟨p, 0, none⟩), .int .i64 tr] w fun e w' =>
      ∃ A' m' c', e = .returned (.slice A' m' c') ∧ OwN w' A' m' c' (places tr 0 xs) ∧ Fresh w A' ∧ Mod none_ w w' := by
  have kA := Lib.hid (bagAll_ok w p A n c xs h (by omega))
  have hl := Lib.hid h.len
  clear h
  go_enter Tryz.func17, Tryz.ntmps17
  go_wp2_with fail
  with_reducible refine kA.out.mono ?_
  rintro e w1 ⟨A1, c1, rfl, ho1, hf1, hm1⟩
  dsimp only
  replace ho1 := Lib.hid ho1
  replace hf1 := Lib.hid hf1
  replace hm1 := Lib.hid hm1
  go_wp2_with fail
  go_loopw [5, 11] (fun v x wr => ∃ j : Nat, x = .int .i64 j ∧ j ≤ n ∧ ∃ B m d, v = .slice B m d ∧ m ≤ j ∧ OwN wr B m d (places tr 0 (xs.take j)) ∧ Fresh w1 B ∧ Mod none_ w1 wr) (fun _ x _ => n - (intOf x).toNat)
  case atStart => exact ⟨0, rfl, by omega, none, 0, 0, rfl, by omega, Ow.nil _ _ _, (fun a ha => by cases ha), Mod.refl _ _⟩
  case round =>
    obtain ⟨j, rfl, hj, B, m, d, rfl, hmj, ho, hf, hm⟩ := hrel
    by_cases hlt : j < n
    · obtain ⟨b, o, x, hA, hxm, hx, hrg⟩ := rdm_get (w := wr) (Rd.mod0 (Ow.rd ho1.out) hm) hlt
      subst hA
      unfold msC at hrg
      have hb0 := Lib.hid (Blk.new wr 46 #[.int .i64 0, .int .i64 0, .int .i64 0, .int .i64 0, .int .i64 0, .int .i64 0, .int .i64 0, .int .i64 0, .int .i64 0, .int .i64 0, .int .i64 0, .string ⟨#[]⟩, .string ⟨#[]⟩, .int .i64 0, .slice none 0 0, .int .i64 0, .int .i64 0, .string ⟨#[]⟩, .bool false, .slice none 0 0])
      have hpl := places_snoc tr x (xs.take j) 0
      have htk : xs.take (j + 1) = xs.take j ++ [x] := by rw [List.take_add_one, hx] <;> rfl
      have hlj : (xs.take j).length = j := by rw [List.length_take, hl.out]; omega
      rw [← htk, hlj, Nat.zero_add] at hpl
      clear hlj htk
      replace ho := Lib.hid ho
      replace hf := Lib.hid hf
      replace hm := Lib.hid hm
      replace hxm := Lib.hid hxm
      replace hx := Lib.hid hx
      replace hrg := Lib.hid hrg
      by_cases hto : x.m.to = tr
      · rw [if_pos hto] at hpl
        have hpl2 := Lib.hid hpl
        clear hpl
        subst hto
        go_wp2_with (first
          | (refine wpList_load_mid rfl 46 (.tmp 14) rfl b (o + j * 20) rfl _ _ hrg.out Tryz.underlying46 rfl msg_size ?_)
          | (refine wpList_store_blk rfl 46 (.tmp 7) (.tmp 15) rfl wr.heap.size 0 _ rfl rfl hb0.out (by simp) msg_size (by rfl) #[.int .i64 x.m.frm, .int .i64 x.m.to, .int .i64 x.m.kind, .int .i64 x.m.r.i.r, .int .i64 x.m.r.i.n, .int .i64 x.m.r.bal, .int .i64 x.m.r.st, .int .i64 x.m.r.by_, .int .i64 x.m.r.e.o.c, .int .i64 x.m.r.e.o.s, .int .i64 x.m.r.e.o.k, .string (txt x.m.r.e.o.acct), .string (txt x.m.r.e.o.peer), .int .i64 x.m.r.e.o.sum, .slice x.L.a x.L.n x.L.c, .int .i64 x.m.r.e.o.per, .int .i64 x.m.r.e.o.hold, .string (txt x.m.r.e.o.note), .bool x.m.r.e.none, .slice x.D.a x.D.n x.D.c] rfl ?_; intro w2 hb2 hm2; have hm2' := ((Mod.refl none_ wr).alloc (.cells #[.int .i64 0, .int .i64 0, .int .i64 0, .int .i64 0, .int .i64 0, .int .i64 0, .int .i64 0, .int .i64 0, .int .i64 0, .int .i64 0, .int .i64 0, .string ⟨#[]⟩, .string ⟨#[]⟩, .int .i64 0, .slice none 0 0, .int .i64 0, .int .i64 0, .string ⟨#[]⟩, .bool false, .slice none 0 0] 46)).in_new (Nat.le_refl _) hm2; have hM2 := Lib.hid (hm.out.trans (hm2'.alloc (.cells #[.int .i64 (j : Int)] 3))); have ho2 := Lib.hid (ho.out.mod0 (hm2'.alloc (.cells #[.int .i64 (j : Int)] 3))); have c2 : w2.cell? ⟨wr.heap.size, 1, none⟩ = some (.int .i64 x.m.to) := hb2.cell_ rfl; clear hm2 hm2' hb2)
          | (at_builtin; go_loud (refine appN rfl (.tmp 20) (.tmp 22) rfl rfl ho2.out rfl (rdi_one w2 3 (j : Int)) (by omega) ?_; intro A3 c3 w3 ho3 hm3 hA3; replace ho3 := Lib.hid ho3; replace hm3 := Lib.hid hm3; replace hA3 := Lib.hid hA3)))
        go_roundw
        case rel => exact ⟨j + 1, by go_num, by omega, A3, m + 1, c3, rfl, by omega, by rw [hpl2.out]; exact ho3.out, Fresh.app hf.out hM2.out.size hA3.out, hM2.out.app hf.out hm3.out⟩
        case measure => simp [intOf]; omega
      · rw [if_neg hto, List.append_nil] at hpl
        have hpl2 := Lib.hid hpl
        clear hpl
        go_wp2_with (first
          | (refine wpList_load_mid rfl 46 (.tmp 14) rfl b (o + j * 20) rfl _ _ hrg.out Tryz.underlying46 rfl msg_size ?_)
          | (refine wpList_store_blk rfl 46 (.tmp 7) (.tmp 15) rfl wr.heap.size 0 _ rfl rfl hb0.out (by simp) msg_size (by rfl) #[.int .i64 x.m.frm, .int .i64 x.m.to, .int .i64 x.m.kind, .int .i64 x.m.r.i.r, .int .i64 x.m.r.i.n, .int .i64 x.m.r.bal, .int .i64 x.m.r.st, .int .i64 x.m.r.by_, .int .i64 x.m.r.e.o.c, .int .i64 x.m.r.e.o.s, .int .i64 x.m.r.e.o.k, .string (txt x.m.r.e.o.acct), .string (txt x.m.r.e.o.peer), .int .i64 x.m.r.e.o.sum, .slice x.L.a x.L.n x.L.c, .int .i64 x.m.r.e.o.per, .int .i64 x.m.r.e.o.hold, .string (txt x.m.r.e.o.note), .bool x.m.r.e.none, .slice x.D.a x.D.n x.D.c] rfl ?_; intro w2 hb2 hm2; have hm2' := ((Mod.refl none_ wr).alloc (.cells #[.int .i64 0, .int .i64 0, .int .i64 0, .int .i64 0, .int .i64 0, .int .i64 0, .int .i64 0, .int .i64 0, .int .i64 0, .int .i64 0, .int .i64 0, .string ⟨#[]⟩, .string ⟨#[]⟩, .int .i64 0, .slice none 0 0, .int .i64 0, .int .i64 0, .string ⟨#[]⟩, .bool false, .slice none 0 0] 46)).in_new (Nat.le_refl _) hm2; have hM2 := Lib.hid (hm.out.trans hm2'); have ho2 := Lib.hid (ho.out.mod0 hm2'); have c2 : w2.cell? ⟨wr.heap.size, 1, none⟩ = some (.int .i64 x.m.to) := hb2.cell_ rfl; clear hm2 hm2' hb2))
        go_roundw
        case rel => exact ⟨j + 1, by go_num, by omega, B, m, d, rfl, by omega, by rw [hpl2.out]; exact ho2.out, hf.out, hM2.out⟩
        case measure => simp [intOf]; omega
    · obtain rfl : j = n := by omega
      rw [List.take_of_length_le (by rw [hl.out]; exact Nat.le_refl _)] at ho
      replace ho := Lib.hid ho
      replace hf := Lib.hid hf
      replace hm := Lib.hid hm
      go_wp2_with fail
      go_ret
      exact ⟨B, m, d, rfl, ho.out, hf.out.later hm1.out.size, hm1.out.trans hm.out⟩
set_option maxRecDepth 100000 in
theorem bagFor_nil (w : World) (tr : Int) : Calls Tryz.prog 17 #[.pointer none, .int .i64 tr] w fun e w' => e = .returned (.slice none 0 0) ∧ w = w' := by
  go_enter Tryz.func17, Tryz.ntmps17
  go_wp2_with fail
  refine (bagAll_nil w).mono ?_
  rintro e w1 ⟨rfl, rfl⟩
  go_wp2_with fail
  go_loop [5, 11] (fun v x => v = .slice none 0 0 ∧ x = .int .i64 0) (fun _ _ => 0)
  case atStart => exact ⟨rfl, rfl⟩
  case round =>
    obtain ⟨rfl, rfl⟩ := hrel
    go_wp2_with fail
    go_ret
    exact ⟨rfl, rfl⟩
end Go.Proofs.YtdekehhmjehicaaGreat
/-
  The reference's bag: Twice. No condition.
-/
namespace Go.Proofs.YtdekehhmjehicaaGreat
set_option linter.unusedVariables false
set_option linter.unusedSimpArgs false
open Go.RowKit
/-- the reference's bag -/
structure BagR (W : World) (p : Nat) (A : Option Addr) (n c : Nat) (xs : List Ms) : Prop where
  blk : Blk W p 29 #[.slice A n c]
  ow : OwM W A n c xs
  np : ¬ fp A p
theorem BagR.mod {F : Nat → Prop} {W W' : World} {p : Nat} {A : Option Addr} {n c : Nat} {xs : List Ms} (h : BagR W p A n c xs) (hm : Mod F W W') (hp : ¬ F p) (hA : ∀ k, fp A k → ¬ F k) : BagR W' p A n c xs := ⟨h.blk.mod hm hp, h.ow.mod hm hA, h.np⟩
theorem BagR.mod0 {W W' : World} {p : Nat} {A : Option Addr} {n c : Nat} {xs : List Ms} (h : BagR W p A n c xs) (hm : Mod none_ W W') : BagR W' p A n c xs := h.mod hm (fun h => h) (fun _ _ h => h)
theorem BagR.len {W : World} {p : Nat} {A : Option Addr} {n c : Nat} {xs : List Ms} (h : BagR W p A n c xs) : xs.length = n := h.ow.len
/-- what a step of the reference's bag tells and leaves -/
def RBagPost (w : World) (p : Nat) (A : Option Addr) (v : Value) (ys : List Ms) (e : Ending) (w' : World) : Prop :=
  ∃ A' n' c', e = .returned v ∧ BagR w' p A' n' c' ys ∧ n' ≤ 400 ∧ Mod (bagF p A) w w' ∧ ∀ i, fp A' i → fp A i ∨ w.heap.size ≤ i
theorem step_load_msg {w : World} {ops : Array Oper} {o : Oper} {a : Act} {K : Act → World → Prop} {Q : Exit → Act → World → Prop} {E : Prop} (hgd : o.guard = none) (x : Operand) (ho : o.op = .load 46 x)
    (g of : Nat) (hx : a.eval x = .pointer (some ⟨g, of, none⟩)) {cs : List Value} (hc : w.rangeAt g of cs) (hs : cs.length = 20) (h : K (a.put o.dst (.agg cs.toArray)) w) : if Region.wanted o (yielded ops a.tmps) = true then Oper.wp Tryz.prog o a w K Q else E := by
  rw [if_pos (by simp [Region.wanted, hgd])]
  exact wp_load_mid 46 x ho g of hx cs _ hc Tryz.underlying46 rfl (by rw [hs]; exact msg_sizeG) h
set_option maxRecDepth 100000 in
set_option maxHeartbeats 4000000 in
theorem rtwice_ok (w : World) (p : Nat) (A : Option Addr) (n c : Nat) (xs : List Ms) (h : BagR w p A n c xs) (hn : n ≤ 400) (k : Int) :
    Calls Tryz.prog 13 #[.pointer (some ⟨p, 0, none⟩), .int .i64 k] w (RBagPost w p A (.bool (twiceB xs k n)) (twiceL xs k n)) := by
  have c0 : w.cell? ⟨p, 0, none⟩ = some (.slice A n c) := h.blk.cell_ rfl
  have f0 : w.frozen? ⟨p, 0, none⟩ = false := h.blk.frozen 0
  have hl := h.len
  have hpl := Lib.hid h.blk.lt
  by_cases hk : k < 0
  · have hr : twiceB xs k n = false ∧ twiceL xs k n = xs := by unfold twiceB twiceL lookR; rw [if_neg (by omega)]; exact ⟨rfl, rfl⟩
    rw [hr.1, hr.2]
    replace h := Lib.hid h
    replace hl := Lib.hid hl
    clear hr
    go_enter Tryz.func13, Tryz.ntmps13
    go_wp2_with fail
    go_ret
    exact ⟨A, n, c, rfl, h.out, hn, Mod.refl _ _, fun i hi => .inl hi⟩
  obtain ⟨j, rfl⟩ : ∃ j : Nat, k = (j : Int) := ⟨k.toNat, by omega⟩
  by_cases hj : j < n
  case neg =>
    have hr : twiceB xs (j : Int) n = false ∧ twiceL xs (j : Int) n = xs := by
      unfold twiceB twiceL lookR; rw [if_pos (by omega), List.getElem?_eq_none (by simp; omega)]; exact ⟨rfl, rfl⟩
    have hnj : decide (n ≤ j) = true := decide_eq_true (by omega)
    rw [hr.1, hr.2]
    replace h := Lib.hid h
    replace hl := Lib.hid hl
    clear hr
    go_enter Tryz.func13, Tryz.ntmps13
    go_wp2_with fail
    go_ret
    exact ⟨A, n, c, rfl, h.out, hn, Mod.refl _ _, fun i hi => .inl hi⟩
  case pos =>
  obtain ⟨b, o, x, rfl, hxm, hx, hrg⟩ := rdm_get (w := w) h.ow.rd hj
  have hlk : lookR xs (j : Int) = some x := by unfold lookR; rw [if_pos (by omega)]; simpa using hx
  by_cases h4 : n < 400
  case neg =>
    have hr : twiceB xs (j : Int) n = false ∧ twiceL xs (j : Int) n = xs := by
      unfold twiceB twiceL; rw [hlk]; dsimp only; rw [if_neg h4, decide_eq_false h4]; exact ⟨rfl, rfl⟩
    have hnj : decide (n ≤ j) = false := decide_eq_false (by omega)
    have hn4 : decide (400 ≤ n) = true := decide_eq_true (by omega)
    rw [hr.1, hr.2]
    replace h := Lib.hid h
    replace hl := Lib.hid hl
    replace hxm := Lib.hid hxm
    replace hx := Lib.hid hx
    replace hlk := Lib.hid hlk
    replace hrg := Lib.hid hrg
    clear hr
    go_enter Tryz.func13, Tryz.ntmps13
    go_wp2_with fail
    go_ret
    exact ⟨_, n, c, rfl, h.out, hn, Mod.refl _ _, fun i hi => .inl hi⟩
  case pos =>
  have hr : twiceB xs (j : Int) n = true ∧ twiceL xs (j : Int) n = xs ++ [x] := by
    unfold twiceB twiceL; rw [hlk]; dsimp only; rw [if_pos h4, decide_eq_true h4]; exact ⟨rfl, rfl⟩
  rw [hr.1, hr.2]
  unfold msC at hrg
  have hb0 : w.drew.rangeAt b (o + j * 20) [.int .i64 x.m.frm, .int .i64 x.m.to, .int .i64 x.m.kind, .int .i64 x.m.r.i.r, .int .i64 x.m.r.i.n, .int .i64 x.m.r.bal, .int .i64 x.m.r.st, .int .i64 x.m.r.by_, .int .i64 x.m.r.e.o.c, .int .i64 x.m.r.e.o.s, .int .i64 x.m.r.e.o.k, .string (txt x.m.r.e.o.acct), .string (txt x.m.r.e.o.peer), .int .i64 x.m.r.e.o.sum, .slice x.L.a x.L.n x.L.c, .int .i64 x.m.r.e.o.per, .int .i64 x.m.r.e.o.hold, .string (txt x.m.r.e.o.note), .bool x.m.r.e.none, .slice x.D.a x.D.n x.D.c] := hrg
  have hi1 : (0 : Int) ≤ (j : Int) := by omega
  have hi2 : (j : Int) < (n : Int) := by omega
  have hd4 : decide (400 ≤ n) = false := decide_eq_false (by omega)
  have hnj : decide (n ≤ j) = false := decide_eq_false (by omega)
  replace h := Lib.hid h
  replace hl := Lib.hid hl
  replace hxm := Lib.hid hxm
  replace hx := Lib.hid hx
  replace hlk := Lib.hid hlk
  replace hrg := Lib.hid hrg
  replace hb0 := Lib.hid hb0
  clear hr
  go_enter Tryz.func13, Tryz.ntmps13
  go_upto_region 3 with fail
  have hma : Mod none_ w ((w.alloc (.cells #[.int .i64 x.m.frm, .int .i64 x.m.to, .int .i64 x.m.kind, .int .i64 x.m.r.i.r, .int .i64 x.m.r.i.n, .int .i64 x.m.r.bal, .int .i64 x.m.r.st, .int .i64 x.m.r.by_, .int .i64 x.m.r.e.o.c, .int .i64 x.m.r.e.o.s, .int .i64 x.m.r.e.o.k, .string (txt x.m.r.e.o.acct), .string (txt x.m.r.e.o.peer), .int .i64 x.m.r.e.o.sum, .slice x.L.a x.L.n x.L.c, .int .i64 x.m.r.e.o.per, .int .i64 x.m.r.e.o.hold, .string (txt x.m.r.e.o.note), .bool x.m.r.e.none, .slice x.D.a x.D.n x.D.c] 46)).drew) := ((Mod.refl none_ w).alloc _).drew
  have hone : Hid (RdM ((w.alloc (.cells #[.int .i64 x.m.frm, .int .i64 x.m.to, .int .i64 x.m.kind, .int .i64 x.m.r.i.r, .int .i64 x.m.r.i.n, .int .i64 x.m.r.bal, .int .i64 x.m.r.st, .int .i64 x.m.r.by_, .int .i64 x.m.r.e.o.c, .int .i64 x.m.r.e.o.s, .int .i64 x.m.r.e.o.k, .string (txt x.m.r.e.o.acct), .string (txt x.m.r.e.o.peer), .int .i64 x.m.r.e.o.sum, .slice x.L.a x.L.n x.L.c, .int .i64 x.m.r.e.o.per, .int .i64 x.m.r.e.o.hold, .string (txt x.m.r.e.o.note), .bool x.m.r.e.none, .slice x.D.a x.D.n x.D.c] 46)).drew) (some ⟨w.heap.size, 0, none⟩) 1 [x]) := Lib.hid (rdM_one w x)
  have fin : ∀ A' c' w', OwM w' A' (n + 1) c' (xs ++ [x]) → Mod (fp (some ⟨b, o, none⟩)) ((w.alloc (.cells #[.int .i64 x.m.frm, .int .i64 x.m.to, .int .i64 x.m.kind, .int .i64 x.m.r.i.r, .int .i64 x.m.r.i.n, .int .i64 x.m.r.bal, .int .i64 x.m.r.st, .int .i64 x.m.r.by_, .int .i64 x.m.r.e.o.c, .int .i64 x.m.r.e.o.s, .int .i64 x.m.r.e.o.k, .string (txt x.m.r.e.o.acct), .string (txt x.m.r.e.o.peer), .int .i64 x.m.r.e.o.sum, .slice x.L.a x.L.n x.L.c, .int .i64 x.m.r.e.o.per, .int .i64 x.m.r.e.o.hold, .string (txt x.m.r.e.o.note), .bool x.m.r.e.none, .slice x.D.a x.D.n x.D.c] 46)).drew) w' → (A' = some ⟨b, o, none⟩ ∨ A' = some ⟨((w.alloc (.cells #[.int .i64 x.m.frm, .int .i64 x.m.to, .int .i64 x.m.kind, .int .i64 x.m.r.i.r, .int .i64 x.m.r.i.n, .int .i64 x.m.r.bal, .int .i64 x.m.r.st, .int .i64 x.m.r.by_, .int .i64 x.m.r.e.o.c, .int .i64 x.m.r.e.o.s, .int .i64 x.m.r.e.o.k, .string (txt x.m.r.e.o.acct), .string (txt x.m.r.e.o.peer), .int .i64 x.m.r.e.o.sum, .slice x.L.a x.L.n x.L.c, .int .i64 x.m.r.e.o.per, .int .i64 x.m.r.e.o.hold, .string (txt x.m.r.e.o.note), .bool x.m.r.e.none, .slice x.D.a x.D.n x.D.c] 46)).drew).heap.size, 0, none⟩) →
      w'.cell? ⟨p, 0, none⟩ = some (.slice (some ⟨b, o, none⟩) n c) ∧ w'.frozen? ⟨p, 0, none⟩ = false ∧ (True ∧ BagR (w'.setCell ⟨p, 0, none⟩ (.slice A' (n + 1) c')) p A' (n + 1) c' (xs ++ [x]) ∧ Mod (bagF p (some ⟨b, o, none⟩)) w (w'.setCell ⟨p, 0, none⟩ (.slice A' (n + 1) c')) ∧ ∀ i, fp A' i → fp (some (⟨b, o, none⟩ : Addr)) i ∨ w.heap.size ≤ i) := by
    intro A' c' w' ho hmA hA
    have hb' : Blk w' p 29 #[.slice (some ⟨b, o, none⟩) n c] := (h.out.blk.mod hma (fun h => h)).mod hmA h.out.np
    have hnp' : ¬ fp A' p := by
      rcases hA with rfl | rfl
      · exact h.out.np
      · rintro ⟨a, ha, hk⟩; cases ha; have := hpl.out; simp at hk; omega
    refine ⟨hb'.cell_ rfl, hb'.frozen 0, trivial, ⟨hb'.set_ 0 _, ho.mod ((Mod.refl (only p) w').set_only 0 _) (fun k hk hh => by have : k = p := hh; subst this; exact hnp' hk), hnp'⟩, (((hma.any (bagF p (some ⟨b, o, none⟩))).trans (hmA.mono (fun k hk => .inr hk))).setCell (p := ⟨p, 0, none⟩) (.inl (.inl rfl)) _), fun i hi => ?_⟩
    rcases hA with rfl | rfl
    · exact .inl hi
    · obtain ⟨a, ha, rfl⟩ := hi; cases ha; exact .inr (by simp)
  have c1 : w.drew.cell? ⟨p, 0, none⟩ = some (.slice (some ⟨b, o, none⟩) n c) := c0
  have c2 : ((w.alloc (.cells #[.int .i64 x.m.frm, .int .i64 x.m.to, .int .i64 x.m.kind, .int .i64 x.m.r.i.r, .int .i64 x.m.r.i.n, .int .i64 x.m.r.bal, .int .i64 x.m.r.st, .int .i64 x.m.r.by_, .int .i64 x.m.r.e.o.c, .int .i64 x.m.r.e.o.s, .int .i64 x.m.r.e.o.k, .string (txt x.m.r.e.o.acct), .string (txt x.m.r.e.o.peer), .int .i64 x.m.r.e.o.sum, .slice x.L.a x.L.n x.L.c, .int .i64 x.m.r.e.o.per, .int .i64 x.m.r.e.o.hold, .string (txt x.m.r.e.o.note), .bool x.m.r.e.none, .slice x.D.a x.D.n x.D.c] 46)).drew).cell? ⟨p, 0, none⟩ = some (.slice (some ⟨b, o, none⟩) n c) := hma.cell_some c0 (fun h => h)
  refine wp_region_held_drew (S := fun _ => True) (by kernel_rfl) trivial (fun hHeld => ?_)
  refine wpAnyH_take (i := 0) (v := ?_) rfl (by kernel_rfl) (by kernel_rfl) (by kernel_rfl) (fun _ _ _ h => h) (Or.inl ⟨by rfl, ?_⟩) trivial ?_
  rotate_left
  · intro W hSw; (try dsimp only at hSw); go_simp; (try with_reducible rfl)
  try simp only [Act.put, List.getElem_toArray, List.getElem_cons_zero, List.getElem_cons_succ, List.setIfInBounds_toArray, List.set_cons_zero, List.set_cons_succ]
  refine wpAnyH_take (i := 1) (v := ?_) rfl (by kernel_rfl) (by kernel_rfl) (by kernel_rfl) (fun _ _ _ h => h) (Or.inl ⟨by rfl, ?_⟩) trivial ?_
  rotate_left
  · intro W hSw; (try dsimp only at hSw); go_simp; (try with_reducible rfl)
  try simp only [Act.put, List.getElem_toArray, List.getElem_cons_zero, List.getElem_cons_succ, List.setIfInBounds_toArray, List.set_cons_zero, List.set_cons_succ]
  refine wpAnyH_take (i := 2) (v := ?_) rfl (by kernel_rfl) (by kernel_rfl) (by kernel_rfl) (fun _ _ _ h => h) (Or.inl ⟨by rfl, ?_⟩) trivial ?_
  rotate_left
  · intro W hSw; (try dsimp only at hSw); go_simp; (try with_reducible rfl)
  try simp only [Act.put, List.getElem_toArray, List.getElem_cons_zero, List.getElem_cons_succ, List.setIfInBounds_toArray, List.set_cons_zero, List.set_cons_succ]
  refine wpAnyH_take (i := 3) (v := ?_) rfl (by kernel_rfl) (by kernel_rfl) (by kernel_rfl) (fun _ _ _ h => h) (Or.inl ⟨by rfl, ?_⟩) trivial ?_
  rotate_left
  · intro W hSw; (try dsimp only at hSw); go_simp; (try with_reducible rfl)
  try simp only [Act.put, List.getElem_toArray, List.getElem_cons_zero, List.getElem_cons_succ, List.setIfInBounds_toArray, List.set_cons_zero, List.set_cons_succ]
  refine wpAnyH_take (i := 5) (v := ?_) rfl (by kernel_rfl) (by kernel_rfl) (by kernel_rfl) (fun _ _ _ h => h) (Or.inl ⟨by rfl, ?_⟩) trivial ?_
  rotate_left
  · intro W hSw; (try dsimp only at hSw); go_simp; (try with_reducible rfl)
  try simp only [Act.put, List.getElem_toArray, List.getElem_cons_zero, List.getElem_cons_succ, List.setIfInBounds_toArray, List.set_cons_zero, List.set_cons_succ]
  refine wpAnyH_take (i := 6) (v := ?_) rfl (by kernel_rfl) (by kernel_rfl) (by kernel_rfl) (fun _ _ _ h => h) (Or.inl ⟨by rfl, ?_⟩) trivial ?_
  rotate_left
  · intro W hSw; (try dsimp only at hSw); go_simp; (try with_reducible rfl)
  try simp only [Act.put, List.getElem_toArray, List.getElem_cons_zero, List.getElem_cons_succ, List.setIfInBounds_toArray, List.set_cons_zero, List.set_cons_succ]
  refine wpAnyH_take (i := 7) (v := ?_) rfl (by kernel_rfl) (by kernel_rfl) (by kernel_rfl) (fun _ _ _ h => h) (Or.inl ⟨by rfl, ?_⟩) trivial ?_
  rotate_left
  · intro W hSw; (try dsimp only at hSw); go_simp; (try with_reducible rfl)
  try simp only [Act.put, List.getElem_toArray, List.getElem_cons_zero, List.getElem_cons_succ, List.setIfInBounds_toArray, List.set_cons_zero, List.set_cons_succ]
  refine wpAnyH_take (i := 9) (v := ?_) rfl (by kernel_rfl) (by kernel_rfl) (by kernel_rfl) (fun _ _ _ h => h) (Or.inl ⟨by rfl, ?_⟩) trivial ?_
  rotate_left
  · intro W hSw; (try dsimp only at hSw); go_simp; (try with_reducible rfl)
  try simp only [Act.put, List.getElem_toArray, List.getElem_cons_zero, List.getElem_cons_succ, List.setIfInBounds_toArray, List.set_cons_zero, List.set_cons_succ]
  refine wpAnyH_ready (rs := [4, 8]) (by kernel_rfl) (by simp) ?_
  refine AllReadyH.cons rfl (fun K hK => ?_) (AllReadyH.cons rfl (fun K hK => ?_) AllReadyH.nil)
  · go_simp
    refine hK.out _ _ trivial (fun hHeld => ?_)
    clear hK K
    try simp only [Act.put, List.getElem_toArray, List.getElem_cons_zero, List.getElem_cons_succ, List.setIfInBounds_toArray, List.set_cons_zero, List.set_cons_succ]
    refine wpAnyH_ready (rs := [8]) (by kernel_rfl) (by simp) ?_
    refine AllReadyH.cons rfl (fun K hK => ?_) AllReadyH.nil
    go_simp
    refine hK.out _ _ trivial (fun hHeld => ?_)
    clear hK K
    try simp only [Act.put, List.getElem_toArray, List.getElem_cons_zero, List.getElem_cons_succ, List.setIfInBounds_toArray, List.set_cons_zero, List.set_cons_succ]
    refine wpAnyH_take (i := 10) (v := ?_) rfl (by kernel_rfl) (by kernel_rfl) (by kernel_rfl) (fun _ _ _ h => h) (Or.inl ⟨by rfl, ?_⟩) trivial ?_
    rotate_left
    · intro W hSw; (try dsimp only at hSw); go_simp; (try with_reducible rfl)
    try simp only [Act.put, List.getElem_toArray, List.getElem_cons_zero, List.getElem_cons_succ, List.setIfInBounds_toArray, List.set_cons_zero, List.set_cons_succ]
    refine wpAnyH_ready (rs := [11]) (by kernel_rfl) (by simp) ?_
    refine AllReadyH.cons rfl (fun K hK => ?_) AllReadyH.nil
    refine step_load_msg rfl (.tmp 34) rfl b (o + j * 20) rfl hb0.out rfl ?_
    refine hK.out _ _ trivial (fun hHeld => ?_)
    clear hK K
    try simp only [Act.put, List.getElem_toArray, List.getElem_cons_zero, List.getElem_cons_succ, List.setIfInBounds_toArray, List.set_cons_zero, List.set_cons_succ]
    refine wpAnyH_ready (rs := [12]) (by kernel_rfl) (by simp) ?_
    refine AllReadyH.cons rfl (fun K hK => ?_) AllReadyH.nil
    go_simp
    refine hK.out _ _ trivial (fun hHeld => ?_)
    clear hK K
    try simp only [Act.put, List.getElem_toArray, List.getElem_cons_zero, List.getElem_cons_succ, List.setIfInBounds_toArray, List.set_cons_zero, List.set_cons_succ]
    refine wpAnyH_ready (rs := [13]) (by kernel_rfl) (by simp) ?_
    refine AllReadyH.cons rfl (fun K hK => ?_) AllReadyH.nil
    refine step_appM rfl (.tmp 28) (.tmp 36) rfl rfl (h.out.ow.mod0 hma) rfl hone.out (by omega) ?_
    intro A' c' w' ho hmA hA
    obtain ⟨z1, z2, z3⟩ := fin A' c' w' ho hmA hA
    clear ho hmA hA
    refine hK.out _ _ trivial (fun hHeld => ?_)
    clear hK K
    try simp only [Act.put, List.getElem_toArray, List.getElem_cons_zero, List.getElem_cons_succ, List.setIfInBounds_toArray, List.set_cons_zero, List.set_cons_succ]
    refine wpAnyH_take (i := 14) (v := ?_) rfl (by kernel_rfl) (by kernel_rfl) (by kernel_rfl) (fun _ _ _ h => h) (Or.inl ⟨by rfl, ?_⟩) trivial ?_
    rotate_left
    · intro W hSw; (try dsimp only at hSw); go_simp; (try with_reducible rfl)
    try simp only [Act.put, List.getElem_toArray, List.getElem_cons_zero, List.getElem_cons_succ, List.setIfInBounds_toArray, List.set_cons_zero, List.set_cons_succ]
    refine wpAnyH_take (i := 15) (v := ?_) rfl (by kernel_rfl) (by kernel_rfl) (by kernel_rfl) (fun _ _ _ h => h) (Or.inl ⟨by rfl, ?_⟩) trivial ?_
    rotate_left
    · intro W hSw; (try dsimp only at hSw); go_simp; (try with_reducible rfl)
    try simp only [Act.put, List.getElem_toArray, List.getElem_cons_zero, List.getElem_cons_succ, List.setIfInBounds_toArray, List.set_cons_zero, List.set_cons_succ]
    refine wpAnyH_ready (rs := [16]) (by kernel_rfl) (by simp) ?_
    refine AllReadyH.cons rfl (fun K hK => ?_) AllReadyH.nil
    go_simp
    refine hK.out _ _ trivial (fun hHeld => ?_)
    clear hK K
    try simp only [Act.put, List.getElem_toArray, List.getElem_cons_zero, List.getElem_cons_succ, List.setIfInBounds_toArray, List.set_cons_zero, List.set_cons_succ]
    refine wpAnyH_done (by kernel_rfl) ?_ _
    clear hHeld
    replace z3 := Lib.hid z3
    clear z1 z2
    go_wp2_with fail
    go_ret
    exact ⟨A', n + 1, c', rfl, (z3.out.2.1), by omega, z3.out.2.2.1, z3.out.2.2.2⟩
  · go_simp
    refine hK.out _ _ trivial (fun hHeld => ?_)
    clear hK K
    try simp only [Act.put, List.getElem_toArray, List.getElem_cons_zero, List.getElem_cons_succ, List.setIfInBounds_toArray, List.set_cons_zero, List.set_cons_succ]
    refine wpAnyH_take (i := 10) (v := ?_) rfl (by kernel_rfl) (by kernel_rfl) (by kernel_rfl) (fun _ _ _ h => h) (Or.inl ⟨by rfl, ?_⟩) trivial ?_
    rotate_left
    · intro W hSw; (try dsimp only at hSw); go_simp; (try with_reducible rfl)
    try simp only [Act.put, List.getElem_toArray, List.getElem_cons_zero, List.getElem_cons_succ, List.setIfInBounds_toArray, List.set_cons_zero, List.set_cons_succ]
    refine wpAnyH_ready (rs := [4, 11]) (by kernel_rfl) (by simp) ?_
    refine AllReadyH.cons rfl (fun K hK => ?_) (AllReadyH.cons rfl (fun K hK => ?_) AllReadyH.nil)
    · go_simp
      refine hK.out _ _ trivial (fun hHeld => ?_)
      clear hK K
      try simp only [Act.put, List.getElem_toArray, List.getElem_cons_zero, List.getElem_cons_succ, List.setIfInBounds_toArray, List.set_cons_zero, List.set_cons_succ]
      refine wpAnyH_ready (rs := [11]) (by kernel_rfl) (by simp) ?_
      refine AllReadyH.cons rfl (fun K hK => ?_) AllReadyH.nil
      refine step_load_msg rfl (.tmp 34) rfl b (o + j * 20) rfl hb0.out rfl ?_
      refine hK.out _ _ trivial (fun hHeld => ?_)
      clear hK K
      try simp only [Act.put, List.getElem_toArray, List.getElem_cons_zero, List.getElem_cons_succ, List.setIfInBounds_toArray, List.set_cons_zero, List.set_cons_succ]
      refine wpAnyH_ready (rs := [12]) (by kernel_rfl) (by simp) ?_
      refine AllReadyH.cons rfl (fun K hK => ?_) AllReadyH.nil
      go_simp
      refine hK.out _ _ trivial (fun hHeld => ?_)
      clear hK K
      try simp only [Act.put, List.getElem_toArray, List.getElem_cons_zero, List.getElem_cons_succ, List.setIfInBounds_toArray, List.set_cons_zero, List.set_cons_succ]
      refine wpAnyH_ready (rs := [13]) (by kernel_rfl) (by simp) ?_
      refine AllReadyH.cons rfl (fun K hK => ?_) AllReadyH.nil
      refine step_appM rfl (.tmp 28) (.tmp 36) rfl rfl (h.out.ow.mod0 hma) rfl hone.out (by omega) ?_
      intro A' c' w' ho hmA hA
      obtain ⟨z1, z2, z3⟩ := fin A' c' w' ho hmA hA
      clear ho hmA hA
      refine hK.out _ _ trivial (fun hHeld => ?_)
      clear hK K
      try simp only [Act.put, List.getElem_toArray, List.getElem_cons_zero, List.getElem_cons_succ, List.setIfInBounds_toArray, List.set_cons_zero, List.set_cons_succ]
      refine wpAnyH_take (i := 14) (v := ?_) rfl (by kernel_rfl) (by kernel_rfl) (by kernel_rfl) (fun _ _ _ h => h) (Or.inl ⟨by rfl, ?_⟩) trivial ?_
      rotate_left
      · intro W hSw; (try dsimp only at hSw); go_simp; (try with_reducible rfl)
      try simp only [Act.put, List.getElem_toArray, List.getElem_cons_zero, List.getElem_cons_succ, List.setIfInBounds_toArray, List.set_cons_zero, List.set_cons_succ]
      refine wpAnyH_take (i := 15) (v := ?_) rfl (by kernel_rfl) (by kernel_rfl) (by kernel_rfl) (fun _ _ _ h => h) (Or.inl ⟨by rfl, ?_⟩) trivial ?_
      rotate_left
      · intro W hSw; (try dsimp only at hSw); go_simp; (try with_reducible rfl)
      try simp only [Act.put, List.getElem_toArray, List.getElem_cons_zero, List.getElem_cons_succ, List.setIfInBounds_toArray, List.set_cons_zero, List.set_cons_succ]
      refine wpAnyH_ready (rs := [16]) (by kernel_rfl) (by simp) ?_
      refine AllReadyH.cons rfl (fun K hK => ?_) AllReadyH.nil
      go_simp
      refine hK.out _ _ trivial (fun hHeld => ?_)
      clear hK K
      try simp only [Act.put, List.getElem_toArray, List.getElem_cons_zero, List.getElem_cons_succ, List.setIfInBounds_toArray, List.set_cons_zero, List.set_cons_succ]
      refine wpAnyH_done (by kernel_rfl) ?_ _
      clear hHeld
      replace z3 := Lib.hid z3
      clear z1 z2
      go_wp2_with fail
      go_ret
      exact ⟨A', n + 1, c', rfl, (z3.out.2.1), by omega, z3.out.2.2.1, z3.out.2.2.2⟩
    · refine step_load_msg rfl (.tmp 34) rfl b (o + j * 20) rfl hb0.out rfl ?_
      refine hK.out _ _ trivial (fun hHeld => ?_)
      clear hK K
      try simp only [Act.put, List.getElem_toArray, List.getElem_cons_zero, List.getElem_cons_succ, List.setIfInBounds_toArray, List.set_cons_zero, List.set_cons_succ]
      refine wpAnyH_ready (rs := [4, 12]) (by kernel_rfl) (by simp) ?_
      refine AllReadyH.cons rfl (fun K hK => ?_) (AllReadyH.cons rfl (fun K hK => ?_) AllReadyH.nil)
      · go_simp
        refine hK.out _ _ trivial (fun hHeld => ?_)
        clear hK K
        try simp only [Act.put, List.getElem_toArray, List.getElem_cons_zero, List.getElem_cons_succ, List.setIfInBounds_toArray, List.set_cons_zero, List.set_cons_succ]
        refine wpAnyH_ready (rs := [12]) (by kernel_rfl) (by simp) ?_
        refine AllReadyH.cons rfl (fun K hK => ?_) AllReadyH.nil
        go_simp
        refine hK.out _ _ trivial (fun hHeld => ?_)
        clear hK K
        try simp only [Act.put, List.getElem_toArray, List.getElem_cons_zero, List.getElem_cons_succ, List.setIfInBounds_toArray, List.set_cons_zero, List.set_cons_succ]
        refine wpAnyH_ready (rs := [13]) (by kernel_rfl) (by simp) ?_
        refine AllReadyH.cons rfl (fun K hK => ?_) AllReadyH.nil
        refine step_appM rfl (.tmp 28) (.tmp 36) rfl rfl (h.out.ow.mod0 hma) rfl hone.out (by omega) ?_
        intro A' c' w' ho hmA hA
        obtain ⟨z1, z2, z3⟩ := fin A' c' w' ho hmA hA
        clear ho hmA hA
        refine hK.out _ _ trivial (fun hHeld => ?_)
        clear hK K
        try simp only [Act.put, List.getElem_toArray, List.getElem_cons_zero, List.getElem_cons_succ, List.setIfInBounds_toArray, List.set_cons_zero, List.set_cons_succ]
        refine wpAnyH_take (i := 14) (v := ?_) rfl (by kernel_rfl) (by kernel_rfl) (by kernel_rfl) (fun _ _ _ h => h) (Or.inl ⟨by rfl, ?_⟩) trivial ?_
        rotate_left
        · intro W hSw; (try dsimp only at hSw); go_simp; (try with_reducible rfl)
        try simp only [Act.put, List.getElem_toArray, List.getElem_cons_zero, List.getElem_cons_succ, List.setIfInBounds_toArray, List.set_cons_zero, List.set_cons_succ]
        refine wpAnyH_take (i := 15) (v := ?_) rfl (by kernel_rfl) (by kernel_rfl) (by kernel_rfl) (fun _ _ _ h => h) (Or.inl ⟨by rfl, ?_⟩) trivial ?_
        rotate_left
        · intro W hSw; (try dsimp only at hSw); go_simp; (try with_reducible rfl)
        try simp only [Act.put, List.getElem_toArray, List.getElem_cons_zero, List.getElem_cons_succ, List.setIfInBounds_toArray, List.set_cons_zero, List.set_cons_succ]
        refine wpAnyH_ready (rs := [16]) (by kernel_rfl) (by simp) ?_
        refine AllReadyH.cons rfl (fun K hK => ?_) AllReadyH.nil
        go_simp
        refine hK.out _ _ trivial (fun hHeld => ?_)
        clear hK K
        try simp only [Act.put, List.getElem_toArray, List.getElem_cons_zero, List.getElem_cons_succ, List.setIfInBounds_toArray, List.set_cons_zero, List.set_cons_succ]
        refine wpAnyH_done (by kernel_rfl) ?_ _
        clear hHeld
        replace z3 := Lib.hid z3
        clear z1 z2
        go_wp2_with fail
        go_ret
        exact ⟨A', n + 1, c', rfl, (z3.out.2.1), by omega, z3.out.2.2.1, z3.out.2.2.2⟩
      · go_simp
        refine hK.out _ _ trivial (fun hHeld => ?_)
        clear hK K
        try simp only [Act.put, List.getElem_toArray, List.getElem_cons_zero, List.getElem_cons_succ, List.setIfInBounds_toArray, List.set_cons_zero, List.set_cons_succ]
        refine wpAnyH_ready (rs := [4]) (by kernel_rfl) (by simp) ?_
        refine AllReadyH.cons rfl (fun K hK => ?_) AllReadyH.nil
        go_simp
        refine hK.out _ _ trivial (fun hHeld => ?_)
        clear hK K
        try simp only [Act.put, List.getElem_toArray, List.getElem_cons_zero, List.getElem_cons_succ, List.setIfInBounds_toArray, List.set_cons_zero, List.set_cons_succ]
        refine wpAnyH_ready (rs := [13]) (by kernel_rfl) (by simp) ?_
        refine AllReadyH.cons rfl (fun K hK => ?_) AllReadyH.nil
        refine step_appM rfl (.tmp 28) (.tmp 36) rfl rfl (h.out.ow.mod0 hma) rfl hone.out (by omega) ?_
        intro A' c' w' ho hmA hA
        obtain ⟨z1, z2, z3⟩ := fin A' c' w' ho hmA hA
        clear ho hmA hA
        refine hK.out _ _ trivial (fun hHeld => ?_)
        clear hK K
        try simp only [Act.put, List.getElem_toArray, List.getElem_cons_zero, List.getElem_cons_succ, List.setIfInBounds_toArray, List.set_cons_zero, List.set_cons_succ]
        refine wpAnyH_take (i := 14) (v := ?_) rfl (by kernel_rfl) (by kernel_rfl) (by kernel_rfl) (fun _ _ _ h => h) (Or.inl ⟨by rfl, ?_⟩) trivial ?_
        rotate_left
        · intro W hSw; (try dsimp only at hSw); go_simp; (try with_reducible rfl)
        try simp only [Act.put, List.getElem_toArray, List.getElem_cons_zero, List.getElem_cons_succ, List.setIfInBounds_toArray, List.set_cons_zero, List.set_cons_succ]
        refine wpAnyH_take (i := 15) (v := ?_) rfl (by kernel_rfl) (by kernel_rfl) (by kernel_rfl) (fun _ _ _ h => h) (Or.inl ⟨by rfl, ?_⟩) trivial ?_
        rotate_left
        · intro W hSw; (try dsimp only at hSw); go_simp; (try with_reducible rfl)
        try simp only [Act.put, List.getElem_toArray, List.getElem_cons_zero, List.getElem_cons_succ, List.setIfInBounds_toArray, List.set_cons_zero, List.set_cons_succ]
        refine wpAnyH_ready (rs := [16]) (by kernel_rfl) (by simp) ?_
        refine AllReadyH.cons rfl (fun K hK => ?_) AllReadyH.nil
        go_simp
        refine hK.out _ _ trivial (fun hHeld => ?_)
        clear hK K
        try simp only [Act.put, List.getElem_toArray, List.getElem_cons_zero, List.getElem_cons_succ, List.setIfInBounds_toArray, List.set_cons_zero, List.set_cons_succ]
        refine wpAnyH_done (by kernel_rfl) ?_ _
        clear hHeld
        replace z3 := Lib.hid z3
        clear z1 z2
        go_wp2_with fail
        go_ret
        exact ⟨A', n + 1, c', rfl, (z3.out.2.1), by omega, z3.out.2.2.1, z3.out.2.2.2⟩
end Go.Proofs.YtdekehhmjehicaaGreat
/-
  The reference's bag: Put. No condition.
-/
namespace Go.Proofs.YtdekehhmjehicaaGreat
set_option linter.unusedVariables false
set_option linter.unusedSimpArgs false
open Go.RowKit
def MsTx (x : Ms) : Prop := (txt x.m.r.e.o.acct).size ≤ maxLen ∧ (txt x.m.r.e.o.peer).size ≤ maxLen
theorem bagF_grow {w : World} {p : Nat} {A A' : Option Addr} (h : ∀ i, fp A' i → fp A i ∨ w.heap.size ≤ i) : ∀ i, i < w.heap.size → bagF p A' i → bagF p A i := by
  intro i hi hb
  rcases hb with hb | hb
  · exact .inl hb
  · rcases h i hb with h1 | h1
    · exact .inr h1
    · omega
set_option maxRecDepth 100000 in
set_option maxHeartbeats 4000000 in
theorem rput_ok (w : World) (p : Nat) (A : Option Addr) (n c : Nat) (xs : List Ms) (h : BagR w p A n c xs) (hn : n ≤ 400) (B : Option Addr) (m d : Nat) (ys : List Ms) (hy : RdM w B m ys) (hE : MsM w ys) (hk : ∀ x ∈ ys, MsOk x) (ht : ∀ x ∈ ys, MsTx x) (hap : 0 < m → ∀ k, fp B k → ¬ bagF p A k) (hfar : FarsM (bagF p A) ys) (hm : m ≤ 1000) :
    Calls Tryz.prog 8 #[.pointer (some ⟨p, 0, none⟩), .slice B m d] w (RBagPost w p A (.int .i64 ((m : Int) - (putN (ys.filter RtM).length n : Nat))) (xs ++ (ys.filter RtM).take (putN (ys.filter RtM).length n))) := by
  have hl := Lib.hid hy.len
  have hBlt : 0 < m → ∀ k, fp B k → k < w.heap.size := fun h0 k hk => by
    obtain ⟨b, o, x, hb, _, _, hrg⟩ := rdm_get (w := w) hy h0
    obtain ⟨a, ha, rfl⟩ := hk
    rw [hb] at ha; cases ha
    exact World.block_lt_of_cell? w ⟨b, o + 0 * 20, none⟩ (hrg 0 _ rfl)
  replace h := Lib.hid h
  replace hy := Lib.hid hy
  replace hE := Lib.hid hE
  replace hk := Lib.hid hk
  replace ht := Lib.hid ht
  replace hap := Lib.hid hap
  replace hfar := Lib.hid hfar
  replace hBlt := Lib.hid hBlt
  go_enter Tryz.func8, Tryz.ntmps8
  go_wp2_with fail
  go_loopw [5, 6] (fun v y wr => ∃ (j t : Nat) (A' : Option Addr) (c' : Nat), y = .int .i64 j ∧ j ≤ m ∧ v = .int .i64 t ∧ t + putN ((ys.take j).filter RtM).length n = j ∧ BagR wr p A' (n + putN ((ys.take j).filter RtM).length n) c' (xs ++ ((ys.take j).filter RtM).take (putN ((ys.take j).filter RtM).length n)) ∧ Mod (bagF p A) w wr ∧ ∀ i, fp A' i → fp A i ∨ w.heap.size ≤ i) (fun _ y _ => m - (intOf y).toNat)
  case atStart => exact ⟨0, 0, A, c, rfl, by omega, rfl, by simp [putN], by simpa [putN] using h.out, Mod.refl _ _, fun i hi => .inl hi⟩
  case round =>
    obtain ⟨j, t, A1, c1, rfl, hj, rfl, htq, hR, hMr, hg⟩ := hrel
    obtain ⟨F, hF⟩ : ∃ F, F = (ys.take j).filter RtM := ⟨_, rfl⟩
    rw [← hF] at htq hR
    obtain ⟨q, hq⟩ : ∃ q, q = putN F.length n := ⟨_, rfl⟩
    rw [← hq] at htq hR
    have hq0 := hq
    unfold putN at hq0
    have htj : t ≤ j := by omega
    have hq400 : n + q ≤ 400 := by omega
    by_cases hlt : j < m
    · have hy1 : RdM wr B m ys := Rd.mod' hy.out hMr (fun _ => hap.out (by omega))
      obtain ⟨b, o, x, hB, hxm, hx, hrg⟩ := rdm_get (w := wr) hy1 hlt
      have hEx := (hfar.out x hxm).en (hE.out x hxm) hMr
      obtain ⟨q1, q2, _, q4⟩ := hk.out x hxm
      have kR := Lib.hid (r17right_ok wr x.m x.L x.D hEx q1 q2 q4 (ht.out x hxm).1 (ht.out x hxm).2)
      have htk : ys.take (j + 1) = ys.take j ++ [x] := by rw [List.take_add_one, hx] <;> rfl
      have hbne := hap.out (by omega) b (by rw [hB]; exact ⟨_, rfl, rfl⟩)
      have hblt := hBlt.out (by omega) b (by rw [hB]; exact ⟨_, rfl, rfl⟩)
      subst hB
      unfold msC at hrg
      clear hEx q1 q2 q4 hy1
      replace hxm := Lib.hid hxm
      replace hx := Lib.hid hx
      replace hrg := Lib.hid hrg
      replace hR := Lib.hid hR
      replace hMr := Lib.hid hMr
      replace hg := Lib.hid hg
      replace htq := Lib.hid htq
      replace hF := Lib.hid hF
      replace hq := Lib.hid hq
      replace hq0 := Lib.hid hq0
      replace htk := Lib.hid htk
      replace hbne := Lib.hid hbne
      go_wp2_with (refine wpList_load_mid rfl 46 (.tmp 15) rfl b (o + j * 20) rfl _ _ hrg.out Tryz.underlying46 rfl msg_sizeG ?_)
      with_reducible refine kR.out.mono ?_
      rintro e w2 ⟨rfl, hm2⟩
      dsimp only
      have hR2 := Lib.hid (hR.out.mod0 hm2)
      have hMr2 := Lib.hid (hMr.out.trans (hm2.any _))
      have c0 : w2.cell? ⟨p, 0, none⟩ = some (.slice A1 (n + q) c1) := hR2.out.blk.cell_ rfl
      have f0 : w2.frozen? ⟨p, 0, none⟩ = false := hR2.out.blk.frozen 0
      have hb0 : Hid (w2.drew.rangeAt b (o + j * 20) [.int .i64 x.m.frm, .int .i64 x.m.to, .int .i64 x.m.kind, .int .i64 x.m.r.i.r, .int .i64 x.m.r.i.n, .int .i64 x.m.r.bal, .int .i64 x.m.r.st, .int .i64 x.m.r.by_, .int .i64 x.m.r.e.o.c, .int .i64 x.m.r.e.o.s, .int .i64 x.m.r.e.o.k, .string (txt x.m.r.e.o.acct), .string (txt x.m.r.e.o.peer), .int .i64 x.m.r.e.o.sum, .slice x.L.a x.L.n x.L.c, .int .i64 x.m.r.e.o.per, .int .i64 x.m.r.e.o.hold, .string (txt x.m.r.e.o.note), .bool x.m.r.e.none, .slice x.D.a x.D.n x.D.c]) := Lib.hid (fun k v hv => hm2.cell_some (hrg.out k v hv) (fun h => h))
      clear kR
      cases hr : rightM x.m with
      | false =>
        have hFl : (ys.take (j + 1)).filter RtM = F := by
          rw [htk.out, List.filter_append, ← hF.out]
          have : RtM x = false := hr
          simp [this]
        replace hr := Lib.hid hr
        replace hFl := Lib.hid hFl
        replace hm2 := Lib.hid hm2
        clear c0 f0 hb0
        go_wp2_with fail
        go_roundw
        case rel => exact ⟨j + 1, t + 1, A1, c1, by go_num, by omega, by go_num, by rw [hFl.out, ← hq.out]; have := htq.out; omega, by rw [hFl.out, ← hq.out]; exact hR2.out, hMr2.out, hg.out⟩
        case measure => simp [intOf]; omega
      | true =>
        have hFl : (ys.take (j + 1)).filter RtM = F ++ [x] := by
          rw [htk.out, List.filter_append, ← hF.out]
          have : RtM x = true := hr
          simp [this]
        by_cases hfull : n + q < 400
        case neg =>
          have hd : decide (400 ≤ n + q) = true := decide_eq_true (by omega)
          have hd2 : (400 : Int) ≤ (n : Int) + (q : Int) := by omega
          have hqq : putN (F ++ [x]).length n = q := by have := hq0.out; unfold putN; rw [List.length_append, List.length_singleton]; omega
          have htk2 : (F ++ [x]).take q = F.take q := by rw [List.take_append_of_le_length (by have := hq0.out; omega)]
          replace hr := Lib.hid hr
          replace hFl := Lib.hid hFl
          replace hm2 := Lib.hid hm2
          replace hqq := Lib.hid hqq
          replace htk2 := Lib.hid htk2
          clear f0 hb0
          go_wp2_with fail
          go_roundw
          case rel => exact ⟨j + 1, t + 1, A1, c1, by go_num, by omega, by go_num, by rw [hFl.out, hqq.out]; have := htq.out; omega, by rw [hFl.out, hqq.out, htk2.out]; exact hR2.out, hMr2.out, hg.out⟩
          case measure => simp [intOf]; omega
        case pos =>
        have hd : decide (400 ≤ n + q) = false := decide_eq_false (by omega)
        have hd2 : ¬ (400 : Int) ≤ (n : Int) + (q : Int) := by omega
        have hqF : q = F.length := by have := hq0.out; omega
        have hF1 : putN ((ys.take (j + 1)).filter RtM).length n = q + 1 := by rw [hFl]; unfold putN; rw [List.length_append, List.length_singleton]; omega
        have hF2 : ((ys.take (j + 1)).filter RtM).take (q + 1) = F.take q ++ [x] := by rw [hFl, List.take_of_length_le (by rw [List.length_append, List.length_singleton]; omega), List.take_of_length_le (by omega)]
        have hj1 : (0 : Int) ≤ (j : Int) := by omega
        have hj2 : (j : Int) < (m : Int) := by omega
        have hma : Mod none_ w2 ((w2.alloc (.cells #[.int .i64 x.m.frm, .int .i64 x.m.to, .int .i64 x.m.kind, .int .i64 x.m.r.i.r, .int .i64 x.m.r.i.n, .int .i64 x.m.r.bal, .int .i64 x.m.r.st, .int .i64 x.m.r.by_, .int .i64 x.m.r.e.o.c, .int .i64 x.m.r.e.o.s, .int .i64 x.m.r.e.o.k, .string (txt x.m.r.e.o.acct), .string (txt x.m.r.e.o.peer), .int .i64 x.m.r.e.o.sum, .slice x.L.a x.L.n x.L.c, .int .i64 x.m.r.e.o.per, .int .i64 x.m.r.e.o.hold, .string (txt x.m.r.e.o.note), .bool x.m.r.e.none, .slice x.D.a x.D.n x.D.c] 46)).drew) := ((Mod.refl none_ w2).alloc _).drew
        have hone : Hid (RdM ((w2.alloc (.cells #[.int .i64 x.m.frm, .int .i64 x.m.to, .int .i64 x.m.kind, .int .i64 x.m.r.i.r, .int .i64 x.m.r.i.n, .int .i64 x.m.r.bal, .int .i64 x.m.r.st, .int .i64 x.m.r.by_, .int .i64 x.m.r.e.o.c, .int .i64 x.m.r.e.o.s, .int .i64 x.m.r.e.o.k, .string (txt x.m.r.e.o.acct), .string (txt x.m.r.e.o.peer), .int .i64 x.m.r.e.o.sum, .slice x.L.a x.L.n x.L.c, .int .i64 x.m.r.e.o.per, .int .i64 x.m.r.e.o.hold, .string (txt x.m.r.e.o.note), .bool x.m.r.e.none, .slice x.D.a x.D.n x.D.c] 46)).drew) (some ⟨w2.heap.size, 0, none⟩) 1 [x]) := Lib.hid (rdM_one w2 x)
        have hsz2 : w.heap.size ≤ w2.heap.size := hMr2.out.size
        have hplt := hR2.out.blk.lt
        have fin : ∀ A' c' w', OwM w' A' (n + q + 1) c' ((xs ++ F.take q) ++ [x]) → Mod (fp A1) ((w2.alloc (.cells #[.int .i64 x.m.frm, .int .i64 x.m.to, .int .i64 x.m.kind, .int .i64 x.m.r.i.r, .int .i64 x.m.r.i.n, .int .i64 x.m.r.bal, .int .i64 x.m.r.st, .int .i64 x.m.r.by_, .int .i64 x.m.r.e.o.c, .int .i64 x.m.r.e.o.s, .int .i64 x.m.r.e.o.k, .string (txt x.m.r.e.o.acct), .string (txt x.m.r.e.o.peer), .int .i64 x.m.r.e.o.sum, .slice x.L.a x.L.n x.L.c, .int .i64 x.m.r.e.o.per, .int .i64 x.m.r.e.o.hold, .string (txt x.m.r.e.o.note), .bool x.m.r.e.none, .slice x.D.a x.D.n x.D.c] 46)).drew) w' → (A' = A1 ∨ A' = some ⟨((w2.alloc (.cells #[.int .i64 x.m.frm, .int .i64 x.m.to, .int .i64 x.m.kind, .int .i64 x.m.r.i.r, .int .i64 x.m.r.i.n, .int .i64 x.m.r.bal, .int .i64 x.m.r.st, .int .i64 x.m.r.by_, .int .i64 x.m.r.e.o.c, .int .i64 x.m.r.e.o.s, .int .i64 x.m.r.e.o.k, .string (txt x.m.r.e.o.acct), .string (txt x.m.r.e.o.peer), .int .i64 x.m.r.e.o.sum, .slice x.L.a x.L.n x.L.c, .int .i64 x.m.r.e.o.per, .int .i64 x.m.r.e.o.hold, .string (txt x.m.r.e.o.note), .bool x.m.r.e.none, .slice x.D.a x.D.n x.D.c] 46)).drew).heap.size, 0, none⟩) →
            w'.cell? ⟨p, 0, none⟩ = some (.slice A1 (n + q) c1) ∧ w'.frozen? ⟨p, 0, none⟩ = false ∧ (BagR (w'.setCell ⟨p, 0, none⟩ (.slice A' (n + q + 1) c')) p A' (n + (q + 1)) c' (xs ++ (F.take q ++ [x])) ∧ Mod (bagF p A) w (w'.setCell ⟨p, 0, none⟩ (.slice A' (n + q + 1) c')) ∧ ∀ i, fp A' i → fp A i ∨ w.heap.size ≤ i) := by
          intro A' c' w' ho hmA hA
          rw [List.append_assoc] at ho
          have hb' : Blk w' p 29 #[.slice A1 (n + q) c1] := (hR2.out.blk.mod hma (fun h => h)).mod hmA hR2.out.np
          have hnp' : ¬ fp A' p := by
            rcases hA with rfl | rfl
            · exact hR2.out.np
            · rintro ⟨a, ha, hk⟩; cases ha; simp at hk; omega
          have hstep : Mod (bagF p A1) w2 (w'.setCell ⟨p, 0, none⟩ (.slice A' (n + q + 1) c')) := ((hma.any (bagF p A1)).trans (hmA.mono (fun k hk => .inr hk))).setCell (p := ⟨p, 0, none⟩) (.inl (.inl rfl)) _
          have hstep2 : Mod (bagF p A) w (w'.setCell ⟨p, 0, none⟩ (.slice A' (n + q + 1) c')) := hMr2.out.then hstep (fun i hi hb => bagF_grow hg.out i hi hb)
          refine ⟨hb'.cell_ rfl, hb'.frozen 0, ⟨hb'.set_ 0 _, ho.mod ((Mod.refl (only p) w').set_only 0 _) (fun k hk hh => by have : k = p := hh; subst this; exact hnp' hk), hnp'⟩, hstep2, fun i hi => ?_⟩
          rcases hA with rfl | rfl
          · exact hg.out i hi
          · obtain ⟨a, ha, rfl⟩ := hi; cases ha; exact .inr (by simp; omega)
        have c2 : w2.drew.cell? ⟨p, 0, none⟩ = some (.slice A1 (n + q) c1) := c0
        have c3 : ((w2.alloc (.cells #[.int .i64 x.m.frm, .int .i64 x.m.to, .int .i64 x.m.kind, .int .i64 x.m.r.i.r, .int .i64 x.m.r.i.n, .int .i64 x.m.r.bal, .int .i64 x.m.r.st, .int .i64 x.m.r.by_, .int .i64 x.m.r.e.o.c, .int .i64 x.m.r.e.o.s, .int .i64 x.m.r.e.o.k, .string (txt x.m.r.e.o.acct), .string (txt x.m.r.e.o.peer), .int .i64 x.m.r.e.o.sum, .slice x.L.a x.L.n x.L.c, .int .i64 x.m.r.e.o.per, .int .i64 x.m.r.e.o.hold, .string (txt x.m.r.e.o.note), .bool x.m.r.e.none, .slice x.D.a x.D.n x.D.c] 46)).drew).cell? ⟨p, 0, none⟩ = some (.slice A1 (n + q) c1) := hma.cell_some c0 (fun h => h)
        replace hr := Lib.hid hr
        replace hFl := Lib.hid hFl
        replace hm2 := Lib.hid hm2
        replace hqF := Lib.hid hqF
        replace hF1 := Lib.hid hF1
        replace hF2 := Lib.hid hF2
        go_upto_region 7 with fail
        refine wp_region_held_drew (S := fun _ => True) (by kernel_rfl) trivial (fun hHeld => ?_)
        refine wpAnyH_take (i := 0) (v := ?_) rfl (by kernel_rfl) (by kernel_rfl) (by kernel_rfl) (fun _ _ _ h => h) (Or.inl ⟨by rfl, ?_⟩) trivial ?_
        rotate_left
        · intro W hSw; (try dsimp only at hSw); go_simp; (try with_reducible rfl)
        try simp only [Act.put, List.getElem_toArray, List.getElem_cons_zero, List.getElem_cons_succ, List.setIfInBounds_toArray, List.set_cons_zero, List.set_cons_succ]
        refine wpAnyH_take (i := 1) (v := ?_) rfl (by kernel_rfl) (by kernel_rfl) (by kernel_rfl) (fun _ _ _ h => h) (Or.inl ⟨by rfl, ?_⟩) trivial ?_
        rotate_left
        · intro W hSw; (try dsimp only at hSw); go_simp; (try with_reducible rfl)
        try simp only [Act.put, List.getElem_toArray, List.getElem_cons_zero, List.getElem_cons_succ, List.setIfInBounds_toArray, List.set_cons_zero, List.set_cons_succ]
        refine wpAnyH_take (i := 2) (v := ?_) rfl (by kernel_rfl) (by kernel_rfl) (by kernel_rfl) (fun _ _ _ h => h) (Or.inl ⟨by rfl, ?_⟩) trivial ?_
        rotate_left
        · intro W hSw; (try dsimp only at hSw); go_simp; (try with_reducible rfl)
        try simp only [Act.put, List.getElem_toArray, List.getElem_cons_zero, List.getElem_cons_succ, List.setIfInBounds_toArray, List.set_cons_zero, List.set_cons_succ]
        refine wpAnyH_take (i := 3) (v := ?_) rfl (by kernel_rfl) (by kernel_rfl) (by kernel_rfl) (fun _ _ _ h => h) (Or.inl ⟨by rfl, ?_⟩) trivial ?_
        rotate_left
        · intro W hSw; (try dsimp only at hSw); go_simp; (try with_reducible rfl)
        try simp only [Act.put, List.getElem_toArray, List.getElem_cons_zero, List.getElem_cons_succ, List.setIfInBounds_toArray, List.set_cons_zero, List.set_cons_succ]
        refine wpAnyH_take (i := 5) (v := ?_) rfl (by kernel_rfl) (by kernel_rfl) (by kernel_rfl) (fun _ _ _ h => h) (Or.inl ⟨by rfl, ?_⟩) trivial ?_
        rotate_left
        · intro W hSw; (try dsimp only at hSw); go_simp; (try with_reducible rfl)
        try simp only [Act.put, List.getElem_toArray, List.getElem_cons_zero, List.getElem_cons_succ, List.setIfInBounds_toArray, List.set_cons_zero, List.set_cons_succ]
        refine wpAnyH_take (i := 6) (v := ?_) rfl (by kernel_rfl) (by kernel_rfl) (by kernel_rfl) (fun _ _ _ h => h) (Or.inl ⟨by rfl, ?_⟩) trivial ?_
        rotate_left
        · intro W hSw; (try dsimp only at hSw); go_simp; (try with_reducible rfl)
        try simp only [Act.put, List.getElem_toArray, List.getElem_cons_zero, List.getElem_cons_succ, List.setIfInBounds_toArray, List.set_cons_zero, List.set_cons_succ]
        refine wpAnyH_take (i := 7) (v := ?_) rfl (by kernel_rfl) (by kernel_rfl) (by kernel_rfl) (fun _ _ _ h => h) (Or.inl ⟨by rfl, ?_⟩) trivial ?_
        rotate_left
        · intro W hSw; (try dsimp only at hSw); go_simp; (try with_reducible rfl)
        try simp only [Act.put, List.getElem_toArray, List.getElem_cons_zero, List.getElem_cons_succ, List.setIfInBounds_toArray, List.set_cons_zero, List.set_cons_succ]
        refine wpAnyH_ready (rs := [4, 8]) (by kernel_rfl) (by simp) ?_
        refine AllReadyH.cons rfl (fun K hK => ?_) (AllReadyH.cons rfl (fun K hK => ?_) AllReadyH.nil)
        · go_simp
          refine hK.out _ _ trivial (fun hHeld => ?_)
          clear hK K
          try simp only [Act.put, List.getElem_toArray, List.getElem_cons_zero, List.getElem_cons_succ, List.setIfInBounds_toArray, List.set_cons_zero, List.set_cons_succ]
          refine wpAnyH_ready (rs := [8]) (by kernel_rfl) (by simp) ?_
          refine AllReadyH.cons rfl (fun K hK => ?_) AllReadyH.nil
          refine step_load_msg rfl (.tmp 36) rfl b (o + j * 20) rfl hb0.out rfl ?_
          refine hK.out _ _ trivial (fun hHeld => ?_)
          clear hK K
          try simp only [Act.put, List.getElem_toArray, List.getElem_cons_zero, List.getElem_cons_succ, List.setIfInBounds_toArray, List.set_cons_zero, List.set_cons_succ]
          refine wpAnyH_ready (rs := [9]) (by kernel_rfl) (by simp) ?_
          refine AllReadyH.cons rfl (fun K hK => ?_) AllReadyH.nil
          go_simp
          refine hK.out _ _ trivial (fun hHeld => ?_)
          clear hK K
          try simp only [Act.put, List.getElem_toArray, List.getElem_cons_zero, List.getElem_cons_succ, List.setIfInBounds_toArray, List.set_cons_zero, List.set_cons_succ]
          refine wpAnyH_ready (rs := [10]) (by kernel_rfl) (by simp) ?_
          refine AllReadyH.cons rfl (fun K hK => ?_) AllReadyH.nil
          refine step_appM rfl (.tmp 33) (.tmp 38) rfl rfl (hR2.out.ow.mod0 hma) rfl hone.out (by omega) ?_
          intro A4 c4 w4 ho4 hmA4 hA4
          obtain ⟨z1, z2, z3⟩ := fin A4 c4 w4 ho4 hmA4 hA4
          clear ho4 hmA4 hA4
          refine hK.out _ _ trivial (fun hHeld => ?_)
          clear hK K
          try simp only [Act.put, List.getElem_toArray, List.getElem_cons_zero, List.getElem_cons_succ, List.setIfInBounds_toArray, List.set_cons_zero, List.set_cons_succ]
          refine wpAnyH_take (i := 11) (v := ?_) rfl (by kernel_rfl) (by kernel_rfl) (by kernel_rfl) (fun _ _ _ h => h) (Or.inl ⟨by rfl, ?_⟩) trivial ?_
          rotate_left
          · intro W hSw; (try dsimp only at hSw); go_simp; (try with_reducible rfl)
          try simp only [Act.put, List.getElem_toArray, List.getElem_cons_zero, List.getElem_cons_succ, List.setIfInBounds_toArray, List.set_cons_zero, List.set_cons_succ]
          refine wpAnyH_take (i := 12) (v := ?_) rfl (by kernel_rfl) (by kernel_rfl) (by kernel_rfl) (fun _ _ _ h => h) (Or.inl ⟨by rfl, ?_⟩) trivial ?_
          rotate_left
          · intro W hSw; (try dsimp only at hSw); go_simp; (try with_reducible rfl)
          try simp only [Act.put, List.getElem_toArray, List.getElem_cons_zero, List.getElem_cons_succ, List.setIfInBounds_toArray, List.set_cons_zero, List.set_cons_succ]
          refine wpAnyH_ready (rs := [13]) (by kernel_rfl) (by simp) ?_
          refine AllReadyH.cons rfl (fun K hK => ?_) AllReadyH.nil
          go_simp
          refine hK.out _ _ trivial (fun hHeld => ?_)
          clear hK K
          try simp only [Act.put, List.getElem_toArray, List.getElem_cons_zero, List.getElem_cons_succ, List.setIfInBounds_toArray, List.set_cons_zero, List.set_cons_succ]
          refine wpAnyH_done (by kernel_rfl) ?_ _
          clear hHeld
          replace z3 := Lib.hid z3
          clear z1 z2
          go_wp2_with fail
          go_roundw
          case rel => exact ⟨j + 1, t, A4, c4, by go_num, by omega, rfl, by rw [hF1.out]; have := htq.out; omega, by rw [hF1.out, hF2.out]; exact z3.out.1, z3.out.2.1, z3.out.2.2⟩
          case measure => simp [intOf]; omega
        · refine step_load_msg rfl (.tmp 36) rfl b (o + j * 20) rfl hb0.out rfl ?_
          refine hK.out _ _ trivial (fun hHeld => ?_)
          clear hK K
          try simp only [Act.put, List.getElem_toArray, List.getElem_cons_zero, List.getElem_cons_succ, List.setIfInBounds_toArray, List.set_cons_zero, List.set_cons_succ]
          refine wpAnyH_ready (rs := [4, 9]) (by kernel_rfl) (by simp) ?_
          refine AllReadyH.cons rfl (fun K hK => ?_) (AllReadyH.cons rfl (fun K hK => ?_) AllReadyH.nil)
          · go_simp
            refine hK.out _ _ trivial (fun hHeld => ?_)
            clear hK K
            try simp only [Act.put, List.getElem_toArray, List.getElem_cons_zero, List.getElem_cons_succ, List.setIfInBounds_toArray, List.set_cons_zero, List.set_cons_succ]
            refine wpAnyH_ready (rs := [9]) (by kernel_rfl) (by simp) ?_
            refine AllReadyH.cons rfl (fun K hK => ?_) AllReadyH.nil
            go_simp
            refine hK.out _ _ trivial (fun hHeld => ?_)
            clear hK K
            try simp only [Act.put, List.getElem_toArray, List.getElem_cons_zero, List.getElem_cons_succ, List.setIfInBounds_toArray, List.set_cons_zero, List.set_cons_succ]
            refine wpAnyH_ready (rs := [10]) (by kernel_rfl) (by simp) ?_
            refine AllReadyH.cons rfl (fun K hK => ?_) AllReadyH.nil
            refine step_appM rfl (.tmp 33) (.tmp 38) rfl rfl (hR2.out.ow.mod0 hma) rfl hone.out (by omega) ?_
            intro A4 c4 w4 ho4 hmA4 hA4
            obtain ⟨z1, z2, z3⟩ := fin A4 c4 w4 ho4 hmA4 hA4
            clear ho4 hmA4 hA4
            refine hK.out _ _ trivial (fun hHeld => ?_)
            clear hK K
            try simp only [Act.put, List.getElem_toArray, List.getElem_cons_zero, List.getElem_cons_succ, List.setIfInBounds_toArray, List.set_cons_zero, List.set_cons_succ]
            refine wpAnyH_take (i := 11) (v := ?_) rfl (by kernel_rfl) (by kernel_rfl) (by kernel_rfl) (fun _ _ _ h => h) (Or.inl ⟨by rfl, ?_⟩) trivial ?_
            rotate_left
            · intro W hSw; (try dsimp only at hSw); go_simp; (try with_reducible rfl)
            try simp only [Act.put, List.getElem_toArray, List.getElem_cons_zero, List.getElem_cons_succ, List.setIfInBounds_toArray, List.set_cons_zero, List.set_cons_succ]
            refine wpAnyH_take (i := 12) (v := ?_) rfl (by kernel_rfl) (by kernel_rfl) (by kernel_rfl) (fun _ _ _ h => h) (Or.inl ⟨by rfl, ?_⟩) trivial ?_
            rotate_left
            · intro W hSw; (try dsimp only at hSw); go_simp; (try with_reducible rfl)
            try simp only [Act.put, List.getElem_toArray, List.getElem_cons_zero, List.getElem_cons_succ, List.setIfInBounds_toArray, List.set_cons_zero, List.set_cons_succ]
            refine wpAnyH_ready (rs := [13]) (by kernel_rfl) (by simp) ?_
            refine AllReadyH.cons rfl (fun K hK => ?_) AllReadyH.nil
            go_simp
            refine hK.out _ _ trivial (fun hHeld => ?_)
            clear hK K
            try simp only [Act.put, List.getElem_toArray, List.getElem_cons_zero, List.getElem_cons_succ, List.setIfInBounds_toArray, List.set_cons_zero, List.set_cons_succ]
            refine wpAnyH_done (by kernel_rfl) ?_ _
            clear hHeld
            replace z3 := Lib.hid z3
            clear z1 z2
            go_wp2_with fail
            go_roundw
            case rel => exact ⟨j + 1, t, A4, c4, by go_num, by omega, rfl, by rw [hF1.out]; have := htq.out; omega, by rw [hF1.out, hF2.out]; exact z3.out.1, z3.out.2.1, z3.out.2.2⟩
            case measure => simp [intOf]; omega
          · go_simp
            refine hK.out _ _ trivial (fun hHeld => ?_)
            clear hK K
            try simp only [Act.put, List.getElem_toArray, List.getElem_cons_zero, List.getElem_cons_succ, List.setIfInBounds_toArray, List.set_cons_zero, List.set_cons_succ]
            refine wpAnyH_ready (rs := [4]) (by kernel_rfl) (by simp) ?_
            refine AllReadyH.cons rfl (fun K hK => ?_) AllReadyH.nil
            go_simp
            refine hK.out _ _ trivial (fun hHeld => ?_)
            clear hK K
            try simp only [Act.put, List.getElem_toArray, List.getElem_cons_zero, List.getElem_cons_succ, List.setIfInBounds_toArray, List.set_cons_zero, List.set_cons_succ]
            refine wpAnyH_ready (rs := [10]) (by kernel_rfl) (by simp) ?_
            refine AllReadyH.cons rfl (fun K hK => ?_) AllReadyH.nil
            refine step_appM rfl (.tmp 33) (.tmp 38) rfl rfl (hR2.out.ow.mod0 hma) rfl hone.out (by omega) ?_
            intro A4 c4 w4 ho4 hmA4 hA4
            obtain ⟨z1, z2, z3⟩ := fin A4 c4 w4 ho4 hmA4 hA4
            clear ho4 hmA4 hA4
            refine hK.out _ _ trivial (fun hHeld => ?_)
            clear hK K
            try simp only [Act.put, List.getElem_toArray, List.getElem_cons_zero, List.getElem_cons_succ, List.setIfInBounds_toArray, List.set_cons_zero, List.set_cons_succ]
            refine wpAnyH_take (i := 11) (v := ?_) rfl (by kernel_rfl) (by kernel_rfl) (by kernel_rfl) (fun _ _ _ h => h) (Or.inl ⟨by rfl, ?_⟩) trivial ?_
            rotate_left
            · intro W hSw; (try dsimp only at hSw); go_simp; (try with_reducible rfl)
            try simp only [Act.put, List.getElem_toArray, List.getElem_cons_zero, List.getElem_cons_succ, List.setIfInBounds_toArray, List.set_cons_zero, List.set_cons_succ]
            refine wpAnyH_take (i := 12) (v := ?_) rfl (by kernel_rfl) (by kernel_rfl) (by kernel_rfl) (fun _ _ _ h => h) (Or.inl ⟨by rfl, ?_⟩) trivial ?_
            rotate_left
            · intro W hSw; (try dsimp only at hSw); go_simp; (try with_reducible rfl)
            try simp only [Act.put, List.getElem_toArray, List.getElem_cons_zero, List.getElem_cons_succ, List.setIfInBounds_toArray, List.set_cons_zero, List.set_cons_succ]
            refine wpAnyH_ready (rs := [13]) (by kernel_rfl) (by simp) ?_
            refine AllReadyH.cons rfl (fun K hK => ?_) AllReadyH.nil
            go_simp
            refine hK.out _ _ trivial (fun hHeld => ?_)
            clear hK K
            try simp only [Act.put, List.getElem_toArray, List.getElem_cons_zero, List.getElem_cons_succ, List.setIfInBounds_toArray, List.set_cons_zero, List.set_cons_succ]
            refine wpAnyH_done (by kernel_rfl) ?_ _
            clear hHeld
            replace z3 := Lib.hid z3
            clear z1 z2
            go_wp2_with fail
            go_roundw
            case rel => exact ⟨j + 1, t, A4, c4, by go_num, by omega, rfl, by rw [hF1.out]; have := htq.out; omega, by rw [hF1.out, hF2.out]; exact z3.out.1, z3.out.2.1, z3.out.2.2⟩
            case measure => simp [intOf]; omega
    · obtain rfl : j = m := by omega
      have hall : ys.take j = ys := List.take_of_length_le (by rw [hl.out]; exact Nat.le_refl _)
      rw [hall] at hF
      rw [hF] at hR hq
      have hv : (t : Int) = (j : Int) - ((putN (ys.filter RtM).length n : Nat) : Int) := by rw [← hq]; omega
      clear hq0 hall
      replace hR := Lib.hid hR
      replace hMr := Lib.hid hMr
      replace hg := Lib.hid hg
      replace htq := Lib.hid htq
      replace hF := Lib.hid hF
      replace hq := Lib.hid hq
      replace hv := Lib.hid hv
      go_wp2_with fail
      go_ret
      exact ⟨A1, n + q, c1, by rw [← hv.out] <;> rfl, by rw [← hq.out]; exact hR.out, hq400, hMr.out, hg.out⟩
end Go.Proofs.YtdekehhmjehicaaGreat
/-
  append as a step of the walk behind a guard that lets it run. No condition.
-/
namespace Go.Proofs.YtdekehhmjehicaaGreat
set_option linter.unusedVariables false
set_option linter.unusedSimpArgs false
open Go.RowKit
theorem wpList_append_owg {P : Program} {w : World} {ops : Array Oper} {rest : List Oper} {o : Oper} {a : Act} {Q : Exit → Act → World → Prop} (hw : Region.wanted o (yielded ops a.tmps) = true) (s x : Operand) (t : TypeId)
    (ho : o.op = .call { callee := .builtin .append, args := #[s, x], argTypes := #[t, t] })
    (e : TypeId) (i : TypeInfo) (z : Value) (size bytes : Nat) (ht : P.underlying t = some (.slice e)) (hi : P.info? e = some i) (hz : i.zero = some z)
    (hsize : i.size = size) (hby : i.bytes = bytes) (hzs : z.cells.size = size) (hsz : 0 < size)
    (A : Option Addr) (n c : Nat) (xs : List Value) (hs : a.eval s = .slice A n c) (hown : Ow w e size A n c xs)
    (S : Option Addr) (m d : Nat) (news : List Value) (hx : a.eval x = .slice S m d) (hr : Rd w size S m news) (h1 : ∀ u ∈ news, u.oneCell' = true)
    (hbytes : (n + m) * bytes ≤ 140737488355328) (h63 : n + m ≤ 9223372036854775807)
    (h : ∀ A' c' w', Ow w' e size A' (n + m) c' (xs ++ news) → Mod (fp A) w w' → (A' = A ∨ A' = some ⟨w.heap.size, 0, none⟩) → wpList P ops Q rest (a.put o.dst (.slice A' (n + m) c')) w') : wpList P ops Q (o :: rest) a w :=
  wpList_step fun _ hK => by
    rw [if_pos hw]
    exact wp_append_ow w s x t ho e i z size bytes ht hi hz hsize hby hzs hsz A n c xs hs hown S m d news hx hr h1 hbytes h63 fun A' c' w' h2 h3 h4 => hK _ _ (h A' c' w' h2 h3 h4)
theorem Mod.then_own {w w1 w2 : World} {A : Option Addr} (hm : Mod (fp none) w w1) (hA : A = none ∨ A = some ⟨w.heap.size, 0, none⟩) (hm2 : Mod (fp A) w1 w2) : Mod none_ w w2 := by
  refine (hm.mono (G := none_) ?_).then hm2 ?_
  · rintro i ⟨a, ha, _⟩; cases ha
  · rintro i hi ⟨a, ha, rfl⟩
    rcases hA with rfl | rfl
    · cases ha
    · cases ha; simp only at hi; omega
theorem Mod.nil_own {w w1 : World} (hm : Mod (fp none) w w1) : Mod none_ w w1 := hm.mono (G := none_) (by rintro i ⟨a, ha, _⟩; cases ha)
end Go.Proofs.YtdekehhmjehicaaGreat
