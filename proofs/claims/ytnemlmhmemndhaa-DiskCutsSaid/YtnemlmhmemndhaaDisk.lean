/-
  Contracts of the functions of package disk: what each returns, and what becomes of the disk's memory. No condition.
-/
import Derived.Test.YtnemlmhmemndhaaMem
import Derived.Test.YtnemlmhmemndhaaRows
import Derived.StillTailTactics
import Derived.Deep.RegionHeld3
import Derived.Handy
import Derived.Deep.DeepCutAuto
namespace Go.Proofs.Ytnemlmhmemndhaa
set_option linter.unusedVariables false
open Go.RowKit

theorem u8info : (Try.prog.info? 5).map (fun i => (i.zero, i.size, i.bytes)) = some (some (.int .u8 0), 1, 1) := by kernel_rfl

theorem ret_i {k : IntKind} {a b : Int} (h : a = b) : Ending.returned (.int k a) = .returned (.int k b) := by rw [h]
theorem ret_b {a b : Bool} (h : a = b) : Ending.returned (.bool a) = .returned (.bool b) := by rw [h]

/-- What a disk is. -/
structure DS where
  bytes : List UInt8
  sure : Nat
  room : Nat
  broken : Bool

def DS.fit (D : DS) : Prop := D.sure ≤ D.bytes.length ∧ D.bytes.length ≤ D.room ∧ D.room ≤ 65536

/-- The disk D at block p, its bytes at A. -/
def Dk (w : World) (p : Nat) (A : Option Addr) (c : Nat) (D : DS) : Prop :=
  Blk w p 44 #[.slice A D.bytes.length c, .int .i64 D.sure, .int .i64 D.room, .bool D.broken] ∧ OwB w 5 A D.bytes.length c D.bytes ∧ D.fit

def dkf (p : Nat) (A : Option Addr) : Nat → Prop := fun k => k = p ∨ fp A k
def Nw (w : World) (A A' : Option Addr) : Prop := A' = A ∨ Fresh w A'

section
variable {F : Nat → Prop} {w w' : World} {p : Nat} {A : Option Addr} {c : Nat} {D : DS}
theorem Dk.mod (h : Dk w p A c D) (hm : Mod F w w') (hF : ∀ k, dkf p A k → ¬ F k) : Dk w' p A c D :=
  ⟨h.1.mod hm (hF p (.inl rfl)), h.2.1.mod hm (fun k hk => hF k (.inr hk)), h.2.2⟩
theorem Dk.mod0 (h : Dk w p A c D) (hm : Mod none_ w w') : Dk w' p A c D := h.mod hm fun _ _ hh => hh
theorem Dk.apart (h : Dk w p A c D) : ¬ fp A p := h.2.1.ne_blk h.1 (by decide)
theorem Dk.lt (h : Dk w p A c D) : ∀ k, dkf p A k → k < w.heap.size := by
  rintro k (rfl | hk)
  · exact h.1.lt
  · exact h.2.1.lt k hk
theorem Dk.c0 (h : Dk w p A c D) : w.cell? ⟨p, 0, none⟩ = some (.slice A D.bytes.length c) := h.1.cell 0
theorem Dk.c1 (h : Dk w p A c D) : w.cell? ⟨p, 1, none⟩ = some (.int .i64 D.sure) := h.1.cell 1
theorem Dk.c2 (h : Dk w p A c D) : w.cell? ⟨p, 2, none⟩ = some (.int .i64 D.room) := h.1.cell 2
theorem Dk.c3 (h : Dk w p A c D) : w.cell? ⟨p, 3, none⟩ = some (.bool D.broken) := h.1.cell 3
end

theorem disk_new (r : Int) (w : World) : Calls Try.prog 8 #[.int .i64 r] w fun e w' =>
    e = .returned (.pointer (some ⟨w.heap.size, 0, none⟩)) ∧ Dk w' w.heap.size none 0 ⟨[], 0, (min (max r 0) 65536).toNat, false⟩ ∧ Mod none_ w w' := by
  have fin : ∀ (n : Int), n = min (max r 0) 65536 → ∀ w', w' = w.alloc (.cells #[.slice none 0 0, .int .i64 0, .int .i64 n, .bool false] 44) →
      Dk w' w.heap.size none 0 ⟨[], 0, (min (max r 0) 65536).toNat, false⟩ ∧ Mod none_ w w' := by
    rintro n hn w' rfl
    refine ⟨⟨?_, Ow.nil _ _ _, ?_⟩, (Mod.refl _ w).alloc _⟩
    · have e : (((min (max r 0) 65536).toNat : Nat) : Int) = n := by omega
      simp only [e]
      exact Blk.new w _ _
    · simp [DS.fit]; omega
  go_enter Try.func8, Try.ntmps8
  go_wp2
  all_goals go_ret
  all_goals exact ⟨rfl, fin _ (by omega) _ rfl⟩

theorem disk_broken_nil (w : World) : Calls Try.prog 16 #[.pointer none] w fun e w' => e = .returned (.bool true) ∧ w = w' := by
  go_enter Try.func16, Try.ntmps16
  go_wp2
  go_ret
  exact ⟨rfl, rfl⟩
theorem disk_broken (p : Nat) (b : Bool) (w : World) (h : w.cell? ⟨p, 3, none⟩ = some (.bool b)) : Calls Try.prog 16 #[.pointer (some ⟨p, 0, none⟩)] w fun e w' => e = .returned (.bool b) ∧ w = w' := by
  go_enter Try.func16, Try.ntmps16
  go_wp2
  go_ret
  exact ⟨rfl, rfl⟩
theorem disk_sure_nil (w : World) : Calls Try.prog 12 #[.pointer none] w fun e w' => e = .returned (.int .i64 0) ∧ w = w' := by
  go_enter Try.func12, Try.ntmps12
  go_wp2
  go_ret
  exact ⟨rfl, rfl⟩
theorem disk_sure (p : Nat) (n : Int) (w : World) (h : w.cell? ⟨p, 1, none⟩ = some (.int .i64 n)) : Calls Try.prog 12 #[.pointer (some ⟨p, 0, none⟩)] w fun e w' => e = .returned (.int .i64 n) ∧ w = w' := by
  go_enter Try.func12, Try.ntmps12
  go_wp2
  go_ret
  exact ⟨rfl, rfl⟩
theorem disk_room_nil (w : World) : Calls Try.prog 17 #[.pointer none] w fun e w' => e = .returned (.int .i64 0) ∧ w = w' := by
  go_enter Try.func17, Try.ntmps17
  go_wp2
  go_ret
  exact ⟨rfl, rfl⟩
/-- The room; it draws. -/
theorem disk_room (p : Nat) (A : Option Addr) (n r c : Nat) (w : World) (h0 : w.cell? ⟨p, 0, none⟩ = some (.slice A n c)) (h2 : w.cell? ⟨p, 2, none⟩ = some (.int .i64 r)) (hr : r ≤ 65536) (hn : n ≤ r) :
    Calls Try.prog 17 #[.pointer (some ⟨p, 0, none⟩)] w fun e w' => e = .returned (.int .i64 ((r : Int) - n)) ∧ ∃ k, w' = w.drewN k := by
  go_enter Try.func17, Try.ntmps17
  go_wp2
  go_quiet (fail)
  go_wp2
  go_ret
  exact ⟨rfl, _, rfl⟩
theorem disk_break_nil (w : World) : Calls Try.prog 14 #[.pointer none] w fun e w' => e = .returned (.tuple #[]) ∧ w = w' := by
  go_enter Try.func14, Try.ntmps14
  go_wp2
  go_end0
  exact ⟨rfl, rfl⟩
theorem disk_break (p : Nat) (A : Option Addr) (c : Nat) (D : DS) (w : World) (h : Dk w p A c D) : Calls Try.prog 14 #[.pointer (some ⟨p, 0, none⟩)] w fun e w' =>
    e = .returned (.tuple #[]) ∧ Dk w' p A c { D with broken := true } ∧ Mod (dkf p A) w w' := by
  have h3 := h.c3
  have f3 := h.1.frozen 3
  have H := Lib.hid h
  clear h
  go_enter Try.func14, Try.ntmps14
  go_wp2
  go_end0
  have h := H.out
  refine ⟨rfl, ⟨h.1.set_ 3 _, ?_, h.2.2⟩, (Mod.refl _ w).setCell (.inl (.inl rfl)) _⟩
  exact h.2.1.mod ((Mod.refl (fun k => k = p) w).setCell (p := ⟨p, 3, none⟩) (.inl rfl) _) (fun k hk he => h.apart (he ▸ hk))

theorem disk_sync_nil (w : World) : Calls Try.prog 20 #[.pointer none] w fun e w' => e = .returned (.int .i64 14) ∧ w = w' := by
  go_enter Try.func20, Try.ntmps20
  go_wp2_with (go_at_call 16; refine (disk_broken_nil _).mono ?_; rintro e w' ⟨rfl, rfl⟩)
  go_ret
  exact ⟨rfl, rfl⟩

theorem Dk.upd {w w' : World} {p : Nat} {A : Option Addr} {c : Nat} {D D' : DS} {cs : Array Value} (h : Dk w p A c D) (hb : Blk w' p 44 cs) (hm : Mod (fun k => k = p) w w')
    (hcs : cs = #[.slice A D'.bytes.length c, .int .i64 D'.sure, .int .i64 D'.room, .bool D'.broken]) (hD : D'.bytes = D.bytes) (hf : D'.fit) : Dk w' p A c D' := by
  refine ⟨hcs ▸ hb, ?_, hf⟩
  rw [hD]
  exact h.2.1.mod hm (fun k hk he => h.apart (he ▸ hk))

section
variable (p : Nat) (A : Option Addr) (c : Nat) (l : List UInt8) (s r : Nat) (w : World)
theorem disk_sync_down (h : Dk w p A c ⟨l, s, r, true⟩) : Calls Try.prog 20 #[.pointer (some ⟨p, 0, none⟩)] w fun e w' => e = .returned (.int .i64 14) ∧ w = w' := by
  have h3 := h.c3
  clear h
  go_enter Try.func20, Try.ntmps20
  go_wp2_with (go_at_call 16; refine (disk_broken p _ _ h3).mono ?_; rintro e w' ⟨rfl, rfl⟩)
  go_ret
  exact ⟨rfl, rfl⟩
theorem disk_sync (h : Dk w p A c ⟨l, s, r, false⟩) : Calls Try.prog 20 #[.pointer (some ⟨p, 0, none⟩)] w fun e w' =>
    e = .returned (.int .i64 0) ∧ Dk w' p A c ⟨l, l.length, r, false⟩ ∧ Mod (dkf p A) w w' := by
  have h0 := h.c0
  have h1 := h.c1
  have h3 := h.c3
  have f1 := h.1.frozen 1
  have H := Lib.hid h
  clear h
  go_enter Try.func20, Try.ntmps20
  go_wp2_with (go_at_call 16; refine (disk_broken p _ _ h3).mono ?_; rintro e w' ⟨rfl, rfl⟩)
  go_ret
  have h := H.out
  exact ⟨rfl, h.upd (h.1.set_ 1 _) ((Mod.refl (fun k => k = p) w).setCell (p := ⟨p, 1, none⟩) (.inl rfl) _) rfl rfl ⟨Nat.le_refl _, h.2.2.2⟩, (Mod.refl _ w).setCell (.inl (.inl rfl)) _⟩

theorem disk_cut_nil (n : Int) : Calls Try.prog 18 #[.pointer none, .int .i64 n] w fun e w' => e = .returned (.int .i64 14) ∧ w = w' := by
  go_enter Try.func18, Try.ntmps18
  go_wp2_with (go_at_call 16; refine (disk_broken_nil _).mono ?_; rintro e w' ⟨rfl, rfl⟩)
  go_ret
  exact ⟨rfl, rfl⟩
theorem disk_cut_down (n : Int) (h : Dk w p A c ⟨l, s, r, true⟩) : Calls Try.prog 18 #[.pointer (some ⟨p, 0, none⟩), .int .i64 n] w fun e w' => e = .returned (.int .i64 14) ∧ w = w' := by
  have h3 := h.c3
  clear h
  go_enter Try.func18, Try.ntmps18
  go_wp2_with (go_at_call 16; refine (disk_broken p _ _ h3).mono ?_; rintro e w' ⟨rfl, rfl⟩)
  go_ret
  exact ⟨rfl, rfl⟩
theorem disk_cut_out (n : Int) (h : Dk w p A c ⟨l, s, r, false⟩) (hn : n < 0 ∨ (l.length : Int) < n) : Calls Try.prog 18 #[.pointer (some ⟨p, 0, none⟩), .int .i64 n] w fun e w' => e = .returned (.int .i64 13) ∧ w = w' := by
  have h3 := h.c3
  have h0 := h.c0
  clear h
  rcases hn with hn | hn
  · go_enter Try.func18, Try.ntmps18
    go_wp2_with (go_at_call 16; refine (disk_broken p _ _ h3).mono ?_; rintro e w' ⟨rfl, rfl⟩)
    go_ret
    exact ⟨rfl, rfl⟩
  · have hn0 : 0 ≤ n := by omega
    go_enter Try.func18, Try.ntmps18
    go_wp2_with (go_at_call 16; refine (disk_broken p _ _ h3).mono ?_; rintro e w' ⟨rfl, rfl⟩)
    go_ret
    exact ⟨rfl, rfl⟩
theorem disk_cut (k : Nat) (h : Dk w p A c ⟨l, s, r, false⟩) (hk : k ≤ l.length) : Calls Try.prog 18 #[.pointer (some ⟨p, 0, none⟩), .int .i64 (k : Int)] w fun e w' =>
    e = .returned (.int .i64 0) ∧ Dk w' p A k ⟨l.take k, k, r, false⟩ ∧ Mod (dkf p A) w w' := by
  have h0 := h.c0
  have h1 := h.c1
  have h3 := h.c3
  have f0 := h.1.frozen 0
  have f1 := h.1.frozen 1
  have hlen : l.length ≤ 65536 := Nat.le_trans h.2.2.2.1 h.2.2.2.2
  have hc : l.length ≤ c := h.2.1.2.1
  have H := Lib.hid h
  clear h
  go_enter Try.func18, Try.ntmps18
  go_wp2_with (go_at_call 16; refine (disk_broken p _ _ h3).mono ?_; rintro e w' ⟨rfl, rfl⟩)
  go_ret
  have h := H.out
  have hm : Mod (fun k => k = p) w ((w.setCell ⟨p, 0, none⟩ (.slice A k k)).setCell ⟨p, 1, none⟩ (.int .i64 (k : Int))) :=
    ((Mod.refl (fun k => k = p) w).setCell (p := ⟨p, 0, none⟩) (.inl rfl) _).setCell (p := ⟨p, 1, none⟩) (.inl rfl) _
  have ho : Ow w 5 1 A k k (bvs (l.take k)) := by
    have := (h.2.1.take_ hk).clip (Nat.le_refl k) (by omega)
    rwa [Nat.mul_one, ← bvs_take] at this
  refine ⟨rfl, ⟨?_, ?_, ?_⟩, hm.mono fun _ e => .inl e⟩
  · have e : (l.take k).length = k := by simp; omega
    show Blk _ _ _ #[.slice A (l.take k).length k, _, _, _]
    rw [e]
    exact (h.1.set_ 0 _).set_ 1 _
  · have e : (l.take k).length = k := by simp; omega
    show Ow _ _ _ _ (l.take k).length _ _
    rw [e]
    exact ho.mod hm (fun i hi he => h.apart (he ▸ hi))
  · have := h.2.2
    simp only [DS.fit, List.length_take] at this ⊢
    omega

/-- slices.Clone: the bytes, in a row of its own. -/
theorem clone_any (B : Option Addr) (n d : Nat) (h : RdB w B n l) (hn : n ≤ 140737488351232) : Calls Try.prog 21 #[.slice B n d] w fun e w' =>
    ∃ A' c', e = .returned (.slice A' n c') ∧ OwB w' 5 A' n c' l ∧ Fresh w A' ∧ Mod none_ w w' := by
  obtain ⟨i0, hi, hz0, hz1, hz2⟩ := info_parts u8info
  have hq := fun (w : World) (a : Option Addr) (n c : Nat) => Lib.run_eql_slice_nil (P := Try.prog) w 27 _ a n c 0 0 Try.underlying27
  rcases B with _ | a
  · have hl : l = [] := by
      rcases Nat.eq_zero_or_pos n with h0 | h0
      · exact List.eq_nil_of_length_eq_zero (by rw [h.len, h0])
      · obtain ⟨ad, h, _⟩ := h.2 h0; cases h
    have hn0 : n = 0 := by rw [← h.len, hl]; rfl
    subst hl hn0
    clear h hn
    go_enter Try.func21, Try.ntmps21
    go_wp2
    go_ret
    exact ⟨none, 0, rfl, Ow.nil _ _ _, (fun _ h => by cases h), Mod.refl _ _⟩
  · go_enter Try.func21, Try.ntmps21
    go_wp2_with (at_builtin; refine wpList_append_ow rfl (.tmp 5) (.tmp 6) 27 rfl 5 i0 _ 1 1 Try.underlying27 hi hz0 hz1 hz2 rfl (by omega) (some ⟨w.heap.size, 0, none⟩) 0 0 [] rfl ?_ (some a) n d (bvs l) rfl ?_ (bvs_one l) (by omega) (by omega) ?_)
    · exact Ow.new w _ 1 0 #[] (Nat.zero_le _) rfl
    · exact Rd.alloc h _
    · intro A' c' w1 hown hmod hA'
      go_wp2
      go_ret
      refine ⟨A', c', rfl, hown, ?_, ((Mod.refl none_ w).alloc (.cells #[] 5)).then hmod ?_⟩
      · rintro b hb
        rcases hA' with rfl | rfl <;> cases hb <;> simp
      · rintro k hk ⟨b, hb, rfl⟩
        cases hb
        simp at hk

/-- Bytes. -/
theorem disk_bytes_nil : Calls Try.prog 11 #[.pointer none] w fun e w' => e = .returned (.slice none 0 0) ∧ w = w' := by
  go_enter Try.func11, Try.ntmps11
  go_wp2
  go_ret
  exact ⟨rfl, rfl⟩
theorem disk_bytes (D : DS) (h : Dk w p A c D) : Calls Try.prog 11 #[.pointer (some ⟨p, 0, none⟩)] w fun e w' =>
    ∃ A' c', e = .returned (.slice A' D.bytes.length c') ∧ OwB w' 5 A' D.bytes.length c' D.bytes ∧ Fresh w A' ∧ Mod none_ w w' := by
  have h0 := h.c0
  have hr : RdB w A D.bytes.length D.bytes := h.2.1.rd
  have hlen : D.bytes.length ≤ 65536 := Nat.le_trans h.2.2.2.1 h.2.2.2.2
  clear h
  go_enter Try.func11, Try.ntmps11
  go_wp2_with (go_at_call 21; refine (clone_any D.bytes _ A _ _ hr (by omega)).mono ?_; rintro e w1 ⟨A', c', rfl, h1, h2, h3⟩)
  go_ret
  exact ⟨A', c', rfl, h1, h2, h3⟩

/-- Append. -/
theorem disk_append_nil (v : Value) : Calls Try.prog 19 #[.pointer none, v] w fun e w' => e = .returned (.int .i64 14) ∧ w = w' := by
  go_enter Try.func19, Try.ntmps19
  go_wp2_with (go_at_call 16; refine (disk_broken_nil _).mono ?_; rintro e w' ⟨rfl, rfl⟩)
  go_ret
  exact ⟨rfl, rfl⟩
theorem disk_append_down (v : Value) (h : Dk w p A c ⟨l, s, r, true⟩) : Calls Try.prog 19 #[.pointer (some ⟨p, 0, none⟩), v] w fun e w' => e = .returned (.int .i64 14) ∧ w = w' := by
  have h3 := h.c3
  clear h
  go_enter Try.func19, Try.ntmps19
  go_wp2_with (go_at_call 16; refine (disk_broken p _ _ h3).mono ?_; rintro e w' ⟨rfl, rfl⟩)
  go_ret
  exact ⟨rfl, rfl⟩
theorem disk_append_full (h : Dk w p A c ⟨l, s, r, false⟩) (B : Option Addr) (n d : Nat) (hn : r < l.length + n) : Calls Try.prog 19 #[.pointer (some ⟨p, 0, none⟩), .slice B n d] w fun e w' =>
    e = .returned (.int .i64 5) ∧ ∃ k, w' = w.drewN k := by
  have h0 := h.c0
  have h2 := h.c2
  have h3 := h.c3
  have hr : r ≤ 65536 := h.2.2.2.2
  have hl : l.length ≤ r := h.2.2.2.1
  clear h
  go_enter Try.func19, Try.ntmps19
  go_wp2_with (first
    | (go_at_call 16; refine (disk_broken p _ _ h3).mono ?_; rintro e w' ⟨rfl, rfl⟩)
    | (go_at_call 17; refine (disk_room p _ _ _ _ _ h0 h2 hr hl).mono ?_; rintro e w' ⟨rfl, k, rfl⟩))
  go_ret
  exact ⟨rfl, _, rfl⟩
theorem disk_append (h : Dk w p A c ⟨l, s, r, false⟩) (B : Option Addr) (n d : Nat) (b : List UInt8) (hb : RdB w B n b) (hn : l.length + n ≤ r) : Calls Try.prog 19 #[.pointer (some ⟨p, 0, none⟩), .slice B n d] w fun e w' =>
    e = .returned (.int .i64 0) ∧ ∃ A', (∃ c', Dk w' p A' c' ⟨l ++ b, s, r, false⟩) ∧ Nw w A A' ∧ Mod (dkf p A) w w' := by
  obtain ⟨i0, hi, hz0, hz1, hz2⟩ := info_parts u8info
  have h0 := h.c0
  have h2 := h.c2
  have h3 := h.c3
  have hr : r ≤ 65536 := h.2.2.2.2
  have hl : l.length ≤ r := h.2.2.2.1
  have H := Lib.hid h
  clear h
  go_enter Try.func19, Try.ntmps19
  go_wp2_with (first
    | (go_at_call 16; refine (disk_broken p _ _ h3).mono ?_; rintro e w' ⟨rfl, rfl⟩)
    | (go_at_call 17; refine (disk_room p _ _ _ _ _ h0 h2 hr hl).mono ?_; rintro e w' ⟨rfl, k, rfl⟩)
    | (at_builtin; refine wpList_append_ow rfl (.tmp 18) (.tmp 19) 27 rfl 5 i0 _ 1 1 Try.underlying27 hi hz0 hz1 hz2 rfl (by omega) A l.length c (bvs l) rfl ?_ B n d (bvs b) rfl ?_ (bvs_one b) (by omega) (by omega) ?_))
  · exact H.out.2.1
  · exact hb
  · intro A' c' w1 hown hmod hA'
    have h := H.out
    have hb1 : Blk w1 p _ _ := h.1.mod (w := w.drewN k) hmod h.apart
    have c0 := hb1.cell 0
    have f0 := hb1.frozen 0
    have Hb1 := Lib.hid hb1
    have Hown := Lib.hid hown
    have Hmod := Lib.hid hmod
    clear h hb1 hown hmod
    go_wp2
    go_ret
    have h := H.out
    have hown := Hown.out
    have hmod := Hmod.out
    have hnA : ¬ fp A' p := hown.ne_blk Hb1.out (by decide)
    refine ⟨rfl, A', ⟨c', ?_, ?_, ?_⟩, ?_, ?_⟩
    · have e : (l ++ b).length = l.length + n := by rw [List.length_append, hb.len]
      show Blk _ _ _ #[.slice A' (l ++ b).length c', _, _, _]
      rw [e]
      exact Hb1.out.set_ 0 _
    · have e : (l ++ b).length = l.length + n := by rw [List.length_append, hb.len]
      show Ow _ _ _ _ (l ++ b).length _ _
      rw [e, bvs_append]
      exact hown.mod ((Mod.refl (fun k => k = p) w1).setCell (p := ⟨p, 0, none⟩) (.inl rfl) _) (fun i hi he => hnA (he ▸ hi))
    · have := h.2.2
      have := hb.len
      simp only [DS.fit, List.length_append] at *
      omega
    · rcases hA' with rfl | rfl
      · exact .inl rfl
      · exact .inr fun a ha => by cases ha; simp
    · have h1 : Mod (dkf p A) w w1 := ((Mod.refl (dkf p A) w).drewN k).then hmod fun i _ hi => .inr hi
      exact h1.setCell (.inl (.inl rfl)) _

/-- Up: what is kept, and spoiled. -/
def spoil1 (sure keep : Nat) (l : List UInt8) (x : Int × UInt8) : List UInt8 := if 0 ≤ x.1 ∧ x.1 < keep then l.set (sure + x.1.toNat) x.2 else l
def spoils_ (sure keep : Nat) (l : List UInt8) (xs : List (Int × UInt8)) : List UInt8 := xs.foldl (spoil1 sure keep) l
theorem spoil1_length (sure keep : Nat) (l : List UInt8) (x : Int × UInt8) : (spoil1 sure keep l x).length = l.length := by unfold spoil1; split <;> simp
theorem spoils_length (sure keep : Nat) (xs : List (Int × UInt8)) : ∀ l, (spoils_ sure keep l xs).length = l.length := by
  induction xs with
  | nil => intro l; rfl
  | cons x xs ih => intro l; exact (ih _).trans (spoil1_length _ _ _ _)
def upKeep (l : List UInt8) (s : Nat) (k : Int) : Nat := (min (max k 0) ((l.length : Int) - s)).toNat
def spv (xs : List (Int × UInt8)) : List Value := xs.flatMap fun x => [.int .i64 x.1, bv x.2]

theorem disk_up_nil (v v' : Value) : Calls Try.prog 15 #[.pointer none, v, v'] w fun e w' => e = .returned (.tuple #[]) ∧ w = w' := by
  go_enter Try.func15, Try.ntmps15
  go_wp2
  go_returns
  exact ⟨rfl, rfl⟩
end
end Go.Proofs.Ytnemlmhmemndhaa
