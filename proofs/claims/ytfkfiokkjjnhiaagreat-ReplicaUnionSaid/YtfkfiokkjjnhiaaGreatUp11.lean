import Derived.Test.YtfkfiokkjjnhiaaGreatUp1
import Derived.Test.YtfkfiokkjjnhiaaGreatRows
import Derived.StillTailTactics
import Derived.Deep.RegionHeld3
import Derived.Handy
import Derived.Deep.DeepCutAuto
import Derived.Test.YtfkfiokkjjnhiaaGreatUp10
import Derived.Test.YtfkfiokkjjnhiaaGreatUp4
import Derived.Deep.RegionLaw
set_option linter.unusedVariables false
set_option linter.unusedSimpArgs false
set_option maxHeartbeats 16000000
namespace Go.Proofs.YtfkfiokkjjnhiaaGreat
open Go.RowKit
theorem ret_i {k : IntKind} {a b : Int} (h : a = b) : Ending.returned (.int k a) = .returned (.int k b) := by rw [h]
theorem ret_b {a b : Bool} (h : a = b) : Ending.returned (.bool a) = .returned (.bool b) := by rw [h]
structure DS where
 bytes : List UInt8
 sure : Nat
 room : Nat
 broken : Bool
def DS.fit (D : DS) : Prop := D.sure ≤ D.bytes.length ∧ D.bytes.length ≤ D.room ∧ D.room ≤ 65536
def Dk (w : World) (p : Nat) (A : Option Addr) (c : Nat) (D : DS) : Prop :=
 Blk w p 128 #[.slice A D.bytes.length c, .int .i64 D.sure, .int .i64 D.room, .bool D.broken] ∧ OwB w 5 A D.bytes.length c D.bytes ∧ D.fit
def dkf (p : Nat) (A : Option Addr) : Nat → Prop := fun k => k = p ∨ fp A k
def Nw (w : World) (A A' : Option Addr) : Prop := A' = A ∨ Fresh w A'
section
variable {F : Nat → Prop} {w w' : World} {p : Nat} {A : Option Addr} {c : Nat} {D : DS}
theorem Dk.mod (h : Dk w p A c D) (hm : Mod F w w') (hF : ∀ k, dkf p A k → ¬ F k) : Dk w' p A c D :=
 ⟨h.1.mod hm (hF p (.inl rfl)), h.2.1.mod hm (fun k hk => hF k (.inr hk)), h.2.2⟩
theorem Dk.mod0 (h : Dk w p A c D) (hm : Mod none_ w w') : Dk w' p A c D := h.mod hm fun _ _ hh => hh
theorem Dk.apart (h : Dk w p A c D) : ¬ fp A p := h.2.1.ne_blk h.1 (by decide)
theorem Dk.lt (h : Dk w p A c D) : ∀ k, dkf p A k → k < w.heap.size := by
 rintro k (rfl | hk)
 ·exact h.1.lt
 ·exact h.2.1.lt k hk
theorem Dk.c0 (h : Dk w p A c D) : w.cell? ⟨p, 0, none⟩ = some (.slice A D.bytes.length c) := h.1.cell 0
theorem Dk.c1 (h : Dk w p A c D) : w.cell? ⟨p, 1, none⟩ = some (.int .i64 D.sure) := h.1.cell 1
theorem Dk.c2 (h : Dk w p A c D) : w.cell? ⟨p, 2, none⟩ = some (.int .i64 D.room) := h.1.cell 2
theorem Dk.c3 (h : Dk w p A c D) : w.cell? ⟨p, 3, none⟩ = some (.bool D.broken) := h.1.cell 3
end
set_option maxRecDepth 512
theorem disk_new (r : Int) (w : World) : Calls Tryz.prog 31 #[.int .i64 r] w fun e w' =>
  e = .returned (.pointer (some ⟨w.heap.size, 0, none⟩)) ∧ Dk w' w.heap.size none 0 ⟨[], 0, (min (max r 0) 65536).toNat, false⟩ ∧ Mod none_ w w' := by
 have fin : ∀ (n : Int), n = min (max r 0) 65536 → ∀ w', w' = w.alloc (.cells #[.slice none 0 0, .int .i64 0, .int .i64 n, .bool false] 128) →
   Dk w' w.heap.size none 0 ⟨[], 0, (min (max r 0) 65536).toNat, false⟩ ∧ Mod none_ w w' := by
  rintro n hn w' rfl
  refine ⟨⟨?_, Ow.nil _ _ _, ?_⟩, (Mod.refl _ w).alloc _⟩
  ·have e : (((min (max r 0) 65536).toNat : Nat) : Int) = n := by omega
   simp only [e]
   exact Blk.new w _ _
  ·simp [DS.fit]; omega
 go_enter Tryz.func31, Tryz.ntmps31
 go_wp2
 all_goals go_ret
 all_goals exact ⟨rfl, fin _ (by omega) _ rfl⟩
theorem disk_broken (p : Nat) (b : Bool) (w : World) (h : w.cell? ⟨p, 3, none⟩ = some (.bool b)) : Calls Tryz.prog 151 #[.pointer (some ⟨p, 0, none⟩)] w fun e w' => e = .returned (.bool b) ∧ w = w' := by
 go_enter Tryz.func151, Tryz.ntmps151
 go_wp2
 go_ret
 exact ⟨rfl, rfl⟩
theorem disk_room (p : Nat) (A : Option Addr) (n r c : Nat) (w : World) (h0 : w.cell? ⟨p, 0, none⟩ = some (.slice A n c)) (h2 : w.cell? ⟨p, 2, none⟩ = some (.int .i64 r)) (hr : r ≤ 65536) (hn : n ≤ r) :
  Calls Tryz.prog 185 #[.pointer (some ⟨p, 0, none⟩)] w fun e w' => e = .returned (.int .i64 ((r : Int) - n)) ∧ ∃ k, w' = w.drewN k := by
 go_enter Tryz.func185, Tryz.ntmps185
 go_wp2
 go_quiet (fail)
 go_wp2
 go_ret
 exact ⟨rfl, _, rfl⟩
theorem Dk.upd {w w' : World} {p : Nat} {A : Option Addr} {c : Nat} {D D' : DS} {cs : Array Value} (h : Dk w p A c D) (hb : Blk w' p 128 cs) (hm : Mod (fun k => k = p) w w')
  (hcs : cs = #[.slice A D'.bytes.length c, .int .i64 D'.sure, .int .i64 D'.room, .bool D'.broken]) (hD : D'.bytes = D.bytes) (hf : D'.fit) : Dk w' p A c D' := by
 refine ⟨hcs ▸ hb, ?_, hf⟩
 rw [hD]
 exact h.2.1.mod hm (fun k hk he => h.apart (he ▸ hk))
section
variable (p : Nat) (A : Option Addr) (c : Nat) (l : List UInt8) (s r : Nat) (w : World)
theorem disk_sync (h : Dk w p A c ⟨l, s, r, false⟩) : Calls Tryz.prog 137 #[.pointer (some ⟨p, 0, none⟩)] w fun e w' =>
  e = .returned (.int .i64 0) ∧ Dk w' p A c ⟨l, l.length, r, false⟩ ∧ Mod (dkf p A) w w' := by
 have h0 := h.c0
 have h1 := h.c1
 have h3 := h.c3
 have f1 := h.1.frozen 1
 have H := zH h
 clear h
 go_enter Tryz.func137, Tryz.ntmps137
 go_wp2_with (go_at_call 151; refine (disk_broken p _ _ h3).mono ?_; rintro e w' ⟨rfl, rfl⟩)
 go_ret
 have h := H.out
 exact ⟨rfl, h.upd (h.1.set_ 1 _) ((Mod.refl (fun k => k = p) w).setCell (p := ⟨p, 1, none⟩) (.inl rfl) _) rfl rfl ⟨Nat.le_refl _, h.2.2.2⟩, (Mod.refl _ w).setCell (.inl (.inl rfl)) _⟩
theorem disk_cut (k : Nat) (h : Dk w p A c ⟨l, s, r, false⟩) (hk : k ≤ l.length) : Calls Tryz.prog 83 #[.pointer (some ⟨p, 0, none⟩), .int .i64 (k : Int)] w fun e w' =>
  e = .returned (.int .i64 0) ∧ Dk w' p A k ⟨l.take k, k, r, false⟩ ∧ Mod (dkf p A) w w' := by
 have h0 := h.c0
 have h1 := h.c1
 have h3 := h.c3
 have f0 := h.1.frozen 0
 have f1 := h.1.frozen 1
 have hlen : l.length ≤ 65536 := Nat.le_trans h.2.2.2.1 h.2.2.2.2
 have hc : l.length ≤ c := h.2.1.2.1
 have H := zH h
 clear h
 go_enter Tryz.func83, Tryz.ntmps83
 go_wp2_with (go_at_call 151; refine (disk_broken p _ _ h3).mono ?_; rintro e w' ⟨rfl, rfl⟩)
 go_ret
 have h := H.out
 have hm : Mod (fun k => k = p) w ((w.setCell ⟨p, 0, none⟩ (.slice A k k)).setCell ⟨p, 1, none⟩ (.int .i64 (k : Int))) :=
  ((Mod.refl (fun k => k = p) w).setCell (p := ⟨p, 0, none⟩) (.inl rfl) _).setCell (p := ⟨p, 1, none⟩) (.inl rfl) _
 have ho : Ow w 5 1 A k k (bvs (l.take k)) := by
  have := (h.2.1.take_ hk).clip (Nat.le_refl k) (by omega)
  rwa [Nat.mul_one, ← bvs_take] at this
 refine ⟨rfl, ⟨?_, ?_, ?_⟩, hm.mono fun _ e => .inl e⟩
 ·have e : (l.take k).length = k := by simp; omega
  show Blk _ _ _ #[.slice A (l.take k).length k, _, _, _]
  rw [e]
  exact (h.1.set_ 0 _).set_ 1 _
 ·have e : (l.take k).length = k := by simp; omega
  show Ow _ _ _ _ (l.take k).length _ _
  rw [e]
  exact ho.mod hm (fun i hi he => h.apart (he ▸ hi))
 ·have := h.2.2
  simp only [DS.fit, List.length_take] at this ⊢
  omega
theorem clone_any (B : Option Addr) (n d : Nat) (h : RdB w B n l) (hn : n ≤ 140737488351232) : Calls Tryz.prog 150 #[.slice B n d] w fun e w' =>
  ∃ A' c', e = .returned (.slice A' n c') ∧ OwB w' 5 A' n c' l ∧ Fresh w A' ∧ Mod none_ w w' := by
 obtain ⟨i0, hi, hz0, hz1, hz2⟩ := info_parts u8info
 have hq := fun (w : World) (a : Option Addr) (n c : Nat) => Lib.run_eql_slice_nil (P := Tryz.prog) w 126 _ a n c 0 0 Tryz.underlying126
 rcases B with _ | a
 ·have hl : l = [] := by
   rcases Nat.eq_zero_or_pos n with h0 | h0
   ·exact List.eq_nil_of_length_eq_zero (by rw [h.len, h0])
   ·obtain ⟨ad, h, _⟩ := h.2 h0; cases h
  have hn0 : n = 0 := by rw [← h.len, hl]; rfl
  subst hl hn0
  clear h hn
  go_enter Tryz.func150, Tryz.ntmps150
  go_wp2
  go_ret
  exact ⟨none, 0, rfl, Ow.nil _ _ _, (fun _ h => by cases h), Mod.refl _ _⟩
 ·go_enter Tryz.func150, Tryz.ntmps150
  go_wp2_with (at_builtin; refine wpList_append_ow rfl (.tmp 5) (.tmp 6) 126 rfl 5 i0 _ 1 1 Tryz.underlying126 hi hz0 hz1 hz2 rfl (by omega) (some ⟨w.heap.size, 0, none⟩) 0 0 [] rfl ?_ (some a) n d (bvs l) rfl ?_ (bvs_one l) (by omega) (by omega) ?_)
  ·exact Ow.new w _ 1 0 #[] (Nat.zero_le _) rfl
  ·exact Rd.alloc h _
  ·intro A' c' w1 hown hmod hA'
   go_wp2
   go_ret
   refine ⟨A', c', rfl, hown, ?_, ((Mod.refl none_ w).alloc (.cells #[] 5)).then hmod ?_⟩
   ·rintro b hb
    rcases hA' with rfl | rfl <;> cases hb <;> simp
   ·rintro k hk ⟨b, hb, rfl⟩
    cases hb
    simp at hk
theorem disk_bytes (D : DS) (h : Dk w p A c D) : Calls Tryz.prog 82 #[.pointer (some ⟨p, 0, none⟩)] w fun e w' =>
  ∃ A' c', e = .returned (.slice A' D.bytes.length c') ∧ OwB w' 5 A' D.bytes.length c' D.bytes ∧ Fresh w A' ∧ Mod none_ w w' := by
 have h0 := h.c0
 have hr : RdB w A D.bytes.length D.bytes := h.2.1.rd
 have hlen : D.bytes.length ≤ 65536 := Nat.le_trans h.2.2.2.1 h.2.2.2.2
 clear h
 go_enter Tryz.func82, Tryz.ntmps82
 go_wp2_with (go_at_call 150; refine (clone_any D.bytes _ A _ _ hr (by omega)).mono ?_; rintro e w1 ⟨A', c', rfl, h1, h2, h3⟩)
 go_ret
 exact ⟨A', c', rfl, h1, h2, h3⟩
theorem disk_append_full (h : Dk w p A c ⟨l, s, r, false⟩) (B : Option Addr) (n d : Nat) (hn : r < l.length + n) : Calls Tryz.prog 136 #[.pointer (some ⟨p, 0, none⟩), .slice B n d] w fun e w' =>
  e = .returned (.int .i64 5) ∧ ∃ k, w' = w.drewN k := by
 have h0 := h.c0
 have h2 := h.c2
 have h3 := h.c3
 have hr : r ≤ 65536 := h.2.2.2.2
 have hl : l.length ≤ r := h.2.2.2.1
 clear h
 go_enter Tryz.func136, Tryz.ntmps136
 go_wp2_with (first
  | (go_at_call 151; refine (disk_broken p _ _ h3).mono ?_; rintro e w' ⟨rfl, rfl⟩)
  | (go_at_call 185; refine (disk_room p _ _ _ _ _ h0 h2 hr hl).mono ?_; rintro e w' ⟨rfl, k, rfl⟩))
 go_ret
 exact ⟨rfl, _, rfl⟩
set_option maxRecDepth 100000
theorem disk_append (h : Dk w p A c ⟨l, s, r, false⟩) (B : Option Addr) (n d : Nat) (b : List UInt8) (hb : RdB w B n b) (hn : l.length + n ≤ r) : Calls Tryz.prog 136 #[.pointer (some ⟨p, 0, none⟩), .slice B n d] w fun e w' =>
  e = .returned (.int .i64 0) ∧ ∃ A', (∃ c', Dk w' p A' c' ⟨l ++ b, s, r, false⟩) ∧ Nw w A A' ∧ Mod (dkf p A) w w' := by
 obtain ⟨i0, hi, hz0, hz1, hz2⟩ := info_parts u8info
 have h0 := h.c0
 have h2 := h.c2
 have h3 := h.c3
 have hr : r ≤ 65536 := h.2.2.2.2
 have hl : l.length ≤ r := h.2.2.2.1
 have H := zH h
 clear h
 go_enter Tryz.func136, Tryz.ntmps136
 go_wp2_with (first
  | (go_at_call 151; refine (disk_broken p _ _ h3).mono ?_; rintro e w' ⟨rfl, rfl⟩)
  | (go_at_call 185; refine (disk_room p _ _ _ _ _ h0 h2 hr hl).mono ?_; rintro e w' ⟨rfl, k, rfl⟩)
  | (at_builtin; refine wpList_append_ow rfl (.tmp 18) (.tmp 19) 126 rfl 5 i0 _ 1 1 Tryz.underlying126 hi hz0 hz1 hz2 rfl (by omega) A l.length c (bvs l) rfl ?_ B n d (bvs b) rfl ?_ (bvs_one b) (by omega) (by omega) ?_))
 ·exact H.out.2.1
 ·exact hb
 ·intro A' c' w1 hown hmod hA'
  have h := H.out
  have hb1 : Blk w1 p _ _ := h.1.mod (w := w.drewN k) hmod h.apart
  have c0 := hb1.cell 0
  have f0 := hb1.frozen 0
  have Hb1 := zH hb1
  have Hown := zH hown
  have Hmod := zH hmod
  clear h hb1 hown hmod
  go_wp2
  go_ret
  have h := H.out
  have hown := Hown.out
  have hmod := Hmod.out
  have hnA : ¬ fp A' p := hown.ne_blk Hb1.out (by decide)
  refine ⟨rfl, A', ⟨c', ?_, ?_, ?_⟩, ?_, ?_⟩
  ·have e : (l ++ b).length = l.length + n := by rw [List.length_append, hb.len]
   show Blk _ _ _ #[.slice A' (l ++ b).length c', _, _, _]
   rw [e]
   exact Hb1.out.set_ 0 _
  ·have e : (l ++ b).length = l.length + n := by rw [List.length_append, hb.len]
   show Ow _ _ _ _ (l ++ b).length _ _
   rw [e, bvs_append]
   exact hown.mod ((Mod.refl (fun k => k = p) w1).setCell (p := ⟨p, 0, none⟩) (.inl rfl) _) (fun i hi he => hnA (he ▸ hi))
  ·have := h.2.2
   have := hb.len
   simp only [DS.fit, List.length_append] at *
   omega
  ·rcases hA' with rfl | rfl
   ·exact .inl rfl
   ·exact .inr fun a ha => by cases ha; simp
  ·have h1 : Mod (dkf p A) w w1 := ((Mod.refl (dkf p A) w).drewN k).then hmod fun i _ hi => .inr hi
   exact h1.setCell (.inl (.inl rfl)) _
end
set_option maxRecDepth 512
theorem fits_yes (n : Int) (w : World) (h1 : 1 ≤ n) (h2 : n ≤ 4096) : Calls Tryz.prog 197 #[.int .i64 n] w fun e w' => e = .returned (.bool true) ∧ w = w' := by
 go_enter Tryz.func197, Tryz.ntmps197
 go_wp2
 go_ret
 exact ⟨rfl, rfl⟩
theorem fits_no (n : Int) (w : World) (h : n < 1 ∨ 4096 < n) : Calls Tryz.prog 197 #[.int .i64 n] w fun e w' => e = .returned (.bool false) ∧ w = w' := by
 rcases h with h | h
 ·go_enter Tryz.func197, Tryz.ntmps197
  go_wp2
  go_ret
  exact ⟨rfl, rfl⟩
 ·have h1 : 1 ≤ n := by omega
  go_enter Tryz.func197, Tryz.ntmps197
  go_wp2
  go_ret
  exact ⟨ret_b (by simp; omega), rfl⟩
def tabCells (j : Nat) : Array Value := ((List.range 256).map fun i => Value.int .u32 (if i < j then (tabN i : Int) else 0)).toArray
theorem tabCells_size (j : Nat) : (tabCells j).size = 256 := by simp [tabCells]
theorem tabCells_get (j i : Nat) (hi : i < 256) : (tabCells j)[i]? = some (.int .u32 (if i < j then (tabN i : Int) else 0)) := by
 simp [tabCells, hi]
theorem tabCells_set (j : Nat) (hj : j < 256) : (tabCells j).setIfInBounds j (.int .u32 (tabN j : Int)) = tabCells (j + 1) := by
 apply Array.ext_getElem?
 intro i
 rw [Array.getElem?_setIfInBounds]
 by_cases h : j = i
 ·subst h
  rw [if_pos rfl, if_pos (by rw [tabCells_size]; exact hj), tabCells_get _ _ hj, if_pos (by omega)]
 ·rw [if_neg h]
  rcases Nat.lt_or_ge i 256 with hi | hi
  ·rw [tabCells_get _ _ hi, tabCells_get _ _ hi]
   by_cases h2 : i < j
   ·rw [if_pos h2, if_pos (by omega)]
   ·rw [if_neg h2, if_neg (by omega)]
  ·rw [Array.getElem?_eq_none (by rw [tabCells_size]; exact hi), Array.getElem?_eq_none (by rw [tabCells_size]; exact hi)]
theorem wpList_alloc_zero {P : Program} {w : World} {ops : Array Oper} {rest : List Oper} {o : Oper} {a : Act} {Q : Exit → Act → World → Prop} (hgd : o.guard = none) (t : TypeId) (ho : o.op = .alloc t)
  (i : TypeInfo) (z : Value) (hi : P.info? t = some i) (hz : i.zero = some z)
  (h : wpList P ops Q rest (a.put o.dst (.pointer (some ⟨w.heap.size, 0, none⟩))) (w.alloc (.cells z.cells t))) : wpList P ops Q (o :: rest) a w :=
 wpList_plain hgd fun K hK => by
  unfold Oper.wp execOp
  simp only [ho]
  simp [Instr.alloc, zeroValue, typeInfo, hi, hz, newVar, newRow, newObj]
  exact hK _ _ h
theorem tabinfo : (Tryz.prog.info? 331).map (fun i => (i.zero, i.size, i.bytes)) = some (some (.agg (tabCells 0)), 256, 1024) := by kernel_rfl
theorem step_bitsF (h : Nat) (hh : h < 4294967296) : bits .xor .u32 ((h : Int) / 2) (bits .and .u32 3988292384 (-bits .and .u32 (h : Int) 1 % 4294967296)) = ((step1 h : Nat) : Int) := by
 have e1 : bits .and .u32 (h : Int) 1 = ((h % 2 : Nat) : Int) := by
  have := ba32 h 1 hh (by omega)
  rw [Nat.and_one_is_mod] at this
  exact this
 have e2 : ((h : Int) / 2) = ((h / 2 : Nat) : Int) := by omega
 rw [e1, e2]
 unfold step1
 rcases Nat.mod_two_eq_zero_or_one h with h0 | h0
 ·rw [h0, if_neg (by omega)]
  have e3 : bits .and .u32 3988292384 (-((0 : Nat) : Int) % 4294967296) = ((0 : Nat) : Int) := by
   have := ba32 3988292384 0 (by omega) (by omega)
   simpa using this
  rw [e3]
  exact bx32 _ _ (by omega) (by omega)
 ·rw [h0, if_pos rfl]
  have e3 : bits .and .u32 3988292384 (-((1 : Nat) : Int) % 4294967296) = ((3988292384 : Nat) : Int) := by
   have := ba32 3988292384 4294967295 (by omega) (by omega)
   have e4 : -((1 : Nat) : Int) % 4294967296 = ((4294967295 : Nat) : Int) := by omega
   rw [e4]
   have e5 : (3988292384 &&& 4294967295 : Nat) = 3988292384 := by decide
   rw [e5] at this
   exact this
  rw [e3]
  exact bx32 _ _ (by omega) (by omega)
theorem u32_eq {a b : Int} (h : a = b) : Value.int .u32 a = Value.int .u32 b := by rw [h]
set_option maxRecDepth 100000
theorem table_ok (w : World) : Calls Tryz.prog 224 #[] w fun e w' => e = .returned (.pointer (some ⟨w.heap.size, 0, none⟩)) ∧ w' = w.alloc (.cells (tabCells 256) 331) := by
 obtain ⟨i0, hi, hz0, hz1, hz2⟩ := info_parts tabinfo
 go_enter Tryz.func224, Tryz.ntmps224
 go_wp2_with (refine wpList_alloc_zero rfl 331 rfl i0 _ hi hz0 ?_)
 go_loopw [4] (fun i wr => ∃ (j : Nat), i = .int .i64 j ∧ j ≤ 256 ∧ wr = w.alloc (.cells (tabCells j) 331)) (fun i _ => 256 - (intOf i).toNat)
 case atStart => exact ⟨0, rfl, by omega, rfl⟩
 case round =>
  obtain ⟨j, rfl, hj, rfl⟩ := hrel
  by_cases hj2 : j < 256
  ·go_wp2_with fail
   go_loop [3, 9] (fun h4 i => ∃ (k : Nat), h4 = .int .u32 (stepN k j : Nat) ∧ i = .int .i64 k ∧ k ≤ 8) (fun _ i => 8 - (intOf i).toNat)
   case atStart => exact ⟨0, rfl, rfl, by omega⟩
   case round =>
    obtain ⟨k, rfl, rfl, hk⟩ := hrel
    by_cases hk2 : k < 8
    ·have hlt := stepN_lt k j (by omega)
     have hs : stepN (k + 1) j = step1 (stepN k j) := rfl
     have hb := step_bitsF (stepN k j) hlt
     rw [← hs] at hb
     replace hb := zH hb
     clear hs
     go_wp2
     go_round
     case rel => exact ⟨k + 1, u32_eq hb.out, by go_num, by omega⟩
     case measure => simp [intOf]; omega
    ·have hk3 : k = 8 := by omega
     subst hk3
     have hg := tabCells_get j j hj2
     rw [if_neg (by omega)] at hg
     have hlt := stepN_lt 8 j (by omega)
     have hset := zH (tabCells_set j hj2)
     go_wp2
     go_roundw
     case rel => exact ⟨j + 1, by go_num, by omega, by rw [← hset.out]; rfl⟩
     case measure => simp [intOf]; omega
  ·have hj3 : j = 256 := by omega
   subst hj3
   go_wp2
   go_ret
   exact ⟨rfl, rfl⟩
theorem not_nat (q : Nat) (hq : q < 4294967296) : 4294967295 ^^^ q = 4294967295 - q := by
 have h := BitVec.toNat_not (x := BitVec.ofNat 32 q)
 rw [BitVec.not_def, BitVec.toNat_xor, BitVec.toNat_ofNat, Nat.mod_eq_of_lt (by omega : q < 2 ^ 32)] at h
 have e : (BitVec.allOnes 32).toNat = 4294967295 := by decide
 rw [e] at h
 exact h
theorem not32 (q : Nat) (hq : q < 4294967296) : bits .xor .u32 IntKind.u32.max (q : Int) = ((4294967295 - q : Nat) : Int) := by
 have e : IntKind.u32.max = ((4294967295 : Nat) : Int) := by decide
 rw [e, bx32 4294967295 q (by omega) hq, not_nat q hq]
theorem sum_ok (w : World) (A : Option Addr) (n c : Nat) (l : List UInt8) (h : RdB w A n l) (hn : n ≤ 140737488351232) : Calls Tryz.prog 198 #[.slice A n c] w fun e w' => e = .returned (.int .u32 (crc l : Nat)) ∧ Mod none_ w w' := by
 have hl := zH h.len
 have H := zH h
 clear h
 go_enter Tryz.func198, Tryz.ntmps198
 go_wp2_with fail
 refine (table_ok w).mono ?_
 rintro e w1 ⟨rfl, hw1⟩
 have hb : Blk w1 w.heap.size 331 (tabCells 256) := by rw [hw1]; exact Blk.new w _ _
 have hm : Mod none_ w w1 := by rw [hw1]; exact (Mod.refl _ w).alloc _
 have hr := zH (H.out.mod0 hm)
 have hbt : ∀ i, i < 256 → w1.cell? ⟨w.heap.size, i, none⟩ = some (.int .u32 (tabN i : Nat)) := fun i hi => by
  rw [hb.cell, tabCells_get 256 i hi, if_pos hi]
 replace hb := zH hb
 replace hbt := zH hbt
 replace hm := zH hm
 clear hw1
 go_wp2_with fail
 go_loop [4, 10] (fun h4 i => ∃ (j : Nat), h4 = .int .u32 (crcFold (l.take j) : Nat) ∧ i = .int .i64 j ∧ j ≤ n) (fun _ i => n - (intOf i).toNat)
 case atStart => exact ⟨0, rfl, rfl, by omega⟩
 case round =>
  obtain ⟨j, rfl, rfl, hj⟩ := hrel
  by_cases hlt : j < n
  ·obtain ⟨g, o, rfl, hc⟩ := hr.out.form (by omega) (by omega)
   have hjl : j < l.length := by have := hl.out; omega
   have hcj := hc j _ (bvs_get hjl)
   have hsn : crcFold (l.take (j + 1)) = crcStep (crcFold (l.take j)) l[j] := by
    rw [← crcFold_snoc, List.take_add_one, List.getElem?_eq_getElem hjl]; rfl
   have hft := crcFold_lt (l.take j)
   clear hc
   generalize l[j] = b at *
   replace hsn := zH hsn
   generalize crcFold (l.take j) = q at *
   have hbl := b.toNat_lt
   have hx : bits .xor .u8 ((q : Int) % 256) (b.toNat : Int) = (((q % 256) ^^^ b.toNat : Nat) : Int) := bx8 (q % 256) b.toNat (by omega) (by omega)
   have hxl := xor_lt8 (q % 256) b.toNat (by omega) (by omega)
   obtain ⟨x, hxx⟩ : ∃ x, x = (q % 256) ^^^ b.toNat := ⟨_, rfl⟩
   rw [← hxx] at hx hxl
   have hct := hbt.out x hxl
   have hx2 : bits .xor .u32 ((q : Int) / 256) (tabN x : Nat) = ((crcStep q b : Nat) : Int) := by
    have := bx32 (q / 256) (tabN x) (by omega) (tabN_lt x hxl)
    rw [hxx] at this ⊢
    exact this
   replace hxx := zH hxx
   go_wp2
   go_round
   case rel => exact ⟨j + 1, by rw [hsn.out], by go_num, by omega⟩
   case measure => simp [intOf]; omega
  ·have hjn : j = n := by omega
   have e : l.take j = l := List.take_of_length_le (by have := hl.out; omega)
   have hft := crcFold_lt (l.take j)
   rw [e] at hft ⊢
   clear e
   have hnot := zH (not32 (crcFold l) hft)
   go_wp2
   go_ret
   exact ⟨ret_i hnot.out, hm.out⟩
def fhead (l : List UInt8) : List UInt8 := [by_ l.length, by_ (l.length / 256), by_ (crc l), by_ (crc l / 256), by_ (crc l / 65536), by_ (crc l / 16777216)]
def frameOf (l : List UInt8) : List UInt8 := fhead l ++ l
theorem frameOf_length (l : List UInt8) : (frameOf l).length = 6 + l.length := by simp [frameOf, fhead]; omega
set_option maxRecDepth 512
theorem frame_no (w : World) (A : Option Addr) (n c : Nat) (hn : n < 1 ∨ 4096 < n) : Calls Tryz.prog 149 #[.slice A n c] w fun e w' => e = .returned (.tuple #[.slice none 0 0, .int .i64 1]) ∧ w = w' := by
 have H := zH (show (n : Int) < 1 ∨ 4096 < (n : Int) by omega)
 clear hn
 go_enter Tryz.func149, Tryz.ntmps149
 go_wp2_with (go_at_call 197; refine (fits_no _ _ H.out).mono ?_; rintro e w1 ⟨rfl, rfl⟩)
 go_ret2
 exact ⟨rfl, rfl⟩
theorem frame_yes (w : World) (A : Option Addr) (n c : Nat) (l : List UInt8) (h : RdB w A n l) (h1 : 1 ≤ n) (h2 : n ≤ 4096) : Calls Tryz.prog 149 #[.slice A n c] w fun e w' =>
  ∃ A' c', e = .returned (.tuple #[.slice A' (6 + n) c', .int .i64 0]) ∧ OwB w' 5 A' (6 + n) c' (frameOf l) ∧ Fresh w A' ∧ Mod none_ w w' := by
 have H := zH h
 have hl := zH h.len
 have hq := crc_lt l
 clear h
 go_enter Tryz.func149, Tryz.ntmps149
 go_wp2_with (first
  | (go_at_call 197; refine (fits_yes _ _ (by omega) (by omega)).mono ?_; rintro e w1 ⟨rfl, rfl⟩)
  | (go_at_call 198; refine (sum_ok _ A n c l H.out (by omega)).mono ?_; rintro e w1 ⟨rfl, hm1⟩; have Hm1 := zH hm1; clear hm1))
 have hhead : bvs (fhead l) = [.int .u8 ((n : Int) % 256), .int .u8 ((n : Int) / 256), .int .u8 ((crc l : Int) % 256), .int .u8 ((crc l : Int) / 256 % 256), .int .u8 ((crc l : Int) / 65536 % 256), .int .u8 ((crc l : Int) / 16777216)] := by
  have e := hl.out
  simp only [bvs, fhead, bv, List.map_cons, List.map_nil, by_toNat, e]
  have x1 : ((n / 256 % 256 : Nat) : Int) = (n : Int) / 256 := by omega
  have x2 : ((crc l / 16777216 % 256 : Nat) : Int) = (crc l : Int) / 16777216 := by omega
  rw [x1, x2]
  rfl
 have hh : ∀ w2, w2 = (w1.alloc (.cells #[.int .u8 ((n : Int) % 256), .int .u8 ((n : Int) / 256), .int .u8 ((crc l : Int) % 256), .int .u8 ((crc l : Int) / 256 % 256), .int .u8 ((crc l : Int) / 65536 % 256), .int .u8 ((crc l : Int) / 16777216)] 5)).alloc (.cells #[.slice (some ⟨w1.heap.size, 0, none⟩) 6 6, .slice A n c] 126) →
   Rd w2 1 (some ⟨w1.heap.size + 1, 0, none⟩) 2 [.slice (some ⟨w1.heap.size, 0, none⟩) 6 6, .slice A n c] ∧ RdB w2 (some ⟨w1.heap.size, 0, none⟩) 6 (fhead l) ∧ RdB w2 A n l ∧ Mod none_ w w2 := by
  rintro w2 rfl
  refine ⟨rdn (w1.alloc _) _ 1 2 _ _ (0, 0) (by simp) rfl, ?_, Rd.mod0 H.out ((Hm1.out.alloc _).alloc _), (Hm1.out.alloc _).alloc _⟩
  show Rd _ _ _ _ (bvs (fhead l))
  rw [hhead]
  exact Rd.alloc (rdn w1 _ 1 6 _ _ (0, 0) rfl rfl) _
 obtain ⟨g1, g2, g3, g4⟩ := hh _ rfl
 refine (concat2_ok _ (w1.heap.size + 1) (some ⟨w1.heap.size, 0, none⟩) A 6 n 6 c (fhead l) l g1 g2 g3 (by omega)).mono ?_
 rintro e w3 ⟨A3, c3, rfl, ho3, hf3, hm3⟩
 have hm4 := zH (g4.trans hm3)
 have hf4 := zH (Fresh.later hf3 g4.size)
 have ho4 := zH ho3
 clear hhead hh g1 g2 g3 g4 ho3 hf3 hm3
 go_wp2
 go_ret2
 exact ⟨A3, c3, rfl, ho4.out, hf4.out, hm4.out⟩
def Txt1 (w : World) (LA : Option Addr) (s : SV) (l : List UInt8) : Prop :=
 RdB w s.a s.n l ∧ s.n ≤ s.c ∧ s.c ≤ 9223372036854775807 ∧ (0 < s.n → ∀ k, fp s.a k → k < w.heap.size ∧ ¬ fp LA k)
def Lst (w : World) (LA : Option Addr) (n c : Nat) (ss : List SV) (ls : List (List UInt8)) : Prop :=
 Ow w 126 1 LA n c (ss.map SV.v) ∧ ss.length = ls.length ∧ ∀ (i : Nat) (s : SV) (l : List UInt8), ss[i]? = some s → ls[i]? = some l → Txt1 w LA s l
section
variable {w w' : World} {LA : Option Addr} {n c : Nat} {ss : List SV} {ls : List (List UInt8)}
theorem Lst.nil (w : World) : Lst w none 0 0 [] [] := ⟨Ow.nil _ _ _, rfl, fun i s l hs _ => by simp at hs⟩
theorem Lst.len (h : Lst w LA n c ss ls) : ls.length = n := by
 have := h.1.1
 rw [List.length_map] at this
 rw [← h.2.1]; omega
theorem Txt1.mod {F : Nat → Prop} {s : SV} {l : List UInt8} (h : Txt1 w LA s l) (hm : Mod F w w') (hF : 0 < s.n → ∀ k, fp s.a k → ¬ F k) : Txt1 w' LA s l :=
 ⟨h.1.mod' hm hF, h.2.1, h.2.2.1, fun h0 k hk => ⟨Nat.lt_of_lt_of_le (h.2.2.2 h0 k hk).1 hm.size, (h.2.2.2 h0 k hk).2⟩⟩
theorem Lst.mod0 (h : Lst w LA n c ss ls) (hm : Mod none_ w w') : Lst w' LA n c ss ls :=
 ⟨h.1.mod0 hm, h.2.1, fun i s l hs hl => (h.2.2 i s l hs hl).mod hm fun _ _ _ hf => hf⟩
theorem Lst.push (h : Lst w LA n c ss ls) {s : SV} {l : List UInt8} (h1 : Txt1 w LA s l) {w1 : World} {LA' : Option Addr} {c' : Nat} (hown : Ow w1 126 1 LA' (n + 1) c' (ss.map SV.v ++ [s.v]))
  (hm : Mod (fp LA) w w1) (hA : LA' = LA ∨ ∃ g, LA' = some ⟨g, 0, none⟩ ∧ w.heap.size ≤ g) : Lst w1 LA' (n + 1) c' (ss ++ [s]) (ls ++ [l]) := by
 have key : ∀ s l, Txt1 w LA s l → Txt1 w1 LA' s l := by
  intro s l ht
  refine ⟨ht.1.mod' hm fun h0 k hk hf => (ht.2.2.2 h0 k hk).2 hf, ht.2.1, ht.2.2.1, fun h0 k hk => ?_⟩
  obtain ⟨q1, q2⟩ := ht.2.2.2 h0 k hk
  refine ⟨Nat.lt_of_lt_of_le q1 hm.size, ?_⟩
  rcases hA with rfl | ⟨g, rfl, hg⟩
  ·exact q2
  ·rintro ⟨a, ha, rfl⟩
   cases ha
   simp only at q1
   omega
 refine ⟨by simpa using hown, by simp [h.2.1], fun i s' l' hs hl => ?_⟩
 by_cases hi : i < ss.length
 ·rw [List.getElem?_append_left hi] at hs
  rw [List.getElem?_append_left (by rw [← h.2.1]; exact hi)] at hl
  exact key _ _ (h.2.2 i s' l' hs hl)
 ·rw [List.getElem?_append_right (by omega)] at hs
  rw [List.getElem?_append_right (by rw [← h.2.1]; omega), ← h.2.1] at hl
  have e : i - ss.length = 0 := by
   rcases Nat.lt_or_ge (i - ss.length) 1 with h5 | h5
   ·omega
   ·rw [List.getElem?_eq_none (by simpa using h5)] at hs; cases hs
  rw [e] at hs hl
  simp at hs hl
  subst hs hl
  exact key _ _ h1
def RdLb (w : World) (A : Option Addr) (n : Nat) (ss : List SV) (ls : List (List UInt8)) : Prop :=
 Rd w 1 A n (ss.map SV.v) ∧ ss.length = ls.length ∧ ∀ (i : Nat) (s : SV) (l : List UInt8), ss[i]? = some s → ls[i]? = some l → RdB w s.a s.n l ∧ s.n ≤ s.c ∧ s.c ≤ 9223372036854775807
theorem Lst.rdl (h : Lst w LA n c ss ls) : RdLb w LA n ss ls :=
 ⟨h.1.rd, h.2.1, fun i s l hs hl => ⟨(h.2.2 i s l hs hl).1, (h.2.2 i s l hs hl).2.1, (h.2.2 i s l hs hl).2.2.1⟩⟩
theorem RdLb.mod0 (h : RdLb w LA n ss ls) (hm : Mod none_ w w') : RdLb w' LA n ss ls :=
 ⟨h.1.mod0 hm, h.2.1, fun i s l hs hl => ⟨Rd.mod0 (h.2.2 i s l hs hl).1 hm, (h.2.2 i s l hs hl).2⟩⟩
theorem RdLb.take_ (h : RdLb w LA n ss ls) {j : Nat} (hj : j ≤ n) : RdLb w LA j (ss.take j) (ls.take j) := by
 refine ⟨?_, by simp [h.2.1], fun i s l hs hl => ?_⟩
 ·have := Rd.take_ h.1 hj
  rwa [Nat.mul_one, ← List.map_take] at this
 ·rw [List.getElem?_take] at hs hl
  split at hs
  ·rename_i hi
   rw [if_pos hi] at hl
   exact h.2.2 i s l hs hl
  ·cases hs
theorem RdLb.app {A : Option Addr} {m : Nat} {ts : List SV} {ks : List (List UInt8)} {B : Option Addr} (h : RdLb w LA n ss ls) (k : RdLb w B m ts ks) {N : Nat} (hr : Rd w 1 A N ((ss ++ ts).map SV.v)) : RdLb w A N (ss ++ ts) (ls ++ ks) := by
 refine ⟨hr, by simp [h.2.1, k.2.1], fun i s l hs hl => ?_⟩
 rcases Nat.lt_or_ge i ss.length with hi | hi
 ·rw [List.getElem?_append_left hi] at hs
  rw [List.getElem?_append_left (by rw [← h.2.1]; exact hi)] at hl
  exact h.2.2 i s l hs hl
 ·rw [List.getElem?_append_right hi] at hs
  rw [List.getElem?_append_right (by rw [← h.2.1]; exact hi), ← h.2.1] at hl
  exact k.2.2 _ s l hs hl
theorem RdLb.len (h : RdLb w LA n ss ls) : ls.length = n := by
 have := h.1.1
 rw [List.length_map] at this
 rw [← h.2.1]; omega
theorem RdLb.at_ (h : RdLb w LA n ss ls) {j : Nat} (hj : j < n) : ∃ b o s l, LA = some ⟨b, o, none⟩ ∧ ss[j]? = some s ∧ ls[j]? = some l ∧ w.cell? ⟨b, o + j, none⟩ = some (.slice s.a s.n s.c) ∧ RdB w s.a s.n l ∧ s.n ≤ s.c ∧ s.c ≤ 9223372036854775807 := by
 obtain ⟨b, o, rfl, hc⟩ := h.1.form (by omega) (by omega)
 have hl := h.len
 have h1 : j < ss.length := by rw [h.2.1, hl]; exact hj
 have h2 : j < ls.length := by rw [hl]; exact hj
 have h3 := hc j ss[j].v (by simp [h1])
 obtain ⟨q1, q2, q3⟩ := h.2.2 j _ _ (List.getElem?_eq_getElem h1) (List.getElem?_eq_getElem h2)
 exact ⟨b, o, ss[j], ls[j], rfl, List.getElem?_eq_getElem h1, List.getElem?_eq_getElem h2, h3, q1, q2, q3⟩
end
set_option maxRecDepth 512
theorem slinfo : (Tryz.prog.info? 126).map (fun i => (i.zero, i.size, i.bytes)) = some (some (.slice none 0 0), 1, 24) := by kernel_rfl
def okL (l : List UInt8) : Prop := 1 ≤ l.length ∧ l.length ≤ 4096
def wrapN (ls : List (List UInt8)) (j : Nat) : List UInt8 := (ls.take j).flatMap frameOf
def WrapRel (w : World) (ls : List (List UInt8)) (j : Nat) (v : Value) (wr : World) : Prop :=
 ∃ A n c, v = .slice A n c ∧ OwB wr 5 A n c (wrapN ls j) ∧ Fresh w A ∧ Mod none_ w wr ∧ (∀ i l, i < j → ls[i]? = some l → okL l) ∧ n ≤ j * 4102
def WrapPost (w : World) (ls : List (List UInt8)) (e : Ending) (w' : World) : Prop :=
 Mod none_ w w' ∧ (((∀ l ∈ ls, okL l) ∧ ∃ A n c, e = .returned (.tuple #[.slice A n c, .int .i64 0]) ∧ OwB w' 5 A n c (ls.flatMap frameOf) ∧ Fresh w A ∧ n ≤ ls.length * 4102) ∨
  ((∃ l ∈ ls, ¬ okL l) ∧ e = .returned (.tuple #[.slice none 0 0, .int .i64 1])))
theorem wrap_ok (w : World) (A : Option Addr) (n d : Nat) (ss : List SV) (ls : List (List UInt8)) (h : RdLb w A n ss ls) (hn : n ≤ 1000000) :
  Calls Tryz.prog 135 #[.slice A n d] w fun e w' => WrapPost w ls e w' := by
 obtain ⟨i0, hi, hz0, hz1, hz2⟩ := info_parts u8info
 have hll := zH h.len
 have H := zH h
 clear h
 go_enter Tryz.func135, Tryz.ntmps135
 go_wp2_with fail
 go_loopw [4, 11] (fun v i wr => ∃ j : Nat, i = .int .i64 j ∧ WrapRel w ls j v wr ∧ j ≤ n) (fun _ i _ => n - (intOf i).toNat)
 case atStart => exact ⟨0, rfl, ⟨none, 0, 0, rfl, Ow.nil _ _ _, (fun _ h => by cases h), Mod.refl _ w, (fun i l hi => by omega), by omega⟩, Nat.zero_le _⟩
 case round =>
  obtain ⟨j, rfl, ⟨B, m, c, rfl, hown, hf, hm, hok, hml⟩, hjn⟩ := hrel
  by_cases q1 : j < n
  ·have hr : RdLb wr A n ss ls := ⟨H.out.1.mod0 hm, H.out.2.1, fun i s l hs hl => ⟨Rd.mod0 (H.out.2.2 i s l hs hl).1 hm, (H.out.2.2 i s l hs hl).2⟩⟩
   obtain ⟨b, o, s, l, rfl, hs, hl, hcell, hrb, hsn, hsc⟩ := hr.at_ q1
   obtain ⟨Sa, Sn, Sc⟩ := s
   simp only at hcell hrb hsn hsc
   replace hl := zH hl
   replace hown := zH hown
   replace hf := zH hf
   replace hm := zH hm
   replace hok := zH hok
   clear hr hs
   have hlen := hrb.len
   replace hlen := zH hlen
   replace hrb := zH hrb
   by_cases hbad : Sn < 1 ∨ 4096 < Sn
   ·have hpost : WrapPost w ls (.returned (.tuple #[.slice none 0 0, .int .i64 1])) wr := by
     refine ⟨hm.out, .inr ⟨⟨l, List.mem_of_getElem? hl.out, fun ho => ?_⟩, rfl⟩⟩
     have := ho.1; have := ho.2; have := hlen.out; omega
    replace hpost := zH hpost
    replace hbad := zH hbad
    go_wp2_with (go_at_call 149; refine (frame_no _ _ _ _ hbad.out).mono ?_; rintro e w1 ⟨rfl, rfl⟩)
    go_ret2
    exact hpost.out
   ·have g1 : 1 ≤ Sn := by omega
    have g2 : Sn ≤ 4096 := by omega
    clear hbad
    go_wp2_with (first
     | (go_at_call 149; refine (frame_yes _ _ _ _ l hrb.out g1 g2).mono ?_; rintro e w1 ⟨A1, c1, rfl, ho1, hf1, hm1⟩; have ho1' := zH ho1; have hm1' := zH hm1; clear ho1 hf1 hm1)
     | (at_builtin; refine wpList_append_ow rfl (.tmp 23) (.tmp 24) 126 rfl 5 i0 _ 1 1 Tryz.underlying126 hi hz0 hz1 hz2 rfl (by omega) B m c (bvs (wrapN ls j)) rfl (Ow.mod0 hown.out hm1'.out) A1 (6 + Sn) c1 (bvs (frameOf l)) rfl ho1'.out.rd (bvs_one _) (by omega) (by omega) ?_; intro A5 c5 w5 hown5 hmod5 hA5))
    have hnext : WrapRel w ls (j + 1) (.slice A5 (m + (6 + Sn)) c5) w5 := by
     refine ⟨A5, _, c5, rfl, ?_, ?_, ?_, ?_, by omega⟩
     ·have e : wrapN ls (j + 1) = wrapN ls j ++ frameOf l := by
       unfold wrapN
       rw [List.take_add_one, hl.out, List.flatMap_append]; simp
      show Ow _ _ _ _ _ _ (bvs _)
      rw [e, bvs_append]; exact hown5
     ·rintro a ha
      rcases hA5 with rfl | rfl
      ·exact hf.out a ha
      ·cases ha; have := hm.out.size; have := hm1'.out.size; simp; omega
     ·exact (hm.out.trans hm1'.out).then hmod5 fun i hi hk => by obtain ⟨a, ha, rfl⟩ := hk; have := hf.out a ha; omega
     ·intro i l' hi hl'
      rcases Nat.lt_or_ge i j with h1 | h1
      ·exact hok.out i l' h1 hl'
      ·obtain rfl : i = j := by omega
       rw [hl.out] at hl'
       cases hl'
       have := hlen.out
       exact ⟨by omega, by omega⟩
    replace hnext := zH hnext
    clear hown5 hmod5 hA5
    go_wp2
    go_roundw
    case rel => exact ⟨j + 1, by go_num, hnext.out, by omega⟩
    case measure => simp [intOf]; omega
  ·have hj2 : j = n := by omega
   have hpost : WrapPost w ls (.returned (.tuple #[.slice B m c, .int .i64 0])) wr := by
    have hlj : ls.length = j := by rw [hll.out, hj2]
    refine ⟨hm, .inl ⟨fun l hl => ?_, B, m, c, rfl, ?_, hf, by rw [hlj]; exact hml⟩⟩
    ·obtain ⟨i, h1, h2⟩ := List.getElem_of_mem hl
     exact hok i l (by omega) (by rw [List.getElem?_eq_getElem h1, h2])
    ·have e : wrapN ls j = ls.flatMap frameOf := by unfold wrapN; rw [List.take_of_length_le (by omega)]
     rw [e] at hown; exact hown
   replace hpost := zH hpost
   clear hown hf hm hok hj2
   go_wp2
   go_ret2
   exact hpost.out
end Go.Proofs.YtfkfiokkjjnhiaaGreat
namespace Go.Proofs.YtfkfiokkjjnhiaaGreat
def num (l : List UInt8) : Nat := (l.getD 0 0).toNat + 256 * (l.getD 1 0).toNat
def sumOf (l : List UInt8) : Nat := (l.getD 2 0).toNat + 256 * (l.getD 3 0).toNat + 65536 * (l.getD 4 0).toNat + 16777216 * (l.getD 5 0).toNat
def body (l : List UInt8) : List UInt8 := (l.drop 6).take (num l)
def stopE (l : List UInt8) : Nat :=
 if l.length < 2 then 4 else if num l < 1 ∨ 4096 < num l then 3 else if l.length < 6 + num l then 4 else if crc (body l) ≠ sumOf l then 3 else 0
def scanF : Nat → List UInt8 → List (List UInt8) × Nat × Nat
 | 0, _ => ([], 0, 0)
 | f + 1, l =>
  if l.length = 0 then ([], 0, 0)
  else if stopE l ≠ 0 then ([], 0, stopE l)
  else (body l :: (scanF f (l.drop (6 + num l))).1, 6 + num l + (scanF f (l.drop (6 + num l))).2.1, (scanF f (l.drop (6 + num l))).2.2)
theorem scanF_fuel : ∀ (f g : Nat) (l : List UInt8), l.length < f → l.length < g → scanF f l = scanF g l := by
 intro f
 induction f with
 | zero => intro g l h; omega
 | succ f ih =>
  intro g l hf hg
  cases g with
  | zero => omega
  | succ g =>
   simp only [scanF]
   by_cases h0 : l.length = 0
   ·rw [if_pos h0, if_pos h0]
   ·rw [if_neg h0, if_neg h0]
    by_cases h1 : stopE l ≠ 0
    ·rw [if_pos h1, if_pos h1]
    ·rw [if_neg h1, if_neg h1]
     have e := ih g (l.drop (6 + num l)) (by rw [List.length_drop]; omega) (by rw [List.length_drop]; omega)
     rw [e]
def scan (l : List UInt8) : List (List UInt8) × Nat × Nat := scanF (l.length + 1) l
theorem scan_nil (l : List UInt8) (h : l.length = 0) : scan l = ([], 0, 0) := by
 unfold scan; simp only [scanF]; rw [if_pos h]
theorem scan_go (l : List UInt8) (h : 0 < l.length) (hs : stopE l = 0) : scan l = (body l :: (scan (l.drop (6 + num l))).1, 6 + num l + (scan (l.drop (6 + num l))).2.1, (scan (l.drop (6 + num l))).2.2) := by
 have e : scanF l.length (l.drop (6 + num l)) = scan (l.drop (6 + num l)) := scanF_fuel _ _ _ (by rw [List.length_drop]; omega) (by omega)
 conv => lhs; unfold scan; simp only [scanF]
 rw [if_neg (by omega), if_neg (by omega), e]
def ScanAt (b : List UInt8) (k : Nat) (L : List (List UInt8)) : Prop :=
 scan b = (L ++ (scan (b.drop k)).1, k + (scan (b.drop k)).2.1, (scan (b.drop k)).2.2)
theorem ScanAt.zero (b : List UInt8) : ScanAt b 0 [] := by unfold ScanAt; simp
theorem ScanAt.go {b : List UInt8} {k : Nat} {L : List (List UInt8)} (h : ScanAt b k L) (hk : k < b.length) (hs : stopE (b.drop k) = 0) : ScanAt b (k + (6 + num (b.drop k))) (L ++ [body (b.drop k)]) := by
 unfold ScanAt at h ⊢
 rw [h, scan_go (b.drop k) (by rw [List.length_drop]; omega) hs, List.drop_drop]
 simp only [List.append_assoc, List.singleton_append, Nat.add_assoc]
theorem ScanAt.done {b : List UInt8} {k : Nat} {L : List (List UInt8)} (h : ScanAt b k L) (hk : b.length ≤ k) : scan b = (L, k, 0) := by
 unfold ScanAt at h
 rw [h, scan_nil (b.drop k) (by rw [List.length_drop]; omega)]
 simp
end Go.Proofs.YtfkfiokkjjnhiaaGreat
