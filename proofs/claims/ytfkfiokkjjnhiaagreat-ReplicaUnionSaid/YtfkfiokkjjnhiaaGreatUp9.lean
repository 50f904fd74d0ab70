import Derived.Test.YtfkfiokkjjnhiaaGreatUp8
import Derived.Deep.RegionHeld3
import Derived.Test.YtfkfiokkjjnhiaaGreatUp2
set_option linter.unusedVariables false
set_option linter.unusedSimpArgs false
set_option maxHeartbeats 16000000
namespace Go.Proofs.YtfkfiokkjjnhiaaGreat
open Go.RowKit
theorem numB_ok (w : World) (n : Int) (h : in64 n) : Calls Tryz.prog 219 #[.int .i64 n] w (BytesPost w (nb n)) :=
 (num_ok w n h.1 h.2).mono (by
  rintro e w' ⟨A, k, c, rfl, ho, hf, hm, hk⟩
  have hl := ho.len
  subst hl
  exact ⟨A, c, rfl, ho, hf, hm⟩)
theorem onum_ok (w : World) (n : Int) (h : in64 n) : Calls Tryz.prog 220 #[.int .i64 n] w (BytesPost w (nb n)) := by
 go_enter Tryz.func220, Tryz.ntmps220
 go_wp2_with fail
 refine (numB_ok _ _ h).mono ?_
 rintro e w1 ⟨A, c, rfl, ho, hf, hm⟩
 dsimp only
 replace ho := zH ho
 replace hf := zH hf
 replace hm := zH hm
 go_wp2_with fail
 go_ret
 exact ⟨A, c, rfl, ho.out, hf.out, hm.out⟩
theorem ByAt.of_ow {w : World} {e : TypeId} {A : Option Addr} {c : Nat} {l : List UInt8} (h : OwB w e A l.length c l) (hl : l.length ≤ 100000000) : ByAt w ⟨A, l.length, c⟩ l := ⟨h.rd, hl⟩
def BPost (w : World) (ok : Bool) (l : List UInt8) (e : Ending) (w' : World) : Prop :=
 (ok = true ∧ ∃ A c, e = .returned (.tuple #[.slice A l.length c, .int .i64 0]) ∧ OwB w' 5 A l.length c l ∧ Fresh w A ∧ Mod none_ w w') ∨ (ok = false ∧ e = .returned (.tuple #[.slice none 0 0, .int .i64 1]) ∧ Mod none_ w w')
theorem in64_mk {n : Int} (h1 : -9223372036854775808 ≤ n) (h2 : n ≤ 9223372036854775807) : in64 n := ⟨h1, h2⟩
theorem nb_small (n : Int) : (nb n).length ≤ 100000000 := by have := nb_len n; omega
theorem txtB_small {s : List UInt8} (h : s.length ≤ 1000) : (txtB s).length ≤ 100000000 := by have := txtB_len s; omega
def odS (g : Nat) (o : Od) (L : SV) (W : World) : Prop :=
 W.cell? ⟨g, 0, none⟩ = some (.int .i64 o.c) ∧ W.cell? ⟨g, 1, none⟩ = some (.int .i64 o.s) ∧ W.cell? ⟨g, 2, none⟩ = some (.int .i64 o.k) ∧ W.cell? ⟨g, 3, none⟩ = some (.string (txt o.acct)) ∧ W.cell? ⟨g, 4, none⟩ = some (.string (txt o.peer)) ∧
  W.cell? ⟨g, 5, none⟩ = some (.int .i64 o.sum) ∧ W.cell? ⟨g, 6, none⟩ = some (.slice L.a L.n L.c) ∧ W.cell? ⟨g, 7, none⟩ = some (.int .i64 o.per) ∧ W.cell? ⟨g, 8, none⟩ = some (.int .i64 o.hold) ∧ W.cell? ⟨g, 9, none⟩ = some (.string (txt o.note))
theorem odS_of {W : World} {g : Nat} {t : TypeId} {o : Od} {L : SV} (h : Blk W g t #[.int .i64 o.c, .int .i64 o.s, .int .i64 o.k, .string (txt o.acct), .string (txt o.peer), .int .i64 o.sum, .slice L.a L.n L.c, .int .i64 o.per, .int .i64 o.hold, .string (txt o.note)]) : odS g o L W :=
 ⟨h.cell_ rfl, h.cell_ rfl, h.cell_ rfl, h.cell_ rfl, h.cell_ rfl, h.cell_ rfl, h.cell_ rfl, h.cell_ rfl, h.cell_ rfl, h.cell_ rfl⟩
def headO (o : Od) : List UInt8 := nb o.c ++ (nb o.s ++ (nb o.k ++ (txtB o.acct ++ (txtB o.peer ++ (nb o.sum ++ nb (o.legs.length : Int))))))
theorem headO_len {o : Od} (h4 : o.acct.length ≤ 8) (h5 : o.peer.length ≤ 8) : (headO o).length ≤ 100 := by
 have := nb_len o.c
 have := nb_len o.s
 have := nb_len o.k
 have := nb_len o.sum
 have := nb_len (o.legs.length : Int)
 have := txtB_len o.acct
 have := txtB_len o.peer
 unfold headO
 simp only [List.length_append]
 omega
theorem orderB_head (o : Od) : orderB o = headO o ++ (o.legs.flatMap legB ++ (nb o.per ++ (nb o.hold ++ txtB o.note))) := by
 unfold orderB headO
 simp only [List.append_assoc]
set_option maxRecDepth 100000
theorem orderBytes_ok (w : World) (o : Od) (L : SV) (hO : OdM w o L) (hL : L.n ≤ 140737488355328) (hk : (Lit.int .i64 o.k).wf = true) (hz : ∀ l ∈ o.legs, (txt l.n).size ≤ maxLen) (hn : in64 o.sum ∧ ∀ l ∈ o.legs, in64 l.x) :
  Calls Tryz.prog 182 #[.agg #[.int .i64 o.c, .int .i64 o.s, .int .i64 o.k, .string (txt o.acct), .string (txt o.peer), .int .i64 o.sum, .slice L.a L.n L.c, .int .i64 o.per, .int .i64 o.hold, .string (txt o.note)]] w (BPost w (rightO o) (orderB o)) := by
 have hB := Blk.new w 40 #[.int .i64 o.c, .int .i64 o.s, .int .i64 o.k, .string (txt o.acct), .string (txt o.peer), .int .i64 o.sum, .slice L.a L.n L.c, .int .i64 o.per, .int .i64 o.hold, .string (txt o.note)]
 have hm0 := (Mod.refl none_ w).alloc (.cells #[.int .i64 o.c, .int .i64 o.s, .int .i64 o.k, .string (txt o.acct), .string (txt o.peer), .int .i64 o.sum, .slice L.a L.n L.c, .int .i64 o.per, .int .i64 o.hold, .string (txt o.note)] 40)
 have kR := zH (rightO_ok _ o L (hO.mod0 hm0) hL hk hz)
 have hrd := zH hO.rd
 have hlen := zH hO.rd.len
 replace hB := zH hB
 replace hm0 := zH hm0
 replace hz := zH hz
 replace hO := zH hO
 go_enter Tryz.func182, Tryz.ntmps182
 go_wp2_with (refine wpList_load_row rfl 40 (.tmp 1) rfl w.heap.size rfl _ _ _ _ hB.out Tryz.underlying40 rfl order_size ?_)
 with_reducible refine kR.out.mono ?_
 rintro e w1 ⟨rfl, hm1⟩
 dsimp only
 cases hr : rightO o with
 | false =>
  replace hr := zH hr
  replace hm1 := zH hm1
  go_wp2_with fail
  go_ret2
  exact .inr ⟨hr.out, rfl, hm0.out.trans hm1.out⟩
 | true =>
  have hok := rightO_okOd hr hn
  obtain ⟨⟨k1, k1'⟩, ⟨k2, k2'⟩, ⟨k3, k3'⟩, k4, k5, k6, k7, k8, ⟨k9, k9'⟩, ⟨k10, k10'⟩, k11⟩ := hok
  have hB1 := hB.out.mod hm1 (fun h => h)
  have kC := zH (fun W (h : Mod none_ w1 W) => odS_of (hB1.mod h (fun h => h)))
  have hmm := zH (hm0.out.trans hm1)
  replace hr := zH hr
  replace hm1 := zH hm1
  replace hB1 := zH hB1
  replace k6 := zH k6
  replace k8 := zH k8
  clear hB
  go_wp2_with fail
  have hM0 := zH ((Mod.refl none_ w1).drew)
  refine wp_region_held_drew (S := fun W => Mod none_ w1 W) (by kernel_rfl) hM0.out (fun hHeld => ?_)
  refine tkZ 0 ?_ rfl ?_ ?_
  rotate_left
  ·intro W hSw; (try dsimp only at hSw); go_simp; (try with_reducible rfl)
  try simp only [Act.put, q1Z, q2Z, q3Z, q4Z, q5Z, q6Z]
  refine tkZ 1 ?_ rfl ?_ ?_
  rotate_left
  ·intro W hSw; (try dsimp only at hSw); go_simp; (try with_reducible rfl)
  try simp only [Act.put, q1Z, q2Z, q3Z, q4Z, q5Z, q6Z]
  refine tkZ 4 ?_ rfl ?_ ?_
  rotate_left
  ·intro W hSw; (try dsimp only at hSw); go_simp; (try with_reducible rfl)
  try simp only [Act.put, q1Z, q2Z, q3Z, q4Z, q5Z, q6Z]
  refine tkZ 5 ?_ rfl ?_ ?_
  rotate_left
  ·intro W hSw; (try dsimp only at hSw); go_simp; (try with_reducible rfl)
  try simp only [Act.put, q1Z, q2Z, q3Z, q4Z, q5Z, q6Z]
  refine tkZ 8 ?_ rfl ?_ ?_
  rotate_left
  ·intro W hSw; (try dsimp only at hSw); go_simp; (try with_reducible rfl)
  try simp only [Act.put, q1Z, q2Z, q3Z, q4Z, q5Z, q6Z]
  refine tkZ 11 ?_ rfl ?_ ?_
  rotate_left
  ·intro W hSw; (try dsimp only at hSw); go_simp; (try with_reducible rfl)
  try simp only [Act.put, q1Z, q2Z, q3Z, q4Z, q5Z, q6Z]
  refine tkZ 14 ?_ rfl ?_ ?_
  rotate_left
  ·intro W hSw; (try dsimp only at hSw); go_simp; (try with_reducible rfl)
  try simp only [Act.put, q1Z, q2Z, q3Z, q4Z, q5Z, q6Z]
  refine tkZ 17 ?_ rfl ?_ ?_
  rotate_left
  ·intro W hSw; (try dsimp only at hSw); go_simp; (try with_reducible rfl)
  try simp only [Act.put, q1Z, q2Z, q3Z, q4Z, q5Z, q6Z]
  refine tkZ 20 ?_ rfl ?_ ?_
  rotate_left
  ·intro W hSw; (try dsimp only at hSw); go_simp; (try with_reducible rfl)
  try simp only [Act.put, q1Z, q2Z, q3Z, q4Z, q5Z, q6Z]
  refine tkZ 2 ?_ rfl ?_ ?_
  rotate_left
  ·intro W hSw; obtain ⟨s0, s1, s2, s3, s4, s5, s6, s7, s8, s9⟩ := kC.out W hSw; go_simp; (try with_reducible rfl)
  try simp only [Act.put, q1Z, q2Z, q3Z, q4Z, q5Z, q6Z]
  refine tkZ 6 ?_ rfl ?_ ?_
  rotate_left
  ·intro W hSw; obtain ⟨s0, s1, s2, s3, s4, s5, s6, s7, s8, s9⟩ := kC.out W hSw; go_simp; (try with_reducible rfl)
  try simp only [Act.put, q1Z, q2Z, q3Z, q4Z, q5Z, q6Z]
  refine tkZ 9 ?_ rfl ?_ ?_
  rotate_left
  ·intro W hSw; obtain ⟨s0, s1, s2, s3, s4, s5, s6, s7, s8, s9⟩ := kC.out W hSw; go_simp; (try with_reducible rfl)
  try simp only [Act.put, q1Z, q2Z, q3Z, q4Z, q5Z, q6Z]
  refine tkZ 12 ?_ rfl ?_ ?_
  rotate_left
  ·intro W hSw; obtain ⟨s0, s1, s2, s3, s4, s5, s6, s7, s8, s9⟩ := kC.out W hSw; go_simp; (try with_reducible rfl)
  try simp only [Act.put, q1Z, q2Z, q3Z, q4Z, q5Z, q6Z]
  refine tkZ 15 ?_ rfl ?_ ?_
  rotate_left
  ·intro W hSw; obtain ⟨s0, s1, s2, s3, s4, s5, s6, s7, s8, s9⟩ := kC.out W hSw; go_simp; (try with_reducible rfl)
  try simp only [Act.put, q1Z, q2Z, q3Z, q4Z, q5Z, q6Z]
  refine tkZ 18 ?_ rfl ?_ ?_
  rotate_left
  ·intro W hSw; obtain ⟨s0, s1, s2, s3, s4, s5, s6, s7, s8, s9⟩ := kC.out W hSw; go_simp; (try with_reducible rfl)
  try simp only [Act.put, q1Z, q2Z, q3Z, q4Z, q5Z, q6Z]
  refine tkZ 21 ?_ rfl ?_ ?_
  rotate_left
  ·intro W hSw; obtain ⟨s0, s1, s2, s3, s4, s5, s6, s7, s8, s9⟩ := kC.out W hSw; go_simp; (try with_reducible rfl)
  try simp only [Act.put, q1Z, q2Z, q3Z, q4Z, q5Z, q6Z]
  refine tkZ 22 ?_ rfl ?_ ?_
  rotate_left
  ·intro W hSw; (try dsimp only at hSw); go_simp; (try with_reducible rfl)
  try simp only [Act.put, q1Z, q2Z, q3Z, q4Z, q5Z, q6Z]
  refine rdZ 3 rfl (fun K hK => ?_)
  go_simp
  (with_reducible refine (onum_ok _ o.c (in64_mk (by omega) (by omega))).mono ?_); rintro e3 w3 ⟨A3, c3, rfl, ho3, hf3, hm3⟩; dsimp only
  have hM3 := zH (hM0.out.trans hm3)
  have z3 := zH (ByAt.of_ow ho3 (nb_small _))
  clear hm3 ho3 hf3
  go_wp2_with fail
  refine hK.out _ _ (hM3.out) (fun hHeld => ?_)
  clear hK K
  try simp only [Act.put, q1Z, q2Z, q3Z, q4Z, q5Z, q6Z]
  refine rdZ 7 rfl (fun K hK => ?_)
  go_simp
  (with_reducible refine (onum_ok _ o.s (in64_mk (by omega) (by omega))).mono ?_); rintro e7 w7 ⟨A7, c7, rfl, ho7, hf7, hm7⟩; dsimp only
  have hM7 := zH (hM3.out.trans hm7)
  replace z3 := zH (z3.out.mod0 hm7)
  have z7 := zH (ByAt.of_ow ho7 (nb_small _))
  clear hm7 ho7 hf7
  go_wp2_with fail
  refine hK.out _ _ (hM7.out) (fun hHeld => ?_)
  clear hK K
  try simp only [Act.put, q1Z, q2Z, q3Z, q4Z, q5Z, q6Z]
  refine rdZ 10 rfl (fun K hK => ?_)
  go_simp
  (with_reducible refine (onum_ok _ o.k (in64_mk (by omega) (by omega))).mono ?_); rintro e10 w10 ⟨A10, c10, rfl, ho10, hf10, hm10⟩; dsimp only
  have hM10 := zH (hM7.out.trans hm10)
  replace z3 := zH (z3.out.mod0 hm10)
  replace z7 := zH (z7.out.mod0 hm10)
  have z10 := zH (ByAt.of_ow ho10 (nb_small _))
  clear hm10 ho10 hf10
  go_wp2_with fail
  refine hK.out _ _ (hM10.out) (fun hHeld => ?_)
  clear hK K
  try simp only [Act.put, q1Z, q2Z, q3Z, q4Z, q5Z, q6Z]
  refine rdZ 13 rfl (fun K hK => ?_)
  go_simp
  (with_reducible refine (text_ok _ _ (by omega)).mono ?_); rintro e13 w13 ⟨A13, c13, rfl, ho13, hf13, hm13⟩; dsimp only
  have hM13 := zH (hM10.out.trans hm13)
  replace z3 := zH (z3.out.mod0 hm13)
  replace z7 := zH (z7.out.mod0 hm13)
  replace z10 := zH (z10.out.mod0 hm13)
  have z13 := zH (ByAt.of_ow ho13 (txtB_small (by omega)))
  clear hm13 ho13 hf13
  go_wp2_with fail
  refine hK.out _ _ (hM13.out) (fun hHeld => ?_)
  clear hK K
  try simp only [Act.put, q1Z, q2Z, q3Z, q4Z, q5Z, q6Z]
  refine rdZ 16 rfl (fun K hK => ?_)
  go_simp
  (with_reducible refine (text_ok _ _ (by omega)).mono ?_); rintro e16 w16 ⟨A16, c16, rfl, ho16, hf16, hm16⟩; dsimp only
  have hM16 := zH (hM13.out.trans hm16)
  replace z3 := zH (z3.out.mod0 hm16)
  replace z7 := zH (z7.out.mod0 hm16)
  replace z10 := zH (z10.out.mod0 hm16)
  replace z13 := zH (z13.out.mod0 hm16)
  have z16 := zH (ByAt.of_ow ho16 (txtB_small (by omega)))
  clear hm16 ho16 hf16
  go_wp2_with fail
  refine hK.out _ _ (hM16.out) (fun hHeld => ?_)
  clear hK K
  try simp only [Act.put, q1Z, q2Z, q3Z, q4Z, q5Z, q6Z]
  refine rdZ 19 rfl (fun K hK => ?_)
  go_simp
  (with_reducible refine (numB_ok _ _ k6.out).mono ?_); rintro e19 w19 ⟨A19, c19, rfl, ho19, hf19, hm19⟩; dsimp only
  have hM19 := zH (hM16.out.trans hm19)
  replace z3 := zH (z3.out.mod0 hm19)
  replace z7 := zH (z7.out.mod0 hm19)
  replace z10 := zH (z10.out.mod0 hm19)
  replace z13 := zH (z13.out.mod0 hm19)
  replace z16 := zH (z16.out.mod0 hm19)
  have z19 := zH (ByAt.of_ow ho19 (nb_small _))
  clear hm19 ho19 hf19
  go_wp2_with fail
  refine hK.out _ _ (hM19.out) (fun hHeld => ?_)
  clear hK K
  try simp only [Act.put, q1Z, q2Z, q3Z, q4Z, q5Z, q6Z]
  refine rdZ 23 rfl (fun K hK => ?_)
  go_simp
  (with_reducible refine (onum_ok _ (L.n : Int) (in64_mk (by omega) (by omega))).mono ?_); rintro e23 w23 ⟨A23, c23, rfl, ho23, hf23, hm23⟩; dsimp only
  have hM23 := zH (hM19.out.trans hm23)
  replace z3 := zH (z3.out.mod0 hm23)
  replace z7 := zH (z7.out.mod0 hm23)
  replace z10 := zH (z10.out.mod0 hm23)
  replace z13 := zH (z13.out.mod0 hm23)
  replace z16 := zH (z16.out.mod0 hm23)
  replace z19 := zH (z19.out.mod0 hm23)
  have z23 := zH (ByAt.of_ow ho23 (nb_small _))
  clear hm23 ho23 hf23
  go_wp2_with fail
  refine hK.out _ _ (hM23.out) (fun hHeld => ?_)
  clear hK K
  try simp only [Act.put, q1Z, q2Z, q3Z, q4Z, q5Z, q6Z]
  have hbs : Hid (BsAt (w23.alloc (.cells #[.slice A3 (nb o.c).length c3, .slice A7 (nb o.s).length c7, .slice A10 (nb o.k).length c10, .slice A13 (txtB o.acct).length c13, .slice A16 (txtB o.peer).length c16, .slice A19 (nb o.sum).length c19, .slice A23 (nb (L.n : Int)).length c23] 126)) (some ⟨w23.heap.size, 0, none⟩) 7 [⟨A3, (nb o.c).length, c3⟩, ⟨A7, (nb o.s).length, c7⟩, ⟨A10, (nb o.k).length, c10⟩, ⟨A13, (txtB o.acct).length, c13⟩, ⟨A16, (txtB o.peer).length, c16⟩, ⟨A19, (nb o.sum).length, c19⟩, ⟨A23, (nb (L.n : Int)).length, c23⟩] [nb o.c, nb o.s, nb o.k, txtB o.acct, txtB o.peer, nb o.sum, nb (L.n : Int)]) := zH (bsAt_all w23 126 [⟨A3, (nb o.c).length, c3⟩, ⟨A7, (nb o.s).length, c7⟩, ⟨A10, (nb o.k).length, c10⟩, ⟨A13, (txtB o.acct).length, c13⟩, ⟨A16, (txtB o.peer).length, c16⟩, ⟨A19, (nb o.sum).length, c19⟩, ⟨A23, (nb (L.n : Int)).length, c23⟩] [nb o.c, nb o.s, nb o.k, txtB o.acct, txtB o.peer, nb o.sum, nb (L.n : Int)] ⟨z3.out, z7.out, z10.out, z13.out, z16.out, z19.out, z23.out, trivial⟩)
  refine rdZ 24 rfl (fun K hK => ?_)
  go_simp
  refine hK.out _ _ (hM23.out.alloc _) (fun hHeld => ?_)
  clear hK K
  try simp only [Act.put, q1Z, q2Z, q3Z, q4Z, q5Z, q6Z]
  have hfl : [nb o.c, nb o.s, nb o.k, txtB o.acct, txtB o.peer, nb o.sum, nb (L.n : Int)].flatten = headO o := by rw [← hlen.out]; simp [headO]
  have kc := concatB_ok _ _ 7 7 _ _ hbs.out (by omega)
  rw [hfl] at kc
  refine rdZ 25 rfl (fun K hK => ?_)
  go_simp
  (with_reducible refine kc.mono ?_); rintro e25 w25 ⟨A25, c25, rfl, ho25, hf25, hm25⟩; dsimp only
  have hM25 := zH ((hM23.out.alloc _).trans hm25)
  have z25 := zH (ByAt.of_ow ho25 (by have := headO_len k4 k5; omega))
  clear hm25 ho25 hf25 hbs kc hfl z3 z7 z10 z13 z16 z19 z23
  go_wp2_with fail
  refine hK.out _ _ (hM25.out) (fun hHeld => ?_)
  clear hK K
  try simp only [Act.put, q1Z, q2Z, q3Z, q4Z, q5Z, q6Z]
  refine tkZ 26 ?_ rfl ?_ ?_
  rotate_left
  ·intro W hSw; (try dsimp only at hSw); go_simp; (try with_reducible rfl)
  try simp only [Act.put, q1Z, q2Z, q3Z, q4Z, q5Z, q6Z]
  refine wpAnyH_done (by kernel_rfl) ?_ _
  clear hHeld hM0 hM3 hM7 hM10 hM13 hM16 hM19 hM23
  obtain ⟨s0, s1, s2, s3, s4, s5, s6, s7, s8, s9⟩ := kC.out w25 hM25.out
  have hll : (headO o).length ≤ 100 := headO_len k4 k5
  generalize hn25 : (headO o).length = n25 at *
  replace hn25 := zH hn25
  go_wp2_with fail
  clear s0 s1 s2 s3 s4 s5 s6 s7 s8 s9
  go_loopw [4, 39] (fun v x wr => ∃ j : Nat, x = .int .i64 j ∧ j ≤ L.n ∧ ∃ A n c, v = .slice A n c ∧ n ≤ 100 + j * 30 ∧ ByAt wr ⟨A, n, c⟩ (headO o ++ (o.legs.take j).flatMap legB) ∧ Mod none_ w1 wr) (fun _ x _ => L.n - (intOf x).toNat)
  case atStart => exact ⟨0, rfl, by omega, A25, n25, c25, rfl, by omega, by simpa using z25.out, hM25.out⟩
  case round =>
   obtain ⟨j, rfl, hj, A, n, c, rfl, hnj, hz4, hM⟩ := hrel
   by_cases hlt : j < L.n
   ·obtain ⟨b, p, l, hLa, hlm, hlj, x1, x2⟩ := rdl_get ((hrd.out.mod0 hmm.out).mod0 hM) hlt
    obtain ⟨hl8, hlx⟩ := k8.out l hlm
    rw [hLa]
    replace hz4 := zH hz4
    replace hM := zH hM
    replace hlm := zH hlm
    replace hlj := zH hlj
    replace hlx := zH hlx
    go_wp2_with fail
    have hB6 := Blk.new wr 139 #[.string (txt l.n), .int .i64 l.x]
    have kC6 := zH (fun W (h : Mod none_ (wr.alloc (.cells #[.string (txt l.n), .int .i64 l.x] 139)) W) => (⟨(hB6.mod h (fun h => h)).cell_ rfl, (hB6.mod h (fun h => h)).cell_ rfl⟩ : W.cell? ⟨wr.heap.size, 0, none⟩ = some (.string (txt l.n)) ∧ W.cell? ⟨wr.heap.size, 1, none⟩ = some (.int .i64 l.x)))
    have hMl := zH (hM.out.alloc (.cells #[.string (txt l.n), .int .i64 l.x] 139))
    have hM0 := zH ((Mod.refl none_ (wr.alloc (.cells #[.string (txt l.n), .int .i64 l.x] 139))).drew)
    have z0 := zH (hz4.out.mod0 (((Mod.refl none_ wr).alloc (.cells #[.string (txt l.n), .int .i64 l.x] 139)).drew))
    clear hB6
    refine wp_region_held_drew (S := fun W => Mod none_ (wr.alloc (.cells #[.string (txt l.n), .int .i64 l.x] 139)) W) (by kernel_rfl) hM0.out (fun hHeld => ?_)
    refine tkZ 0 ?_ rfl ?_ ?_
    rotate_left
    ·intro W hSw; (try dsimp only at hSw); go_simp; (try with_reducible rfl)
    try simp only [Act.put, q1Z, q2Z, q3Z, q4Z, q5Z, q6Z]
    refine tkZ 1 ?_ rfl ?_ ?_
    rotate_left
    ·intro W hSw; (try dsimp only at hSw); go_simp; (try with_reducible rfl)
    try simp only [Act.put, q1Z, q2Z, q3Z, q4Z, q5Z, q6Z]
    refine tkZ 4 ?_ rfl ?_ ?_
    rotate_left
    ·intro W hSw; (try dsimp only at hSw); go_simp; (try with_reducible rfl)
    try simp only [Act.put, q1Z, q2Z, q3Z, q4Z, q5Z, q6Z]
    refine tkZ 2 ?_ rfl ?_ ?_
    rotate_left
    ·intro W hSw; obtain ⟨s0, s1⟩ := kC6.out W hSw; go_simp; (try with_reducible rfl)
    try simp only [Act.put, q1Z, q2Z, q3Z, q4Z, q5Z, q6Z]
    refine tkZ 5 ?_ rfl ?_ ?_
    rotate_left
    ·intro W hSw; obtain ⟨s0, s1⟩ := kC6.out W hSw; go_simp; (try with_reducible rfl)
    try simp only [Act.put, q1Z, q2Z, q3Z, q4Z, q5Z, q6Z]
    refine rdZ 3 rfl (fun K hK => ?_)
    go_simp
    (with_reducible refine (text_ok _ l.n (by omega)).mono ?_); rintro e3 w3 ⟨A3, c3, rfl, ho3, hf3, hm3⟩; dsimp only
    have hM3 := zH (hM0.out.trans hm3)
    replace z0 := zH (z0.out.mod0 hm3)
    have z3 := zH (ByAt.of_ow ho3 (txtB_small (by omega)))
    clear hm3 ho3 hf3
    go_wp2_with fail
    refine hK.out _ _ (hM3.out) (fun hHeld => ?_)
    clear hK K
    try simp only [Act.put, q1Z, q2Z, q3Z, q4Z, q5Z, q6Z]
    refine rdZ 6 rfl (fun K hK => ?_)
    go_simp
    (with_reducible refine (numB_ok _ l.x hlx.out).mono ?_); rintro e6 w6 ⟨A6, c6, rfl, ho6, hf6, hm6⟩; dsimp only
    have hM6 := zH (hM3.out.trans hm6)
    replace z0 := zH (z0.out.mod0 hm6)
    replace z3 := zH (z3.out.mod0 hm6)
    have z6 := zH (ByAt.of_ow ho6 (nb_small _))
    clear hm6 ho6 hf6
    go_wp2_with fail
    refine hK.out _ _ (hM6.out) (fun hHeld => ?_)
    clear hK K
    try simp only [Act.put, q1Z, q2Z, q3Z, q4Z, q5Z, q6Z]
    have hbs : Hid (BsAt (w6.alloc (.cells #[.slice A n c, .slice A3 (txtB l.n).length c3, .slice A6 (nb l.x).length c6] 126)) (some ⟨w6.heap.size, 0, none⟩) 3 [⟨A, n, c⟩, ⟨A3, (txtB l.n).length, c3⟩, ⟨A6, (nb l.x).length, c6⟩] [headO o ++ (o.legs.take j).flatMap legB, txtB l.n, nb l.x]) :=
     zH (bsAt_all w6 126 [⟨A, n, c⟩, ⟨A3, (txtB l.n).length, c3⟩, ⟨A6, (nb l.x).length, c6⟩] [headO o ++ (o.legs.take j).flatMap legB, txtB l.n, nb l.x] ⟨z0.out, z3.out, z6.out, trivial⟩)
    refine rdZ 7 rfl (fun K hK => ?_)
    go_simp
    refine hK.out _ _ (hM6.out.alloc _) (fun hHeld => ?_)
    clear hK K
    try simp only [Act.put, q1Z, q2Z, q3Z, q4Z, q5Z, q6Z]
    have hfl : [headO o ++ (o.legs.take j).flatMap legB, txtB l.n, nb l.x].flatten = headO o ++ (o.legs.take (j + 1)).flatMap legB := by
     rw [List.take_add_one, hlj.out]
     simp [legB]
    have kc := concatB_ok _ _ 3 3 _ _ hbs.out (by omega)
    rw [hfl] at kc
    have hle : (headO o ++ (o.legs.take (j + 1)).flatMap legB).length ≤ 100 + (j + 1) * 30 := by
     rw [← hfl]
     have h1 := z0.out.rd.len
     have h2 := txtB_len l.n
     have h3 := nb_len l.x
     dsimp only at h1
     simp only [List.flatten_cons, List.flatten_nil, List.length_append, List.length_nil] at h1 ⊢
     omega
    have hj6 : j + 1 ≤ 6 := by have := hlen.out; omega
    obtain ⟨l8, hl8⟩ : ∃ l8, l8 = headO o ++ (o.legs.take (j + 1)).flatMap legB := ⟨_, rfl⟩
    rw [← hl8] at kc hle
    replace hl8 := zH hl8
    refine rdZ 8 rfl (fun K hK => ?_)
    go_simp
    (with_reducible refine kc.mono ?_); rintro e8 w8 ⟨A8, c8, rfl, ho8, hf8, hm8⟩; dsimp only
    have hM8 := zH ((hM6.out.alloc _).trans hm8)
    have z8 := zH (ByAt.of_ow ho8 (by omega))
    clear hm8 ho8 hf8 hbs kc hfl z0 z3 z6
    go_wp2_with fail
    refine hK.out _ _ (hM8.out) (fun hHeld => ?_)
    clear hK K
    try simp only [Act.put, q1Z, q2Z, q3Z, q4Z, q5Z, q6Z]
    refine tkZ 9 ?_ rfl ?_ ?_
    rotate_left
    ·intro W hSw; (try dsimp only at hSw); go_simp; (try with_reducible rfl)
    try simp only [Act.put, q1Z, q2Z, q3Z, q4Z, q5Z, q6Z]
    refine wpAnyH_done (by kernel_rfl) ?_ _
    clear hHeld hM0 hM3 hM6
    go_wp2_with fail
    go_roundw
    case rel => exact ⟨j + 1, by go_num, by omega, A8, l8.length, c8, rfl, hle, by rw [← hl8.out]; exact z8.out, hMl.out.trans hM8.out⟩
    case measure => simp [intOf]; omega
   ·have hjl : j = L.n := by omega
    subst hjl
    rw [List.take_of_length_le (by have := hlen.out; omega)] at hz4
    replace hz4 := zH hz4
    replace hM := zH hM
    have hM0 := zH (hM.out.drew)
    have z0 := zH (hz4.out.mod0 (Mod.refl none_ wr).drew)
    go_wp2_with fail
    refine wp_region_held_drew (S := fun W => Mod none_ w1 W) (by kernel_rfl) hM0.out (fun hHeld => ?_)
    refine tkZ 0 ?_ rfl ?_ ?_
    rotate_left
    ·intro W hSw; (try dsimp only at hSw); go_simp; (try with_reducible rfl)
    try simp only [Act.put, q1Z, q2Z, q3Z, q4Z, q5Z, q6Z]
    refine tkZ 1 ?_ rfl ?_ ?_
    rotate_left
    ·intro W hSw; (try dsimp only at hSw); go_simp; (try with_reducible rfl)
    try simp only [Act.put, q1Z, q2Z, q3Z, q4Z, q5Z, q6Z]
    refine tkZ 4 ?_ rfl ?_ ?_
    rotate_left
    ·intro W hSw; (try dsimp only at hSw); go_simp; (try with_reducible rfl)
    try simp only [Act.put, q1Z, q2Z, q3Z, q4Z, q5Z, q6Z]
    refine tkZ 7 ?_ rfl ?_ ?_
    rotate_left
    ·intro W hSw; (try dsimp only at hSw); go_simp; (try with_reducible rfl)
    try simp only [Act.put, q1Z, q2Z, q3Z, q4Z, q5Z, q6Z]
    refine tkZ 2 ?_ rfl ?_ ?_
    rotate_left
    ·intro W hSw; obtain ⟨s0, s1, s2, s3, s4, s5, s6, s7, s8, s9⟩ := kC.out W hSw; go_simp; (try with_reducible rfl)
    try simp only [Act.put, q1Z, q2Z, q3Z, q4Z, q5Z, q6Z]
    refine tkZ 5 ?_ rfl ?_ ?_
    rotate_left
    ·intro W hSw; obtain ⟨s0, s1, s2, s3, s4, s5, s6, s7, s8, s9⟩ := kC.out W hSw; go_simp; (try with_reducible rfl)
    try simp only [Act.put, q1Z, q2Z, q3Z, q4Z, q5Z, q6Z]
    refine tkZ 8 ?_ rfl ?_ ?_
    rotate_left
    ·intro W hSw; obtain ⟨s0, s1, s2, s3, s4, s5, s6, s7, s8, s9⟩ := kC.out W hSw; go_simp; (try with_reducible rfl)
    try simp only [Act.put, q1Z, q2Z, q3Z, q4Z, q5Z, q6Z]
    refine rdZ 3 rfl (fun K hK => ?_)
    go_simp
    (with_reducible refine (onum_ok _ o.per (in64_mk (by omega) (by omega))).mono ?_); rintro e3 w3 ⟨A3, c3, rfl, ho3, hf3, hm3⟩; dsimp only
    have hM3 := zH (hM0.out.trans hm3)
    replace z0 := zH (z0.out.mod0 hm3)
    have z3 := zH (ByAt.of_ow ho3 (nb_small _))
    clear hm3 ho3 hf3
    go_wp2_with fail
    refine hK.out _ _ (hM3.out) (fun hHeld => ?_)
    clear hK K
    try simp only [Act.put, q1Z, q2Z, q3Z, q4Z, q5Z, q6Z]
    refine rdZ 6 rfl (fun K hK => ?_)
    go_simp
    (with_reducible refine (onum_ok _ o.hold (in64_mk (by omega) (by omega))).mono ?_); rintro e6 w6 ⟨A6, c6, rfl, ho6, hf6, hm6⟩; dsimp only
    have hM6 := zH (hM3.out.trans hm6)
    replace z0 := zH (z0.out.mod0 hm6)
    replace z3 := zH (z3.out.mod0 hm6)
    have z6 := zH (ByAt.of_ow ho6 (nb_small _))
    clear hm6 ho6 hf6
    go_wp2_with fail
    refine hK.out _ _ (hM6.out) (fun hHeld => ?_)
    clear hK K
    try simp only [Act.put, q1Z, q2Z, q3Z, q4Z, q5Z, q6Z]
    refine rdZ 9 rfl (fun K hK => ?_)
    go_simp
    (with_reducible refine (text_ok _ o.note (by omega)).mono ?_); rintro e9 w9 ⟨A9, c9, rfl, ho9, hf9, hm9⟩; dsimp only
    have hM9 := zH (hM6.out.trans hm9)
    replace z0 := zH (z0.out.mod0 hm9)
    replace z3 := zH (z3.out.mod0 hm9)
    replace z6 := zH (z6.out.mod0 hm9)
    have z9 := zH (ByAt.of_ow ho9 (txtB_small (by omega)))
    clear hm9 ho9 hf9
    go_wp2_with fail
    refine hK.out _ _ (hM9.out) (fun hHeld => ?_)
    clear hK K
    try simp only [Act.put, q1Z, q2Z, q3Z, q4Z, q5Z, q6Z]
    have hbs : Hid (BsAt (w9.alloc (.cells #[.slice A n c, .slice A3 (nb o.per).length c3, .slice A6 (nb o.hold).length c6, .slice A9 (txtB o.note).length c9] 126)) (some ⟨w9.heap.size, 0, none⟩) 4 [⟨A, n, c⟩, ⟨A3, (nb o.per).length, c3⟩, ⟨A6, (nb o.hold).length, c6⟩, ⟨A9, (txtB o.note).length, c9⟩] [headO o ++ o.legs.flatMap legB, nb o.per, nb o.hold, txtB o.note]) :=
     zH (bsAt_all w9 126 [⟨A, n, c⟩, ⟨A3, (nb o.per).length, c3⟩, ⟨A6, (nb o.hold).length, c6⟩, ⟨A9, (txtB o.note).length, c9⟩] [headO o ++ o.legs.flatMap legB, nb o.per, nb o.hold, txtB o.note] ⟨z0.out, z3.out, z6.out, z9.out, trivial⟩)
    refine rdZ 10 rfl (fun K hK => ?_)
    go_simp
    refine hK.out _ _ (hM9.out.alloc _) (fun hHeld => ?_)
    clear hK K
    try simp only [Act.put, q1Z, q2Z, q3Z, q4Z, q5Z, q6Z]
    have hfl : [headO o ++ o.legs.flatMap legB, nb o.per, nb o.hold, txtB o.note].flatten = orderB o := by
     rw [orderB_head]
     simp
    have kc := concatB_ok _ _ 4 4 _ _ hbs.out (by omega)
    rw [hfl] at kc
    refine rdZ 11 rfl (fun K hK => ?_)
    go_simp
    (with_reducible refine kc.mono ?_); rintro e11 w11 ⟨A11, c11, rfl, ho11, hf11, hm11⟩; dsimp only
    have hM11 := zH ((hM9.out.alloc _).trans hm11)
    have hf := zH (hf11.later (hmm.out.trans (hM9.out.alloc _)).size)
    replace ho11 := zH ho11
    clear hm11 hf11 hbs kc hfl z0 z3 z6 z9
    go_wp2_with fail
    refine hK.out _ _ (hM11.out) (fun hHeld => ?_)
    clear hK K
    try simp only [Act.put, q1Z, q2Z, q3Z, q4Z, q5Z, q6Z]
    refine tkZ 12 ?_ rfl ?_ ?_
    rotate_left
    ·intro W hSw; (try dsimp only at hSw); go_simp; (try with_reducible rfl)
    try simp only [Act.put, q1Z, q2Z, q3Z, q4Z, q5Z, q6Z]
    refine tkZ 13 ?_ rfl ?_ ?_
    rotate_left
    ·intro W hSw; (try dsimp only at hSw); go_simp; (try with_reducible rfl)
    try simp only [Act.put, q1Z, q2Z, q3Z, q4Z, q5Z, q6Z]
    refine wpAnyH_done (by kernel_rfl) ?_ _
    clear hHeld hM0 hM3 hM6 hM9
    generalize hlo : orderB o = lo at *
    replace hlo := zH hlo
    go_wp2_with fail
    go_ret2
    exact .inl ⟨hr.out, A11, c11, rfl, ho11.out, hf.out, hmm.out.trans hM11.out⟩
theorem inst_size : (Tryz.prog.info? 27).map (·.size) = some 2 := by kernel_rfl
theorem lnums_ok (w : World) (A : Option Addr) (n c : Nat) (xs : List Int) (h : RdI w A n xs) (hn : n ≤ 1000) (hin : ∀ x ∈ xs, in64 x) : Calls Tryz.prog 181 #[.slice A n c] w (BytesPost w (xs.flatMap nb)) := by
 have hl := h.len
 replace h := zH h
 replace hl := zH hl
 replace hin := zH hin
 go_enter Tryz.func181, Tryz.ntmps181
 go_wp2_with fail
 go_loopw [3, 8] (fun v x wr => ∃ j : Nat, x = .int .i64 j ∧ j ≤ n ∧ ∃ B t d, v = .slice B t d ∧ OwB wr 5 B t d ((xs.take j).flatMap nb) ∧ Fresh w B ∧ Mod none_ w wr ∧ t ≤ 10 * j) (fun _ x _ => n - (intOf x).toNat)
 case atStart => exact ⟨0, rfl, by omega, none, 0, 0, rfl, Ow.nil _ _ _, (fun _ h => by cases h), Mod.refl _ _, by omega⟩
 case round =>
  obtain ⟨j, rfl, hj, B, t, d, rfl, ho, hf, hm, ht⟩ := hrel
  replace ho := zH ho
  replace hf := zH hf
  replace hm := zH hm
  by_cases hlt : j < n
  ·obtain ⟨b, o, x, rfl, hx, hcell⟩ := rdi_at (Rd.mod0 h.out hm.out) hlt
   have hxi := hin.out x (List.mem_of_getElem? hx)
   replace hx := zH hx
   replace hxi := zH hxi
   go_wp2_with fail
   refine (numB_ok _ x hxi.out).mono ?_
   rintro e w2 ⟨C, d2, rfl, ho2, hf2, hm2⟩
   dsimp only
   clear hcell
   have hk2 := nb_len x
   have ho' := ho.out.mod0 hm2
   have hmm := hm.out.trans hm2
   generalize hk : (nb x).length = k2 at *
   replace ho2 := zH ho2
   replace hf2 := zH hf2
   replace hm2 := zH hm2
   replace ho' := zH ho'
   replace hmm := zH hmm
   replace hk := zH hk
   go_wp2_with (at_builtin; go_loud (refine app8 rfl (.tmp 12) (.tmp 14) rfl rfl ho'.out rfl ho2.out.rd (by omega) ?_; intro A' c' w' h1 h2 h3; replace h1 := zH h1; replace h2 := zH h2; replace h3 := zH h3))
   go_roundw
   case rel =>
    refine ⟨j + 1, by go_num, by omega, A', t + k2, c', rfl, ?_, Fresh.app hf.out hmm.out.size h3.out, hmm.out.app hf.out h2.out, by omega⟩
    have e : xs.take (j + 1) = xs.take j ++ [x] := by rw [List.take_add_one, hx.out]; rfl
    have := h1.out
    rw [e, List.flatMap_append]
    simpa using this
   case measure => simp [intOf]; omega
  ·have e : Hid ((xs.take j).flatMap nb = xs.flatMap nb) := by
    refine zH ?_
    rw [List.take_of_length_le (by have := hl.out; omega)]
   go_wp2_with fail
   go_ret
   have h1 := ho.out
   rw [e.out] at h1
   have h2 := h1.len
   exact ⟨B, d, by rw [h2]; rfl, by rw [h2]; exact h1, hf.out, hm.out⟩
theorem lgs_one (ls : List Lg) : ∀ u ∈ lgs ls, u.oneCell' = true := by
 intro u hu
 unfold lgs at hu
 rw [List.mem_flatMap] at hu
 obtain ⟨a, _, ha⟩ := hu
 simp only [List.mem_cons, List.not_mem_nil, or_false] at ha
 rcases ha with rfl | rfl <;> rfl
theorem iss_one (ls : List Is) : ∀ u ∈ iss ls, u.oneCell' = true := by
 intro u hu
 unfold iss at hu
 rw [List.mem_flatMap] at hu
 obtain ⟨a, _, ha⟩ := hu
 simp only [List.mem_cons, List.not_mem_nil, or_false] at ha
 rcases ha with rfl | rfl <;> rfl
def zeroI : Value := .agg #[.int .i64 0, .int .i64 0]
set_option maxRecDepth 512
theorem isinfo : (Tryz.prog.info? 27).map (fun i => (i.zero, i.size, i.bytes)) = some (some zeroI, 2, 16) := by kernel_rfl
def OwP (w : World) (A : Option Addr) (n c : Nat) (ls : List Is) : Prop := Ow w 27 2 A n c (iss ls)
end Go.Proofs.YtfkfiokkjjnhiaaGreat
