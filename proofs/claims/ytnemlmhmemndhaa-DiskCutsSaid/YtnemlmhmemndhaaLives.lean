/-
  The head of each statement over disks, 'lives', returns true; and 'early', the first steps of a script. No condition.
-/
import Derived.Test.YtnemlmhmemndhaaDoes2
import Derived.Lib.SlBytesConst
namespace Go.Proofs.Ytnemlmhmemndhaa
set_option linter.unusedVariables false
open Go.RowKit

theorem nw_dkf {w0 w : World} {A A' : Option Addr} (h : Nw w A A') (hA : ∀ k, fp A k → w0.heap.size ≤ k) (hs : w0.heap.size ≤ w.heap.size) : ∀ k, fp A' k → w0.heap.size ≤ k := by
  rcases h with rfl | h
  · exact hA
  · rintro k ⟨a, ha, rfl⟩
    exact Nat.le_trans hs (h a ha)
theorem mod_up {w0 w w' : World} {p : Nat} {A : Option Addr} (h : Mod none_ w0 w) (hm : Mod (dkf p A) w w') (hp : w0.heap.size ≤ p) (hA : ∀ k, fp A k → w0.heap.size ≤ k) : Mod none_ w0 w' :=
  h.then hm fun i hi hf => by
    rcases hf with rfl | hf
    · omega
    · have := hA i hf; omega

theorem conv_bytes (A : Option Addr) (n c : Nat) (l : List UInt8) (w : World) (h : RdB w A n l) : ∀ k, (convert 27 9 (.slice A n c)).run Try.prog (w.drewN k) = .ok (.string (txt l)) (w.drewN k) :=
  fun k => run_string_of_bytes (P := Try.prog) (w.drewN k) 27 9 5 Try.underlying27 Try.underlying5 Try.underlying9 A n c l (h.drewN k)
theorem conv_bytes0 (A : Option Addr) (n c : Nat) (l : List UInt8) (w : World) (h : RdB w A n l) : (convert 27 9 (.slice A n c)).run Try.prog w = .ok (.string (txt l)) w :=
  run_string_of_bytes (P := Try.prog) w 27 9 5 Try.underlying27 Try.underlying5 Try.underlying9 A n c l h

theorem rd_new (w : World) (e : TypeId) (size n : Nat) (cs : Array Value) (fr : Nat × Nat) (hs : cs.size = n * size) : Rd (w.alloc (.cells cs e fr)) size (some ⟨w.heap.size, 0, none⟩) n cs.toList := by
  refine ⟨by simpa using hs, fun _ => ⟨_, rfl, fun j u hu => ?_⟩⟩
  rw [add_lit, World.cell?_alloc_mark]
  simpa using hu

set_option maxHeartbeats 1000000 in
theorem lives_ok (w : World) : Calls Try.prog 7 #[] w fun e w' => e = .returned (.bool true) ∧ Mod none_ w w' := by
  have kc := fun (w : World) (C : Array Value) (n c : Nat) => Lib.run_convert_bytes_const (P := Try.prog) w 27 5 C n c Try.underlying27 Try.underlying5
  go_enter Try.func7, Try.ntmps7
  go_wp2_with fail
  refine (disk_new 10 w).mono ?_
  rintro e w1 ⟨rfl, hd1, hm1⟩
  have hd1 := Lib.hid hd1
  have hm1 := Lib.hid hm1
  go_wp2_with fail
  refine (disk_append _ _ _ [] 0 10 _ (hd1.out.mod0 ((Mod.refl _ w1).alloc _)) (some ⟨w1.heap.size, 0, none⟩) 2 2 [97, 98] (rd_new w1 _ 1 2 _ _ rfl) (by decide)).mono ?_
  rintro e w2 ⟨rfl, A2, ⟨c2, hd2⟩, hn2, hm2⟩
  have hA2 := Lib.hid (nw_dkf (w0 := w) hn2 (fun k hk => by obtain ⟨a, ha, _⟩ := hk; cases ha) (by have := hm1.out.size; simp; omega))
  have hm2 := Lib.hid (mod_up (hm1.out.alloc _) hm2 (Nat.le_refl _) (fun k hk => by obtain ⟨a, ha, _⟩ := hk; cases ha))
  have hd2 := Lib.hid hd2
  clear hn2
  go_wp2_with fail
  refine (disk_sync _ _ _ _ _ _ _ hd2.out).mono ?_
  rintro e w3 ⟨rfl, hd3, hm3⟩
  have hm3 := Lib.hid (mod_up hm2.out hm3 (Nat.le_refl _) hA2.out)
  have hd3 := Lib.hid hd3
  go_wp2_with fail
  refine (disk_append _ _ _ _ _ 10 _ (hd3.out.mod0 ((Mod.refl _ w3).alloc _)) (some ⟨w3.heap.size, 0, none⟩) 2 2 [99, 100] (rd_new w3 _ 1 2 _ _ rfl) (by decide)).mono ?_
  rintro e w4 ⟨rfl, A4, ⟨c4, hd4⟩, hn4, hm4⟩
  have hA4 := Lib.hid (nw_dkf (w0 := w) hn4 hA2.out (by have := hm3.out.size; simp; omega))
  have hm4 := Lib.hid (mod_up (hm3.out.alloc _) hm4 (Nat.le_refl _) hA2.out)
  have hd4 := Lib.hid hd4
  clear hn4
  go_wp2_with fail
  refine (disk_break _ _ _ _ _ hd4.out).mono ?_
  rintro e w5 ⟨rfl, hd5, hm5⟩
  have hm5 := Lib.hid (mod_up hm4.out hm5 (Nat.le_refl _) hA4.out)
  have hd5 := Lib.hid hd5
  go_wp2_with fail
  refine (disk_sync_down _ _ _ _ _ _ _ hd5.out).mono ?_
  rintro e w5' ⟨rfl, rfl⟩
  go_wp2_with fail
  refine (disk_up _ _ _ _ _ _ _ _ hd5.out 1 none 0 0 [] Rd.none_ (fun k hk => by obtain ⟨a, ha, _⟩ := hk; cases ha) (by decide)).mono ?_
  rintro e w6 ⟨rfl, hd6, hm6⟩
  have hm6 := Lib.hid (mod_up hm5.out hm6 (Nat.le_refl _) hA4.out)
  have hd6' : Dk w6 w.heap.size A4 c4 ⟨[97, 98, 99], 3, 10, false⟩ := hd6
  have hd6 := Lib.hid hd6'
  clear hd6'
  go_wp2_with fail
  refine (disk_bytes _ _ _ _ _ hd6.out).mono ?_
  rintro e w7 ⟨A7, c7, rfl, hb7, hf7, hm7⟩
  have hconv := conv_bytes0 _ _ c7 _ _ hb7.rd
  have hm7' := Lib.hid (hm6.out.trans hm7)
  have hd7 := Lib.hid (hd6.out.mod0 hm7)
  clear hb7 hf7 hm7
  simp only [List.length_cons, List.length_nil] at hconv
  go_wp2_with fail
  refine (disk_sure _ _ _ hd7.out.c1).mono ?_
  rintro e w7' ⟨rfl, rfl⟩
  go_wp2_with fail
  refine (disk_room _ _ _ _ _ _ hd7.out.c0 hd7.out.c2 (by decide) (by decide)).mono ?_
  rintro e w8 ⟨rfl, k, rfl⟩
  go_wp2_with fail
  refine (disk_broken _ _ _ (hd7.out.mod0 ((Mod.refl _ w7).drewN k)).c3).mono ?_
  rintro e w8' ⟨rfl, rfl⟩
  go_wp2
  go_ret
  exact ⟨rfl, hm7'.out.drewN _⟩
end Go.Proofs.Ytnemlmhmemndhaa
