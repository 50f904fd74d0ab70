/-
  slices.Sorted(maps.Keys(m)): the names of the entries, in their order; maps.Clone. By the kit's contracts.
-/
import Derived.Test.YtaohgefpnndjcaaChartP
import Derived.Test.YtaohgefpnndjcaaIter
import Derived.Lib.Hide
namespace Go.Proofs.Ytaohgefpnndjcaa
set_option linter.unusedVariables false
open Go.RowKit Go.Maps Go.Sort Go.Shelf
theorem bb_lt : ∀ a b : List UInt8, bytesBefore a b = true ↔ a < b
  | [], [] => by simp [bytesBefore]
  | [], _ :: _ => by simp [bytesBefore]
  | _ :: _, [] => by simp [bytesBefore]
  | x :: a, y :: b => by
    rw [bb_cons, bb_lt a b, List.cons_lt_cons_iff]
theorem bb_le {a b : List UInt8} (h : bytesBefore a b = true) : a ≤ b := by
  have h1 : ¬ b < a := by
    rw [← bb_lt]
    rw [bb_asymm h]; simp
  exact h1
theorem keys_sorted (L : List NameV) (hs : Sorted L) (ss : List (List UInt8)) (hp : ss.Perm (strKeys (mapD L))) : ss.mergeSort (fun x y => decide (x ≤ y)) = L.map (·.1) := by
  have e : strKeys (mapD L) = L.map (·.1) := by
    show (L.map ent).map (fun p => strOf p.1) = _
    rw [List.map_map]
    rfl
  rw [e] at hp
  have hp2 : (ss.mergeSort (fun x y => decide (x ≤ y))).Perm (L.map (·.1)) := (List.mergeSort_perm _ _).trans hp
  have h1 : (ss.mergeSort (fun x y => decide (x ≤ y))).Pairwise (fun a b => a ≤ b) := by
    have := List.pairwise_mergeSort (le := fun (x y : List UInt8) => decide (x ≤ y)) (fun a b c h g => by simp only [decide_eq_true_eq] at *; exact List.le_trans h g) (fun a b => by simp only [Bool.or_eq_true, decide_eq_true_eq]; exact List.le_total a b) ss
    exact this.imp (by intro a b h; simpa using h)
  have h2 : (L.map (·.1)).Pairwise (fun a b => a ≤ b) := by
    rw [List.pairwise_map]
    exact hs.imp (fun h => bb_le h)
  exact hp2.eq_of_pairwise (fun a b _ _ h g => List.le_antisymm h g) h1 h2
theorem ow_of_row {w : World} {base : Nat} {e : TypeId} {v : Value} {n : Nat} {xs : List Value} (h : w.ownsRow base e 1 v n xs) : ∃ A c, v = .slice A n c ∧ Ow w e 1 A n c xs ∧ ∀ a, A = some a → base ≤ a.block := by
  obtain ⟨h1, h2⟩ := h
  rcases h2 with ⟨rfl, rfl⟩ | ⟨g, cap, cur, rfl, hb, hg, h3, h4, h5, h6⟩
  · exact ⟨none, 0, rfl, ⟨h1, Nat.le_refl _, Nat.zero_le _, .inl ⟨rfl, rfl, rfl⟩⟩, fun a h => by cases h⟩
  · exact ⟨_, _, rfl, ⟨h1, h3, h4, .inr ⟨g, cur, rfl, hg, by omega, h6⟩⟩, fun a h => by cases h; exact hb⟩
/-- slices.Sort's two contracts at this program, at the fence that asks nothing. -/
theorem sorts_in (m : Nat) : AnyZ.SortsIn Try.prog Try.sorted42_ren Fence.wide m :=
  ⟨fun blk off cap ss W hH hblk hsz => callsIn_wide.2 (AnyM.slices_Sort_string Try.sort63 blk off cap ss W hH hblk hsz),
   fun p cap W => callsIn_wide.2 (AnyM.slices_Sort_string_none Try.sort63 p cap W)⟩
theorem keys_ok (mb : Option Nat) (W : World) : Calls Try.prog 43 #[.map mb] W fun e w' => e = .returned (.func (.func 64) #[] #[.pointer (some ⟨W.heap.size, 0, none⟩)]) ∧ w' = W.alloc (.cells #[.map mb] 67) :=
  (callsIn_wide (n := 5)).1 (AnyZ.keys_in Try.keys43 Fence.wide 5 trivial rfl mb W)
def nvs (l : List (List UInt8)) : List Value := l.map encStr
set_option maxHeartbeats 1000000 in
theorem sorted_ok (w : World) (b : Nat) (L : List NameV) (h : MapAt w 9 b L) (hmax : L.length ≤ 1000) :
    Calls Try.prog 42 #[.func (.func 64) #[] #[.pointer (some ⟨w.heap.size, 0, none⟩)]] (w.alloc (.cells #[.map (some b)] 67))
      fun e w' => ∃ A c, e = .returned (.slice A L.length c) ∧ Rd w' 1 A L.length (nvs (L.map (·.1))) ∧ Mod none_ w w' := by
  have hown := h.tight
  have hbl := hown.lt
  have hsz : Maps.size (mapD L) = L.length := size_mapD L
  have hseq : SeqGives Fence.wide 2 Try.prog 64 #[.pointer (some ⟨w.heap.size, 0, none⟩)] encStr (fun ss => ss.Perm (strKeys (mapD L))) (Maps.size (mapD L)) (w.alloc (.cells #[.map (some b)] 67)) :=
    AnyZ.keys_gives (ρ := Try.keys43_ren) { Try.keys43 with } Fence.wide _ trivial rfl (by omega) w.heap.size b L.length (mapD L) _ (by simp) (by simp) (by
      obtain ⟨es, clock, hb, Ft, hs, hD⟩ := hown
      exact ⟨es, clock, (Below.heap_alloc _ _ b hbl).trans hb, Ft, hs, hD⟩)
  have := AnyZ.sorted_in Try.sorted42 Fence.wide 5 trivial trivial trivial trivial rfl (by omega) (sorts_in _) (enters_of Try.func63 (by kernel_rfl) rfl) 64 #[.pointer (some ⟨w.heap.size, 0, none⟩)] trivial (enters_of Try.func64 (by kernel_rfl) rfl) _ _ (by rw [hsz]; unfold maxLen; omega) (by rw [hsz]; omega) _ hseq
  refine (callsIn_wide.1 this).mono ?_
  rintro e w' ⟨v, ss, rfl, hS, hrow, hnil, hb⟩
  have hk := keys_sorted L (h.sorted Try.underlying9) ss hS
  have hlen : ss.length = L.length := by
    have := congrArg List.length hk
    rw [List.length_mergeSort, List.length_map] at this; exact this
  rw [hk] at hrow
  obtain ⟨A, c, rfl, ho, _⟩ := ow_of_row hrow
  rw [hlen] at ho ⊢
  exact ⟨A, c, rfl, ho.rd, ((Mod.refl none_ w).alloc _).then (Mod.of_below hb) (fun _ _ h => h)⟩
set_option maxHeartbeats 1000000 in
theorem clone_ok (w : World) (b : Nat) (L : List NameV) (h : MapAt w 9 b L) :
    Calls Try.prog 45 #[.map (some b)] w fun e w' => e = .returned (.map (some w.heap.size)) ∧ MapAt w' 9 w.heap.size L ∧ Mod none_ w w' ∧ w.heap.size < w'.heap.size := by
  obtain ⟨n, hn, hown⟩ := h
  refine (AnyW.maps_Clone_owns Try.clone45 _ VR b n (mapD L) w hown).mono ?_
  rintro e w' ⟨rfl, h1, h2, h3⟩
  exact ⟨rfl, ⟨n, hn, h1⟩, Mod.of_below h3, h1.lt⟩
end Go.Proofs.Ytaohgefpnndjcaa
