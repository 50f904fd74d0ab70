/-
  A list of texts of bytes in memory of the call's own. No condition.
-/
import Derived.Test.YtameeeblhllemaaMem2
import Derived.Test.YtameeeblhllemaaRows
namespace Go.Proofs.Ytameeeblhllemaa
open Go.RowKit

def Txt1 (w : World) (LA : Option Addr) (s : SV) (l : List UInt8) : Prop :=
  RdB w s.a s.n l ∧ s.n ≤ s.c ∧ s.c ≤ 9223372036854775807 ∧ (0 < s.n → ∀ k, fp s.a k → k < w.heap.size ∧ ¬ fp LA k)
def Lst (w : World) (LA : Option Addr) (n c : Nat) (ss : List SV) (ls : List (List UInt8)) : Prop :=
  Ow w 22 1 LA n c (ss.map SV.v) ∧ ss.length = ls.length ∧ ∀ (i : Nat) (s : SV) (l : List UInt8), ss[i]? = some s → ls[i]? = some l → Txt1 w LA s l
section
variable {w w' : World} {LA : Option Addr} {n c : Nat} {ss : List SV} {ls : List (List UInt8)}
theorem Lst.nil (w : World) : Lst w none 0 0 [] [] := ⟨Ow.nil _ _ _, rfl, fun i s l hs _ => by simp at hs⟩
theorem Lst.len (h : Lst w LA n c ss ls) : ls.length = n := by
  have := h.1.1
  rw [List.length_map] at this
  rw [← h.2.1]; omega
theorem Txt1.mod {F : Nat → Prop} {s : SV} {l : List UInt8} (h : Txt1 w LA s l) (hm : Mod F w w') (hF : 0 < s.n → ∀ k, fp s.a k → ¬ F k) : Txt1 w' LA s l :=
  ⟨h.1.mod' hm hF, h.2.1, h.2.2.1, fun h0 k hk => ⟨Nat.lt_of_lt_of_le (h.2.2.2 h0 k hk).1 hm.size, (h.2.2.2 h0 k hk).2⟩⟩
theorem Lst.mod0 (h : Lst w LA n c ss ls) (hm : Mod none_ w w') : Lst w' LA n c ss ls :=
  ⟨h.1.mod0 hm, h.2.1, fun i s l hs hl => (h.2.2 i s l hs hl).mod hm fun _ _ _ hf => hf⟩
theorem Lst.push (h : Lst w LA n c ss ls) {s : SV} {l : List UInt8} (h1 : Txt1 w LA s l) {w1 : World} {LA' : Option Addr} {c' : Nat} (hown : Ow w1 22 1 LA' (n + 1) c' (ss.map SV.v ++ [s.v]))
    (hm : Mod (fp LA) w w1) (hA : LA' = LA ∨ ∃ g, LA' = some ⟨g, 0, none⟩ ∧ w.heap.size ≤ g) : Lst w1 LA' (n + 1) c' (ss ++ [s]) (ls ++ [l]) := by
  have key : ∀ s l, Txt1 w LA s l → Txt1 w1 LA' s l := by
    intro s l ht
    refine ⟨ht.1.mod' hm fun h0 k hk hf => (ht.2.2.2 h0 k hk).2 hf, ht.2.1, ht.2.2.1, fun h0 k hk => ?_⟩
    obtain ⟨q1, q2⟩ := ht.2.2.2 h0 k hk
    refine ⟨Nat.lt_of_lt_of_le q1 hm.size, ?_⟩
    rcases hA with rfl | ⟨g, rfl, hg⟩
    · exact q2
    · rintro ⟨a, ha, rfl⟩
      cases ha
      simp only at q1
      omega
  refine ⟨by simpa using hown, by simp [h.2.1], fun i s' l' hs hl => ?_⟩
  by_cases hi : i < ss.length
  · rw [List.getElem?_append_left hi] at hs
    rw [List.getElem?_append_left (by rw [← h.2.1]; exact hi)] at hl
    exact key _ _ (h.2.2 i s' l' hs hl)
  · rw [List.getElem?_append_right (by omega)] at hs
    rw [List.getElem?_append_right (by rw [← h.2.1]; omega), ← h.2.1] at hl
    have e : i - ss.length = 0 := by
      rcases Nat.lt_or_ge (i - ss.length) 1 with h5 | h5
      · omega
      · rw [List.getElem?_eq_none (by simpa using h5)] at hs; cases hs
    rw [e] at hs hl
    simp at hs hl
    subst hs hl
    exact key _ _ h1

/-- A list of texts, read only. -/
def RdL (w : World) (A : Option Addr) (n : Nat) (ss : List SV) (ls : List (List UInt8)) : Prop :=
  Rd w 1 A n (ss.map SV.v) ∧ ss.length = ls.length ∧ ∀ (i : Nat) (s : SV) (l : List UInt8), ss[i]? = some s → ls[i]? = some l → RdB w s.a s.n l ∧ s.n ≤ s.c ∧ s.c ≤ 9223372036854775807
theorem Lst.rdl (h : Lst w LA n c ss ls) : RdL w LA n ss ls :=
  ⟨h.1.rd, h.2.1, fun i s l hs hl => ⟨(h.2.2 i s l hs hl).1, (h.2.2 i s l hs hl).2.1, (h.2.2 i s l hs hl).2.2.1⟩⟩
theorem RdL.mod0 (h : RdL w LA n ss ls) (hm : Mod none_ w w') : RdL w' LA n ss ls :=
  ⟨h.1.mod0 hm, h.2.1, fun i s l hs hl => ⟨Rd.mod0 (h.2.2 i s l hs hl).1 hm, (h.2.2 i s l hs hl).2⟩⟩
theorem RdL.take_ (h : RdL w LA n ss ls) {j : Nat} (hj : j ≤ n) : RdL w LA j (ss.take j) (ls.take j) := by
  refine ⟨?_, by simp [h.2.1], fun i s l hs hl => ?_⟩
  · have := Rd.take_ h.1 hj
    rwa [Nat.mul_one, ← List.map_take] at this
  · rw [List.getElem?_take] at hs hl
    split at hs
    · rename_i hi
      rw [if_pos hi] at hl
      exact h.2.2 i s l hs hl
    · cases hs
theorem RdL.app {A : Option Addr} {m : Nat} {ts : List SV} {ks : List (List UInt8)} {B : Option Addr} (h : RdL w LA n ss ls) (k : RdL w B m ts ks) {N : Nat} (hr : Rd w 1 A N ((ss ++ ts).map SV.v)) : RdL w A N (ss ++ ts) (ls ++ ks) := by
  refine ⟨hr, by simp [h.2.1, k.2.1], fun i s l hs hl => ?_⟩
  rcases Nat.lt_or_ge i ss.length with hi | hi
  · rw [List.getElem?_append_left hi] at hs
    rw [List.getElem?_append_left (by rw [← h.2.1]; exact hi)] at hl
    exact h.2.2 i s l hs hl
  · rw [List.getElem?_append_right hi] at hs
    rw [List.getElem?_append_right (by rw [← h.2.1]; exact hi), ← h.2.1] at hl
    exact k.2.2 _ s l hs hl
theorem RdL.len (h : RdL w LA n ss ls) : ls.length = n := by
  have := h.1.1
  rw [List.length_map] at this
  rw [← h.2.1]; omega
theorem RdL.at_ (h : RdL w LA n ss ls) {j : Nat} (hj : j < n) : ∃ b o s l, LA = some ⟨b, o, none⟩ ∧ ss[j]? = some s ∧ ls[j]? = some l ∧ w.cell? ⟨b, o + j, none⟩ = some (.slice s.a s.n s.c) ∧ RdB w s.a s.n l ∧ s.n ≤ s.c ∧ s.c ≤ 9223372036854775807 := by
  obtain ⟨b, o, rfl, hc⟩ := h.1.form (by omega) (by omega)
  have hl := h.len
  have h1 : j < ss.length := by rw [h.2.1, hl]; exact hj
  have h2 : j < ls.length := by rw [hl]; exact hj
  have h3 := hc j ss[j].v (by simp [h1])
  obtain ⟨q1, q2, q3⟩ := h.2.2 j _ _ (List.getElem?_eq_getElem h1) (List.getElem?_eq_getElem h2)
  exact ⟨b, o, ss[j], ls[j], rfl, List.getElem?_eq_getElem h1, List.getElem?_eq_getElem h2, h3, q1, q2, q3⟩
end
theorem slinfo : (Try.prog.info? 22).map (fun i => (i.zero, i.size, i.bytes)) = some (some (.slice none 0 0), 1, 24) := by kernel_rfl
end Go.Proofs.Ytameeeblhllemaa
