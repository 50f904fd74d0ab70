/-
  A reader of bytes: what its two cells and its rest hold; the contracts of fail, Left and Done. No condition.
-/
import Derived.Test.YtnjgcdijpkbloaaNum
import Derived.ChangeAlike
import Derived.Deep.QuietTactic
namespace Go.Proofs.Ytnjgcdijpkbloaa
open Go.RowKit
/-- The reader in block g has the bytes l left, and the error e; its rest lies in block B. -/
def Rdr (w : World) (g B : Nat) (l : List UInt8) (e : Nat) : Prop :=
  ∃ A n c, Blk w g 49 #[.slice A n c, .int .i64 (e : Int)] ∧ RdB w A n l ∧ n ≤ c ∧ c ≤ 9223372036854775807 ∧ (∀ k, fp A k → k = B) ∧ g ≠ B
def only (g : Nat) : Nat → Prop := fun k => k = g
theorem Rdr.mod {w w' : World} {F : Nat → Prop} {g B : Nat} {l : List UInt8} {e : Nat} (h : Rdr w g B l e) (hm : Mod F w w') (h1 : ¬ F g) (h2 : ¬ F B) : Rdr w' g B l e := by
  obtain ⟨A, n, c, a1, a2, a3, a4, a5, a6⟩ := h
  exact ⟨A, n, c, a1.mod hm h1, a2.mod hm (fun k hk => by rw [a5 k hk]; exact h2), a3, a4, a5, a6⟩
theorem Rdr.mod0 {w w' : World} {g B : Nat} {l : List UInt8} {e : Nat} (h : Rdr w g B l e) (hm : Mod none_ w w') : Rdr w' g B l e := h.mod hm (fun hh => hh) (fun hh => hh)
theorem Rdr.empty {w : World} {g B : Nat} {e : Nat} (h : Blk w g 49 #[.slice none 0 0, .int .i64 (e : Int)]) (hB : g ≠ B) : Rdr w g B [] e :=
  ⟨none, 0, 0, h, Rd.none_, by omega, by omega, fun k hk => (by obtain ⟨a, ha, _⟩ := hk; cases ha), hB⟩
theorem Rdr.lt {w : World} {g B : Nat} {l : List UInt8} {e : Nat} (h : Rdr w g B l e) : g < w.heap.size := by
  obtain ⟨A, n, c, a1, _⟩ := h
  exact a1.lt
theorem Blk.two {w : World} {g : Nat} {t : TypeId} {a b : Value} (h : Blk w g t #[a, b]) : w.cell? ⟨g, 0, none⟩ = some a ∧ w.cell? ⟨g, 1, none⟩ = some b ∧ w.frozen? ⟨g, 0, none⟩ = false ∧ w.frozen? ⟨g, 1, none⟩ = false :=
  ⟨h.cell_ rfl, h.cell_ rfl, h.frozen 0, h.frozen 1⟩
theorem Mod.refl_only (w : World) (g : Nat) : Mod (only g) w w := Mod.refl _ w
theorem Mod.set_only {w w' : World} {g : Nat} (h : Mod (only g) w w') (o : Nat) (u : Value) : Mod (only g) w (w'.setCell ⟨g, o, none⟩ u) := h.setCell (p := ⟨g, o, none⟩) (.inl rfl) u

def FailPost (w : World) (g B e : Nat) (en : Ending) (w' : World) : Prop := en = .returned (.int .i64 (e : Int)) ∧ Rdr w' g B [] e ∧ Mod (only g) w w'
set_option maxRecDepth 100000 in
theorem fail_ok (w : World) (g B e : Nat) (a b : Value) (h : Blk w g 49 #[a, b]) (hB : g ≠ B) : Calls Try.prog 20 #[.pointer (some ⟨g, 0, none⟩), .int .i64 (e : Int)] w (FailPost w g B e) := by
  obtain ⟨h1, h2, h3, h4⟩ := h.two
  replace h := Lib.hid h
  go_enter Try.func20, Try.ntmps20
  go_wp2
  go_ret
  exact ⟨rfl, Rdr.empty ((h.out.set_ 0 _).set_ 1 _) hB, ((Mod.refl _ w).set_only 0 _).set_only 1 _⟩
set_option maxRecDepth 100000 in
theorem left_ok (w : World) (g B e : Nat) (l : List UInt8) (h : Rdr w g B l e) : Calls Try.prog 11 #[.pointer (some ⟨g, 0, none⟩)] w fun en w' => en = .returned (.int .i64 (l.length : Int)) ∧ w = w' := by
  obtain ⟨A, n, c, hb, hr, _, _, _, hB⟩ := h
  obtain ⟨h1, h2, h3, h4⟩ := hb.two
  have hl := hr.len
  subst hl
  replace hr := Lib.hid hr
  replace hb := Lib.hid hb
  go_enter Try.func11, Try.ntmps11
  go_wp2
  go_ret
  exact ⟨rfl, rfl⟩
set_option maxRecDepth 100000 in
theorem left_nil (w : World) : Calls Try.prog 11 #[.pointer none] w fun en w' => en = .returned (.int .i64 0) ∧ w = w' := by
  go_enter Try.func11, Try.ntmps11
  go_wp2
  go_ret
  exact ⟨rfl, rfl⟩
/-- What Done tells. -/
def dn (l : List UInt8) (e : Nat) : Nat := if e ≠ 0 then e else if 0 < l.length then 3 else 0
def DonePost (w : World) (g : Nat) (l : List UInt8) (e : Nat) (en : Ending) (w' : World) : Prop := en = .returned (.int .i64 (dn l e : Nat)) ∧ Mod (only g) w w'
set_option maxRecDepth 100000 in
theorem done_ok (w : World) (g B e : Nat) (l : List UInt8) (h : Rdr w g B l e) : Calls Try.prog 12 #[.pointer (some ⟨g, 0, none⟩)] w (DonePost w g l e) := by
  obtain ⟨A, n, c, hb, hr, _, _, _, hB⟩ := h
  obtain ⟨h1, h2, h3, h4⟩ := hb.two
  have hl := hr.len
  subst hl
  replace hr := Lib.hid hr
  replace hb := Lib.hid hb
  by_cases he : e = 0
  · subst he
    by_cases hn : 0 < l.length
    · go_enter Try.func12, Try.ntmps12
      go_wp2_with fail
      refine (fail_ok _ g B 3 _ _ hb.out hB).mono ?_
      rintro en w1 ⟨rfl, _, hm⟩
      go_wp2
      go_ret
      exact ⟨by simp [dn, hn], hm⟩
    · go_enter Try.func12, Try.ntmps12
      go_wp2
      go_ret
      exact ⟨by simp [dn, hn], Mod.refl _ w⟩
  · have he1 : ((e : Int) != 0) = true := by simp; omega
    go_enter Try.func12, Try.ntmps12
    go_wp2
    go_ret
    exact ⟨by simp [dn, he], Mod.refl _ w⟩
set_option maxRecDepth 100000 in
theorem done_nil (w : World) : Calls Try.prog 12 #[.pointer none] w fun en w' => en = .returned (.int .i64 1) ∧ w = w' := by
  go_enter Try.func12, Try.ntmps12
  go_wp2
  go_ret
  exact ⟨rfl, rfl⟩
end Go.Proofs.Ytnjgcdijpkbloaa
