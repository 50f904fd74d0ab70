/-
  'make' of a row of one-cell elements, and 'copy' that fills a whole row. No condition.
-/
import Derived.Test.YtenlpklgpcnfiaaMem2
import Derived.Laws.CopyOwn
import Derived.Deep.OwnRows
namespace Go.Proofs.Ytenlpklgpcnfiaa
set_option linter.unusedVariables false
open Go.RowKit
theorem copy_all {P : Program} {w : World} {ops : Array Oper} {rest : List Oper} {o : Oper} {a : Act} {Q : Exit → Act → World → Prop} (hgd : o.guard = none) (d s : Operand) (dT sT elem : TypeId)
    (ho : o.op = .call { callee := .builtin .copy, args := #[d, s], argTypes := #[dT, sT] }) (hu : P.underlying dT = some (.slice elem)) (hsz : (P.info? elem).map (·.size) = some 1)
    {g n c1 c2 : Nat} {S : Option Addr} {xs : List Value} {cur : Array Value} (hd : a.eval d = .slice (some ⟨g, 0, none⟩) n c1) (hs : a.eval s = .slice S n c2) (hg : Blk w g elem cur) (hcur : cur.size = n) (hn : n ≤ maxLen)
    (hr : Rd w 1 S n xs) (h1 : ∀ u ∈ xs, u.oneCell' = true)
    (h : ∀ w', Ow w' elem 1 (some ⟨g, 0, none⟩) n n xs → Mod (fun k => k = g) w w' → wpList P ops Q rest (a.put o.dst (goInt n)) w') : wpList P ops Q (o :: rest) a w := by
  have hx : xs.length = n := by have := hr.1; omega
  rcases Nat.eq_zero_or_pos n with h0 | h0
  · subst h0
    refine wpList_copy_nothing hgd d s dT sT ho elem hu hsz _ _ _ _ _ _ hd hs (by simp) ?_
    have : xs = [] := List.eq_nil_of_length_eq_zero hx
    subst this
    exact h w ⟨by simp, by omega, by omega, .inr ⟨g, cur, rfl, hg, by omega, by simp⟩⟩ (Mod.refl _ w)
  · obtain ⟨ad, rfl, hc⟩ := hr.2 h0
    have hx2 := hx
    refine wpList_copy_own hgd d s dT sT ho elem hu hsz g 0 n c1 ad n c2 hd hs cur elem hg xs (by simp [hx]) hc (by omega) h1 ?_
    have e : (cur.toList.take 0 ++ (xs ++ cur.toList.drop (0 + xs.length))) = xs := by
      rw [List.drop_eq_nil_of_le (by simp; omega)]; simp
    rw [e, hx]
    refine h _ ⟨by omega, by omega, by omega, .inr ⟨g, xs.toArray, rfl, setRow_heap w g cur _ elem _ hg, by simp [hx], by simp [← hx]⟩⟩ ⟨rfl, rfl, rfl, by simp, fun k _ hk => setRow_other w g k _ (fun e => hk e)⟩
/-- 'make([]T, n)' as a rule of the walk. -/
theorem make_run {P : Program} (w : World) (t e : TypeId) (z : Value) (bytes n : Nat) (ht : P.underlying t = some (.slice e)) (hinfo : (P.info? e).map (fun i => (i.zero, i.size, i.bytes)) = some (some z, 1, bytes)) (hz1 : z.cells = #[z])
    (hbytes : bytes * n ≤ 281474976710656) (h63 : n ≤ 9223372036854775807) :
    (Instr.makeSlice t (.int .i64 (n : Int)) (.int .i64 (n : Int))).run P w = .ok (.slice (some ⟨w.heap.size, 0, none⟩) n n) (w.alloc (.cells (madeCells #[z] n) e)) :=
  run_make_row' t e z bytes ht hinfo hz1 .i64 .i64 n hbytes h63 w
end Go.Proofs.Ytenlpklgpcnfiaa
