/-
  CoinsTexts: the walk.
-/
import Derived.Test.YthoedngacopaiaaDoorRefRead
import Derived.Test.YthoedngacopaiaaDoorCoinDig
namespace Go.Proofs.YthoedngacopaiaaDoor
set_option linter.unusedVariables false
open Go.RowKit
theorem ReadOk.uniq {s : List UInt8} {d : Nat} {r q : Int × Nat} (h : ReadOk s d r) (g : ReadOk s d q) : r = q := by
  rcases h with ⟨a, a1, a2, rfl⟩ | ⟨a1, rfl⟩
  · rcases g with ⟨b, b1, b2, rfl⟩ | ⟨b1, rfl⟩
    · rw [txtC_inj a1 b1 (a2.trans b2.symm)]
    · exact absurd a2 (b1 a a1)
  · rcases g with ⟨b, b1, b2, rfl⟩ | ⟨b1, rfl⟩
    · exact absurd b2 (a1 b b1)
    · rfl
theorem cut_txt (s : List UInt8) : ∃ l : List UInt8, l.length ≤ 60 ∧ (txt s).extract 0 (min s.length 60) = txt l := ⟨s.take (min s.length 60), by rw [List.length_take]; omega, extract_txt _ _⟩
set_option maxRecDepth 100000 in
set_option maxHeartbeats 4000000 in
theorem coinsTexts_walk (w : World) (a : Int) (ha : I64 a) (s0 : List UInt8) (hs0 : s0.length ≤ 9223372036854775807) (digits : Int) (hG : Gw w) : Calls Tryd.prog 3 #[.int .i64 a, .string (txt s0), .int .i64 digits] w fun e w' => e = .returned (.bool true) ∧ Below w.heap.size w w' := by
  have hl := Lib.hid (lives_ok w hG)
  obtain ⟨s, hs, hcut⟩ := cut_txt s0
  obtain ⟨k, hk⟩ : ∃ k, k = min s0.length 60 := ⟨_, rfl⟩
  rw [← hk] at hcut
  have hki : min (s0.length : Int) 60 = (k : Int) := by omega
  have hkl : k ≤ s0.length := by omega
  have hz := txt_size_ s0
  have hr : ∀ W, Gw W → Calls Tryd.prog 12 #[.string (txt s), .int .i64 digits] W (RdPost s (clampD digits) W) := fun W hW => by
    obtain ⟨g1, m, g2⟩ := hW
    exact read_ok W s digits m (by omega) g1 g2
  have hq := fun W => rread_ok W s digits (by omega)
  have hx := fun W (hW : Tab W) => text_ok W a digits ha (fun _ => hW)
  have hy := fun W => rtext_ok W a digits ha
  obtain ⟨X, hX⟩ : ∃ X, X = txt (txtC a (clampD digits)) := ⟨_, rfl⟩
  rw [← hX] at hx hy
  clear hk
  replace hs := Lib.hid hs
  replace hr := Lib.hid hr
  replace hq := Lib.hid hq
  replace hx := Lib.hid hx
  replace hy := Lib.hid hy
  replace hX := Lib.hid hX
  replace ha := Lib.hid ha
  replace hG := Lib.hid hG
  go_enter Tryd.func3, Tryd.ntmps3
  go_wp2_with fail
  refine hl.out.mono ?_
  rintro e w1 ⟨rfl, hm1⟩
  dsimp only
  have hG1 := Lib.hid (hG.out.mod hm1)
  replace hm1 := Lib.hid hm1
  go_wp2_with fail
  (with_reducible refine (hr.out w1 hG1.out).mono ?_)
  rintro e w2 ⟨⟨n, f⟩, hr1, rfl, hm2⟩
  dsimp only
  have hG2 := Lib.hid (hG1.out.mod hm2)
  clear hkl hki hcut
  replace hm2 := Lib.hid hm2
  replace hr1 := Lib.hid hr1
  go_wp2_with fail
  (with_reducible refine (hq.out w2).mono ?_)
  rintro e w3 ⟨⟨n2, f2⟩, hr2, rfl, hm3⟩
  have he := hr1.out.uniq hr2
  injection he with e1 e2
  subst e1 e2
  dsimp only
  have hG3 := Lib.hid (hG2.out.mod hm3)
  replace hm3 := Lib.hid hm3
  replace hr2 := Lib.hid hr2
  go_wp2_with fail
  (with_reducible refine (hx.out w3 hG3.out.tab).mono ?_)
  rintro e w4 ⟨rfl, hm4⟩
  dsimp only
  replace hm4 := Lib.hid hm4
  go_wp2_with fail
  (with_reducible refine (hy.out w4).mono ?_)
  rintro e w5 ⟨rfl, hm5⟩
  dsimp only
  replace hm5 := Lib.hid hm5
  go_wp2_with fail
  go_ret
  exact ⟨rfl, ((((hm1.out.trans hm2.out).trans hm3.out).trans hm4.out).trans hm5.out).below0⟩
theorem coinsTexts_walkB (w : World) (a : Int) (ha : I64 a) (s : ByteArray) (hs : s.size ≤ maxLen) (digits : Int) (hG : Gw w) : Calls Tryd.prog 3 #[.int .i64 a, .string s, .int .i64 digits] w fun e w' => e = .returned (.bool true) ∧ Below w.heap.size w w' := by
  have e : txt s.data.toList = s := rfl
  have := coinsTexts_walk w a ha s.data.toList (by have h := txt_size_ s.data.toList; rw [e] at h; rw [← h]; exact hs) digits hG
  rwa [e] at this
end Go.Proofs.YthoedngacopaiaaDoor
