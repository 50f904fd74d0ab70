/-
  The contract of coins.Read. The table of powers of ten reads as the program's text lays it, and the variable of the library's search in place 0 is a number.
-/
import Derived.Test.YthoedngacopaiaaDoorCoinReadP
import Derived.Test.YthoedngacopaiaaDoorConvB
namespace Go.Proofs.YthoedngacopaiaaDoor
set_option linter.unusedVariables false
open Go.RowKit
/-- What Read tells of a text: the sum whose text it is, or that it is none's. -/
def ReadOk (s : List UInt8) (d : Nat) (r : Int × Nat) : Prop := (∃ a, I64 a ∧ txtC a d = s ∧ r = (a, 0)) ∨ ((∀ a, I64 a → txtC a d ≠ s) ∧ r = (0, 3))
theorem ReadOk.at {s : List UInt8} {d : Nat} {a : Int} (ha : I64 a) (h : txtC a d = s) (hu : ∀ b, I64 b → txtC b d = s → b = a) {r : Int × Nat} (hr : ReadOk s d r) : r = (a, 0) := by
  rcases hr with ⟨b, h1, h2, h3⟩ | ⟨h1, _⟩
  · rw [h3, hu b h1 h2]
  · exact absurd h (h1 a ha)
theorem txtC_inj {a b : Int} {d : Nat} (ha : I64 a) (hb : I64 b) (h : txtC a d = txtC b d) : a = b := by
  obtain ⟨a1, a2⟩ := read_of (d := d) ha
  obtain ⟨b1, b2⟩ := read_of (d := d) hb
  rw [h] at a1 a2
  rw [a2] at b2
  have e1 : mag a = mag b := by injection b2
  have e2 : decide (a < 0) = decide (b < 0) := a1.symm.trans b1
  have e3 : (a < 0) ↔ (b < 0) := by simpa using e2
  unfold mag at e1
  omega
theorem txt_inj_ (a b : List UInt8) : txt a = txt b ↔ a = b := by
  constructor
  · intro h
    have := congrArg ByteArray.toList h
    simpa using this
  · rintro rfl; rfl
def RdPost (s : List UInt8) (d : Nat) (w : World) (e : Ending) (w' : World) : Prop := ∃ r : Int × Nat, ReadOk s d r ∧ e = .returned (.tuple #[.int .i64 r.1, .int .i64 (r.2 : Int)]) ∧ Mod none_ w w'
theorem parse_bad {l : List UInt8} {j n : Nat} (h : ∀ hj : j < l.length, pstep n l[j] = none) (hj : j < l.length) (hp : parseF (l.drop j) n = parseF l 0) : parseF l 0 = none := by
  rw [← hp, List.drop_eq_getElem_cons hj]
  simp only [parseF, h hj]
def RpRel (l : List UInt8) (j n : Nat) : Prop := parseF (l.drop j) n = parseF l 0 ∧ n < 18446744073709551616
set_option maxRecDepth 100000 in
set_option maxHeartbeats 2000000 in
theorem read_ok (w : World) (s : List UInt8) (digits m : Int) (hs : s.length ≤ 1000) (ht : Tab w) (hm0 : w.cell? ⟨0, 0, none⟩ = some (.int .i64 m)) :
    Calls Tryd.prog 12 #[.string (txt s), .int .i64 digits] w (RdPost s (clampD digits) w) := by
  obtain ⟨down, hdn⟩ : ∃ b, b = Lib.hasPrefix s [45] := ⟨_, rfl⟩
  obtain ⟨l, hl⟩ : ∃ l, l = stripDot (Lib.trimPrefix s [45]) := ⟨_, rfl⟩
  have hcp : ∀ W, Calls Tryd.prog 29 #[.string (txt s), .string ⟨#[45]⟩] W fun e w' => e = .returned (.tuple #[.string (txt (Lib.trimPrefix s [45])), .bool down]) ∧ W = w' := fun W =>
    (Tryd.strings_CutPrefix (txt s) ⟨#[45]⟩ W).mono fun e w' h => ⟨by rw [h.1, hdn]; rfl, h.2.symm⟩
  have htl : (Lib.trimPrefix s [45]).length ≤ 1000 := by
    unfold Lib.trimPrefix; split
    · rw [List.length_drop]; omega
    · exact hs
  have hrp : ∀ W, W.cell? ⟨0, 0, none⟩ = some (.int .i64 m) → Calls Tryd.prog 30 #[.string (txt (Lib.trimPrefix s [45])), .string ⟨#[46]⟩, .string ⟨#[]⟩, .int .i64 1] W fun e w' => e = .returned (.string (txt l)) ∧ Mod none_ W w' := fun W hW =>
    (Tryd.strings_Replace (txt (Lib.trimPrefix s [45])) ⟨#[46]⟩ ⟨#[]⟩ 1 m W (by rw [txt_size_]; omega) hW (by decide) (by rw [txt_size_]; show _ + _ * 0 ≤ _; omega)).mono fun e w' h => ⟨by rw [h.1, hl]; rfl, Mod.of_below h.2⟩
  have hno : parseF l 0 = none → ReadOk s (clampD digits) (0, 3) := by
    intro hp
    refine .inr ⟨fun a ha he => ?_, rfl⟩
    have := (read_of (d := clampD digits) ha).2
    rw [he, ← hl, hp] at this
    cases this
  have hyes : ∀ n, parseF l 0 = some n → n < 18446744073709551616 → ∀ a, a = (if down then wrap64 (-wrap64 (n : Int)) else wrap64 (n : Int)) → I64 a ∧ (txtC a (clampD digits) = s → ReadOk s (clampD digits) (a, 0)) ∧ (txtC a (clampD digits) ≠ s → ReadOk s (clampD digits) (0, 3)) := by
    intro n hp hn a hae
    have ha : I64 a := by rw [hae]; split <;> (unfold I64 wrap64; omega)
    refine ⟨ha, fun he => .inl ⟨a, ha, he, rfl⟩, fun he => .inr ⟨fun b hb hbe => he ?_, rfl⟩⟩
    obtain ⟨r1, r2⟩ := read_of (d := clampD digits) hb
    rw [hbe, ← hl, hp] at r2
    rw [hbe, ← hdn] at r1
    have e1 : n = mag b := by injection r2
    have hb1 := hb.1; have hb2 := hb.2
    have : a = b := by
      rw [hae, r1, e1]
      unfold mag wrap64
      by_cases h : b < 0
      · rw [decide_eq_true h, if_pos rfl]; omega
      · rw [decide_eq_false h, if_neg (by decide)]; omega
    rw [this]; exact hbe
  have hll : l.length ≤ 1000 := by rw [hl]; exact Nat.le_trans (strip_len _) htl
  replace hdn := Lib.hid hdn
  replace hl := Lib.hid hl
  replace hcp := Lib.hid hcp
  replace hrp := Lib.hid hrp
  replace hno := Lib.hid hno
  replace hyes := Lib.hid hyes
  replace ht := Lib.hid ht
  go_enter Tryd.func12, Tryd.ntmps12
  go_wp2_with fail
  refine (hcp.out w).mono ?_
  rintro e w1 ⟨rfl, rfl⟩
  dsimp only
  go_wp2_with fail
  refine (hrp.out w hm0).mono ?_
  rintro e w1 ⟨rfl, hm1⟩
  dsimp only
  replace hm1 := Lib.hid hm1
  go_wp2_with (show wpList _ _ _ (⟨some 20, _, _, _, _, _⟩ :: _) _ _; go_loud (refine conv_b (l := l) rfl (.tmp 19) rfl rfl ?_; intro A2 c2 w2 hr2 hf2 hc2 hm2 hl2; replace hr2 := Lib.hid hr2; replace hf2 := Lib.hid hf2; replace hm2 := Lib.hid hm2; replace hl2 := Lib.hid hl2))
  go_loop [8, 22] (fun nv x => ∃ j n : Nat, x = .int .i64 j ∧ j ≤ l.length ∧ nv = .int .u64 (n : Int) ∧ RpRel l j n) (fun _ x => l.length - (intOf x).toNat)
  case atStart => exact ⟨0, 0, rfl, by omega, rfl, by simp [RpRel]⟩
  case round =>
    obtain ⟨j, n, rfl, hj, rfl, hp, hn⟩ := hrel
    by_cases hlt : j < l.length
    · obtain ⟨b, o, e, hc⟩ := Rd.form hr2.out (show 0 < l.length by omega) (by omega)
      subst e
      have hcell := hc j _ (bvs_get hlt)
      clear hc
      have hbad2 : pstep n l[j] = none → parseF l 0 = none := fun h => parse_bad (l := l) (j := j) (n := n) (fun _ => h) hlt hp
      have hgo : ∀ k, pstep n l[j] = some k → parseF (l.drop (j + 1)) k = parseF l 0 := fun k hk => by
        rw [← hp, List.drop_eq_getElem_cons hlt]; simp only [parseF, hk]
      have hc8 := l[j].toNat_lt
      have hps : pstep n l[j] = if 57 < l[j].toNat ∨ l[j].toNat < 48 ∨ (18446744073709551615 - (l[j].toNat - 48)) / 10 < n then none else some (10 * n + (l[j].toNat - 48)) := rfl
      rw [hps] at hgo hbad2
      clear hps
      generalize l[j].toNat = c at *
      replace hgo := Lib.hid hgo
      replace hbad2 := Lib.hid hbad2
      replace hp := Lib.hid hp
      by_cases c1 : 48 ≤ c ∧ c ≤ 57
      · obtain ⟨dd, rfl⟩ : ∃ dd, c = 48 + dd := ⟨c - 48, by omega⟩
        have hdd : dd ≤ 9 := by omega
        clear c1 hc8
        go_wp2_with fail
        · go_ret2
          refine ⟨(0, 3), hno.out (hbad2.out (if_pos (by omega))), rfl, hm1.out.trans hm2.out⟩
        · refine ⟨⟨j + 1, 10 * n + dd, by go_num, by omega, by congr 1; push_cast; omega, hgo.out _ (by rw [if_neg (by omega)]; congr 1; omega), by omega⟩, ?_⟩
          simp [intOf]; omega
      · obtain ⟨dd, hdd⟩ : ∃ dd : Nat, (dd : Int) = ((c : Int) - 48) % 256 := ⟨(((c : Int) - 48) % 256).toNat, by omega⟩
        have hd9 : 9 < dd := by omega
        have hb := hno.out (hbad2.out (if_pos (by omega)))
        have w1 : IntKind.u8.wrap ((c : Int) - 48) = (dd : Int) := by rw [IntKind.wrap_u8, hdd]
        have w2' : ((c : Int) - 48) % 256 = (dd : Int) := hdd.symm
        clear hdd
        replace hb := Lib.hid hb
        replace c1 := Lib.hid c1
        go_wp2_with fail
        go_ret2
        exact ⟨(0, 3), hb.out, rfl, hm1.out.trans hm2.out⟩
    · have hj' : j = l.length := by omega
      subst hj'
      rw [List.drop_eq_nil_of_le (Nat.le_refl _)] at hp
      have hpn : parseF l 0 = some n := by rw [← hp]; rfl
      clear hp
      obtain ⟨a, hae⟩ : ∃ a, a = (if down then wrap64 (-wrap64 (n : Int)) else wrap64 (n : Int)) := ⟨_, rfl⟩
      obtain ⟨hI, hy, hnn⟩ := hyes.out n hpn hn a hae
      have htx := fun W (hT : Tab W) => text_ok W a digits hI (fun _ => hT)
      have htab2 := ht.out.mod (hm1.out.trans hm2.out)
      obtain ⟨X, hX⟩ : ∃ X, X = txtC a (clampD digits) := ⟨_, rfl⟩
      rw [← hX] at hy hnn htx
      clear hI
      replace hpn := Lib.hid hpn
      replace hn := Lib.hid hn
      replace hy := Lib.hid hy
      replace hnn := Lib.hid hnn
      replace htx := Lib.hid htx
      replace htab2 := Lib.hid htab2
      replace hX := Lib.hid hX
      cases down
      all_goals
        simp only [Bool.false_eq_true, if_false, if_true] at hae
        have hae' := hae.symm
        clear hae
        go_wp2_with fail
        refine (htx.out _ htab2.out).mono ?_
        rintro e w4 ⟨rfl, hm4⟩
        dsimp only
        clear hae'
        replace hm4 := Lib.hid hm4
        by_cases he : X = s
        · have hr := hy.out he
          subst he
          replace hr := Lib.hid hr
          go_wp2_with fail
          go_ret2
          exact ⟨_, hr.out, rfl, (hm1.out.trans hm2.out).trans hm4.out⟩
        · have hr := hnn.out he
          have hn2 : (X == s) = false := by simpa using he
          replace hr := Lib.hid hr
          replace he := Lib.hid he
          go_wp2_with fail
          go_ret2
          exact ⟨_, hr.out, rfl, (hm1.out.trans hm2.out).trans hm4.out⟩
end Go.Proofs.YthoedngacopaiaaDoor
