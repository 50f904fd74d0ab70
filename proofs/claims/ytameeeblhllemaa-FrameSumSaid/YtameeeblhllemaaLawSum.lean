/-
  FrameSum: the walk, with the sum as a function on lists. No condition.
-/
import Derived.Test.YtameeeblhllemaaCrcLaw
import Derived.Test.YtameeeblhllemaaFLives
import Derived.Test.YtameeeblhllemaaOpen
import Derived.BigQuiet
namespace Go.Proofs.Ytameeeblhllemaa
open Go.RowKit

theorem u8_of {a : Int} (h : (Lit.int .u8 a).wf = true) : ∃ c : UInt8, a = (c.toNat : Int) := by
  have h2 : 0 ≤ a ∧ a ≤ 255 := by simpa [Lit.wf, IntKind.min, IntKind.max, IntKind.bits, IntKind.signed] using h
  refine ⟨UInt8.ofNat a.toNat, ?_⟩
  simp
  omega

set_option maxRecDepth 100000 in
set_option maxHeartbeats 2000000 in
theorem sum_walk (w : World) (A : Option Addr) (n d : Nat) (l : List UInt8) (cm : Came w 1 1 A n d (bvs l)) (at_ : Int) (c : UInt8) :
    Calls Try.prog 7 #[.slice A n d, .int .i64 at_, .int .u8 (c.toNat : Int)] w fun e w' => e = .returned (.bool true) ∧ Below w.heap.size w w' := by
  obtain ⟨i0, hi, hz0, hz1, hz2⟩ := info_parts u8info
  have H := Lib.hid (show RdB w A n l from cm.1)
  have hnd : n ≤ d ∧ d ≤ 140737488351232 := ⟨cm.2.1, by have := cm.2.2.2.1; omega⟩
  clear cm
  go_enter Try.func7, Try.ntmps7
  go_wp2_with fail
  refine (lives_ok _).mono ?_
  rintro e w1 ⟨rfl, hm1⟩
  have hm1 := Lib.hid hm1
  go_wp2_with fail
  refine (early_ok _ _ _ _ hnd.1 hnd.2).mono ?_
  rintro e w2 ⟨rfl, rfl⟩
  have HB := Lib.hid (rdb_take H.out (k := min n 5000) (by omega))
  clear H
  generalize hmm : min n 5000 = m at HB
  generalize l.take m = b at HB
  have hb := Lib.hid (show RdB w1 A m b from HB.out.mod0 hm1.out)
  have hm5 : m ≤ 5000 := by omega
  have hmd : m ≤ d := by omega
  clear hmm
  have hlen := Lib.hid hb.out.len
  have hlt := crc_lt b
  go_wp2_with fail
  refine (sum_ok _ _ _ _ b hb.out (by omega)).mono ?_
  rintro e w3 ⟨rfl, hm3⟩
  have hb3 := Lib.hid (show RdB w3 A m b from hb.out.mod0 hm3)
  have hm4 := Lib.hid (hm1.out.trans hm3)
  clear hm3 hm1 hb
  have hsb : bvs (sumBytes (crc b)) = [.int .u8 ((crc b : Int) % 256), .int .u8 ((crc b : Int) / 256 % 256), .int .u8 ((crc b : Int) / 65536 % 256), .int .u8 ((crc b : Int) / 16777216)] := by
    simp only [bvs, sumBytes, bv, List.map_cons, List.map_nil, by_toNat]
    have x2 : ((crc b / 16777216 % 256 : Nat) : Int) = (crc b : Int) / 16777216 := by omega
    rw [x2]
    rfl
  replace hsb := Lib.hid hsb
  go_wp2_with (first
    | (at_builtin; refine wpList_append_ow rfl (.const (.slice none 0 0)) (.tmp 17) 22 rfl 5 i0 _ 1 1 Try.underlying22 hi hz0 hz1 hz2 rfl (by omega) none 0 0 [] rfl (Ow.nil _ _ _) A m d (bvs b) rfl hb3.out (bvs_one _) (by omega) (by omega) ?_; intro A5 c5 w5 hown5 hmod5 hA5; have ho5 := Lib.hid (show Ow w5 5 1 A5 m c5 (bvs b) by simpa using hown5); have hm5 := Lib.hid hmod5; replace hA5 := Lib.hid hA5; clear hown5 hmod5)
    | (at_builtin; refine wpList_append_ow rfl (.tmp 18) (.tmp 30) 22 rfl 5 i0 _ 1 1 Try.underlying22 hi hz0 hz1 hz2 rfl (by omega) A5 m c5 (bvs b) rfl (Ow.mod0 ho5.out ((Mod.refl _ w5).alloc _)) (some ⟨w5.heap.size, 0, none⟩) 4 4 (bvs (sumBytes (crc b))) rfl (by rw [hsb.out]; exact rdn w5 _ 1 4 _ _ (0, 0) rfl rfl) (bvs_one _) (by omega) (by omega) ?_; intro A6 c6 w6 hown6 hmod6 hA6))
  have hm6 : Mod none_ w w6 := by
    refine ((hm4.out.then hm5.out fun i _ hf => by obtain ⟨a, ha, _⟩ := hf; cases ha).alloc _).then hmod6 fun i hi hf => ?_
    obtain ⟨a, ha, rfl⟩ := hf
    have := hm4.out.size
    rcases hA5.out with h | h
    · rw [h] at ha; cases ha
    · rw [h] at ha; cases ha; simp only at hi; omega
  have hb6 : RdB w6 A m b := HB.out.mod0 hm6
  have h6 := Lib.hid (show RdB w6 A6 (m + 4) (b ++ sumBytes (crc b)) from by show Rd _ _ _ _ _; rw [bvs_append]; exact hown6.rd)
  replace hm6 := Lib.hid hm6
  replace hb6 := Lib.hid hb6
  clear hown6 hmod6 hA6 ho5 hm5 hA5 hsb hb3 hm4
  refine (sum_ok _ _ _ _ _ h6.out (by omega)).mono ?_
  rintro e w7 ⟨rfl, hm7⟩
  rw [crc_res]
  have hb7 := Lib.hid (show RdB w7 A m b from hb6.out.mod0 hm7)
  replace hm7 := Lib.hid (hm6.out.trans hm7)
  clear h6 hb6 hm6
  rcases Nat.eq_zero_or_pos m with h0 | h0
  · have hb0 : b = [] := List.eq_nil_of_length_eq_zero (by rw [hlen.out, h0])
    subst h0 hb0
    rw [crc_nil]
    go_wp2
    go_ret
    exact ⟨rfl, hm7.out.below0⟩
  · obtain ⟨k, hk, hkm⟩ := umod at_ m (by omega) (by omega)
    have hkl : k < b.length := by rw [hlen.out]; omega
    obtain ⟨B, o, rfl, hcell⟩ := Rd.form hb7.out (by omega) (by omega)
    have hget : (bvs b)[k]? = some (.int .u8 (b[k].toNat : Int)) := bvs_get hkl
    have hset := crc_set b k c hkl
    generalize b[k] = x at hget hset
    have hc7 := hcell k _ hget
    clear hcell hkl
    replace hget := Lib.hid hget
    replace hset := Lib.hid hset
    go_wp2_with (at_builtin; refine wpList_append_ow rfl (.const (.slice none 0 0)) (.tmp 47) 22 rfl 5 i0 _ 1 1 Try.underlying22 hi hz0 hz1 hz2 rfl (by omega) none 0 0 [] rfl (Ow.nil _ _ _) (some ⟨B, o, none⟩) m d (bvs b) rfl hb7.out (bvs_one _) (by omega) (by omega) ?_; intro A8 c8 w8 hown8 hmod8 hA8; have ho8 := Lib.hid (show Ow w8 5 1 A8 m c8 (bvs b) by simpa using hown8); have hm8 := Lib.hid (hm7.out.then hmod8 fun i _ hf => by obtain ⟨a, ha, _⟩ := hf; cases ha); obtain ⟨g8, cur8, rfl, _⟩ := Ow.form ho8.out h0; have hc8 : w8.cell? ⟨g8, k, none⟩ = some (.int .u8 (x.toNat : Int)) := (Ow.cell_ ho8.out rfl k (by omega)).trans (hget.out); have hf8 : w8.frozen? ⟨g8, k, none⟩ = false := Ow.free ho8.out rfl k; have hg8 : w.heap.size ≤ g8 := by { rcases hA8 with h | h <;> cases h; have := hm7.out.size; exact this }; clear hown8 hmod8 hA8)
    have hb8 : RdB w8 (some ⟨B, o, none⟩) m b := HB.out.mod0 hm8.out
    have hltB : B < w.heap.size := HB.out.lt h0 B ⟨_, rfl, rfl⟩
    obtain ⟨B', o', hBo, hcell8⟩ := Rd.form hb8 h0 (by omega)
    obtain ⟨rfl, rfl⟩ : B = B' ∧ o = o' := by injection hBo with x; injection x with x1 x2; exact ⟨x1, x2⟩
    have hc9' : (w8.setCell ⟨g8, k, none⟩ (.int .u8 (c.toNat : Int))).cell? ⟨B, o + k, none⟩ = some (.int .u8 (x.toNat : Int)) := by
      refine (Mod.setCell (F := fun i => i = g8) (Mod.refl _ w8) (p := ⟨g8, k, none⟩) (.inl rfl) _).cell_some (hcell8 k _ (hget.out)) ?_
      show ¬ B = g8
      omega
    have hy : RdB (w8.setCell ⟨g8, k, none⟩ (.int .u8 (c.toNat : Int))) (some ⟨g8, 0, none⟩) m (b.set k c) := by
      show Rd _ _ _ _ _
      rw [bvs_set]
      exact (Ow.set_ ho8.out rfl k _).rd
    have hm9 : Mod none_ w (w8.setCell ⟨g8, k, none⟩ (.int .u8 (c.toNat : Int))) := hm8.out.setCell (.inr hg8) _
    generalize w8.setCell ⟨g8, k, none⟩ (.int .u8 (c.toNat : Int)) = w9 at hy hm9 hc9' ⊢
    have hc9 : w9.cell? ⟨B, o + k, none⟩ = some (.int .u8 (x.toNat : Int)) := hc9'
    replace hy := Lib.hid hy
    replace hm9 := Lib.hid hm9
    have hans : ((((crc (b.set k c) : Nat) : Int) == ((crc b : Nat) : Int)) == ((c.toNat : Int) == (x.toNat : Int))) = true := by
      have q := hset.out
      have e1 : (((crc (b.set k c) : Nat) : Int) == ((crc b : Nat) : Int)) = decide (c = x) := by
        rw [Bool.eq_iff_iff]; simp only [beq_iff_eq, decide_eq_true_eq]; rw [← q]; omega
      have e2 : ((c.toNat : Int) == (x.toNat : Int)) = decide (c = x) := by
        rw [Bool.eq_iff_iff]; simp only [beq_iff_eq, decide_eq_true_eq]; rw [← UInt8.toNat_inj]; omega
      rw [e1, e2]; simp
    clear hc7 hb7 ho8 hc8 hf8 hm8 hm7 hc9' hb8 hcell8 hBo
    go_region_with (go_at_call 16; refine (sum_ok _ _ _ _ _ (Rd.drewN hy.out _) (by omega)).mono ?_; rintro e w10 ⟨rfl, hm10⟩; have hc10 := hm10.cell_some hc9 (fun h => h); replace hm10 := Lib.hid hm10)
    all_goals go_wp2
    all_goals go_ret
    all_goals refine ⟨rfl, ?_⟩
    all_goals exact ((hm9.out.drewN _).trans hm10.out).below0
end Go.Proofs.Ytameeeblhllemaa
