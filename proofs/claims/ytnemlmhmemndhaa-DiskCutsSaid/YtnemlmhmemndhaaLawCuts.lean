/-
  DiskCuts: the walk: for every script and every number the law returns true and writes nothing that was there. No condition.
-/
import Derived.Test.YtnemlmhmemndhaaLawSure
import Derived.Deep.DrawnRows
import Derived.Deep.RegionHeld
namespace Go.Proofs.Ytnemlmhmemndhaa
set_option linter.unusedVariables false
open Go.RowKit
set_option linter.unusedSimpArgs false
attribute [local go_sem ↓] Go.wp_at_zero Go.wp_at_succ

theorem slice_drop {A : Option Addr} {w : World} {n c : Nat} {l : List UInt8} (h : RdB w A n l) {k : Nat} (hk : k ≤ n) (hc : n ≤ c) : RdB w (if c = k then A else A.map (·.add k)) (n - k) (l.drop k) := by
  have := Rd.drop_ h hk hc
  rwa [Nat.mul_one, ← bvs_drop] at this

theorem wrap_u64_lt (n : Int) : 0 ≤ IntKind.u64.wrap n ∧ IntKind.u64.wrap n < 18446744073709551616 := by
  rw [IntKind.wrap_u64]; omega

theorem umod (x m : Int) (h0 : 0 < m) (h1 : m ≤ 4611686018427387904) : ∃ k : Nat, (k : Int) < m ∧ wrap64 ((IntKind.u64.wrap x).tmod m) = (k : Int) := by
  have hx := (wrap_u64_lt x).1
  generalize IntKind.u64.wrap x = q at hx
  have e : q.tmod m = q % m := Int.tmod_eq_emod_of_nonneg hx
  have l1 := Int.emod_nonneg q (b := m) (by omega)
  have l2 := Int.emod_lt_of_pos q h0
  refine ⟨(q % m).toNat, by omega, ?_⟩
  rw [e, IntWalk.wrap64_in _ ⟨by omega, by omega⟩]
  omega

def CutRel (w0 : World) (p : Nat) (SA : Option Addr) (m sc : Nat) (es : List OpE) (wr : World) : Prop :=
  ∃ A D, DS2 w0 wr p A D SA m sc es ∧ D.room = 5000

/-- What stands behind the cut, the append and the sync: the disk holds l again; the copy B5 of its bytes lies apart. -/
def CutPost (w0 : World) (p : Nat) (B5 : Option Addr) (b5 : Nat) (l : List UInt8) (wx : World) : Prop :=
  ∃ A' c', Dk wx p A' c' ⟨l, l.length, 5000, false⟩ ∧ OwB wx 5 B5 l.length b5 l ∧ (∀ k, fp B5 k → ¬ dkf p A' k) ∧ (∀ k, fp A' k → w0.heap.size ≤ k) ∧ Mod none_ w0 wx

theorem nw_apart {w : World} {A A' B : Option Addr} {p : Nat} (h : Nw w A A') (hB : ∀ k, fp B k → ¬ dkf p A k) (hlt : ∀ k, fp B k → k < w.heap.size) : ∀ k, fp B k → ¬ dkf p A' k := by
  rintro k hk (rfl | hf)
  · exact hB _ hk (.inl rfl)
  · rcases h with rfl | h
    · exact hB k hk (.inr hf)
    · obtain ⟨a, ha, rfl⟩ := hf
      have h1 := h a ha
      have h2 := hlt _ hk
      omega

set_option maxRecDepth 100000 in
set_option maxHeartbeats 8000000 in
theorem cuts_walk (w : World) (at_ : Int) (A : Option Addr) (n d : Nat) (es : List OpE) (h : Scr w w.heap.size A n es) (hn : n ≤ d) (hd : d ≤ 140737488351232) :
    Calls Try.prog 6 #[.slice A n d, .int .i64 at_] w fun e w' => e = .returned (.bool true) ∧ Below w.heap.size w w' := by
  have H := Lib.hid h
  clear h
  go_enter Try.func6, Try.ntmps6
  go_wp2_with fail
  refine (lives_ok _).mono ?_
  rintro e w1 ⟨rfl, hm1⟩
  replace hm1 := Lib.hid hm1
  go_wp2_with fail
  refine (disk_new 5000 _).mono ?_
  rintro e w2 ⟨rfl, hd2, hm2⟩
  replace hd2 := Lib.hid hd2
  have hpw : w.heap.size ≤ w1.heap.size := hm1.out.size
  replace hm2 := Lib.hid (hm1.out.trans hm2)
  go_wp2_with fail
  refine (early_ok _ A n d es w.heap.size (H.out.mod0 hm2.out) hn hd).mono ?_
  rintro e w3 ⟨v, rfl, hE⟩
  have hst : ∃ sc SA, v = .slice SA (min n 100) sc ∧ CutRel w w1.heap.size SA (min n 100) sc ((es.take (min n 100)).map OpE.cut) w3 := by
    obtain ⟨SA, sc, hv, ho, hA, hm, _⟩ := hE
    refine ⟨sc, SA, hv, none, _, ⟨⟨0, hd2.out.mod0 hm⟩, hpw, (fun k hk => by obtain ⟨a, ha, _⟩ := hk; cases ha), ⟨ho, fun e he => ?_⟩, hm2.out.trans hm⟩, rfl⟩
    rw [List.mem_map] at he
    obtain ⟨e', he', rfl⟩ := he
    exact OpE.ok_cut ((H.out.2 e' (List.mem_of_mem_take he')).mod0 (hm2.out.trans hm))
  obtain ⟨sc, SA, rfl, hst⟩ := hst
  have hml : min n 100 ≤ 100 := Nat.min_le_right _ _
  generalize min n 100 = m at hst hml ⊢
  generalize (es.take m).map OpE.cut = fs at hst
  replace hst := Lib.hid hst
  clear hE
  go_wp2_with fail
  go_loopw [6] (fun i wr => ∃ j : Nat, i = .int .i64 j ∧ j ≤ m ∧ CutRel w w1.heap.size SA m sc fs wr) (fun i _ => m - (intOf i).toNat)
  case atStart => exact ⟨0, rfl, Nat.zero_le _, hst.out⟩
  case round =>
    obtain ⟨j, rfl, hj, AD, D, hds, hroom⟩ := hrel
    by_cases hlt : j < m
    · obtain ⟨g, e, rfl, hej, hok, hc5⟩ := hds.scr.at_ hlt
      obtain ⟨dc, hdk⟩ := hds.dk
      obtain ⟨k0, k1, k2, k3, k4⟩ := hc5
      replace hds := Lib.hid hds
      replace hdk := Lib.hid hdk
      replace hok := Lib.hid hok
      replace hroom := Lib.hid hroom
      clear hej
      go_wp2_with fail
      refine (does_any _ _ _ _ w.heap.size e.B e.T e.Y e.o D hdk.out hok.out).mono ?_
      rintro e5 w5 ⟨rfl, hpost⟩
      obtain ⟨A5, hds5, hm5⟩ := hds.out.post hpost
      have hnext : CutRel w w1.heap.size (some ⟨g, 0, none⟩) m sc fs w5 := ⟨A5, _, hds5, (step_room D e.o).trans hroom.out⟩
      replace hnext := Lib.hid hnext
      clear hpost hds5 hm5 k0 k1 k2 k3 k4
      go_wp2
      go_roundw
      case rel => exact ⟨j + 1, by go_num, by omega, hnext.out⟩
      case measure => simp [intOf]; omega
    · obtain ⟨dc, hdk⟩ := hds.dk
      obtain ⟨l0, s0, r0, br⟩ := D
      simp only at hroom
      subst hroom
      have hp := hds.hp
      have hA := hds.hA
      have hmod := hds.mod
      replace hmod := Lib.hid hmod
      replace hdk := Lib.hid hdk
      replace hA := Lib.hid hA
      clear hds
      go_wp2_with fail
      refine (disk_up _ _ _ _ _ _ _ _ hdk.out 0 none 0 0 [] Rd.none_ (fun k hk => by obtain ⟨a, ha, _⟩ := hk; cases ha) (by decide)).mono ?_
      rintro e4 w4 ⟨rfl, hd4, hm4⟩
      obtain ⟨l, hl⟩ : ∃ l, l = (spoils_ s0 (upKeep l0 s0 0) l0 []).take (s0 + upKeep l0 s0 0) := ⟨_, rfl⟩
      obtain ⟨s, hs⟩ : ∃ s, s = s0 + upKeep l0 s0 0 := ⟨_, rfl⟩
      rw [← hl, ← hs] at hd4
      clear hl hs
      have hmm4 := Lib.hid (mod_up hmod.out hm4 hp hA.out)
      have f4 := hd4.2.2
      obtain ⟨f1, f2, f3⟩ := f4
      simp only at f1 f2 f3
      replace hd4 := Lib.hid hd4
      clear hm4
      go_wp2_with fail
      refine (disk_bytes _ _ _ _ _ hd4.out).mono ?_
      rintro e5 w5 ⟨B5, b5, rfl, hb5, hf5, hm5⟩
      have hmm5 := Lib.hid (hmm4.out.trans hm5)
      have hd5 := Lib.hid (hd4.out.mod0 hm5)
      have hap : ∀ k, fp B5 k → ¬ dkf w1.heap.size AD k := by
        rintro k ⟨a, ha, rfl⟩ hf
        have h5 := hf5 a ha
        have h6 := hd4.out.lt _ hf
        omega
      have q5 : l.length ≤ b5 := hb5.2.1
      simp only at hb5 ⊢
      replace hb5 := Lib.hid hb5
      replace hap := Lib.hid hap
      clear hm5 hf5
      obtain ⟨k, hk2, hke⟩ := umod at_ ((l.length : Int) + 1) (by omega) (by omega)
      replace hk2 : k ≤ l.length := by omega
      replace hke := Lib.hid hke
      go_upto_region 11 with fail
      go_cut [1] (fun s1 wx => s1 = .int .i64 (k : Int) ∧ wx = w5)
      case first =>
        go_wp2
        go_meet
        exact ⟨by rw [hke.out], rfl⟩
      case rest =>
        obtain ⟨rfl, rfl⟩ := hcut
        have hlk : (l.take k).length = k := by rw [List.length_take]; omega
        replace hlk := Lib.hid hlk
        have hd5' := Lib.hid (hd5.out.mod0 ((Mod.refl _ wc).drew))
        have hb5' := Lib.hid (Ow.mod0 hb5.out ((Mod.refl _ wc).drew))
        have u0 : (0 : Int) ≤ (k : Int) := by omega
        have u1 : (k : Int) ≤ (b5 : Int) := by omega
        go_upto_region 12 with fail
        go_cut [1, 58] (fun s1 s58 wx => s1 = .int .i64 (k : Int) ∧ s58 = .bool false ∧ Mod none_ w wx ∧ Dk wx w1.heap.size AD k ⟨l.take k, k, 5000, false⟩ ∧ OwB wx 5 B5 l.length b5 l)
        case first =>
          go_region_with (first
            | (go_at_call 18; refine (disk_cut _ _ _ _ _ _ _ k hd5'.out hk2).mono ?_; rintro e6 w6 ⟨rfl, hd6, hm6⟩; have hmm6 := Lib.hid (mod_up (hmm5.out.drew) hm6 hp hA.out); have hb6 : OwB w6 _ B5 l.length b5 l := Ow.mod hb5'.out hm6 hap.out; have v1 := conv_bytes0 B5 k b5 (l.take k) w6 (slice_take hb6.rd hk2); replace hb6 := Lib.hid hb6; replace hd6 := Lib.hid hd6; clear hm6)
            | (go_at_call 11; refine (disk_bytes _ _ _ _ _ hd6.out).mono ?_; rintro e7 w7 ⟨B7, b7, rfl, hb7, hf7, hm7⟩; simp only [hlk.out] at hb7 ⊢; have v2 := conv_bytes0 B7 k b7 (l.take k) w7 hb7.rd; have hb8 : OwB w7 _ B5 l.length b5 l := Ow.mod0 hb6.out hm7; have v3 := conv_bytes0 B5 k b5 (l.take k) w7 (slice_take hb8.rd hk2); replace hb8 := Lib.hid hb8; have hd7 := Lib.hid (hd6.out.mod0 hm7); have v4 := hd7.out.c1; have hmm7 := Lib.hid (hmm6.out.trans hm7); clear hm7 hf7 hb7)
            | (go_at_call 12; refine (disk_sure _ _ _ v4).mono ?_; rintro e8 w8 ⟨rfl, rfl⟩))
          all_goals
            go_wp2
            go_meet
            exact ⟨rfl, rfl, hmm7.out, hd7.out, hb8.out⟩
        case rest =>
          obtain ⟨rfl, rfl, hmm8, hd8, hb8⟩ := hcut
          have hX := slice_drop hb8.rd hk2 q5
          have hlen : (l.take k).length + (l.length - k) ≤ 5000 := by rw [hlk.out]; omega
          replace hX := Lib.hid hX
          replace hlen := Lib.hid hlen
          replace hb8 := Lib.hid hb8
          replace hd8 := Lib.hid hd8
          replace hmm8 := Lib.hid hmm8
          go_upto_region 14 with fail
          go_cut [8, 9] (fun s8 s9 wx => s8 = .int .i64 0 ∧ s9 = .int .i64 0 ∧ CutPost w w1.heap.size B5 b5 l wx)
          case first =>
            by_cases hbk : b5 = k
            all_goals
              have hX1 := hX.out
              first | rw [if_pos hbk] at hX1 | rw [if_neg hbk] at hX1
              replace hX1 := Lib.hid hX1
              try (have hbk2 : k = b5 := hbk.symm; have hz : l.length - k = 0 := (by omega); have hlen' := hlen.out; rw [hz] at hlen'; replace hlen := Lib.hid hlen'; have hX1' := hX1.out; rw [hz] at hX1'; replace hX1 := Lib.hid hX1'; clear hz hlen' hX1'; subst hbk2)
              go_wp2_with fail
              (with_reducible refine (disk_append _ _ _ _ _ _ _ hd8.out _ _ _ (l.drop k) hX1.out hlen.out).mono ?_)
              rintro e9 w9 ⟨rfl, A9, ⟨c9, hd9⟩, hn9, hm9⟩
              rw [List.take_append_drop] at hd9
              have hA9 := Lib.hid (nw_dkf hn9 hA.out hmm8.out.size)
              have hap9 := Lib.hid (nw_apart hn9 hap.out hb8.out.lt)
              have hmm9 := Lib.hid (mod_up hmm8.out hm9 hp hA.out)
              have hb9 := Lib.hid (Ow.mod hb8.out hm9 hap.out)
              replace hd9 := Lib.hid hd9
              clear hn9 hm9
              go_wp2_with fail
              refine (disk_sync _ _ _ _ _ _ _ hd9.out).mono ?_
              rintro e10 w10 ⟨rfl, hd10, hm10⟩
              replace hm10 := Lib.hid hm10
              replace hd10 := Lib.hid hd10
              go_wp2
              go_meet
              exact ⟨rfl, rfl, A9, c9, hd10.out, Ow.mod hb9.out hm10.out hap9.out, hap9.out, hA9.out, mod_up hmm9.out hm10.out hp hA9.out⟩
          case rest =>
            obtain ⟨rfl, rfl, A9, c9, hd9, hb9, hap9, hA9, hmm9⟩ := hcut
            go_wp2_with fail
            refine (disk_break _ _ _ _ _ hd9).mono ?_
            rintro e10 w10 ⟨rfl, hd10, hm10⟩
            replace hb9 := Ow.mod hb9 hm10 hap9
            replace hmm9 := mod_up hmm9 hm10 hp hA9
            replace hd10 : Dk w10 w1.heap.size A9 c9 ⟨l, l.length, 5000, true⟩ := hd10
            replace hd10 := Lib.hid hd10
            replace hb9 := Lib.hid hb9
            replace hmm9 := Lib.hid hmm9
            replace hap9 := Lib.hid hap9
            replace hA9 := Lib.hid hA9
            clear hm10 hd9
            go_wp2_with fail
            refine (disk_up _ _ _ _ _ _ _ _ hd10.out 0 none 0 0 [] Rd.none_ (fun k hk => by obtain ⟨a, ha, _⟩ := hk; cases ha) (by decide)).mono ?_
            rintro e11 w11 ⟨rfl, hd11, hm11⟩
            have hk0 : upKeep l l.length 0 = 0 := by unfold upKeep; omega
            rw [hk0] at hd11
            have hd12 : Dk w11 w1.heap.size A9 c9 ⟨l, l.length, 5000, false⟩ := by
              have e : (spoils_ l.length 0 l []).take (l.length + 0) = l := by simp [spoils_]
              rw [e] at hd11; exact hd11
            have hb11 := Lib.hid (Ow.mod hb9.out hm11 hap9.out)
            have hmm11 := Lib.hid (mod_up hmm9.out hm11 hp hA9.out)
            replace hd12 := Lib.hid hd12
            clear hm11 hd11 hk0
            have hdd := Lib.hid (hd12.out.mod0 ((Mod.refl _ w11).drew))
            have v1 := conv_bytes0 B5 l.length b5 l w11.drew hb11.out.rd
            have hlc : ((l.length + 1 : Nat) : Int) = (l.length : Int) + 1 := by omega
            replace hlc := Lib.hid hlc
            go_upto_region 17 with fail
            clear H hm1 hd2 hpw hm2 hml hst hj hlt hmod hdk hA hmm4 f1 f3 hd4 q5 hap hk2 hke hlk hX hlen hb8 hd8 hmm8 hd10 hb9 hmm9 hn hd hd12
            have hw1 : IntKind.i64.wrap ((l.length : Int) + 1) = (l.length : Int) + 1 := IntWalk.i64_in _ (by omega)
            have hS0 : Hid (OwB w11.drew 5 B5 l.length b5 l) := Lib.hid (Ow.mod0 hb11.out ((Mod.refl none_ w11).drew))
            have vS := fun W (h : Hid (OwB W 5 B5 l.length b5 l)) => conv_bytes0 B5 l.length b5 l W h.out.rd
            refine wp_region_held_drew (S := fun W => Hid (OwB W 5 B5 l.length b5 l)) (by kernel_rfl) hS0 (fun hHeld => ?_)
            refine wpAnyH_take (i := 0) (v := ?_) rfl (by kernel_rfl) (by kernel_rfl) (by kernel_rfl) (fun _ _ _ h => h) (Or.inl ⟨by rfl, ?_⟩) (by assumption) ?_
            rotate_left
            · intro W hSw; (try dsimp only at hSw); go_simp; (try with_reducible rfl)
            try simp only [Act.put, List.getElem_toArray, List.getElem_cons_zero, List.getElem_cons_succ, List.setIfInBounds_toArray, List.set_cons_zero, List.set_cons_succ]
            refine wpAnyH_take (i := 1) (v := ?_) rfl (by kernel_rfl) (by kernel_rfl) (by kernel_rfl) (fun _ _ _ h => h) (Or.inl ⟨by rfl, ?_⟩) (by assumption) ?_
            rotate_left
            · intro W hSw; (try dsimp only at hSw); go_simp; (try with_reducible rfl)
            try simp only [Act.put, List.getElem_toArray, List.getElem_cons_zero, List.getElem_cons_succ, List.setIfInBounds_toArray, List.set_cons_zero, List.set_cons_succ]
            refine wpAnyH_take (i := 2) (v := ?_) rfl (by kernel_rfl) (by kernel_rfl) (by kernel_rfl) (fun _ _ _ h => h) (Or.inl ⟨by rfl, ?_⟩) (by assumption) ?_
            rotate_left
            · intro W hSw; (try dsimp only at hSw); go_simp; (try with_reducible rfl)
            try simp only [Act.put, List.getElem_toArray, List.getElem_cons_zero, List.getElem_cons_succ, List.setIfInBounds_toArray, List.set_cons_zero, List.set_cons_succ]
            refine wpAnyH_take (i := 3) (v := ?_) rfl (by kernel_rfl) (by kernel_rfl) (by kernel_rfl) (fun _ _ _ h => h) (Or.inl ⟨by rfl, ?_⟩) (by assumption) ?_
            rotate_left
            · intro W hSw; (try dsimp only at hSw); go_simp; (try with_reducible rfl)
            try simp only [Act.put, List.getElem_toArray, List.getElem_cons_zero, List.getElem_cons_succ, List.setIfInBounds_toArray, List.set_cons_zero, List.set_cons_succ]
            refine wpAnyH_take (i := 4) (v := ?_) rfl (by kernel_rfl) (by kernel_rfl) (by kernel_rfl) (fun _ _ _ h => h) (Or.inl ⟨by rfl, ?_⟩) (by assumption) ?_
            rotate_left
            · intro W hSw; (try dsimp only at hSw); go_simp; (try with_reducible rfl)
            try simp only [Act.put, List.getElem_toArray, List.getElem_cons_zero, List.getElem_cons_succ, List.setIfInBounds_toArray, List.set_cons_zero, List.set_cons_succ]
            refine wpAnyH_take (i := 5) (v := ?_) rfl (by kernel_rfl) (by kernel_rfl) (by kernel_rfl) (fun _ _ _ h => h) (Or.inl ⟨by rfl, ?_⟩) (by assumption) ?_
            rotate_left
            · intro W hSw; (try dsimp only at hSw); go_simp; (try with_reducible rfl)
            try simp only [Act.put, List.getElem_toArray, List.getElem_cons_zero, List.getElem_cons_succ, List.setIfInBounds_toArray, List.set_cons_zero, List.set_cons_succ]
            refine wpAnyH_take (i := 6) (v := ?_) rfl (by kernel_rfl) (by kernel_rfl) (by kernel_rfl) (fun _ _ _ h => h) (Or.inl ⟨by rfl, ?_⟩) (by assumption) ?_
            rotate_left
            · intro W hSw; (try dsimp only at hSw); go_simp; (try with_reducible rfl)
            try simp only [Act.put, List.getElem_toArray, List.getElem_cons_zero, List.getElem_cons_succ, List.setIfInBounds_toArray, List.set_cons_zero, List.set_cons_succ]
            refine wpAnyH_take (i := 7) (v := ?_) rfl (by kernel_rfl) (by kernel_rfl) (by kernel_rfl) (fun _ _ _ h => h) (Or.inl ⟨by rfl, ?_⟩) (by assumption) ?_
            rotate_left
            · intro W hSw; (try dsimp only at hSw); go_simp; (try with_reducible rfl)
            try simp only [Act.put, List.getElem_toArray, List.getElem_cons_zero, List.getElem_cons_succ, List.setIfInBounds_toArray, List.set_cons_zero, List.set_cons_succ]
            refine wpAnyH_take (i := 10) (v := ?_) rfl (by kernel_rfl) (by kernel_rfl) (by kernel_rfl) (fun _ _ _ h => h) (Or.inl ⟨by rfl, ?_⟩) (by assumption) ?_
            rotate_left
            · intro W hSw; (try dsimp only at hSw); go_simp; (try with_reducible rfl)
            try simp only [Act.put, List.getElem_toArray, List.getElem_cons_zero, List.getElem_cons_succ, List.setIfInBounds_toArray, List.set_cons_zero, List.set_cons_succ]
            refine wpAnyH_take (i := 11) (v := ?_) rfl (by kernel_rfl) (by kernel_rfl) (by kernel_rfl) (fun _ _ _ h => h) (Or.inl ⟨by rfl, ?_⟩) (by assumption) ?_
            rotate_left
            · intro W hSw; (try dsimp only at hSw); go_simp; (try with_reducible rfl)
            try simp only [Act.put, List.getElem_toArray, List.getElem_cons_zero, List.getElem_cons_succ, List.setIfInBounds_toArray, List.set_cons_zero, List.set_cons_succ]
            refine wpAnyH_ready (rs := [8]) (by kernel_rfl) (by simp) ?_
            refine AllReadyH.cons rfl (fun K hK => ?_) AllReadyH.nil
            go_simp
            (with_reducible refine (disk_bytes _ _ _ _ _ hdd.out).mono ?_); rintro e13 w13 ⟨B13, b13, rfl, hb13, hf13, hm13⟩
            have y1 := conv_bytes0 B13 l.length b13 l w13 hb13.rd
            have hb14 : Hid (OwB w13 5 B5 l.length b5 l) := Lib.hid (Ow.mod0 (w := w11.drew) hb11.out hm13)
            have hd14 := Lib.hid (hdd.out.mod0 hm13); have hmm14 := Lib.hid (hmm11.out.drew.trans hm13); clear hm13 hf13 hb13
            go_wp2_with fail
            refine hK.out _ _ hb14 (fun hHeld => ?_)
            clear hK K
            try simp only [Act.put, List.getElem_toArray, List.getElem_cons_zero, List.getElem_cons_succ, List.setIfInBounds_toArray, List.set_cons_zero, List.set_cons_succ]
            refine wpAnyH_ready (rs := [9]) (by kernel_rfl) (by simp) ?_
            refine AllReadyH.cons rfl (fun K hK => ?_) AllReadyH.nil
            go_simp
            refine hK.out _ _ hb14 (fun hHeld => ?_)
            clear hK K
            try simp only [Act.put, List.getElem_toArray, List.getElem_cons_zero, List.getElem_cons_succ, List.setIfInBounds_toArray, List.set_cons_zero, List.set_cons_succ]
            refine wpAnyH_take (i := 12) (v := ?_) rfl (by kernel_rfl) (by kernel_rfl) (by kernel_rfl) (fun _ _ _ h => h) (Or.inl ⟨by rfl, ?_⟩) (by assumption) ?_
            rotate_left
            · intro W hSw; (try dsimp only at hSw); go_simp; (try with_reducible rfl)
            try simp only [Act.put, List.getElem_toArray, List.getElem_cons_zero, List.getElem_cons_succ, List.setIfInBounds_toArray, List.set_cons_zero, List.set_cons_succ]
            refine wpAnyH_take (i := 13) (v := ?_) rfl (by kernel_rfl) (by kernel_rfl) (by kernel_rfl) (fun _ _ _ h => h) (Or.inl ⟨by rfl, ?_⟩) (by assumption) ?_
            rotate_left
            · intro W hSw; (try dsimp only at hSw); go_simp; (try with_reducible rfl)
            try simp only [Act.put, List.getElem_toArray, List.getElem_cons_zero, List.getElem_cons_succ, List.setIfInBounds_toArray, List.set_cons_zero, List.set_cons_succ]
            refine wpAnyH_take (i := 14) (v := ?_) rfl (by kernel_rfl) (by kernel_rfl) (by kernel_rfl) (fun _ _ _ h => h) (Or.inl ⟨by rfl, ?_⟩) (by assumption) ?_
            rotate_left
            · intro W hSw; (try dsimp only at hSw); go_simp; (try with_reducible rfl)
            try simp only [Act.put, List.getElem_toArray, List.getElem_cons_zero, List.getElem_cons_succ, List.setIfInBounds_toArray, List.set_cons_zero, List.set_cons_succ]
            refine wpAnyH_take (i := 15) (v := ?_) rfl (by kernel_rfl) (by kernel_rfl) (by kernel_rfl) (fun _ _ _ h => h) (Or.inl ⟨by rfl, ?_⟩) (by assumption) ?_
            rotate_left
            · intro W hSw; (try dsimp only at hSw); go_simp; (try with_reducible rfl)
            try simp only [Act.put, List.getElem_toArray, List.getElem_cons_zero, List.getElem_cons_succ, List.setIfInBounds_toArray, List.set_cons_zero, List.set_cons_succ]
            refine wpAnyH_take (i := 16) (v := ?_) rfl (by kernel_rfl) (by kernel_rfl) (by kernel_rfl) (fun _ _ _ h => h) (Or.inl ⟨by rfl, ?_⟩) (by assumption) ?_
            rotate_left
            · intro W hSw; (try dsimp only at hSw); go_simp; (try with_reducible rfl)
            try simp only [Act.put, List.getElem_toArray, List.getElem_cons_zero, List.getElem_cons_succ, List.setIfInBounds_toArray, List.set_cons_zero, List.set_cons_succ]
            refine wpAnyH_take (i := 17) (v := ?_) rfl (by kernel_rfl) (by kernel_rfl) (by kernel_rfl) (fun _ _ _ h => h) (Or.inl ⟨by rfl, ?_⟩) (by assumption) ?_
            rotate_left
            · intro W hSw; (try dsimp only at hSw); go_simp; (try with_reducible rfl)
            try simp only [Act.put, List.getElem_toArray, List.getElem_cons_zero, List.getElem_cons_succ, List.setIfInBounds_toArray, List.set_cons_zero, List.set_cons_succ]
            refine wpAnyH_take (i := 18) (v := ?_) rfl (by kernel_rfl) (by kernel_rfl) (by kernel_rfl) (fun _ _ _ h => h) (Or.inl ⟨by rfl, ?_⟩) (by assumption) ?_
            rotate_left
            · intro W hSw; (try dsimp only at hSw); go_simp; (try with_reducible rfl)
            try simp only [Act.put, List.getElem_toArray, List.getElem_cons_zero, List.getElem_cons_succ, List.setIfInBounds_toArray, List.set_cons_zero, List.set_cons_succ]
            refine wpAnyH_ready (rs := [19]) (by kernel_rfl) (by simp) ?_
            refine AllReadyH.cons rfl (fun K hK => ?_) AllReadyH.nil
            go_simp
            (with_reducible refine (disk_cut_out _ _ _ _ _ _ _ ((l.length : Int) + 1) hd14.out (.inr (by omega))).mono ?_); rintro e15 w15 ⟨rfl, rfl⟩
            go_wp2_with fail
            refine hK.out _ _ hb14 (fun hHeld => ?_)
            clear hK K
            try simp only [Act.put, List.getElem_toArray, List.getElem_cons_zero, List.getElem_cons_succ, List.setIfInBounds_toArray, List.set_cons_zero, List.set_cons_succ]
            refine wpAnyH_take (i := 20) (v := ?_) rfl (by kernel_rfl) (by kernel_rfl) (by kernel_rfl) (fun _ _ _ h => h) (Or.inl ⟨by rfl, ?_⟩) (by assumption) ?_
            rotate_left
            · intro W hSw; (try dsimp only at hSw); go_simp; (try with_reducible rfl)
            try simp only [Act.put, List.getElem_toArray, List.getElem_cons_zero, List.getElem_cons_succ, List.setIfInBounds_toArray, List.set_cons_zero, List.set_cons_succ]
            refine wpAnyH_take (i := 21) (v := ?_) rfl (by kernel_rfl) (by kernel_rfl) (by kernel_rfl) (fun _ _ _ h => h) (Or.inl ⟨by rfl, ?_⟩) (by assumption) ?_
            rotate_left
            · intro W hSw; (try dsimp only at hSw); go_simp; (try with_reducible rfl)
            try simp only [Act.put, List.getElem_toArray, List.getElem_cons_zero, List.getElem_cons_succ, List.setIfInBounds_toArray, List.set_cons_zero, List.set_cons_succ]
            refine wpAnyH_take (i := 22) (v := ?_) rfl (by kernel_rfl) (by kernel_rfl) (by kernel_rfl) (fun _ _ _ h => h) (Or.inl ⟨by rfl, ?_⟩) (by assumption) ?_
            rotate_left
            · intro W hSw; (try dsimp only at hSw); go_simp; (try with_reducible rfl)
            try simp only [Act.put, List.getElem_toArray, List.getElem_cons_zero, List.getElem_cons_succ, List.setIfInBounds_toArray, List.set_cons_zero, List.set_cons_succ]
            refine wpAnyH_take (i := 23) (v := ?_) rfl (by kernel_rfl) (by kernel_rfl) (by kernel_rfl) (fun _ _ _ h => h) (Or.inl ⟨by rfl, ?_⟩) (by assumption) ?_
            rotate_left
            · intro W hSw; (try dsimp only at hSw); go_simp; (try with_reducible rfl)
            try simp only [Act.put, List.getElem_toArray, List.getElem_cons_zero, List.getElem_cons_succ, List.setIfInBounds_toArray, List.set_cons_zero, List.set_cons_succ]
            refine wpAnyH_take (i := 24) (v := ?_) rfl (by kernel_rfl) (by kernel_rfl) (by kernel_rfl) (fun _ _ _ h => h) (Or.inl ⟨by rfl, ?_⟩) (by assumption) ?_
            rotate_left
            · intro W hSw; (try dsimp only at hSw); go_simp; (try with_reducible rfl)
            try simp only [Act.put, List.getElem_toArray, List.getElem_cons_zero, List.getElem_cons_succ, List.setIfInBounds_toArray, List.set_cons_zero, List.set_cons_succ]
            refine wpAnyH_take (i := 25) (v := ?_) rfl (by kernel_rfl) (by kernel_rfl) (by kernel_rfl) (fun _ _ _ h => h) (Or.inl ⟨by rfl, ?_⟩) (by assumption) ?_
            rotate_left
            · intro W hSw; (try dsimp only at hSw); go_simp; (try with_reducible rfl)
            try simp only [Act.put, List.getElem_toArray, List.getElem_cons_zero, List.getElem_cons_succ, List.setIfInBounds_toArray, List.set_cons_zero, List.set_cons_succ]
            refine wpAnyH_ready (rs := [26]) (by kernel_rfl) (by simp) ?_
            refine AllReadyH.cons rfl (fun K hK => ?_) AllReadyH.nil
            go_simp
            (with_reducible refine (disk_cut _ _ _ _ _ _ _ l.length hd14.out (Nat.le_refl _)).mono ?_); rintro e16 w16 ⟨rfl, hd16, hm16⟩; rw [List.take_length] at hd16
            have hb16 : Hid (OwB w16 5 B5 l.length b5 l) := Lib.hid (Ow.mod hb14.out hm16 hap9.out)
            have hmm16 := Lib.hid (mod_up hmm14.out hm16 hp hA9.out); replace hd16 := Lib.hid hd16; clear hm16
            go_wp2_with fail
            refine hK.out _ _ hb16 (fun hHeld => ?_)
            clear hK K
            try simp only [Act.put, List.getElem_toArray, List.getElem_cons_zero, List.getElem_cons_succ, List.setIfInBounds_toArray, List.set_cons_zero, List.set_cons_succ]
            refine wpAnyH_take (i := 27) (v := ?_) rfl (by kernel_rfl) (by kernel_rfl) (by kernel_rfl) (fun _ _ _ h => h) (Or.inl ⟨by rfl, ?_⟩) (by assumption) ?_
            rotate_left
            · intro W hSw; (try dsimp only at hSw); go_simp; (try with_reducible rfl)
            try simp only [Act.put, List.getElem_toArray, List.getElem_cons_zero, List.getElem_cons_succ, List.setIfInBounds_toArray, List.set_cons_zero, List.set_cons_succ]
            refine wpAnyH_take (i := 28) (v := ?_) rfl (by kernel_rfl) (by kernel_rfl) (by kernel_rfl) (fun _ _ _ h => h) (Or.inl ⟨by rfl, ?_⟩) (by assumption) ?_
            rotate_left
            · intro W hSw; (try dsimp only at hSw); go_simp; (try with_reducible rfl)
            try simp only [Act.put, List.getElem_toArray, List.getElem_cons_zero, List.getElem_cons_succ, List.setIfInBounds_toArray, List.set_cons_zero, List.set_cons_succ]
            refine wpAnyH_take (i := 29) (v := ?_) rfl (by kernel_rfl) (by kernel_rfl) (by kernel_rfl) (fun _ _ _ h => h) (Or.inl ⟨by rfl, ?_⟩) (by assumption) ?_
            rotate_left
            · intro W hSw; (try dsimp only at hSw); go_simp; (try with_reducible rfl)
            try simp only [Act.put, List.getElem_toArray, List.getElem_cons_zero, List.getElem_cons_succ, List.setIfInBounds_toArray, List.set_cons_zero, List.set_cons_succ]
            refine wpAnyH_take (i := 30) (v := ?_) rfl (by kernel_rfl) (by kernel_rfl) (by kernel_rfl) (fun _ _ _ h => h) (Or.inl ⟨by rfl, ?_⟩) (by assumption) ?_
            rotate_left
            · intro W hSw; (try dsimp only at hSw); go_simp; (try with_reducible rfl)
            try simp only [Act.put, List.getElem_toArray, List.getElem_cons_zero, List.getElem_cons_succ, List.setIfInBounds_toArray, List.set_cons_zero, List.set_cons_succ]
            refine wpAnyH_take (i := 33) (v := ?_) rfl (by kernel_rfl) (by kernel_rfl) (by kernel_rfl) (fun _ _ _ h => h) (Or.inl ⟨by rfl, ?_⟩) (by assumption) ?_
            rotate_left
            · intro W hSw; (try dsimp only at hSw); go_simp; (try with_reducible rfl)
            try simp only [Act.put, List.getElem_toArray, List.getElem_cons_zero, List.getElem_cons_succ, List.setIfInBounds_toArray, List.set_cons_zero, List.set_cons_succ]
            refine wpAnyH_take (i := 34) (v := ?_) rfl (by kernel_rfl) (by kernel_rfl) (by kernel_rfl) (fun _ _ _ h => h) (Or.inl ⟨by rfl, ?_⟩) (by assumption) ?_
            rotate_left
            · intro W hSw; (try dsimp only at hSw); go_simp; (try with_reducible rfl)
            try simp only [Act.put, List.getElem_toArray, List.getElem_cons_zero, List.getElem_cons_succ, List.setIfInBounds_toArray, List.set_cons_zero, List.set_cons_succ]
            refine wpAnyH_ready (rs := [31]) (by kernel_rfl) (by simp) ?_
            refine AllReadyH.cons rfl (fun K hK => ?_) AllReadyH.nil
            go_simp
            (with_reducible refine (disk_bytes _ _ _ _ _ hd16.out).mono ?_); rintro e17 w17 ⟨B17, b17, rfl, hb17, hf17, hm17⟩
            have x1 := conv_bytes0 B17 l.length b17 l w17 hb17.rd
            have hb18 : Hid (OwB w17 5 B5 l.length b5 l) := Lib.hid (Ow.mod0 hb16.out hm17); have hmm17 := Lib.hid (hmm16.out.trans hm17); clear hm17 hf17 hb17
            go_wp2_with fail
            refine hK.out _ _ hb18 (fun hHeld => ?_)
            clear hK K
            try simp only [Act.put, List.getElem_toArray, List.getElem_cons_zero, List.getElem_cons_succ, List.setIfInBounds_toArray, List.set_cons_zero, List.set_cons_succ]
            refine wpAnyH_ready (rs := [32]) (by kernel_rfl) (by simp) ?_
            refine AllReadyH.cons rfl (fun K hK => ?_) AllReadyH.nil
            go_simp
            refine hK.out _ _ hb18 (fun hHeld => ?_)
            clear hK K
            try simp only [Act.put, List.getElem_toArray, List.getElem_cons_zero, List.getElem_cons_succ, List.setIfInBounds_toArray, List.set_cons_zero, List.set_cons_succ]
            refine wpAnyH_take (i := 35) (v := ?_) rfl (by kernel_rfl) (by kernel_rfl) (by kernel_rfl) (fun _ _ _ h => h) (Or.inl ⟨by rfl, ?_⟩) (by assumption) ?_
            rotate_left
            · intro W hSw; (try dsimp only at hSw); go_simp; (try with_reducible rfl)
            try simp only [Act.put, List.getElem_toArray, List.getElem_cons_zero, List.getElem_cons_succ, List.setIfInBounds_toArray, List.set_cons_zero, List.set_cons_succ]
            refine wpAnyH_take (i := 36) (v := ?_) rfl (by kernel_rfl) (by kernel_rfl) (by kernel_rfl) (fun _ _ _ h => h) (Or.inl ⟨by rfl, ?_⟩) (by assumption) ?_
            rotate_left
            · intro W hSw; (try dsimp only at hSw); go_simp; (try with_reducible rfl)
            try simp only [Act.put, List.getElem_toArray, List.getElem_cons_zero, List.getElem_cons_succ, List.setIfInBounds_toArray, List.set_cons_zero, List.set_cons_succ]
            refine wpAnyH_take (i := 37) (v := ?_) rfl (by kernel_rfl) (by kernel_rfl) (by kernel_rfl) (fun _ _ _ h => h) (Or.inl ⟨by rfl, ?_⟩) (by assumption) ?_
            rotate_left
            · intro W hSw; (try dsimp only at hSw); go_simp; (try with_reducible rfl)
            try simp only [Act.put, List.getElem_toArray, List.getElem_cons_zero, List.getElem_cons_succ, List.setIfInBounds_toArray, List.set_cons_zero, List.set_cons_succ]
            refine wpAnyH_done (by kernel_rfl) ?_ _
            go_wp2
            go_ret
            exact ⟨rfl, hmm17.out.below0⟩
end Go.Proofs.Ytnemlmhmemndhaa
