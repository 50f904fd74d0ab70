/-
  Contracts of the statement's own functions over disks: kind, spoils, does. No condition.
-/
import Derived.Test.YtnemlmhmemndhaaDiskUp
import Derived.Deep.RegionLaw
namespace Go.Proofs.Ytnemlmhmemndhaa
set_option linter.unusedVariables false
open Go.RowKit

/-- A step of a script, as data. -/
structure OpM where
  k : Int
  n : Int
  b : List UInt8
  at_ : List Int
  by_ : List UInt8

def kd (k : Int) : Int := IntKind.u64.wrap k % 5
theorem kd_lt (k : Int) : 0 ≤ kd k ∧ kd k < 5 := by unfold kd; omega

/-- A slice's value: address, length, capacity. -/
structure SV where
  a : Option Addr
  n : Nat
  c : Nat
def SV.v (s : SV) : Value := .slice s.a s.n s.c
def opCells (o : OpM) (B T Y : SV) : Array Value := #[.int .i64 o.k, .int .i64 o.n, .slice B.a B.n B.c, .slice T.a T.n T.c, .slice Y.a Y.n Y.c]

/-- The slices of a step lie below block Bd, and hold what the step says. -/
structure OpAt (w : World) (Bd : Nat) (B T Y : SV) (o : OpM) : Prop where
  b : RdB w B.a B.n o.b
  t : Rd w 1 T.a T.n (ivs o.at_)
  y : RdB w Y.a Y.n o.by_
  lb : 0 < B.n → ∀ k, fp B.a k → k < Bd
  lt : 0 < T.n → ∀ k, fp T.a k → k < Bd
  ly : 0 < Y.n → ∀ k, fp Y.a k → k < Bd
  nb : B.n ≤ B.c ∧ B.c ≤ 140737488351232
  nt : T.n ≤ T.c ∧ T.c ≤ 140737488351232
  ny : Y.n ≤ Y.c ∧ Y.c ≤ 140737488351232

theorem OpAt.mod {F : Nat → Prop} {w w' : World} {Bd : Nat} {B T Y : SV} {o : OpM} (h : OpAt w Bd B T Y o) (hm : Mod F w w') (hF : ∀ k, F k → Bd ≤ k) : OpAt w' Bd B T Y o :=
  { h with
    b := h.b.mod' hm fun h0 k hk hf => by have := hF k hf; have := h.lb h0 k hk; omega
    t := h.t.mod' hm fun h0 k hk hf => by have := hF k hf; have := h.lt h0 k hk; omega
    y := h.y.mod' hm fun h0 k hk hf => by have := hF k hf; have := h.ly h0 k hk; omega }
theorem OpAt.mod0 {w w' : World} {Bd : Nat} {B T Y : SV} {o : OpM} (h : OpAt w Bd B T Y o) (hm : Mod none_ w w') : OpAt w' Bd B T Y o := h.mod hm fun _ hf => hf.elim

theorem op_kind (o : OpM) (B T Y : SV) (v : Int) (hv : kd o.k = v) (w : World) : Calls Try.prog 10 #[.agg (opCells o B T Y)] w fun e w' => e = .returned (.int .i64 v) ∧ Mod none_ w w' := by
  have hw : 0 ≤ IntKind.u64.wrap o.k := by rw [IntKind.wrap_u64]; omega
  have Hv : Hid (IntKind.u64.wrap o.k % 5 = v) := hv
  clear hv
  unfold opCells
  go_enter Try.func10, Try.ntmps10
  go_wp2
  go_ret
  exact ⟨ret_i Hv.out, (Mod.refl _ _).alloc _⟩

/-- What the spoils are. -/
def OpM.sp (o : OpM) : List (Int × UInt8) := (o.at_.zip o.by_).take 20

def SpRel (w : World) (o : OpM) (j : Nat) (v : Value) (wr : World) : Prop :=
  ∃ A c, v = .slice A j c ∧ Ow wr 49 2 A j c (spv (o.sp.take j)) ∧ (∀ k, fp A k → w.heap.size < k) ∧ Mod none_ w wr ∧ j ≤ o.sp.length

theorem spinfo : (Try.prog.info? 49).map (fun i => (i.zero, i.size, i.bytes)) = some (some (.agg #[.int .i64 0, .int .u8 0]), 2, 16) := by kernel_rfl

set_option maxHeartbeats 400000 in
theorem op_spoils (o : OpM) (B T Y : SV) (Bd : Nat) (w : World) (ho : OpAt w Bd B T Y o) : Calls Try.prog 22 #[.agg (opCells o B T Y)] w fun e w' =>
    ∃ v, e = .returned v ∧ SpRel w o o.sp.length v w' := by
  obtain ⟨i0, hi, hz0, hz1, hz2⟩ := info_parts spinfo
  have hT : o.at_.length = T.n := by have := ho.t.1; rw [ivs_length] at this; omega
  have hY : o.by_.length = Y.n := ho.y.len
  have hsl : o.sp.length = min 20 (min T.n Y.n) := by simp [OpM.sp, hT, hY]
  have Hsl := Lib.hid hsl
  have HT := Lib.hid hT
  have HY := Lib.hid hY
  have ht := ho.t
  have hy := ho.y
  have nt := ho.nt
  have ny := ho.ny
  clear hsl ho hT hY
  obtain ⟨Ta, Tn, Tc⟩ := T
  obtain ⟨Ya, Yn, Yc⟩ := Y
  unfold opCells
  simp only at nt ny ht hy
  go_enter Try.func22, Try.ntmps22
  go_wp2_with fail
  go_loopw [3, 4] (fun v i wr => ∃ j : Nat, i = .int .i64 j ∧ SpRel w o j v wr ∧ Blk wr w.heap.size 30 #[.int .i64 o.k, .int .i64 o.n, .slice B.a B.n B.c, .slice Ta Tn Tc, .slice Ya Yn Yc]) (fun _ i _ => o.sp.length - (intOf i).toNat)
  case atStart => exact ⟨0, rfl, ⟨none, 0, rfl, Ow.nil _ _ _, (fun k hk => by obtain ⟨a, ha, _⟩ := hk; cases ha), (Mod.refl _ w).alloc _, Nat.zero_le _⟩, Blk.new w _ _⟩
  case round =>
    obtain ⟨j, rfl, ⟨A, c, rfl, hown, hA, hm, hj⟩, hblk⟩ := hrel
    have c3 : wr.cell? ⟨w.heap.size, 3, none⟩ = some (.slice Ta Tn Tc) := hblk.cell_ rfl
    have c4 : wr.cell? ⟨w.heap.size, 4, none⟩ = some (.slice Ya Yn Yc) := hblk.cell_ rfl
    have Hown := Lib.hid hown
    have HA := Lib.hid hA
    have Hm := Lib.hid hm
    have Hblk := Lib.hid hblk
    clear hown hA hm hblk
    by_cases hlt : j < o.sp.length
    · have q1 : j < Tn := by have := Hsl.out; omega
      have q2 : j < Yn := by have := Hsl.out; omega
      have q3 : j < 20 := by have := Hsl.out; omega
      have q4 : j < o.at_.length := by have := HT.out; omega
      have q5 : j < o.by_.length := by have := HY.out; omega
      obtain ⟨tb, tof, rfl, htc⟩ := (ht.mod0 Hm.out).form (by omega) (by omega)
      obtain ⟨yb, yo, rfl, hyc⟩ := (hy.mod0 Hm.out).form (by omega) (by omega)
      have hct := htc j _ (ivs_get q4)
      have hcy := hyc j _ (bvs_get q5)
      have hspj : o.sp[j]? = some (o.at_[j], o.by_[j]) := by
        simp [OpM.sp, q3, q4, q5, List.getElem?_zip_eq_some]
      have Hspj := Lib.hid hspj
      generalize o.at_[j] = ax at hct Hspj
      generalize o.by_[j] = bx at hcy Hspj
      have l1 : w.heap.size < wr.heap.size := Hblk.out.lt
      have l2 : tb < wr.heap.size := World.block_lt_of_cell? wr ⟨tb, tof + j, none⟩ hct
      have l3 : yb < wr.heap.size := World.block_lt_of_cell? wr ⟨yb, yo + j, none⟩ hcy
      clear htc hyc hspj
      have z1 : (0 : Int) ≤ (j : Int) := by omega
      have z2 : (j : Int) < (Tn : Int) := by omega
      have z3 : (j : Int) < (Yn : Int) := by omega
      go_upto_region 5 with fail
      go_region_law ((refine step_append_ow (by rfl) (.tmp 23) (.tmp 35) 46 (by rfl) 49 i0 _ 2 16 Try.underlying46 hi hz0 hz1 hz2 rfl (by omega) A j c _ (by rfl) (Hown.out.mod0 (((Mod.refl none_ wr).drew).alloc (.cells #[.int .i64 ax, .int .u8 (bx.toNat : Int)] 49))) (some ⟨wr.heap.size, 0, none⟩) 1 1 [.int .i64 ax, .int .u8 (bx.toNat : Int)] (by rfl) (Ow.new _ 49 2 1 _ (by decide) rfl).rd (by simp [Value.oneCell']) (by omega) (by omega) ?_; intro A' c' w1 hown1 hmod1 hA1))
      all_goals
        have hm1 : Mod none_ w (wr.drew.alloc (.cells #[.int .i64 ax, .int .u8 (bx.toNat : Int)] 49)) := (Hm.out.drew).alloc _
        have hfA : ∀ k, k < w.heap.size + 1 → ¬ fp A k := fun k hk hf => by have := HA.out k hf; omega
        have hnext : SpRel w o (j + 1) (.slice A' (j + 1) c') w1 := by
          refine ⟨A', c', rfl, ?_, ?_, hm1.then hmod1 (fun i hi hf => hfA i (by omega) hf), hlt⟩
          · have e : spv (o.sp.take (j + 1)) = spv (o.sp.take j) ++ [.int .i64 ax, .int .u8 (bx.toNat : Int)] := by
              rw [List.take_add_one, Hspj.out]; simp [spv, bv]
            rw [e]; exact hown1
          · rintro k ⟨b, hb, rfl⟩
            rcases hA1 with rfl | rfl
            · exact HA.out _ ⟨b, hb, rfl⟩
            · cases hb; simp; omega
        have hblk1 := ((Hblk.out.drew).alloc (.cells #[.int .i64 ax, .int .u8 (bx.toNat : Int)] 49)).mod hmod1 (hfA _ (by omega))
        have Hnext := Lib.hid hnext
        have Hblk1 := Lib.hid hblk1
        clear hnext hblk1 hm1 hfA hown1 hmod1 hA1 c3 c4 hct hcy
        go_wp2
        go_roundw
        case rel => exact ⟨j + 1, by go_num, Hnext.out, Hblk1.out⟩
        case measure => simp [intOf]; omega
    · have hjn : j = o.sp.length := by omega
      have hend : SpRel w o o.sp.length (.slice A j c) wr := by
        rw [← hjn]; exact ⟨A, c, rfl, Hown.out, HA.out, Hm.out, by omega⟩
      have Hend := Lib.hid hend
      clear hend hjn
      by_cases p1 : j < Tn
      · by_cases p2 : j < Yn
        · have p3 : ¬ j < 20 := by have := Hsl.out; omega
          go_wp2
          go_ret
          exact ⟨_, rfl, Hend.out⟩
        · go_wp2
          go_ret
          exact ⟨_, rfl, Hend.out⟩
      · go_wp2
        go_ret
        exact ⟨_, rfl, Hend.out⟩

end Go.Proofs.Ytnemlmhmemndhaa
