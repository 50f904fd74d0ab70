import Derived.Test.YtfkfiokkjjnhiaaGreatUp5
import Derived.Deep.Cut
import Derived.Deep.RegionHeld3
import Derived.Deep.CutRange
set_option linter.unusedVariables false
set_option linter.unusedSimpArgs false
set_option maxHeartbeats 16000000
namespace Go.Proofs.YtfkfiokkjjnhiaaGreat
open Go.RowKit
theorem txt_len (l : List UInt8) : (txt l).size = l.length := by simp [txt, ByteArray.size]
def nameF : Value := .func (Fn.func 108) #[] #[]
set_option maxRecDepth 100000
theorem name1_ok (w : World) (o : Od) (L : SV) : Calls Tryz.prog 108 #[.agg #[.int .i64 o.c, .int .i64 o.s, .int .i64 o.k, .string (txt o.acct), .string (txt o.peer), .int .i64 o.sum, .slice L.a L.n L.c, .int .i64 o.per, .int .i64 o.hold, .string (txt o.note)]] w fun e w' => e = .returned (.bool (nameB o.acct)) ∧ Mod none_ w w' := by
 have cname := zH (fun W => name_ok W (txt o.acct))
 rw [show (txt o.acct).data.toList = o.acct from rfl] at cname
 go_enter Tryz.func108, Tryz.ntmps108
 go_wp2_with fail
 with_reducible refine (cname.out _).mono ?_
 rintro e w1 ⟨rfl, hm1⟩
 dsimp only
 have hmm := zH (((Mod.refl none_ w).alloc _).trans hm1)
 clear hm1
 go_wp2_with fail
 go_ret
 exact ⟨rfl, hmm.out⟩
def heldB (x : Int) : Bool := decide (1 ≤ x ∧ x ≤ 9999)
def periodB (x : Int) : Bool := decide (1 ≤ x ∧ x ≤ 1000)
def fits1 (o : Od) : Bool := nameB o.acct && decide (0 ≤ o.sum)
def fits2 (o : Od) : Bool := legsB o.legs && (periodB o.per && decide (o.note.length ≤ 20))
def fits3 (o : Od) : Bool := nameB o.acct && decide (0 < o.sum)
def fits4 (o : Od) : Bool := nameB o.acct && (nameB o.peer && (!decide (o.peer = o.acct) && (decide (0 < o.sum) && (heldB o.hold && periodB o.per))))
def fits5 (o : Od) : Bool := nameB o.acct && heldB o.hold
def fits6 (o : Od) : Bool := periodB o.per
theorem fits1_ok (w : World) (p : Nat) (hp : Blk w p 81 #[nameF]) (o : Od) (L : SV) (hO : OdM w o L) (hL : L.n ≤ 140737488355328) (hz : ∀ l ∈ o.legs, (txt l.n).size ≤ maxLen) :
  Calls Tryz.prog 111 #[.agg #[.int .i64 o.c, .int .i64 o.s, .int .i64 o.k, .string (txt o.acct), .string (txt o.peer), .int .i64 o.sum, .slice L.a L.n L.c, .int .i64 o.per, .int .i64 o.hold, .string (txt o.note)], .pointer (some ⟨p, 0, none⟩)] w fun e w' => e = .returned (.bool (fits1 o)) ∧ Mod none_ w w' := by
 have hsp : fits1 o = (nameB o.acct && decide (0 ≤ o.sum)) := rfl
 have k1 := zH (fun W => name1_ok W o L)
 have x0 := (hp.alloc (.cells #[.int .i64 o.c, .int .i64 o.s, .int .i64 o.k, .string (txt o.acct), .string (txt o.peer), .int .i64 o.sum, .slice L.a L.n L.c, .int .i64 o.per, .int .i64 o.hold, .string (txt o.note)] 40)).cell_ (i := 0) rfl
 unfold nameF at x0
 replace hp := zH hp
 have hmm := (Mod.refl none_ w).alloc (.cells #[.int .i64 o.c, .int .i64 o.s, .int .i64 o.k, .string (txt o.acct), .string (txt o.peer), .int .i64 o.sum, .slice L.a L.n L.c, .int .i64 o.per, .int .i64 o.hold, .string (txt o.note)] 40)
 have hB := Blk.new w 40 #[.int .i64 o.c, .int .i64 o.s, .int .i64 o.k, .string (txt o.acct), .string (txt o.peer), .int .i64 o.sum, .slice L.a L.n L.c, .int .i64 o.per, .int .i64 o.hold, .string (txt o.note)]
 replace hO := zH hO
 replace hsp := zH hsp
 replace hmm := zH hmm
 replace hB := zH hB
 go_enter Tryz.func111, Tryz.ntmps111
 go_wp2_with fail
 with_reducible refine (k1.out _).mono ?_
 rintro e w1 ⟨rfl, hm1⟩
 dsimp only
 replace hB := zH (hB.out.mod hm1 (fun h => h))
 replace hmm := zH (hmm.out.trans hm1)
 have qsum : w1.cell? ⟨w.heap.size, 5, none⟩ = some (.int .i64 o.sum) := hB.out.cell_ rfl
 have qpeer : w1.cell? ⟨w.heap.size, 4, none⟩ = some (.string (txt o.peer)) := hB.out.cell_ rfl
 have qacct : w1.cell? ⟨w.heap.size, 3, none⟩ = some (.string (txt o.acct)) := hB.out.cell_ rfl
 have qlegs : w1.cell? ⟨w.heap.size, 6, none⟩ = some (.slice L.a L.n L.c) := hB.out.cell_ rfl
 have qper : w1.cell? ⟨w.heap.size, 7, none⟩ = some (.int .i64 o.per) := hB.out.cell_ rfl
 have qhold : w1.cell? ⟨w.heap.size, 8, none⟩ = some (.int .i64 o.hold) := hB.out.cell_ rfl
 have qnote : w1.cell? ⟨w.heap.size, 9, none⟩ = some (.string (txt o.note)) := hB.out.cell_ rfl
 clear hm1
 go_wp2_with fail
 all_goals
  go_ret
  refine ⟨?_, hmm.out⟩
  rw [hsp.out]
  first | (simp_all [txt_len]; done) | (simp_all [txt_len]; omega)
theorem fits2_ok (w : World) (o : Od) (L : SV) (hO : OdM w o L) (hL : L.n ≤ 140737488355328) (hz : ∀ l ∈ o.legs, (txt l.n).size ≤ maxLen) :
  Calls Tryz.prog 113 #[.agg #[.int .i64 o.c, .int .i64 o.s, .int .i64 o.k, .string (txt o.acct), .string (txt o.peer), .int .i64 o.sum, .slice L.a L.n L.c, .int .i64 o.per, .int .i64 o.hold, .string (txt o.note)]] w fun e w' => e = .returned (.bool (fits2 o)) ∧ Mod none_ w w' := by
 have hsp : fits2 o = (legsB o.legs && (decide (1 ≤ o.per ∧ o.per ≤ 1000) && decide (o.note.length ≤ 20))) := rfl
 have kr := zH (fun W => period_ok W o.per)
 have kl := zH (fun W (h : Mod none_ w W) => legs_ok W L.a L.n L.c o.legs (hO.rd.mod0 h) hL hz)
 have hmm := (Mod.refl none_ w).alloc (.cells #[.int .i64 o.c, .int .i64 o.s, .int .i64 o.k, .string (txt o.acct), .string (txt o.peer), .int .i64 o.sum, .slice L.a L.n L.c, .int .i64 o.per, .int .i64 o.hold, .string (txt o.note)] 40)
 have hB := Blk.new w 40 #[.int .i64 o.c, .int .i64 o.s, .int .i64 o.k, .string (txt o.acct), .string (txt o.peer), .int .i64 o.sum, .slice L.a L.n L.c, .int .i64 o.per, .int .i64 o.hold, .string (txt o.note)]
 replace hO := zH hO
 replace hsp := zH hsp
 replace hmm := zH hmm
 replace hB := zH hB
 go_enter Tryz.func113, Tryz.ntmps113
 go_wp2_with fail
 with_reducible refine (kl.out _ hmm.out).mono ?_
 rintro e w1 ⟨rfl, hm1⟩
 dsimp only
 replace hB := zH (hB.out.mod hm1 (fun h => h))
 replace hmm := zH (hmm.out.trans hm1)
 have qsum : w1.cell? ⟨w.heap.size, 5, none⟩ = some (.int .i64 o.sum) := hB.out.cell_ rfl
 have qpeer : w1.cell? ⟨w.heap.size, 4, none⟩ = some (.string (txt o.peer)) := hB.out.cell_ rfl
 have qacct : w1.cell? ⟨w.heap.size, 3, none⟩ = some (.string (txt o.acct)) := hB.out.cell_ rfl
 have qlegs : w1.cell? ⟨w.heap.size, 6, none⟩ = some (.slice L.a L.n L.c) := hB.out.cell_ rfl
 have qper : w1.cell? ⟨w.heap.size, 7, none⟩ = some (.int .i64 o.per) := hB.out.cell_ rfl
 have qhold : w1.cell? ⟨w.heap.size, 8, none⟩ = some (.int .i64 o.hold) := hB.out.cell_ rfl
 have qnote : w1.cell? ⟨w.heap.size, 9, none⟩ = some (.string (txt o.note)) := hB.out.cell_ rfl
 clear hm1
 go_wp2_with fail
 ·skip
  with_reducible refine (kr.out _).mono ?_
  rintro e w1 ⟨rfl, rfl⟩
  dsimp only
  go_wp2_with fail
  all_goals
   go_ret
   refine ⟨?_, hmm.out⟩
   rw [hsp.out]
   first | (simp_all [txt_len]; done) | (simp_all [txt_len]; omega)
 all_goals
  go_ret
  refine ⟨?_, hmm.out⟩
  rw [hsp.out]
  first | (simp_all [txt_len]; done) | (simp_all [txt_len]; omega)
theorem fits3_ok (w : World) (p : Nat) (hp : Blk w p 81 #[nameF]) (o : Od) (L : SV) (hO : OdM w o L) (hL : L.n ≤ 140737488355328) (hz : ∀ l ∈ o.legs, (txt l.n).size ≤ maxLen) :
  Calls Tryz.prog 117 #[.agg #[.int .i64 o.c, .int .i64 o.s, .int .i64 o.k, .string (txt o.acct), .string (txt o.peer), .int .i64 o.sum, .slice L.a L.n L.c, .int .i64 o.per, .int .i64 o.hold, .string (txt o.note)], .pointer (some ⟨p, 0, none⟩)] w fun e w' => e = .returned (.bool (fits3 o)) ∧ Mod none_ w w' := by
 have hsp : fits3 o = (nameB o.acct && decide (0 < o.sum)) := rfl
 have k1 := zH (fun W => name1_ok W o L)
 have x0 := (hp.alloc (.cells #[.int .i64 o.c, .int .i64 o.s, .int .i64 o.k, .string (txt o.acct), .string (txt o.peer), .int .i64 o.sum, .slice L.a L.n L.c, .int .i64 o.per, .int .i64 o.hold, .string (txt o.note)] 40)).cell_ (i := 0) rfl
 unfold nameF at x0
 replace hp := zH hp
 have hmm := (Mod.refl none_ w).alloc (.cells #[.int .i64 o.c, .int .i64 o.s, .int .i64 o.k, .string (txt o.acct), .string (txt o.peer), .int .i64 o.sum, .slice L.a L.n L.c, .int .i64 o.per, .int .i64 o.hold, .string (txt o.note)] 40)
 have hB := Blk.new w 40 #[.int .i64 o.c, .int .i64 o.s, .int .i64 o.k, .string (txt o.acct), .string (txt o.peer), .int .i64 o.sum, .slice L.a L.n L.c, .int .i64 o.per, .int .i64 o.hold, .string (txt o.note)]
 replace hO := zH hO
 replace hsp := zH hsp
 replace hmm := zH hmm
 replace hB := zH hB
 go_enter Tryz.func117, Tryz.ntmps117
 go_wp2_with fail
 with_reducible refine (k1.out _).mono ?_
 rintro e w1 ⟨rfl, hm1⟩
 dsimp only
 replace hB := zH (hB.out.mod hm1 (fun h => h))
 replace hmm := zH (hmm.out.trans hm1)
 have qsum : w1.cell? ⟨w.heap.size, 5, none⟩ = some (.int .i64 o.sum) := hB.out.cell_ rfl
 have qpeer : w1.cell? ⟨w.heap.size, 4, none⟩ = some (.string (txt o.peer)) := hB.out.cell_ rfl
 have qacct : w1.cell? ⟨w.heap.size, 3, none⟩ = some (.string (txt o.acct)) := hB.out.cell_ rfl
 have qlegs : w1.cell? ⟨w.heap.size, 6, none⟩ = some (.slice L.a L.n L.c) := hB.out.cell_ rfl
 have qper : w1.cell? ⟨w.heap.size, 7, none⟩ = some (.int .i64 o.per) := hB.out.cell_ rfl
 have qhold : w1.cell? ⟨w.heap.size, 8, none⟩ = some (.int .i64 o.hold) := hB.out.cell_ rfl
 have qnote : w1.cell? ⟨w.heap.size, 9, none⟩ = some (.string (txt o.note)) := hB.out.cell_ rfl
 clear hm1
 go_wp2_with fail
 all_goals
  go_ret
  refine ⟨?_, hmm.out⟩
  rw [hsp.out]
  first | (simp_all [txt_len]; done) | (simp_all [txt_len]; omega)
theorem fits4_ok (w : World) (p : Nat) (hp : Blk w p 81 #[nameF]) (o : Od) (L : SV) (hO : OdM w o L) (hL : L.n ≤ 140737488355328) (hz : ∀ l ∈ o.legs, (txt l.n).size ≤ maxLen) :
  Calls Tryz.prog 119 #[.agg #[.int .i64 o.c, .int .i64 o.s, .int .i64 o.k, .string (txt o.acct), .string (txt o.peer), .int .i64 o.sum, .slice L.a L.n L.c, .int .i64 o.per, .int .i64 o.hold, .string (txt o.note)], .pointer (some ⟨p, 0, none⟩)] w fun e w' => e = .returned (.bool (fits4 o)) ∧ Mod none_ w w' := by
 have hsp : fits4 o = (nameB o.acct && (nameB o.peer && (!decide (o.peer = o.acct) && (decide (0 < o.sum) && (decide (1 ≤ o.hold ∧ o.hold ≤ 9999) && decide (1 ≤ o.per ∧ o.per ≤ 1000)))))) := rfl
 have k1 := zH (fun W => name1_ok W o L)
 have kp := zH (fun W => name_ok W (txt o.peer))
 rw [show (txt o.peer).data.toList = o.peer from rfl] at kp
 have kh := zH (fun W => held_ok W o.hold)
 have kr := zH (fun W => period_ok W o.per)
 have x0 := (hp.alloc (.cells #[.int .i64 o.c, .int .i64 o.s, .int .i64 o.k, .string (txt o.acct), .string (txt o.peer), .int .i64 o.sum, .slice L.a L.n L.c, .int .i64 o.per, .int .i64 o.hold, .string (txt o.note)] 40)).cell_ (i := 0) rfl
 unfold nameF at x0
 replace hp := zH hp
 have hmm := (Mod.refl none_ w).alloc (.cells #[.int .i64 o.c, .int .i64 o.s, .int .i64 o.k, .string (txt o.acct), .string (txt o.peer), .int .i64 o.sum, .slice L.a L.n L.c, .int .i64 o.per, .int .i64 o.hold, .string (txt o.note)] 40)
 have hB := Blk.new w 40 #[.int .i64 o.c, .int .i64 o.s, .int .i64 o.k, .string (txt o.acct), .string (txt o.peer), .int .i64 o.sum, .slice L.a L.n L.c, .int .i64 o.per, .int .i64 o.hold, .string (txt o.note)]
 replace hO := zH hO
 replace hsp := zH hsp
 replace hmm := zH hmm
 replace hB := zH hB
 go_enter Tryz.func119, Tryz.ntmps119
 go_wp2_with fail
 with_reducible refine (k1.out _).mono ?_
 rintro e w1 ⟨rfl, hm1⟩
 dsimp only
 replace hB := zH (hB.out.mod hm1 (fun h => h))
 replace hmm := zH (hmm.out.trans hm1)
 have qsum : w1.cell? ⟨w.heap.size, 5, none⟩ = some (.int .i64 o.sum) := hB.out.cell_ rfl
 have qpeer : w1.cell? ⟨w.heap.size, 4, none⟩ = some (.string (txt o.peer)) := hB.out.cell_ rfl
 have qacct : w1.cell? ⟨w.heap.size, 3, none⟩ = some (.string (txt o.acct)) := hB.out.cell_ rfl
 have qlegs : w1.cell? ⟨w.heap.size, 6, none⟩ = some (.slice L.a L.n L.c) := hB.out.cell_ rfl
 have qper : w1.cell? ⟨w.heap.size, 7, none⟩ = some (.int .i64 o.per) := hB.out.cell_ rfl
 have qhold : w1.cell? ⟨w.heap.size, 8, none⟩ = some (.int .i64 o.hold) := hB.out.cell_ rfl
 have qnote : w1.cell? ⟨w.heap.size, 9, none⟩ = some (.string (txt o.note)) := hB.out.cell_ rfl
 clear hm1
 go_wp2_with fail
 ·skip
  with_reducible refine (kp.out _).mono ?_
  rintro e w1 ⟨rfl, hm1⟩
  dsimp only
  replace hB := zH (hB.out.mod hm1 (fun h => h))
  replace hmm := zH (hmm.out.trans hm1)
  have qsum : w1.cell? ⟨w.heap.size, 5, none⟩ = some (.int .i64 o.sum) := hB.out.cell_ rfl
  have qpeer : w1.cell? ⟨w.heap.size, 4, none⟩ = some (.string (txt o.peer)) := hB.out.cell_ rfl
  have qacct : w1.cell? ⟨w.heap.size, 3, none⟩ = some (.string (txt o.acct)) := hB.out.cell_ rfl
  have qlegs : w1.cell? ⟨w.heap.size, 6, none⟩ = some (.slice L.a L.n L.c) := hB.out.cell_ rfl
  have qper : w1.cell? ⟨w.heap.size, 7, none⟩ = some (.int .i64 o.per) := hB.out.cell_ rfl
  have qhold : w1.cell? ⟨w.heap.size, 8, none⟩ = some (.int .i64 o.hold) := hB.out.cell_ rfl
  have qnote : w1.cell? ⟨w.heap.size, 9, none⟩ = some (.string (txt o.note)) := hB.out.cell_ rfl
  clear hm1
  go_wp2_with fail
  rotate_left
  ·skip
   with_reducible refine (kh.out _).mono ?_
   rintro e w1 ⟨rfl, rfl⟩
   dsimp only
   go_wp2_with fail
   ·skip
    with_reducible refine (kr.out _).mono ?_
    rintro e w1 ⟨rfl, rfl⟩
    dsimp only
    go_wp2_with fail
    all_goals
     go_ret
     refine ⟨?_, hmm.out⟩
     rw [hsp.out]
     first | (simp_all [txt_len]; done) | (simp_all [txt_len]; omega)
   all_goals
    go_ret
    refine ⟨?_, hmm.out⟩
    rw [hsp.out]
    first | (simp_all [txt_len]; done) | (simp_all [txt_len]; omega)
  all_goals
   go_ret
   refine ⟨?_, hmm.out⟩
   rw [hsp.out]
   first | (simp_all [txt_len]; done) | (simp_all [txt_len]; omega)
 all_goals
  go_ret
  refine ⟨?_, hmm.out⟩
  rw [hsp.out]
  first | (simp_all [txt_len]; done) | (simp_all [txt_len]; omega)
theorem fits5_ok (w : World) (p : Nat) (hp : Blk w p 81 #[nameF]) (o : Od) (L : SV) (hO : OdM w o L) (hL : L.n ≤ 140737488355328) (hz : ∀ l ∈ o.legs, (txt l.n).size ≤ maxLen) :
  Calls Tryz.prog 122 #[.agg #[.int .i64 o.c, .int .i64 o.s, .int .i64 o.k, .string (txt o.acct), .string (txt o.peer), .int .i64 o.sum, .slice L.a L.n L.c, .int .i64 o.per, .int .i64 o.hold, .string (txt o.note)], .pointer (some ⟨p, 0, none⟩)] w fun e w' => e = .returned (.bool (fits5 o)) ∧ Mod none_ w w' := by
 have hsp : fits5 o = (nameB o.acct && decide (1 ≤ o.hold ∧ o.hold ≤ 9999)) := rfl
 have k1 := zH (fun W => name1_ok W o L)
 have kh := zH (fun W => held_ok W o.hold)
 have x0 := (hp.alloc (.cells #[.int .i64 o.c, .int .i64 o.s, .int .i64 o.k, .string (txt o.acct), .string (txt o.peer), .int .i64 o.sum, .slice L.a L.n L.c, .int .i64 o.per, .int .i64 o.hold, .string (txt o.note)] 40)).cell_ (i := 0) rfl
 unfold nameF at x0
 replace hp := zH hp
 have hmm := (Mod.refl none_ w).alloc (.cells #[.int .i64 o.c, .int .i64 o.s, .int .i64 o.k, .string (txt o.acct), .string (txt o.peer), .int .i64 o.sum, .slice L.a L.n L.c, .int .i64 o.per, .int .i64 o.hold, .string (txt o.note)] 40)
 have hB := Blk.new w 40 #[.int .i64 o.c, .int .i64 o.s, .int .i64 o.k, .string (txt o.acct), .string (txt o.peer), .int .i64 o.sum, .slice L.a L.n L.c, .int .i64 o.per, .int .i64 o.hold, .string (txt o.note)]
 replace hO := zH hO
 replace hsp := zH hsp
 replace hmm := zH hmm
 replace hB := zH hB
 go_enter Tryz.func122, Tryz.ntmps122
 go_wp2_with fail
 with_reducible refine (k1.out _).mono ?_
 rintro e w1 ⟨rfl, hm1⟩
 dsimp only
 replace hB := zH (hB.out.mod hm1 (fun h => h))
 replace hmm := zH (hmm.out.trans hm1)
 have qsum : w1.cell? ⟨w.heap.size, 5, none⟩ = some (.int .i64 o.sum) := hB.out.cell_ rfl
 have qpeer : w1.cell? ⟨w.heap.size, 4, none⟩ = some (.string (txt o.peer)) := hB.out.cell_ rfl
 have qacct : w1.cell? ⟨w.heap.size, 3, none⟩ = some (.string (txt o.acct)) := hB.out.cell_ rfl
 have qlegs : w1.cell? ⟨w.heap.size, 6, none⟩ = some (.slice L.a L.n L.c) := hB.out.cell_ rfl
 have qper : w1.cell? ⟨w.heap.size, 7, none⟩ = some (.int .i64 o.per) := hB.out.cell_ rfl
 have qhold : w1.cell? ⟨w.heap.size, 8, none⟩ = some (.int .i64 o.hold) := hB.out.cell_ rfl
 have qnote : w1.cell? ⟨w.heap.size, 9, none⟩ = some (.string (txt o.note)) := hB.out.cell_ rfl
 clear hm1
 go_wp2_with fail
 ·skip
  with_reducible refine (kh.out _).mono ?_
  rintro e w1 ⟨rfl, rfl⟩
  dsimp only
  go_wp2_with fail
  all_goals
   go_ret
   refine ⟨?_, hmm.out⟩
   rw [hsp.out]
   first | (simp_all [txt_len]; done) | (simp_all [txt_len]; omega)
 all_goals
  go_ret
  refine ⟨?_, hmm.out⟩
  rw [hsp.out]
  first | (simp_all [txt_len]; done) | (simp_all [txt_len]; omega)
theorem fits6_ok (w : World) (o : Od) (L : SV) (hO : OdM w o L) (hL : L.n ≤ 140737488355328) (hz : ∀ l ∈ o.legs, (txt l.n).size ≤ maxLen) :
  Calls Tryz.prog 124 #[.agg #[.int .i64 o.c, .int .i64 o.s, .int .i64 o.k, .string (txt o.acct), .string (txt o.peer), .int .i64 o.sum, .slice L.a L.n L.c, .int .i64 o.per, .int .i64 o.hold, .string (txt o.note)]] w fun e w' => e = .returned (.bool (fits6 o)) ∧ Mod none_ w w' := by
 have hsp : fits6 o = (decide (1 ≤ o.per ∧ o.per ≤ 1000)) := rfl
 have kr := zH (fun W => period_ok W o.per)
 have hmm := (Mod.refl none_ w).alloc (.cells #[.int .i64 o.c, .int .i64 o.s, .int .i64 o.k, .string (txt o.acct), .string (txt o.peer), .int .i64 o.sum, .slice L.a L.n L.c, .int .i64 o.per, .int .i64 o.hold, .string (txt o.note)] 40)
 have hB := Blk.new w 40 #[.int .i64 o.c, .int .i64 o.s, .int .i64 o.k, .string (txt o.acct), .string (txt o.peer), .int .i64 o.sum, .slice L.a L.n L.c, .int .i64 o.per, .int .i64 o.hold, .string (txt o.note)]
 replace hO := zH hO
 replace hsp := zH hsp
 replace hmm := zH hmm
 replace hB := zH hB
 go_enter Tryz.func124, Tryz.ntmps124
 go_wp2_with fail
 with_reducible refine (kr.out _).mono ?_
 rintro e w1 ⟨rfl, rfl⟩
 dsimp only
 go_wp2_with fail
 all_goals
  go_ret
  refine ⟨?_, hmm.out⟩
  rw [hsp.out]
  first | (simp_all [txt_len]; done) | (simp_all [txt_len]; omega)
set_option maxRecDepth 512
theorem order_size : (Tryz.prog.info? 40).map (·.size) = some 10 := by kernel_rfl
theorem ret_order {fn : Func} {p : Tmp} (h : fn.results = #[.cell p 40]) {a : Act} {w : World} {R : Ending → World → Prop} (g : Nat) (cs : Array Value) (hp : a.tmps.getD p undef = .pointer (some ⟨g, 0, none⟩))
  (hg : Blk w g 40 cs) (hs : cs.size = 10) (hd : a.defers = []) (hR : R (.returned (.agg cs)) w) : bodyPost Tryz.prog fn R .ret a w :=
 bodyPost_ret (results_cell_row h a.tmps w g _ cs _ _ hp hg Tryz.underlying40 rfl (by rw [hs]; exact order_size)) hd hR
def bare1 (o : Od) : Od := ⟨o.c, o.s, o.k, o.acct, [], o.sum, [], 0, 0, []⟩
set_option maxRecDepth 100000
theorem bare1_ok (w : World) (o : Od) (L : SV) :
  Calls Tryz.prog 110 #[.agg #[.int .i64 o.c, .int .i64 o.s, .int .i64 o.k, .string (txt o.acct), .string (txt o.peer), .int .i64 o.sum, .slice L.a L.n L.c, .int .i64 o.per, .int .i64 o.hold, .string (txt o.note)]] w fun e w' => e = .returned (.agg #[.int .i64 0, .int .i64 0, .int .i64 0, .string (txt o.acct), .string ⟨#[]⟩, .int .i64 o.sum, .slice none 0 0, .int .i64 0, .int .i64 0, .string ⟨#[]⟩]) ∧ Mod none_ w w' := by
 go_enter Tryz.func110, Tryz.ntmps110
 go_wp2_with fail
 exact ret_order rfl (w.heap.size + 1) _ rfl (heap_alloc2_new _ _ _) rfl rfl ⟨rfl, ((Mod.refl none_ w).alloc _).alloc _⟩
def bare2 (o : Od) : Od := ⟨o.c, o.s, o.k, [], [], 0, o.legs, o.per, 0, o.note⟩
theorem bare2_ok (w : World) (o : Od) (L : SV) :
  Calls Tryz.prog 112 #[.agg #[.int .i64 o.c, .int .i64 o.s, .int .i64 o.k, .string (txt o.acct), .string (txt o.peer), .int .i64 o.sum, .slice L.a L.n L.c, .int .i64 o.per, .int .i64 o.hold, .string (txt o.note)]] w fun e w' => e = .returned (.agg #[.int .i64 0, .int .i64 0, .int .i64 0, .string ⟨#[]⟩, .string ⟨#[]⟩, .int .i64 0, .slice L.a L.n L.c, .int .i64 o.per, .int .i64 0, .string (txt o.note)]) ∧ Mod none_ w w' := by
 go_enter Tryz.func112, Tryz.ntmps112
 go_wp2_with fail
 exact ret_order rfl (w.heap.size + 1) _ rfl (heap_alloc2_new _ _ _) rfl rfl ⟨rfl, ((Mod.refl none_ w).alloc _).alloc _⟩
def bare3 (o : Od) : Od := ⟨o.c, o.s, o.k, o.acct, [], o.sum, [], 0, 0, []⟩
theorem bare3_ok (w : World) (o : Od) (L : SV) :
  Calls Tryz.prog 116 #[.agg #[.int .i64 o.c, .int .i64 o.s, .int .i64 o.k, .string (txt o.acct), .string (txt o.peer), .int .i64 o.sum, .slice L.a L.n L.c, .int .i64 o.per, .int .i64 o.hold, .string (txt o.note)]] w fun e w' => e = .returned (.agg #[.int .i64 0, .int .i64 0, .int .i64 0, .string (txt o.acct), .string ⟨#[]⟩, .int .i64 o.sum, .slice none 0 0, .int .i64 0, .int .i64 0, .string ⟨#[]⟩]) ∧ Mod none_ w w' := by
 go_enter Tryz.func116, Tryz.ntmps116
 go_wp2_with fail
 exact ret_order rfl (w.heap.size + 1) _ rfl (heap_alloc2_new _ _ _) rfl rfl ⟨rfl, ((Mod.refl none_ w).alloc _).alloc _⟩
def bare4 (o : Od) : Od := ⟨o.c, o.s, o.k, o.acct, o.peer, o.sum, [], o.per, o.hold, []⟩
theorem bare4_ok (w : World) (o : Od) (L : SV) :
  Calls Tryz.prog 118 #[.agg #[.int .i64 o.c, .int .i64 o.s, .int .i64 o.k, .string (txt o.acct), .string (txt o.peer), .int .i64 o.sum, .slice L.a L.n L.c, .int .i64 o.per, .int .i64 o.hold, .string (txt o.note)]] w fun e w' => e = .returned (.agg #[.int .i64 0, .int .i64 0, .int .i64 0, .string (txt o.acct), .string (txt o.peer), .int .i64 o.sum, .slice none 0 0, .int .i64 o.per, .int .i64 o.hold, .string ⟨#[]⟩]) ∧ Mod none_ w w' := by
 go_enter Tryz.func118, Tryz.ntmps118
 go_wp2_with fail
 exact ret_order rfl (w.heap.size + 1) _ rfl (heap_alloc2_new _ _ _) rfl rfl ⟨rfl, ((Mod.refl none_ w).alloc _).alloc _⟩
def bare5 (o : Od) : Od := ⟨o.c, o.s, o.k, o.acct, [], 0, [], 0, o.hold, []⟩
theorem bare5_ok (w : World) (o : Od) (L : SV) :
  Calls Tryz.prog 121 #[.agg #[.int .i64 o.c, .int .i64 o.s, .int .i64 o.k, .string (txt o.acct), .string (txt o.peer), .int .i64 o.sum, .slice L.a L.n L.c, .int .i64 o.per, .int .i64 o.hold, .string (txt o.note)]] w fun e w' => e = .returned (.agg #[.int .i64 0, .int .i64 0, .int .i64 0, .string (txt o.acct), .string ⟨#[]⟩, .int .i64 0, .slice none 0 0, .int .i64 0, .int .i64 o.hold, .string ⟨#[]⟩]) ∧ Mod none_ w w' := by
 go_enter Tryz.func121, Tryz.ntmps121
 go_wp2_with fail
 exact ret_order rfl (w.heap.size + 1) _ rfl (heap_alloc2_new _ _ _) rfl rfl ⟨rfl, ((Mod.refl none_ w).alloc _).alloc _⟩
def bare6 (o : Od) : Od := ⟨o.c, o.s, o.k, [], [], 0, [], o.per, 0, []⟩
theorem bare6_ok (w : World) (o : Od) (L : SV) :
  Calls Tryz.prog 123 #[.agg #[.int .i64 o.c, .int .i64 o.s, .int .i64 o.k, .string (txt o.acct), .string (txt o.peer), .int .i64 o.sum, .slice L.a L.n L.c, .int .i64 o.per, .int .i64 o.hold, .string (txt o.note)]] w fun e w' => e = .returned (.agg #[.int .i64 0, .int .i64 0, .int .i64 0, .string ⟨#[]⟩, .string ⟨#[]⟩, .int .i64 0, .slice none 0 0, .int .i64 o.per, .int .i64 0, .string ⟨#[]⟩]) ∧ Mod none_ w w' := by
 go_enter Tryz.func123, Tryz.ntmps123
 go_wp2_with fail
 exact ret_order rfl (w.heap.size + 1) _ rfl (heap_alloc2_new _ _ _) rfl rfl ⟨rfl, ((Mod.refl none_ w).alloc _).alloc _⟩
def bare7 (o : Od) : Od := ⟨o.c, o.s, o.k, o.acct, [], 0, [], 0, 0, []⟩
theorem bare7_ok (w : World) (o : Od) (L : SV) :
  Calls Tryz.prog 125 #[.agg #[.int .i64 o.c, .int .i64 o.s, .int .i64 o.k, .string (txt o.acct), .string (txt o.peer), .int .i64 o.sum, .slice L.a L.n L.c, .int .i64 o.per, .int .i64 o.hold, .string (txt o.note)]] w fun e w' => e = .returned (.agg #[.int .i64 0, .int .i64 0, .int .i64 0, .string (txt o.acct), .string ⟨#[]⟩, .int .i64 0, .slice none 0 0, .int .i64 0, .int .i64 0, .string ⟨#[]⟩]) ∧ Mod none_ w w' := by
 go_enter Tryz.func125, Tryz.ntmps125
 go_wp2_with fail
 exact ret_order rfl (w.heap.size + 1) _ rfl (heap_alloc2_new _ _ _) rfl rfl ⟨rfl, ((Mod.refl none_ w).alloc _).alloc _⟩
def fnV (f : FuncId) : Value := .func (Fn.func f) #[] #[]
def fnP (f : FuncId) (p : Nat) : Value := .func (Fn.func f) #[] #[.pointer (some ⟨p, 0, none⟩)]
def shV (k : Int) (p : Nat) : Value :=
 if k = 1 then .agg #[fnV 110, fnP 111 p]
 else if k = 2 then .agg #[fnV 112, fnV 113]
 else if k = 3 then .agg #[fnV 116, fnP 117 p]
 else if k = 4 then .agg #[fnV 118, fnP 119 p]
 else if k = 5 then .agg #[fnV 121, fnP 122 p]
 else if k = 6 then .agg #[fnV 123, fnV 124]
 else .agg #[fnV 125, nameF]
def shapesD (p : Nat) : DataW Value := .map ([1, 2, 3, 4, 5, 6, 7].map fun (k : Int) => (.int .i64 k, .held (shV k p)))
def ShPost (w : World) (e : Ending) (w' : World) : Prop := ∃ b p n, e = .returned (.map (some b)) ∧ w'.ownsMap Tryz.prog 3 VR b n (shapesD p) ∧ Blk w' p 81 #[nameF] ∧ Mod none_ w w'
theorem shapes_ok (w : World) : Calls Tryz.prog 62 #[] w (ShPost w) := by
 have hmk := fun W => run_makeMap (P := Tryz.prog) 133 W
 have hmf : ∀ (fn : Fn) (first cap : Array Value) (w : World), (Instr.makeFunc fn first cap).run Tryz.prog w = .ok (.func fn first cap) w := fun _ _ _ _ => rfl
 have hsf : ∀ (a : Addr) (f : Fn) (c p : Array Value) (W : World), (store a (.func f c p)).run Tryz.prog W = stored Tryz.prog W a (.func f c p) .plain := fun a f c p W => run_store Tryz.prog W a _ _ rfl
 have hD := World.ownsMap_made (P := Tryz.prog) (H := Value) (w.alloc (.cells #[.func (Fn.func 108) #[] #[]] 81)) 3 VR
 rw [show (w.alloc (.cells #[.func (Fn.func 108) #[] #[]] 81)).heap.size = w.heap.size + 1 by simp] at hD
 have hB := (Blk.new w 81 #[.func (Fn.func 108) #[] #[]]).alloc (.map #[] 0)
 have hmm := ((Mod.refl none_ w).alloc (.cells #[.func (Fn.func 108) #[] #[]] 81)).alloc (.map #[] 0)
 replace hD := zH hD
 replace hB := zH hB
 replace hmm := zH hmm
 go_enter Tryz.func62, Tryz.ntmps62
 go_upto_region 2 with fail
 go_wp2_with (show wpList _ _ _ (⟨none, _, _, _, _, _⟩ :: _) _ _; go_loud (refine mapF_insert _ rfl (.tmp 2) _ _ _ rfl 3 _ Tryz.underlying133 Tryz.underlying3 (w.heap.size + 1) _ _ rfl hD.out (by simp only [maxLen]; omega) _ (by decide) rfl _ rfl ?_; intro w2 n2 hn2 hD2 hm2 hs2; replace hmm := zH (hmm.out.then hm2 (fun i hi e => by have e2 : i = w.heap.size + 1 := e; omega)); replace hB := zH (hB.out.mod hm2 (by simp)); have x0 : w2.cell? ⟨w.heap.size, 0, none⟩ = some (.func (Fn.func 108) #[] #[]) := hB.out.cell_ rfl; replace hD := zH hD2; clear hD2 hm2 hs2))
 go_ret
 exact ⟨w.heap.size + 1, w.heap.size, _, rfl, hD.out, hB.out, hmm.out⟩
def idB (o : Od) : Bool := decide (0 ≤ o.c ∧ o.c ≤ 9 ∧ 1 ≤ o.s ∧ o.s ≤ 999)
def zSh : Value := .agg #[.nilFunc, .nilFunc]
theorem zSh_run (W : World) : (zeroValue 131).run Tryz.prog W = .ok zSh W := by rfl
theorem rightO_gen (w : World) (o : Od) (L : SV) (hO : OdM w o L) (hL : L.n ≤ 140737488355328) (hk : (Lit.int .i64 o.k).wf = true) (fb ff : FuncId) (cap : Nat → Array Value) (b : Od) (Lb : SV) (fit : Bool)
  (hbm : ∀ W, OdM W o L → OdM W b Lb) (hLb : Lb.n ≤ 140737488355328) (hc : b.c = o.c) (hs : b.s = o.s) (hkk : b.k = o.k)
  (hlook : ∀ p, (shapesD p).atKey (.int .i64 o.k) (.held zSh) = .held (.agg #[.func (Fn.func fb) #[] #[], .func (Fn.func ff) #[] (cap p)]))
  (hhas : ∀ p, Maps.has (shapesD p) (.int .i64 o.k) = true)
  (hcb : ∀ (args : Array Value) (W : World), (callFunc fb args).run Tryz.prog W = .ok (.enter fb args) W) (hcf : ∀ (args : Array Value) (W : World), (callFunc ff args).run Tryz.prog W = .ok (.enter ff args) W)
  (hbare : ∀ W, Calls Tryz.prog fb #[.agg #[.int .i64 o.c, .int .i64 o.s, .int .i64 o.k, .string (txt o.acct), .string (txt o.peer), .int .i64 o.sum, .slice L.a L.n L.c, .int .i64 o.per, .int .i64 o.hold, .string (txt o.note)]] W fun e w' => e = .returned (.agg #[.int .i64 0, .int .i64 0, .int .i64 0, .string (txt b.acct), .string (txt b.peer), .int .i64 b.sum, .slice Lb.a Lb.n Lb.c, .int .i64 b.per, .int .i64 b.hold, .string (txt b.note)]) ∧ Mod none_ W w')
  (hfits : ∀ W p, Mod none_ w W → Blk W p 81 #[nameF] → Calls Tryz.prog ff (#[.agg #[.int .i64 o.c, .int .i64 o.s, .int .i64 o.k, .string (txt o.acct), .string (txt o.peer), .int .i64 o.sum, .slice L.a L.n L.c, .int .i64 o.per, .int .i64 o.hold, .string (txt o.note)]] ++ cap p) W fun e w' => e = .returned (.bool fit) ∧ Mod none_ W w') :
  Calls Tryz.prog 32 #[.agg #[.int .i64 o.c, .int .i64 o.s, .int .i64 o.k, .string (txt o.acct), .string (txt o.peer), .int .i64 o.sum, .slice L.a L.n L.c, .int .i64 o.per, .int .i64 o.hold, .string (txt o.note)]] w fun e w' => e = .returned (.bool (idB o && (decide (o = b) && fit))) ∧ Mod none_ w w' := by
 have kS := zH (fun W => shapes_ok W)
 have hsf : ∀ (a : Addr) (f : Fn) (c p : Array Value) (W : World), (store a (.func f c p)).run Tryz.prog W = stored Tryz.prog W a (.func f c p) .plain := fun a f c p W => run_store Tryz.prog W a _ _ rfl
 have hlk := zH (fun (W : World) b' n p (h : W.ownsMap Tryz.prog 3 VR b' n (shapesD p)) => mapF_look_run 133 3 _ Tryz.underlying133 Tryz.underlying3 (zSh_run W) b' n _ h o.k hk _ (hlook p) _ (hhas p))
 have hB0 := (Blk.new w 40 #[.int .i64 o.c, .int .i64 o.s, .int .i64 o.k, .string (txt o.acct), .string (txt o.peer), .int .i64 o.sum, .slice L.a L.n L.c, .int .i64 o.per, .int .i64 o.hold, .string (txt o.note)]).drew
 have hm0 := ((Mod.refl none_ w).alloc (.cells #[.int .i64 o.c, .int .i64 o.s, .int .i64 o.k, .string (txt o.acct), .string (txt o.peer), .int .i64 o.sum, .slice L.a L.n L.c, .int .i64 o.per, .int .i64 o.hold, .string (txt o.note)] 40)).drew
 have hBa := ((Blk.new w 40 #[.int .i64 o.c, .int .i64 o.s, .int .i64 o.k, .string (txt o.acct), .string (txt o.peer), .int .i64 o.sum, .slice L.a L.n L.c, .int .i64 o.per, .int .i64 o.hold, .string (txt o.note)]).alloc (.cells #[.nilFunc, .nilFunc] 131)).drew
 have hma := (((Mod.refl none_ w).alloc (.cells #[.int .i64 o.c, .int .i64 o.s, .int .i64 o.k, .string (txt o.acct), .string (txt o.peer), .int .i64 o.sum, .slice L.a L.n L.c, .int .i64 o.per, .int .i64 o.hold, .string (txt o.note)] 40)).alloc (.cells #[.nilFunc, .nilFunc] 131)).drew
 have hSa : Blk ((w.alloc (.cells #[.int .i64 o.c, .int .i64 o.s, .int .i64 o.k, .string (txt o.acct), .string (txt o.peer), .int .i64 o.sum, .slice L.a L.n L.c, .int .i64 o.per, .int .i64 o.hold, .string (txt o.note)] 40)).alloc (.cells #[.nilFunc, .nilFunc] 131)).drew (w.heap.size + 1) 131 #[.nilFunc, .nilFunc] := heap_alloc2_new w _ _
 replace hBa := zH hBa
 replace hma := zH hma
 replace hSa := zH hSa
 replace hO := zH hO
 replace hlook := zH hlook
 replace hhas := zH hhas
 replace hbare := zH hbare
 replace hfits := zH hfits
 replace hbm := zH hbm
 replace hB0 := zH hB0
 replace hm0 := zH hm0
 replace hk := zH hk
 go_enter Tryz.func32, Tryz.ntmps32
 go_upto_region 1 with fail
 go_cut [3, 4] from 3 to 12 (fun s3 s4 W => ∃ sp p, s3 = .pointer (some ⟨sp, 0, none⟩) ∧ s4 = .bool true ∧ Mod none_ w W ∧ Blk W w.heap.size 40 #[.int .i64 o.c, .int .i64 o.s, .int .i64 o.k, .string (txt o.acct), .string (txt o.peer), .int .i64 o.sum, .slice L.a L.n L.c, .int .i64 o.per, .int .i64 o.hold, .string (txt o.note)] ∧ Blk W p 81 #[nameF] ∧ Blk W sp 131 #[.func (Fn.func fb) #[] #[], .func (Fn.func ff) #[] (cap p)])
 case first =>
  go_region_held3 (fun W => W.cell? ⟨w.heap.size, 2, none⟩ = some (.int .i64 o.k)) (first | exact hB0.out.cell_ rfl | exact hBa.out.cell_ rfl | exact hB1.out.cell_ rfl | exact (hB1.out.alloc _).cell_ rfl | exact ((hB1.out.far (by simp) _).far (by simp) _).cell_ rfl | go_keep)
   (first | (go_at_call 62; refine (kS.out _).mono ?_; rintro e w1 ⟨b', p, n, rfl, hD, hN, hm1⟩; have e1 := hlk.out _ _ _ _ hD; have e2 := fun o => hlk.out _ _ _ _ (hD.alloc o); (first | (have hB1 := zH (hB0.out.mod hm1 (fun h => h)); have hmm := zH (hm0.out.trans hm1)) | (have hB1 := zH (hBa.out.mod hm1 (fun h => h)); have hmm := zH (hma.out.trans hm1); have hS1 := (hSa.out.mod hm1 (fun h => h)); have s0 : w1.cell? ⟨w.heap.size + 1, 0, none⟩ = some .nilFunc := hS1.cell_ rfl; have s1 : w1.cell? ⟨w.heap.size + 1, 1, none⟩ = some .nilFunc := hS1.cell_ rfl; have f0 := hS1.frozen 0; have f1 := hS1.frozen 1; replace hS1 := zH hS1)); replace hN := zH hN; clear hm1 hD))
  all_goals
   go_wp2
   go_meet
   first
    | exact ⟨_, p, rfl, rfl, hmm.out.alloc _, hB1.out.alloc _, hN.out.alloc _, Blk.new _ _ _⟩
    | exact ⟨_, p, rfl, rfl, (hmm.out.setCell (p := ⟨w.heap.size + 1, 0, none⟩) (.inr (Nat.le_succ _)) _).setCell (p := ⟨w.heap.size + 1, 1, none⟩) (.inr (Nat.le_succ _)) _, (hB1.out.far (by simp) _).far (by simp) _, (hN.out.far (hN.out.ne_ hS1.out (by decide)) _).far (hN.out.ne_ hS1.out (by decide)) _, (hS1.out.set_ 0 _).set_ 1 _⟩
 case rest =>
  obtain ⟨sp, p, rfl, rfl, hm, hB, hN, hS⟩ := hcut
  have q0 : wc.cell? ⟨w.heap.size, 0, none⟩ = some (.int .i64 o.c) := hB.cell_ rfl
  have q1 : wc.cell? ⟨w.heap.size, 1, none⟩ = some (.int .i64 o.s) := hB.cell_ rfl
  have q2 : wc.cell? ⟨w.heap.size, 2, none⟩ = some (.int .i64 o.k) := hB.cell_ rfl
  have q3 : wc.cell? ⟨w.heap.size, 3, none⟩ = some (.string (txt o.acct)) := hB.cell_ rfl
  have q4 : wc.cell? ⟨w.heap.size, 4, none⟩ = some (.string (txt o.peer)) := hB.cell_ rfl
  have q5 : wc.cell? ⟨w.heap.size, 5, none⟩ = some (.int .i64 o.sum) := hB.cell_ rfl
  have q6 : wc.cell? ⟨w.heap.size, 6, none⟩ = some (.slice L.a L.n L.c) := hB.cell_ rfl
  have q7 : wc.cell? ⟨w.heap.size, 7, none⟩ = some (.int .i64 o.per) := hB.cell_ rfl
  have q8 : wc.cell? ⟨w.heap.size, 8, none⟩ = some (.int .i64 o.hold) := hB.cell_ rfl
  have q9 : wc.cell? ⟨w.heap.size, 9, none⟩ = some (.string (txt o.note)) := hB.cell_ rfl
  have s0 : wc.cell? ⟨sp, 0, none⟩ = some (.func (Fn.func fb) #[] #[]) := hS.cell_ rfl
  replace hm := zH hm
  replace hB := zH hB
  replace hN := zH hN
  replace hS := zH hS
  by_cases hid : 0 ≤ o.c ∧ o.c ≤ 9 ∧ 1 ≤ o.s ∧ o.s ≤ 999
  ·have hidB : Hid (idB o = true) := zH (decide_eq_true hid)
   have d1 : ¬ o.c < 0 := by omega
   have d2 : ¬ 9 < o.c := by omega
   have d3 : ¬ o.s < 1 := by omega
   have d4 : ¬ 999 < o.s := by omega
   replace hid := zH hid
   go_wp2_with fail
   with_reducible refine (hbare.out _).mono ?_
   rintro e w2 ⟨rfl, hm2⟩
   dsimp only
   have hm3 := zH (hm.out.trans hm2)
   have hB3 := hB.out.mod hm2 (fun h => h)
   have r0 : w2.cell? ⟨w.heap.size, 0, none⟩ = some (.int .i64 o.c) := hB3.cell_ rfl
   have r1 : w2.cell? ⟨w.heap.size, 1, none⟩ = some (.int .i64 o.s) := hB3.cell_ rfl
   have r2 : w2.cell? ⟨w.heap.size, 2, none⟩ = some (.int .i64 o.k) := hB3.cell_ rfl
   have hlt := hB3.lt
   replace hB3 := zH hB3
   have hN3 := zH (hN.out.mod hm2 (fun h => h))
   have hS3 := zH (hS.out.mod hm2 (fun h => h))
   clear hm2 q0 q1 q2 q3 q4 q5 q6 q7 q8 q9 s0
   go_upto_region 5 with fail
   go_cut [5] from 5 to 48 (fun s5 W => ∃ bp, s5 = .pointer (some ⟨bp, 0, none⟩) ∧ Mod none_ w W ∧ Blk W w.heap.size 40 #[.int .i64 o.c, .int .i64 o.s, .int .i64 o.k, .string (txt o.acct), .string (txt o.peer), .int .i64 o.sum, .slice L.a L.n L.c, .int .i64 o.per, .int .i64 o.hold, .string (txt o.note)] ∧ Blk W p 81 #[nameF] ∧ Blk W sp 131 #[.func (Fn.func fb) #[] #[], .func (Fn.func ff) #[] (cap p)] ∧ Blk W bp 40 #[.int .i64 o.c, .int .i64 o.s, .int .i64 o.k, .string (txt b.acct), .string (txt b.peer), .int .i64 b.sum, .slice Lb.a Lb.n Lb.c, .int .i64 b.per, .int .i64 b.hold, .string (txt b.note)])
   case first =>
    go_region
    go_wp2
    go_meet
    exact ⟨w2.heap.size, rfl, (hm3.out.alloc _).drew, (hB3.out.alloc _).drew, (hN3.out.alloc _).drew, (hS3.out.alloc _).drew, (Blk.new _ _ _).drew⟩
   case rest =>
    obtain ⟨bp, rfl, hm4, hB4, hN4, hS4, hC4⟩ := hcut
    have q0 : wc.cell? ⟨w.heap.size, 0, none⟩ = some (.int .i64 o.c) := hB4.cell_ rfl
    have q1 : wc.cell? ⟨w.heap.size, 1, none⟩ = some (.int .i64 o.s) := hB4.cell_ rfl
    have q2 : wc.cell? ⟨w.heap.size, 2, none⟩ = some (.int .i64 o.k) := hB4.cell_ rfl
    have q3 : wc.cell? ⟨w.heap.size, 3, none⟩ = some (.string (txt o.acct)) := hB4.cell_ rfl
    have q4 : wc.cell? ⟨w.heap.size, 4, none⟩ = some (.string (txt o.peer)) := hB4.cell_ rfl
    have q5 : wc.cell? ⟨w.heap.size, 5, none⟩ = some (.int .i64 o.sum) := hB4.cell_ rfl
    have q6 : wc.cell? ⟨w.heap.size, 6, none⟩ = some (.slice L.a L.n L.c) := hB4.cell_ rfl
    have q7 : wc.cell? ⟨w.heap.size, 7, none⟩ = some (.int .i64 o.per) := hB4.cell_ rfl
    have q8 : wc.cell? ⟨w.heap.size, 8, none⟩ = some (.int .i64 o.hold) := hB4.cell_ rfl
    have q9 : wc.cell? ⟨w.heap.size, 9, none⟩ = some (.string (txt o.note)) := hB4.cell_ rfl
    have c0 : wc.cell? ⟨bp, 0, none⟩ = some (.int .i64 o.c) := hC4.cell_ rfl
    have c1 : wc.cell? ⟨bp, 1, none⟩ = some (.int .i64 o.s) := hC4.cell_ rfl
    have c2 : wc.cell? ⟨bp, 2, none⟩ = some (.int .i64 o.k) := hC4.cell_ rfl
    have c3 : wc.cell? ⟨bp, 3, none⟩ = some (.string (txt b.acct)) := hC4.cell_ rfl
    have c4 : wc.cell? ⟨bp, 4, none⟩ = some (.string (txt b.peer)) := hC4.cell_ rfl
    have c5 : wc.cell? ⟨bp, 5, none⟩ = some (.int .i64 b.sum) := hC4.cell_ rfl
    have c6 : wc.cell? ⟨bp, 6, none⟩ = some (.slice Lb.a Lb.n Lb.c) := hC4.cell_ rfl
    have c7 : wc.cell? ⟨bp, 7, none⟩ = some (.int .i64 b.per) := hC4.cell_ rfl
    have c8 : wc.cell? ⟨bp, 8, none⟩ = some (.int .i64 b.hold) := hC4.cell_ rfl
    have c9 : wc.cell? ⟨bp, 9, none⟩ = some (.string (txt b.note)) := hC4.cell_ rfl
    have kE := sameO_ok wc o b L Lb (hO.out.mod0 hm4) (hbm.out _ (hO.out.mod0 hm4)) hL hLb
    rw [hc, hs, hkk] at kE
    replace hm4 := zH hm4
    replace hB4 := zH hB4
    replace hN4 := zH hN4
    replace hS4 := zH hS4
    replace hC4 := zH hC4
    replace kE := zH kE
    go_wp2_with fail
    with_reducible refine kE.out.mono ?_
    rintro e w3 ⟨rfl, hm5⟩
    dsimp only
    have hm6 := hm4.out.trans hm5
    have hB5 := hB4.out.mod hm5 (fun h => h)
    have hN5 := hN4.out.mod hm5 (fun h => h)
    have hS5 := hS4.out.mod hm5 (fun h => h)
    have d0 : w3.cell? ⟨w.heap.size, 0, none⟩ = some (.int .i64 o.c) := hB5.cell_ rfl
    have d1 : w3.cell? ⟨w.heap.size, 1, none⟩ = some (.int .i64 o.s) := hB5.cell_ rfl
    have d2 : w3.cell? ⟨w.heap.size, 2, none⟩ = some (.int .i64 o.k) := hB5.cell_ rfl
    have d3 : w3.cell? ⟨w.heap.size, 3, none⟩ = some (.string (txt o.acct)) := hB5.cell_ rfl
    have d4 : w3.cell? ⟨w.heap.size, 4, none⟩ = some (.string (txt o.peer)) := hB5.cell_ rfl
    have d5 : w3.cell? ⟨w.heap.size, 5, none⟩ = some (.int .i64 o.sum) := hB5.cell_ rfl
    have d6 : w3.cell? ⟨w.heap.size, 6, none⟩ = some (.slice L.a L.n L.c) := hB5.cell_ rfl
    have d7 : w3.cell? ⟨w.heap.size, 7, none⟩ = some (.int .i64 o.per) := hB5.cell_ rfl
    have d8 : w3.cell? ⟨w.heap.size, 8, none⟩ = some (.int .i64 o.hold) := hB5.cell_ rfl
    have d9 : w3.cell? ⟨w.heap.size, 9, none⟩ = some (.string (txt o.note)) := hB5.cell_ rfl
    have s1 : w3.cell? ⟨sp, 1, none⟩ = some (.func (Fn.func ff) #[] (cap p)) := hS5.cell_ rfl
    have kF := zH (hfits.out w3 p hm6 hN5)
    replace hm6 := zH hm6
    replace hB5 := zH hB5
    replace hN5 := zH hN5
    replace hS5 := zH hS5
    clear hm5
    by_cases hob : o = b
    ·rw [decide_eq_true hob]
     replace hob := zH hob
     go_wp2_with fail
     with_reducible refine kF.out.mono ?_
     rintro e w4 ⟨rfl, hm7⟩
     dsimp only
     have hm8 := zH (hm6.out.trans hm7)
     replace hm7 := zH hm7
     go_wp2_with fail
     go_ret
     exact ⟨by rw [hidB.out, decide_eq_true hob.out]; rfl, hm8.out⟩
    ·rw [decide_eq_false hob]
     replace hob := zH hob
     go_wp2_with fail
     go_ret
     exact ⟨by rw [hidB.out, decide_eq_false hob.out]; rfl, hm6.out⟩
  ·have hidB : Hid (idB o = false) := zH (decide_eq_false hid)
   go_wp2_with fail
   all_goals
    first
     | (go_ret; exact ⟨by rw [hidB.out]; rfl, hm.out⟩)
     | (exfalso; omega)
end Go.Proofs.YtfkfiokkjjnhiaaGreat
