import Derived.Test.YtdnbclhidpkpgaaGreatLp4
import Derived.Test.YtdnbclhidpkpgaaGreatLp5
import Derived.Deep.Cut
import Derived.Deep.RegionHeld3
import Derived.Deep.CutRange
/-
  A map from numbers to any values: its datum exactly.
-/
namespace Go.Proofs.YtdnbclhidpkpgaaGreat
set_option linter.unusedVariables false
set_option linter.unusedSimpArgs false
open Go.RowKit
open Go.Maps (Keyed int_keyed)
theorem mapF_store_run {w : World} (t : TypeId) (k e : TypeId) (ht : Tryz.prog.underlying t = some (.map k e)) (hk : Tryz.prog.underlying k = some (.int .i64))
    (b n : Nat) (D : DataW Value) (h : w.ownsMap Tryz.prog k VR b n D) (hroom : n + 1 < maxLen) (s : Int) (hs : (Lit.int .i64 s).wf = true) (val : Value) :
    ∃ w', (Instr.mapUpdate t (.map (some b)) (.int .i64 s) val).run Tryz.prog w = .ok () w' ∧ (∃ n', n' ≤ n + 1 ∧ w'.ownsMap Tryz.prog k VR b n' (D.put (.int .i64 s) (.held val))) ∧ Mod (· = b) w w' ∧ w'.heap.size = w.heap.size := by
  obtain ⟨w', hrun, h1, h2⟩ := h.store (int_keyed hk) ht (by omega) (Go.Maps.keyOf_int_mk hk hs) (d := .held val) (ps := []) (show VR val = some (.held val, []) from rfl)
  refine ⟨w', hrun, ⟨_, Nat.le_refl _, h1⟩, (Mod.of_grown h2.grown).mono fun i hi => by cases hi; rfl, ?_⟩
  obtain ⟨es, c, es', c', _, rfl⟩ := h2
  simp [ChangeMaps.setBlock]
theorem mapF_look_run {w : World} (t : TypeId) (k e : TypeId) (ht : Tryz.prog.underlying t = some (.map k e)) (hk : Tryz.prog.underlying k = some (.int .i64))
    {z : Value} (hz : (zeroValue e).run Tryz.prog w = .ok z w) (b n : Nat) (D : DataW Value) (h : w.ownsMap Tryz.prog k VR b n D) (s : Int) (hs : (Lit.int .i64 s).wf = true) (v : Value) (hv : D.atKey (.int .i64 s) (.held z) = .held v) (f : Bool) (hf : Maps.has D (.int .i64 s) = f) :
    (Instr.lookup t (.map (some b)) (.int .i64 s) true).run Tryz.prog w = .ok (.tuple #[v, .bool f]) w := by
  obtain ⟨v', ps, hrun, h2⟩ := h.look_ok (int_keyed hk) ht hz (zd := .held z) (zp := []) rfl (Go.Maps.keyOf_int_mk hk hs)
  rw [hv] at h2
  have : v' = v := by simp [VR] at h2; exact h2.1
  rw [this, hf] at hrun
  exact hrun
theorem mapF_insert (w : World) {ops : Array Oper} {rest : List Oper} {o : Oper} {a : Act} {Q : Exit → Act → World → Prop} (hg : o.guard = none) (m x v : Operand) (t : TypeId) (hop : o.op = Op.insert t m x v) (k e : TypeId) (ht : Tryz.prog.underlying t = some (.map k e)) (hk : Tryz.prog.underlying k = some (.int .i64))
    (b n : Nat) (D : DataW Value) (hm : a.eval m = .map (some b)) (h : w.ownsMap Tryz.prog k VR b n D) (hroom : n + 1 < maxLen) (s : Int) (hs : (Lit.int .i64 s).wf = true) (hx : a.eval x = .int .i64 s) (val : Value) (hv : a.eval v = val)
    (hK : ∀ w' n', n' ≤ n + 1 → w'.ownsMap Tryz.prog k VR b n' (D.put (.int .i64 s) (.held val)) → Mod (· = b) w w' → w'.heap.size = w.heap.size → wpList Tryz.prog ops Q rest (a.put o.dst undef) w') :
    wpList Tryz.prog ops Q (o :: rest) a w := by
  refine wpList_plain hg fun K' hK' => ?_
  obtain ⟨w', hrun, ⟨n', hn', h1⟩, hm', hs'⟩ := mapF_store_run t k e ht hk b n D h hroom s hs val
  unfold Oper.wp
  simp [execOp, hop, hm, hx, hv, hrun, Result.andThen]
  exact hK' _ _ (hK w' n' hn' h1 hm' hs')
end Go.Proofs.YtdnbclhidpkpgaaGreat
/-
  order's shapes: what an order of a kind may have, and whether it fits.
-/
namespace Go.Proofs.YtdnbclhidpkpgaaGreat
set_option linter.unusedVariables false
set_option linter.unusedSimpArgs false
open Go.RowKit
theorem txt_len (l : List UInt8) : (txt l).size = l.length := by simp [txt, ByteArray.size]
def nameF : Value := .func (Fn.func 112) #[] #[]
set_option maxRecDepth 100000 in
theorem name1_ok (w : World) (o : Od) (L : SV) : Calls Tryz.prog 112 #[.agg #[.int .i64 o.c, .int .i64 o.s, .int .i64 o.k, .string (txt o.acct), .string (txt o.peer), .int .i64 o.sum, .slice L.a L.n L.c, .int .i64 o.per, .int .i64 o.hold, .string (txt o.note)]] w fun e w' => e = .returned (.bool (nameB o.acct)) ∧ Mod none_ w w' := by
  have cname := Lib.hid (fun W => name_ok W (txt o.acct))
  rw [show (txt o.acct).data.toList = o.acct from rfl] at cname
  go_enter Tryz.func112, Tryz.ntmps112
  go_wp2_with fail
  with_reducible refine (cname.out _).mono ?_
  rintro e w1 ⟨rfl, hm1⟩
  dsimp only
  have hmm := Lib.hid (((Mod.refl none_ w).alloc _).trans hm1)
  clear hm1
  go_wp2_with fail
  go_ret
  exact ⟨rfl, hmm.out⟩
def heldB (x : Int) : Bool := decide (1 ≤ x ∧ x ≤ 9999)
def periodB (x : Int) : Bool := decide (1 ≤ x ∧ x ≤ 1000)
def fits1 (o : Od) : Bool := nameB o.acct && decide (0 ≤ o.sum)
def fits2 (o : Od) : Bool := legsB o.legs && (periodB o.per && decide (o.note.length ≤ 20))
def fits3 (o : Od) : Bool := nameB o.acct && decide (0 < o.sum)
def fits4 (o : Od) : Bool := nameB o.acct && (nameB o.peer && (!decide (o.peer = o.acct) && (decide (0 < o.sum) && (heldB o.hold && periodB o.per))))
def fits5 (o : Od) : Bool := nameB o.acct && heldB o.hold
def fits6 (o : Od) : Bool := periodB o.per
set_option maxRecDepth 100000 in
set_option maxHeartbeats 4000000 in
theorem fits1_ok (w : World) (p : Nat) (hp : Blk w p 118 #[nameF]) (o : Od) (L : SV) (hO : OdM w o L) (hL : L.n ≤ 140737488355328) (hz : ∀ l ∈ o.legs, (txt l.n).size ≤ maxLen) :
    Calls Tryz.prog 115 #[.agg #[.int .i64 o.c, .int .i64 o.s, .int .i64 o.k, .string (txt o.acct), .string (txt o.peer), .int .i64 o.sum, .slice L.a L.n L.c, .int .i64 o.per, .int .i64 o.hold, .string (txt o.note)], .pointer (some ⟨p, 0, none⟩)] w fun e w' => e = .returned (.bool (fits1 o)) ∧ Mod none_ w w' := by
  have hsp : fits1 o = (nameB o.acct && decide (0 ≤ o.sum)) := rfl
  have k1 := Lib.hid (fun W => name1_ok W o L)
  have x0 := (hp.alloc (.cells #[.int .i64 o.c, .int .i64 o.s, .int .i64 o.k, .string (txt o.acct), .string (txt o.peer), .int .i64 o.sum, .slice L.a L.n L.c, .int .i64 o.per, .int .i64 o.hold, .string (txt o.note)] 30)).cell_ (i := 0) rfl
  unfold nameF at x0
  replace hp := Lib.hid hp
  have hmm := (Mod.refl none_ w).alloc (.cells #[.int .i64 o.c, .int .i64 o.s, .int .i64 o.k, .string (txt o.acct), .string (txt o.peer), .int .i64 o.sum, .slice L.a L.n L.c, .int .i64 o.per, .int .i64 o.hold, .string (txt o.note)] 30)
  have hB := Blk.new w 30 #[.int .i64 o.c, .int .i64 o.s, .int .i64 o.k, .string (txt o.acct), .string (txt o.peer), .int .i64 o.sum, .slice L.a L.n L.c, .int .i64 o.per, .int .i64 o.hold, .string (txt o.note)]
  replace hO := Lib.hid hO
  replace hsp := Lib.hid hsp
  replace hmm := Lib.hid hmm
  replace hB := Lib.hid hB
  go_enter Tryz.func115, Tryz.ntmps115
  go_wp2_with fail
  with_reducible refine (k1.out _).mono ?_
  rintro e w1 ⟨rfl, hm1⟩
  dsimp only
  replace hB := Lib.hid (hB.out.mod hm1 (fun h => h))
  replace hmm := Lib.hid (hmm.out.trans hm1)
  have qsum : w1.cell? ⟨w.heap.size, 5, none⟩ = some (.int .i64 o.sum) := hB.out.cell_ rfl
  have qpeer : w1.cell? ⟨w.heap.size, 4, none⟩ = some (.string (txt o.peer)) := hB.out.cell_ rfl
  have qacct : w1.cell? ⟨w.heap.size, 3, none⟩ = some (.string (txt o.acct)) := hB.out.cell_ rfl
  have qlegs : w1.cell? ⟨w.heap.size, 6, none⟩ = some (.slice L.a L.n L.c) := hB.out.cell_ rfl
  have qper : w1.cell? ⟨w.heap.size, 7, none⟩ = some (.int .i64 o.per) := hB.out.cell_ rfl
  have qhold : w1.cell? ⟨w.heap.size, 8, none⟩ = some (.int .i64 o.hold) := hB.out.cell_ rfl
  have qnote : w1.cell? ⟨w.heap.size, 9, none⟩ = some (.string (txt o.note)) := hB.out.cell_ rfl
  clear hm1
  go_wp2_with fail
  all_goals
    go_ret
    refine ⟨?_, hmm.out⟩
    rw [hsp.out]
    first | (simp_all [txt_len]; done) | (simp_all [txt_len]; omega)
set_option maxRecDepth 100000 in
set_option maxHeartbeats 4000000 in
theorem fits2_ok (w : World) (o : Od) (L : SV) (hO : OdM w o L) (hL : L.n ≤ 140737488355328) (hz : ∀ l ∈ o.legs, (txt l.n).size ≤ maxLen) :
    Calls Tryz.prog 117 #[.agg #[.int .i64 o.c, .int .i64 o.s, .int .i64 o.k, .string (txt o.acct), .string (txt o.peer), .int .i64 o.sum, .slice L.a L.n L.c, .int .i64 o.per, .int .i64 o.hold, .string (txt o.note)]] w fun e w' => e = .returned (.bool (fits2 o)) ∧ Mod none_ w w' := by
  have hsp : fits2 o = (legsB o.legs && (decide (1 ≤ o.per ∧ o.per ≤ 1000) && decide (o.note.length ≤ 20))) := rfl
  have kr := Lib.hid (fun W => period_ok W o.per)
  have kl := Lib.hid (fun W (h : Mod none_ w W) => legs_ok W L.a L.n L.c o.legs (hO.rd.mod0 h) hL hz)
  have hmm := (Mod.refl none_ w).alloc (.cells #[.int .i64 o.c, .int .i64 o.s, .int .i64 o.k, .string (txt o.acct), .string (txt o.peer), .int .i64 o.sum, .slice L.a L.n L.c, .int .i64 o.per, .int .i64 o.hold, .string (txt o.note)] 30)
  have hB := Blk.new w 30 #[.int .i64 o.c, .int .i64 o.s, .int .i64 o.k, .string (txt o.acct), .string (txt o.peer), .int .i64 o.sum, .slice L.a L.n L.c, .int .i64 o.per, .int .i64 o.hold, .string (txt o.note)]
  replace hO := Lib.hid hO
  replace hsp := Lib.hid hsp
  replace hmm := Lib.hid hmm
  replace hB := Lib.hid hB
  go_enter Tryz.func117, Tryz.ntmps117
  go_wp2_with fail
  with_reducible refine (kl.out _ hmm.out).mono ?_
  rintro e w1 ⟨rfl, hm1⟩
  dsimp only
  replace hB := Lib.hid (hB.out.mod hm1 (fun h => h))
  replace hmm := Lib.hid (hmm.out.trans hm1)
  have qsum : w1.cell? ⟨w.heap.size, 5, none⟩ = some (.int .i64 o.sum) := hB.out.cell_ rfl
  have qpeer : w1.cell? ⟨w.heap.size, 4, none⟩ = some (.string (txt o.peer)) := hB.out.cell_ rfl
  have qacct : w1.cell? ⟨w.heap.size, 3, none⟩ = some (.string (txt o.acct)) := hB.out.cell_ rfl
  have qlegs : w1.cell? ⟨w.heap.size, 6, none⟩ = some (.slice L.a L.n L.c) := hB.out.cell_ rfl
  have qper : w1.cell? ⟨w.heap.size, 7, none⟩ = some (.int .i64 o.per) := hB.out.cell_ rfl
  have qhold : w1.cell? ⟨w.heap.size, 8, none⟩ = some (.int .i64 o.hold) := hB.out.cell_ rfl
  have qnote : w1.cell? ⟨w.heap.size, 9, none⟩ = some (.string (txt o.note)) := hB.out.cell_ rfl
  clear hm1
  go_wp2_with fail
  · skip
    with_reducible refine (kr.out _).mono ?_
    rintro e w1 ⟨rfl, rfl⟩
    dsimp only
    go_wp2_with fail
    all_goals
      go_ret
      refine ⟨?_, hmm.out⟩
      rw [hsp.out]
      first | (simp_all [txt_len]; done) | (simp_all [txt_len]; omega)
  all_goals
    go_ret
    refine ⟨?_, hmm.out⟩
    rw [hsp.out]
    first | (simp_all [txt_len]; done) | (simp_all [txt_len]; omega)
set_option maxRecDepth 100000 in
set_option maxHeartbeats 4000000 in
theorem fits3_ok (w : World) (p : Nat) (hp : Blk w p 118 #[nameF]) (o : Od) (L : SV) (hO : OdM w o L) (hL : L.n ≤ 140737488355328) (hz : ∀ l ∈ o.legs, (txt l.n).size ≤ maxLen) :
    Calls Tryz.prog 121 #[.agg #[.int .i64 o.c, .int .i64 o.s, .int .i64 o.k, .string (txt o.acct), .string (txt o.peer), .int .i64 o.sum, .slice L.a L.n L.c, .int .i64 o.per, .int .i64 o.hold, .string (txt o.note)], .pointer (some ⟨p, 0, none⟩)] w fun e w' => e = .returned (.bool (fits3 o)) ∧ Mod none_ w w' := by
  have hsp : fits3 o = (nameB o.acct && decide (0 < o.sum)) := rfl
  have k1 := Lib.hid (fun W => name1_ok W o L)
  have x0 := (hp.alloc (.cells #[.int .i64 o.c, .int .i64 o.s, .int .i64 o.k, .string (txt o.acct), .string (txt o.peer), .int .i64 o.sum, .slice L.a L.n L.c, .int .i64 o.per, .int .i64 o.hold, .string (txt o.note)] 30)).cell_ (i := 0) rfl
  unfold nameF at x0
  replace hp := Lib.hid hp
  have hmm := (Mod.refl none_ w).alloc (.cells #[.int .i64 o.c, .int .i64 o.s, .int .i64 o.k, .string (txt o.acct), .string (txt o.peer), .int .i64 o.sum, .slice L.a L.n L.c, .int .i64 o.per, .int .i64 o.hold, .string (txt o.note)] 30)
  have hB := Blk.new w 30 #[.int .i64 o.c, .int .i64 o.s, .int .i64 o.k, .string (txt o.acct), .string (txt o.peer), .int .i64 o.sum, .slice L.a L.n L.c, .int .i64 o.per, .int .i64 o.hold, .string (txt o.note)]
  replace hO := Lib.hid hO
  replace hsp := Lib.hid hsp
  replace hmm := Lib.hid hmm
  replace hB := Lib.hid hB
  go_enter Tryz.func121, Tryz.ntmps121
  go_wp2_with fail
  with_reducible refine (k1.out _).mono ?_
  rintro e w1 ⟨rfl, hm1⟩
  dsimp only
  replace hB := Lib.hid (hB.out.mod hm1 (fun h => h))
  replace hmm := Lib.hid (hmm.out.trans hm1)
  have qsum : w1.cell? ⟨w.heap.size, 5, none⟩ = some (.int .i64 o.sum) := hB.out.cell_ rfl
  have qpeer : w1.cell? ⟨w.heap.size, 4, none⟩ = some (.string (txt o.peer)) := hB.out.cell_ rfl
  have qacct : w1.cell? ⟨w.heap.size, 3, none⟩ = some (.string (txt o.acct)) := hB.out.cell_ rfl
  have qlegs : w1.cell? ⟨w.heap.size, 6, none⟩ = some (.slice L.a L.n L.c) := hB.out.cell_ rfl
  have qper : w1.cell? ⟨w.heap.size, 7, none⟩ = some (.int .i64 o.per) := hB.out.cell_ rfl
  have qhold : w1.cell? ⟨w.heap.size, 8, none⟩ = some (.int .i64 o.hold) := hB.out.cell_ rfl
  have qnote : w1.cell? ⟨w.heap.size, 9, none⟩ = some (.string (txt o.note)) := hB.out.cell_ rfl
  clear hm1
  go_wp2_with fail
  all_goals
    go_ret
    refine ⟨?_, hmm.out⟩
    rw [hsp.out]
    first | (simp_all [txt_len]; done) | (simp_all [txt_len]; omega)
set_option maxRecDepth 100000 in
set_option maxHeartbeats 4000000 in
theorem fits4_ok (w : World) (p : Nat) (hp : Blk w p 118 #[nameF]) (o : Od) (L : SV) (hO : OdM w o L) (hL : L.n ≤ 140737488355328) (hz : ∀ l ∈ o.legs, (txt l.n).size ≤ maxLen) :
    Calls Tryz.prog 123 #[.agg #[.int .i64 o.c, .int .i64 o.s, .int .i64 o.k, .string (txt o.acct), .string (txt o.peer), .int .i64 o.sum, .slice L.a L.n L.c, .int .i64 o.per, .int .i64 o.hold, .string (txt o.note)], .pointer (some ⟨p, 0, none⟩)] w fun e w' => e = .returned (.bool (fits4 o)) ∧ Mod none_ w w' := by
  have hsp : fits4 o = (nameB o.acct && (nameB o.peer && (!decide (o.peer = o.acct) && (decide (0 < o.sum) && (decide (1 ≤ o.hold ∧ o.hold ≤ 9999) && decide (1 ≤ o.per ∧ o.per ≤ 1000)))))) := rfl
  have k1 := Lib.hid (fun W => name1_ok W o L)
  have kp := Lib.hid (fun W => name_ok W (txt o.peer))
  rw [show (txt o.peer).data.toList = o.peer from rfl] at kp
  have kh := Lib.hid (fun W => held_ok W o.hold)
  have kr := Lib.hid (fun W => period_ok W o.per)
  have x0 := (hp.alloc (.cells #[.int .i64 o.c, .int .i64 o.s, .int .i64 o.k, .string (txt o.acct), .string (txt o.peer), .int .i64 o.sum, .slice L.a L.n L.c, .int .i64 o.per, .int .i64 o.hold, .string (txt o.note)] 30)).cell_ (i := 0) rfl
  unfold nameF at x0
  replace hp := Lib.hid hp
  have hmm := (Mod.refl none_ w).alloc (.cells #[.int .i64 o.c, .int .i64 o.s, .int .i64 o.k, .string (txt o.acct), .string (txt o.peer), .int .i64 o.sum, .slice L.a L.n L.c, .int .i64 o.per, .int .i64 o.hold, .string (txt o.note)] 30)
  have hB := Blk.new w 30 #[.int .i64 o.c, .int .i64 o.s, .int .i64 o.k, .string (txt o.acct), .string (txt o.peer), .int .i64 o.sum, .slice L.a L.n L.c, .int .i64 o.per, .int .i64 o.hold, .string (txt o.note)]
  replace hO := Lib.hid hO
  replace hsp := Lib.hid hsp
  replace hmm := Lib.hid hmm
  replace hB := Lib.hid hB
  go_enter Tryz.func123, Tryz.ntmps123
  go_wp2_with fail
  with_reducible refine (k1.out _).mono ?_
  rintro e w1 ⟨rfl, hm1⟩
  dsimp only
  replace hB := Lib.hid (hB.out.mod hm1 (fun h => h))
  replace hmm := Lib.hid (hmm.out.trans hm1)
  have qsum : w1.cell? ⟨w.heap.size, 5, none⟩ = some (.int .i64 o.sum) := hB.out.cell_ rfl
  have qpeer : w1.cell? ⟨w.heap.size, 4, none⟩ = some (.string (txt o.peer)) := hB.out.cell_ rfl
  have qacct : w1.cell? ⟨w.heap.size, 3, none⟩ = some (.string (txt o.acct)) := hB.out.cell_ rfl
  have qlegs : w1.cell? ⟨w.heap.size, 6, none⟩ = some (.slice L.a L.n L.c) := hB.out.cell_ rfl
  have qper : w1.cell? ⟨w.heap.size, 7, none⟩ = some (.int .i64 o.per) := hB.out.cell_ rfl
  have qhold : w1.cell? ⟨w.heap.size, 8, none⟩ = some (.int .i64 o.hold) := hB.out.cell_ rfl
  have qnote : w1.cell? ⟨w.heap.size, 9, none⟩ = some (.string (txt o.note)) := hB.out.cell_ rfl
  clear hm1
  go_wp2_with fail
  · skip
    with_reducible refine (kp.out _).mono ?_
    rintro e w1 ⟨rfl, hm1⟩
    dsimp only
    replace hB := Lib.hid (hB.out.mod hm1 (fun h => h))
    replace hmm := Lib.hid (hmm.out.trans hm1)
    have qsum : w1.cell? ⟨w.heap.size, 5, none⟩ = some (.int .i64 o.sum) := hB.out.cell_ rfl
    have qpeer : w1.cell? ⟨w.heap.size, 4, none⟩ = some (.string (txt o.peer)) := hB.out.cell_ rfl
    have qacct : w1.cell? ⟨w.heap.size, 3, none⟩ = some (.string (txt o.acct)) := hB.out.cell_ rfl
    have qlegs : w1.cell? ⟨w.heap.size, 6, none⟩ = some (.slice L.a L.n L.c) := hB.out.cell_ rfl
    have qper : w1.cell? ⟨w.heap.size, 7, none⟩ = some (.int .i64 o.per) := hB.out.cell_ rfl
    have qhold : w1.cell? ⟨w.heap.size, 8, none⟩ = some (.int .i64 o.hold) := hB.out.cell_ rfl
    have qnote : w1.cell? ⟨w.heap.size, 9, none⟩ = some (.string (txt o.note)) := hB.out.cell_ rfl
    clear hm1
    go_wp2_with fail
    rotate_left
    · skip
      with_reducible refine (kh.out _).mono ?_
      rintro e w1 ⟨rfl, rfl⟩
      dsimp only
      go_wp2_with fail
      · skip
        with_reducible refine (kr.out _).mono ?_
        rintro e w1 ⟨rfl, rfl⟩
        dsimp only
        go_wp2_with fail
        all_goals
          go_ret
          refine ⟨?_, hmm.out⟩
          rw [hsp.out]
          first | (simp_all [txt_len]; done) | (simp_all [txt_len]; omega)
      all_goals
        go_ret
        refine ⟨?_, hmm.out⟩
        rw [hsp.out]
        first | (simp_all [txt_len]; done) | (simp_all [txt_len]; omega)
    all_goals
      go_ret
      refine ⟨?_, hmm.out⟩
      rw [hsp.out]
      first | (simp_all [txt_len]; done) | (simp_all [txt_len]; omega)
  all_goals
    go_ret
    refine ⟨?_, hmm.out⟩
    rw [hsp.out]
    first | (simp_all [txt_len]; done) | (simp_all [txt_len]; omega)
set_option maxRecDepth 100000 in
set_option maxHeartbeats 4000000 in
theorem fits5_ok (w : World) (p : Nat) (hp : Blk w p 118 #[nameF]) (o : Od) (L : SV) (hO : OdM w o L) (hL : L.n ≤ 140737488355328) (hz : ∀ l ∈ o.legs, (txt l.n).size ≤ maxLen) :
    Calls Tryz.prog 126 #[.agg #[.int .i64 o.c, .int .i64 o.s, .int .i64 o.k, .string (txt o.acct), .string (txt o.peer), .int .i64 o.sum, .slice L.a L.n L.c, .int .i64 o.per, .int .i64 o.hold, .string (txt o.note)], .pointer (some ⟨p, 0, none⟩)] w fun e w' => e = .returned (.bool (fits5 o)) ∧ Mod none_ w w' := by
  have hsp : fits5 o = (nameB o.acct && decide (1 ≤ o.hold ∧ o.hold ≤ 9999)) := rfl
  have k1 := Lib.hid (fun W => name1_ok W o L)
  have kh := Lib.hid (fun W => held_ok W o.hold)
  have x0 := (hp.alloc (.cells #[.int .i64 o.c, .int .i64 o.s, .int .i64 o.k, .string (txt o.acct), .string (txt o.peer), .int .i64 o.sum, .slice L.a L.n L.c, .int .i64 o.per, .int .i64 o.hold, .string (txt o.note)] 30)).cell_ (i := 0) rfl
  unfold nameF at x0
  replace hp := Lib.hid hp
  have hmm := (Mod.refl none_ w).alloc (.cells #[.int .i64 o.c, .int .i64 o.s, .int .i64 o.k, .string (txt o.acct), .string (txt o.peer), .int .i64 o.sum, .slice L.a L.n L.c, .int .i64 o.per, .int .i64 o.hold, .string (txt o.note)] 30)
  have hB := Blk.new w 30 #[.int .i64 o.c, .int .i64 o.s, .int .i64 o.k, .string (txt o.acct), .string (txt o.peer), .int .i64 o.sum, .slice L.a L.n L.c, .int .i64 o.per, .int .i64 o.hold, .string (txt o.note)]
  replace hO := Lib.hid hO
  replace hsp := Lib.hid hsp
  replace hmm := Lib.hid hmm
  replace hB := Lib.hid hB
  go_enter Tryz.func126, Tryz.ntmps126
  go_wp2_with fail
  with_reducible refine (k1.out _).mono ?_
  rintro e w1 ⟨rfl, hm1⟩
  dsimp only
  replace hB := Lib.hid (hB.out.mod hm1 (fun h => h))
  replace hmm := Lib.hid (hmm.out.trans hm1)
  have qsum : w1.cell? ⟨w.heap.size, 5, none⟩ = some (.int .i64 o.sum) := hB.out.cell_ rfl
  have qpeer : w1.cell? ⟨w.heap.size, 4, none⟩ = some (.string (txt o.peer)) := hB.out.cell_ rfl
  have qacct : w1.cell? ⟨w.heap.size, 3, none⟩ = some (.string (txt o.acct)) := hB.out.cell_ rfl
  have qlegs : w1.cell? ⟨w.heap.size, 6, none⟩ = some (.slice L.a L.n L.c) := hB.out.cell_ rfl
  have qper : w1.cell? ⟨w.heap.size, 7, none⟩ = some (.int .i64 o.per) := hB.out.cell_ rfl
  have qhold : w1.cell? ⟨w.heap.size, 8, none⟩ = some (.int .i64 o.hold) := hB.out.cell_ rfl
  have qnote : w1.cell? ⟨w.heap.size, 9, none⟩ = some (.string (txt o.note)) := hB.out.cell_ rfl
  clear hm1
  go_wp2_with fail
  · skip
    with_reducible refine (kh.out _).mono ?_
    rintro e w1 ⟨rfl, rfl⟩
    dsimp only
    go_wp2_with fail
    all_goals
      go_ret
      refine ⟨?_, hmm.out⟩
      rw [hsp.out]
      first | (simp_all [txt_len]; done) | (simp_all [txt_len]; omega)
  all_goals
    go_ret
    refine ⟨?_, hmm.out⟩
    rw [hsp.out]
    first | (simp_all [txt_len]; done) | (simp_all [txt_len]; omega)
set_option maxRecDepth 100000 in
set_option maxHeartbeats 4000000 in
theorem fits6_ok (w : World) (o : Od) (L : SV) (hO : OdM w o L) (hL : L.n ≤ 140737488355328) (hz : ∀ l ∈ o.legs, (txt l.n).size ≤ maxLen) :
    Calls Tryz.prog 128 #[.agg #[.int .i64 o.c, .int .i64 o.s, .int .i64 o.k, .string (txt o.acct), .string (txt o.peer), .int .i64 o.sum, .slice L.a L.n L.c, .int .i64 o.per, .int .i64 o.hold, .string (txt o.note)]] w fun e w' => e = .returned (.bool (fits6 o)) ∧ Mod none_ w w' := by
  have hsp : fits6 o = (decide (1 ≤ o.per ∧ o.per ≤ 1000)) := rfl
  have kr := Lib.hid (fun W => period_ok W o.per)
  have hmm := (Mod.refl none_ w).alloc (.cells #[.int .i64 o.c, .int .i64 o.s, .int .i64 o.k, .string (txt o.acct), .string (txt o.peer), .int .i64 o.sum, .slice L.a L.n L.c, .int .i64 o.per, .int .i64 o.hold, .string (txt o.note)] 30)
  have hB := Blk.new w 30 #[.int .i64 o.c, .int .i64 o.s, .int .i64 o.k, .string (txt o.acct), .string (txt o.peer), .int .i64 o.sum, .slice L.a L.n L.c, .int .i64 o.per, .int .i64 o.hold, .string (txt o.note)]
  replace hO := Lib.hid hO
  replace hsp := Lib.hid hsp
  replace hmm := Lib.hid hmm
  replace hB := Lib.hid hB
  go_enter Tryz.func128, Tryz.ntmps128
  go_wp2_with fail
  with_reducible refine (kr.out _).mono ?_
  rintro e w1 ⟨rfl, rfl⟩
  dsimp only
  go_wp2_with fail
  all_goals
    go_ret
    refine ⟨?_, hmm.out⟩
    rw [hsp.out]
    first | (simp_all [txt_len]; done) | (simp_all [txt_len]; omega)
end Go.Proofs.YtdnbclhidpkpgaaGreat
/-
  order's shapes: the bare orders.
-/
namespace Go.Proofs.YtdnbclhidpkpgaaGreat
set_option linter.unusedVariables false
set_option linter.unusedSimpArgs false
open Go.RowKit
theorem order_size : (Tryz.prog.info? 30).map (·.size) = some 10 := by kernel_rfl
/-- the end of a function whose result is an order in a block -/
theorem ret_order {fn : Func} {p : Tmp} (h : fn.results = #[.cell p 30]) {a : Act} {w : World} {R : Ending → World → Prop} (g : Nat) (cs : Array Value) (hp : a.tmps.getD p undef = .pointer (some ⟨g, 0, none⟩))
    (hg : Blk w g 30 cs) (hs : cs.size = 10) (hd : a.defers = []) (hR : R (.returned (.agg cs)) w) : bodyPost Tryz.prog fn R .ret a w :=
  bodyPost_ret (results_cell_row h a.tmps w g _ cs _ _ hp hg Tryz.underlying30 rfl (by rw [hs]; exact order_size)) hd hR
def bare1 (o : Od) : Od := ⟨o.c, o.s, o.k, o.acct, [], o.sum, [], 0, 0, []⟩
set_option maxRecDepth 100000 in
theorem bare1_ok (w : World) (o : Od) (L : SV) :
    Calls Tryz.prog 114 #[.agg #[.int .i64 o.c, .int .i64 o.s, .int .i64 o.k, .string (txt o.acct), .string (txt o.peer), .int .i64 o.sum, .slice L.a L.n L.c, .int .i64 o.per, .int .i64 o.hold, .string (txt o.note)]] w fun e w' => e = .returned (.agg #[.int .i64 0, .int .i64 0, .int .i64 0, .string (txt o.acct), .string ⟨#[]⟩, .int .i64 o.sum, .slice none 0 0, .int .i64 0, .int .i64 0, .string ⟨#[]⟩]) ∧ Mod none_ w w' := by
  go_enter Tryz.func114, Tryz.ntmps114
  go_wp2_with fail
  exact ret_order rfl (w.heap.size + 1) _ rfl (heap_alloc2_new _ _ _) rfl rfl ⟨rfl, ((Mod.refl none_ w).alloc _).alloc _⟩
def bare2 (o : Od) : Od := ⟨o.c, o.s, o.k, [], [], 0, o.legs, o.per, 0, o.note⟩
set_option maxRecDepth 100000 in
theorem bare2_ok (w : World) (o : Od) (L : SV) :
    Calls Tryz.prog 116 #[.agg #[.int .i64 o.c, .int .i64 o.s, .int .i64 o.k, .string (txt o.acct), .string (txt o.peer), .int .i64 o.sum, .slice L.a L.n L.c, .int .i64 o.per, .int .i64 o.hold, .string (txt o.note)]] w fun e w' => e = .returned (.agg #[.int .i64 0, .int .i64 0, .int .i64 0, .string ⟨#[]⟩, .string ⟨#[]⟩, .int .i64 0, .slice L.a L.n L.c, .int .i64 o.per, .int .i64 0, .string (txt o.note)]) ∧ Mod none_ w w' := by
  go_enter Tryz.func116, Tryz.ntmps116
  go_wp2_with fail
  exact ret_order rfl (w.heap.size + 1) _ rfl (heap_alloc2_new _ _ _) rfl rfl ⟨rfl, ((Mod.refl none_ w).alloc _).alloc _⟩
def bare3 (o : Od) : Od := ⟨o.c, o.s, o.k, o.acct, [], o.sum, [], 0, 0, []⟩
set_option maxRecDepth 100000 in
theorem bare3_ok (w : World) (o : Od) (L : SV) :
    Calls Tryz.prog 120 #[.agg #[.int .i64 o.c, .int .i64 o.s, .int .i64 o.k, .string (txt o.acct), .string (txt o.peer), .int .i64 o.sum, .slice L.a L.n L.c, .int .i64 o.per, .int .i64 o.hold, .string (txt o.note)]] w fun e w' => e = .returned (.agg #[.int .i64 0, .int .i64 0, .int .i64 0, .string (txt o.acct), .string ⟨#[]⟩, .int .i64 o.sum, .slice none 0 0, .int .i64 0, .int .i64 0, .string ⟨#[]⟩]) ∧ Mod none_ w w' := by
  go_enter Tryz.func120, Tryz.ntmps120
  go_wp2_with fail
  exact ret_order rfl (w.heap.size + 1) _ rfl (heap_alloc2_new _ _ _) rfl rfl ⟨rfl, ((Mod.refl none_ w).alloc _).alloc _⟩
def bare4 (o : Od) : Od := ⟨o.c, o.s, o.k, o.acct, o.peer, o.sum, [], o.per, o.hold, []⟩
set_option maxRecDepth 100000 in
theorem bare4_ok (w : World) (o : Od) (L : SV) :
    Calls Tryz.prog 122 #[.agg #[.int .i64 o.c, .int .i64 o.s, .int .i64 o.k, .string (txt o.acct), .string (txt o.peer), .int .i64 o.sum, .slice L.a L.n L.c, .int .i64 o.per, .int .i64 o.hold, .string (txt o.note)]] w fun e w' => e = .returned (.agg #[.int .i64 0, .int .i64 0, .int .i64 0, .string (txt o.acct), .string (txt o.peer), .int .i64 o.sum, .slice none 0 0, .int .i64 o.per, .int .i64 o.hold, .string ⟨#[]⟩]) ∧ Mod none_ w w' := by
  go_enter Tryz.func122, Tryz.ntmps122
  go_wp2_with fail
  exact ret_order rfl (w.heap.size + 1) _ rfl (heap_alloc2_new _ _ _) rfl rfl ⟨rfl, ((Mod.refl none_ w).alloc _).alloc _⟩
def bare5 (o : Od) : Od := ⟨o.c, o.s, o.k, o.acct, [], 0, [], 0, o.hold, []⟩
set_option maxRecDepth 100000 in
theorem bare5_ok (w : World) (o : Od) (L : SV) :
    Calls Tryz.prog 125 #[.agg #[.int .i64 o.c, .int .i64 o.s, .int .i64 o.k, .string (txt o.acct), .string (txt o.peer), .int .i64 o.sum, .slice L.a L.n L.c, .int .i64 o.per, .int .i64 o.hold, .string (txt o.note)]] w fun e w' => e = .returned (.agg #[.int .i64 0, .int .i64 0, .int .i64 0, .string (txt o.acct), .string ⟨#[]⟩, .int .i64 0, .slice none 0 0, .int .i64 0, .int .i64 o.hold, .string ⟨#[]⟩]) ∧ Mod none_ w w' := by
  go_enter Tryz.func125, Tryz.ntmps125
  go_wp2_with fail
  exact ret_order rfl (w.heap.size + 1) _ rfl (heap_alloc2_new _ _ _) rfl rfl ⟨rfl, ((Mod.refl none_ w).alloc _).alloc _⟩
def bare6 (o : Od) : Od := ⟨o.c, o.s, o.k, [], [], 0, [], o.per, 0, []⟩
set_option maxRecDepth 100000 in
theorem bare6_ok (w : World) (o : Od) (L : SV) :
    Calls Tryz.prog 127 #[.agg #[.int .i64 o.c, .int .i64 o.s, .int .i64 o.k, .string (txt o.acct), .string (txt o.peer), .int .i64 o.sum, .slice L.a L.n L.c, .int .i64 o.per, .int .i64 o.hold, .string (txt o.note)]] w fun e w' => e = .returned (.agg #[.int .i64 0, .int .i64 0, .int .i64 0, .string ⟨#[]⟩, .string ⟨#[]⟩, .int .i64 0, .slice none 0 0, .int .i64 o.per, .int .i64 0, .string ⟨#[]⟩]) ∧ Mod none_ w w' := by
  go_enter Tryz.func127, Tryz.ntmps127
  go_wp2_with fail
  exact ret_order rfl (w.heap.size + 1) _ rfl (heap_alloc2_new _ _ _) rfl rfl ⟨rfl, ((Mod.refl none_ w).alloc _).alloc _⟩
def bare7 (o : Od) : Od := ⟨o.c, o.s, o.k, o.acct, [], 0, [], 0, 0, []⟩
set_option maxRecDepth 100000 in
theorem bare7_ok (w : World) (o : Od) (L : SV) :
    Calls Tryz.prog 129 #[.agg #[.int .i64 o.c, .int .i64 o.s, .int .i64 o.k, .string (txt o.acct), .string (txt o.peer), .int .i64 o.sum, .slice L.a L.n L.c, .int .i64 o.per, .int .i64 o.hold, .string (txt o.note)]] w fun e w' => e = .returned (.agg #[.int .i64 0, .int .i64 0, .int .i64 0, .string (txt o.acct), .string ⟨#[]⟩, .int .i64 0, .slice none 0 0, .int .i64 0, .int .i64 0, .string ⟨#[]⟩]) ∧ Mod none_ w w' := by
  go_enter Tryz.func129, Tryz.ntmps129
  go_wp2_with fail
  exact ret_order rfl (w.heap.size + 1) _ rfl (heap_alloc2_new _ _ _) rfl rfl ⟨rfl, ((Mod.refl none_ w).alloc _).alloc _⟩
end Go.Proofs.YtdnbclhidpkpgaaGreat
/-
  order's shapes, and order.Right.
-/
namespace Go.Proofs.YtdnbclhidpkpgaaGreat
set_option linter.unusedVariables false
set_option linter.unusedSimpArgs false
open Go.RowKit
def fnV (f : FuncId) : Value := .func (Fn.func f) #[] #[]
def fnP (f : FuncId) (p : Nat) : Value := .func (Fn.func f) #[] #[.pointer (some ⟨p, 0, none⟩)]
def shV (k : Int) (p : Nat) : Value :=
  if k = 1 then .agg #[fnV 114, fnP 115 p]
  else if k = 2 then .agg #[fnV 116, fnV 117]
  else if k = 3 then .agg #[fnV 120, fnP 121 p]
  else if k = 4 then .agg #[fnV 122, fnP 123 p]
  else if k = 5 then .agg #[fnV 125, fnP 126 p]
  else if k = 6 then .agg #[fnV 127, fnV 128]
  else .agg #[fnV 129, nameF]
def shapesD (p : Nat) : DataW Value := .map ([1, 2, 3, 4, 5, 6, 7].map fun (k : Int) => (.int .i64 k, .held (shV k p)))
def ShPost (w : World) (e : Ending) (w' : World) : Prop := ∃ b p n, e = .returned (.map (some b)) ∧ w'.ownsMap Tryz.prog 3 VR b n (shapesD p) ∧ Blk w' p 118 #[nameF] ∧ Mod none_ w w'
set_option maxRecDepth 100000 in
set_option maxHeartbeats 4000000 in
theorem shapes_ok (w : World) : Calls Tryz.prog 103 #[] w (ShPost w) := by
  have hmk := fun W => run_makeMap (P := Tryz.prog) 141 W
  have hmf : ∀ (fn : Fn) (first cap : Array Value) (w : World), (Instr.makeFunc fn first cap).run Tryz.prog w = .ok (.func fn first cap) w := fun _ _ _ _ => rfl
  have hsf : ∀ (a : Addr) (f : Fn) (c p : Array Value) (W : World), (store a (.func f c p)).run Tryz.prog W = stored Tryz.prog W a (.func f c p) .plain := fun a f c p W => run_store Tryz.prog W a _ _ rfl
  have hD := World.ownsMap_made (P := Tryz.prog) (H := Value) (w.alloc (.cells #[.func (Fn.func 112) #[] #[]] 118)) 3 VR
  rw [show (w.alloc (.cells #[.func (Fn.func 112) #[] #[]] 118)).heap.size = w.heap.size + 1 by simp] at hD
  have hB := (Blk.new w 118 #[.func (Fn.func 112) #[] #[]]).alloc (.map #[] 0)
  have hmm := ((Mod.refl none_ w).alloc (.cells #[.func (Fn.func 112) #[] #[]] 118)).alloc (.map #[] 0)
  replace hD := Lib.hid hD
  replace hB := Lib.hid hB
  replace hmm := Lib.hid hmm
  go_enter Tryz.func103, Tryz.ntmps103
  go_upto_region 2 with fail
  go_wp2_with (show wpList _ _ _ (⟨none, _, _, _, _, _⟩ :: _) _ _; go_loud (refine mapF_insert _ rfl (.tmp 2) _ _ _ rfl 3 _ Tryz.underlying141 Tryz.underlying3 (w.heap.size + 1) _ _ rfl hD.out (by simp only [maxLen]; omega) _ (by decide) rfl _ rfl ?_; intro w2 n2 hn2 hD2 hm2 hs2; replace hmm := Lib.hid (hmm.out.then hm2 (fun i hi e => by have e2 : i = w.heap.size + 1 := e; omega)); replace hB := Lib.hid (hB.out.mod hm2 (by simp)); have x0 : w2.cell? ⟨w.heap.size, 0, none⟩ = some (.func (Fn.func 112) #[] #[]) := hB.out.cell_ rfl; replace hD := Lib.hid hD2; clear hD2 hm2 hs2))
  go_ret
  exact ⟨w.heap.size + 1, w.heap.size, _, rfl, hD.out, hB.out, hmm.out⟩
end Go.Proofs.YtdnbclhidpkpgaaGreat
/-
  order.Right.
-/
namespace Go.Proofs.YtdnbclhidpkpgaaGreat
set_option linter.unusedVariables false
set_option linter.unusedSimpArgs false
open Go.RowKit
def idB (o : Od) : Bool := decide (0 ≤ o.c ∧ o.c ≤ 9 ∧ 1 ≤ o.s ∧ o.s ≤ 999)
def zSh : Value := .agg #[.nilFunc, .nilFunc]
set_option maxRecDepth 100000 in
theorem zSh_run (W : World) : (zeroValue 139).run Tryz.prog W = .ok zSh W := by rfl
set_option maxRecDepth 100000 in
theorem call_test (args : Array Value) (W : World) : (callFunc 114 args).run Tryz.prog W = .ok (.enter 114 args) W := by rfl
set_option maxRecDepth 100000 in
set_option maxHeartbeats 8000000 in
theorem rightO_gen (w : World) (o : Od) (L : SV) (hO : OdM w o L) (hL : L.n ≤ 140737488355328) (hk : (Lit.int .i64 o.k).wf = true) (fb ff : FuncId) (cap : Nat → Array Value) (b : Od) (Lb : SV) (fit : Bool)
    (hbm : ∀ W, OdM W o L → OdM W b Lb) (hLb : Lb.n ≤ 140737488355328) (hc : b.c = o.c) (hs : b.s = o.s) (hkk : b.k = o.k)
    (hlook : ∀ p, (shapesD p).atKey (.int .i64 o.k) (.held zSh) = .held (.agg #[.func (Fn.func fb) #[] #[], .func (Fn.func ff) #[] (cap p)]))
    (hhas : ∀ p, Maps.has (shapesD p) (.int .i64 o.k) = true)
    (hcb : ∀ (args : Array Value) (W : World), (callFunc fb args).run Tryz.prog W = .ok (.enter fb args) W) (hcf : ∀ (args : Array Value) (W : World), (callFunc ff args).run Tryz.prog W = .ok (.enter ff args) W)
    (hbare : ∀ W, Calls Tryz.prog fb #[.agg #[.int .i64 o.c, .int .i64 o.s, .int .i64 o.k, .string (txt o.acct), .string (txt o.peer), .int .i64 o.sum, .slice L.a L.n L.c, .int .i64 o.per, .int .i64 o.hold, .string (txt o.note)]] W fun e w' => e = .returned (.agg #[.int .i64 0, .int .i64 0, .int .i64 0, .string (txt b.acct), .string (txt b.peer), .int .i64 b.sum, .slice Lb.a Lb.n Lb.c, .int .i64 b.per, .int .i64 b.hold, .string (txt b.note)]) ∧ Mod none_ W w')
    (hfits : ∀ W p, Mod none_ w W → Blk W p 118 #[nameF] → Calls Tryz.prog ff (#[.agg #[.int .i64 o.c, .int .i64 o.s, .int .i64 o.k, .string (txt o.acct), .string (txt o.peer), .int .i64 o.sum, .slice L.a L.n L.c, .int .i64 o.per, .int .i64 o.hold, .string (txt o.note)]] ++ cap p) W fun e w' => e = .returned (.bool fit) ∧ Mod none_ W w') :
    Calls Tryz.prog 82 #[.agg #[.int .i64 o.c, .int .i64 o.s, .int .i64 o.k, .string (txt o.acct), .string (txt o.peer), .int .i64 o.sum, .slice L.a L.n L.c, .int .i64 o.per, .int .i64 o.hold, .string (txt o.note)]] w fun e w' => e = .returned (.bool (idB o && (decide (o = b) && fit))) ∧ Mod none_ w w' := by
  have kS := Lib.hid (fun W => shapes_ok W)
  have hsf : ∀ (a : Addr) (f : Fn) (c p : Array Value) (W : World), (store a (.func f c p)).run Tryz.prog W = stored Tryz.prog W a (.func f c p) .plain := fun a f c p W => run_store Tryz.prog W a _ _ rfl
  have hlk := Lib.hid (fun (W : World) b' n p (h : W.ownsMap Tryz.prog 3 VR b' n (shapesD p)) => mapF_look_run 141 3 _ Tryz.underlying141 Tryz.underlying3 (zSh_run W) b' n _ h o.k hk _ (hlook p) _ (hhas p))
  have hB0 := (Blk.new w 30 #[.int .i64 o.c, .int .i64 o.s, .int .i64 o.k, .string (txt o.acct), .string (txt o.peer), .int .i64 o.sum, .slice L.a L.n L.c, .int .i64 o.per, .int .i64 o.hold, .string (txt o.note)]).drew
  have hm0 := ((Mod.refl none_ w).alloc (.cells #[.int .i64 o.c, .int .i64 o.s, .int .i64 o.k, .string (txt o.acct), .string (txt o.peer), .int .i64 o.sum, .slice L.a L.n L.c, .int .i64 o.per, .int .i64 o.hold, .string (txt o.note)] 30)).drew
  have hBa := ((Blk.new w 30 #[.int .i64 o.c, .int .i64 o.s, .int .i64 o.k, .string (txt o.acct), .string (txt o.peer), .int .i64 o.sum, .slice L.a L.n L.c, .int .i64 o.per, .int .i64 o.hold, .string (txt o.note)]).alloc (.cells #[.nilFunc, .nilFunc] 139)).drew
  have hma := (((Mod.refl none_ w).alloc (.cells #[.int .i64 o.c, .int .i64 o.s, .int .i64 o.k, .string (txt o.acct), .string (txt o.peer), .int .i64 o.sum, .slice L.a L.n L.c, .int .i64 o.per, .int .i64 o.hold, .string (txt o.note)] 30)).alloc (.cells #[.nilFunc, .nilFunc] 139)).drew
  have hSa : Blk ((w.alloc (.cells #[.int .i64 o.c, .int .i64 o.s, .int .i64 o.k, .string (txt o.acct), .string (txt o.peer), .int .i64 o.sum, .slice L.a L.n L.c, .int .i64 o.per, .int .i64 o.hold, .string (txt o.note)] 30)).alloc (.cells #[.nilFunc, .nilFunc] 139)).drew (w.heap.size + 1) 139 #[.nilFunc, .nilFunc] := heap_alloc2_new w _ _
  replace hBa := Lib.hid hBa
  replace hma := Lib.hid hma
  replace hSa := Lib.hid hSa
  replace hO := Lib.hid hO
  replace hlook := Lib.hid hlook
  replace hhas := Lib.hid hhas
  replace hbare := Lib.hid hbare
  replace hfits := Lib.hid hfits
  replace hbm := Lib.hid hbm
  replace hB0 := Lib.hid hB0
  replace hm0 := Lib.hid hm0
  replace hk := Lib.hid hk
  go_enter Tryz.func82, Tryz.ntmps82
  go_upto_region 1 with fail
  go_cut [3, 4] from 3 to 12 (fun s3 s4 W => ∃ sp p, s3 = .pointer (some ⟨sp, 0, none⟩) ∧ s4 = .bool true ∧ Mod none_ w W ∧ Blk W w.heap.size 30 #[.int .i64 o.c, .int .i64 o.s, .int .i64 o.k, .string (txt o.acct), .string (txt o.peer), .int .i64 o.sum, .slice L.a L.n L.c, .int .i64 o.per, .int .i64 o.hold, .string (txt o.note)] ∧ Blk W p 118 #[nameF] ∧ Blk W sp 139 #[.func (Fn.func fb) #[] #[], .func (Fn.func ff) #[] (cap p)])
  case first =>
    go_region_held3 (fun W => W.cell? ⟨w.heap.size, 2, none⟩ = some (.int .i64 o.k)) (first | exact hB0.out.cell_ rfl | exact hBa.out.cell_ rfl | exact hB1.out.cell_ rfl | exact (hB1.out.alloc _).cell_ rfl | exact ((hB1.out.far (by simp) _).far (by simp) _).cell_ rfl | go_keep)
      (first | (go_at_call 103; refine (kS.out _).mono ?_; rintro e w1 ⟨b', p, n, rfl, hD, hN, hm1⟩; have e1 := hlk.out _ _ _ _ hD; have e2 := fun o => hlk.out _ _ _ _ (hD.alloc o); (first | (have hB1 := Lib.hid (hB0.out.mod hm1 (fun h => h)); have hmm := Lib.hid (hm0.out.trans hm1)) | (have hB1 := Lib.hid (hBa.out.mod hm1 (fun h => h)); have hmm := Lib.hid (hma.out.trans hm1); have hS1 := (hSa.out.mod hm1 (fun h => h)); have s0 : w1.cell? ⟨w.heap.size + 1, 0, none⟩ = some .nilFunc := hS1.cell_ rfl; have s1 : w1.cell? ⟨w.heap.size + 1, 1, none⟩ = some .nilFunc := hS1.cell_ rfl; have f0 := hS1.frozen 0; have f1 := hS1.frozen 1; replace hS1 := Lib.hid hS1)); replace hN := Lib.hid hN; clear hm1 hD))
    all_goals
      go_wp2
      go_meet
      first
        | exact ⟨_, p, rfl, rfl, hmm.out.alloc _, hB1.out.alloc _, hN.out.alloc _, Blk.new _ _ _⟩
        | exact ⟨_, p, rfl, rfl, (hmm.out.setCell (p := ⟨w.heap.size + 1, 0, none⟩) (.inr (Nat.le_succ _)) _).setCell (p := ⟨w.heap.size + 1, 1, none⟩) (.inr (Nat.le_succ _)) _, (hB1.out.far (by simp) _).far (by simp) _, (hN.out.far (hN.out.ne_ hS1.out (by decide)) _).far (hN.out.ne_ hS1.out (by decide)) _, (hS1.out.set_ 0 _).set_ 1 _⟩
  case rest =>
    obtain ⟨sp, p, rfl, rfl, hm, hB, hN, hS⟩ := hcut
    have q0 : wc.cell? ⟨w.heap.size, 0, none⟩ = some (.int .i64 o.c) := hB.cell_ rfl
    have q1 : wc.cell? ⟨w.heap.size, 1, none⟩ = some (.int .i64 o.s) := hB.cell_ rfl
    have q2 : wc.cell? ⟨w.heap.size, 2, none⟩ = some (.int .i64 o.k) := hB.cell_ rfl
    have q3 : wc.cell? ⟨w.heap.size, 3, none⟩ = some (.string (txt o.acct)) := hB.cell_ rfl
    have q4 : wc.cell? ⟨w.heap.size, 4, none⟩ = some (.string (txt o.peer)) := hB.cell_ rfl
    have q5 : wc.cell? ⟨w.heap.size, 5, none⟩ = some (.int .i64 o.sum) := hB.cell_ rfl
    have q6 : wc.cell? ⟨w.heap.size, 6, none⟩ = some (.slice L.a L.n L.c) := hB.cell_ rfl
    have q7 : wc.cell? ⟨w.heap.size, 7, none⟩ = some (.int .i64 o.per) := hB.cell_ rfl
    have q8 : wc.cell? ⟨w.heap.size, 8, none⟩ = some (.int .i64 o.hold) := hB.cell_ rfl
    have q9 : wc.cell? ⟨w.heap.size, 9, none⟩ = some (.string (txt o.note)) := hB.cell_ rfl
    have s0 : wc.cell? ⟨sp, 0, none⟩ = some (.func (Fn.func fb) #[] #[]) := hS.cell_ rfl
    replace hm := Lib.hid hm
    replace hB := Lib.hid hB
    replace hN := Lib.hid hN
    replace hS := Lib.hid hS
    by_cases hid : 0 ≤ o.c ∧ o.c ≤ 9 ∧ 1 ≤ o.s ∧ o.s ≤ 999
    · have hidB : Hid (idB o = true) := Lib.hid (decide_eq_true hid)
      have d1 : ¬ o.c < 0 := by omega
      have d2 : ¬ 9 < o.c := by omega
      have d3 : ¬ o.s < 1 := by omega
      have d4 : ¬ 999 < o.s := by omega
      replace hid := Lib.hid hid
      go_wp2_with fail
      with_reducible refine (hbare.out _).mono ?_
      rintro e w2 ⟨rfl, hm2⟩
      dsimp only
      have hm3 := Lib.hid (hm.out.trans hm2)
      have hB3 := hB.out.mod hm2 (fun h => h)
      have r0 : w2.cell? ⟨w.heap.size, 0, none⟩ = some (.int .i64 o.c) := hB3.cell_ rfl
      have r1 : w2.cell? ⟨w.heap.size, 1, none⟩ = some (.int .i64 o.s) := hB3.cell_ rfl
      have r2 : w2.cell? ⟨w.heap.size, 2, none⟩ = some (.int .i64 o.k) := hB3.cell_ rfl
      have hlt := hB3.lt
      replace hB3 := Lib.hid hB3
      have hN3 := Lib.hid (hN.out.mod hm2 (fun h => h))
      have hS3 := Lib.hid (hS.out.mod hm2 (fun h => h))
      clear hm2 q0 q1 q2 q3 q4 q5 q6 q7 q8 q9 s0
      go_upto_region 5 with fail
      go_cut [5] from 5 to 48 (fun s5 W => ∃ bp, s5 = .pointer (some ⟨bp, 0, none⟩) ∧ Mod none_ w W ∧ Blk W w.heap.size 30 #[.int .i64 o.c, .int .i64 o.s, .int .i64 o.k, .string (txt o.acct), .string (txt o.peer), .int .i64 o.sum, .slice L.a L.n L.c, .int .i64 o.per, .int .i64 o.hold, .string (txt o.note)] ∧ Blk W p 118 #[nameF] ∧ Blk W sp 139 #[.func (Fn.func fb) #[] #[], .func (Fn.func ff) #[] (cap p)] ∧ Blk W bp 30 #[.int .i64 o.c, .int .i64 o.s, .int .i64 o.k, .string (txt b.acct), .string (txt b.peer), .int .i64 b.sum, .slice Lb.a Lb.n Lb.c, .int .i64 b.per, .int .i64 b.hold, .string (txt b.note)])
      case first =>
        go_region
        go_wp2
        go_meet
        exact ⟨w2.heap.size, rfl, (hm3.out.alloc _).drew, (hB3.out.alloc _).drew, (hN3.out.alloc _).drew, (hS3.out.alloc _).drew, (Blk.new _ _ _).drew⟩
      case rest =>
        obtain ⟨bp, rfl, hm4, hB4, hN4, hS4, hC4⟩ := hcut
        have q0 : wc.cell? ⟨w.heap.size, 0, none⟩ = some (.int .i64 o.c) := hB4.cell_ rfl
        have q1 : wc.cell? ⟨w.heap.size, 1, none⟩ = some (.int .i64 o.s) := hB4.cell_ rfl
        have q2 : wc.cell? ⟨w.heap.size, 2, none⟩ = some (.int .i64 o.k) := hB4.cell_ rfl
        have q3 : wc.cell? ⟨w.heap.size, 3, none⟩ = some (.string (txt o.acct)) := hB4.cell_ rfl
        have q4 : wc.cell? ⟨w.heap.size, 4, none⟩ = some (.string (txt o.peer)) := hB4.cell_ rfl
        have q5 : wc.cell? ⟨w.heap.size, 5, none⟩ = some (.int .i64 o.sum) := hB4.cell_ rfl
        have q6 : wc.cell? ⟨w.heap.size, 6, none⟩ = some (.slice L.a L.n L.c) := hB4.cell_ rfl
        have q7 : wc.cell? ⟨w.heap.size, 7, none⟩ = some (.int .i64 o.per) := hB4.cell_ rfl
        have q8 : wc.cell? ⟨w.heap.size, 8, none⟩ = some (.int .i64 o.hold) := hB4.cell_ rfl
        have q9 : wc.cell? ⟨w.heap.size, 9, none⟩ = some (.string (txt o.note)) := hB4.cell_ rfl
        have c0 : wc.cell? ⟨bp, 0, none⟩ = some (.int .i64 o.c) := hC4.cell_ rfl
        have c1 : wc.cell? ⟨bp, 1, none⟩ = some (.int .i64 o.s) := hC4.cell_ rfl
        have c2 : wc.cell? ⟨bp, 2, none⟩ = some (.int .i64 o.k) := hC4.cell_ rfl
        have c3 : wc.cell? ⟨bp, 3, none⟩ = some (.string (txt b.acct)) := hC4.cell_ rfl
        have c4 : wc.cell? ⟨bp, 4, none⟩ = some (.string (txt b.peer)) := hC4.cell_ rfl
        have c5 : wc.cell? ⟨bp, 5, none⟩ = some (.int .i64 b.sum) := hC4.cell_ rfl
        have c6 : wc.cell? ⟨bp, 6, none⟩ = some (.slice Lb.a Lb.n Lb.c) := hC4.cell_ rfl
        have c7 : wc.cell? ⟨bp, 7, none⟩ = some (.int .i64 b.per) := hC4.cell_ rfl
        have c8 : wc.cell? ⟨bp, 8, none⟩ = some (.int .i64 b.hold) := hC4.cell_ rfl
        have c9 : wc.cell? ⟨bp, 9, none⟩ = some (.string (txt b.note)) := hC4.cell_ rfl
        have kE := sameO_ok wc o b L Lb (hO.out.mod0 hm4) (hbm.out _ (hO.out.mod0 hm4)) hL hLb
        rw [hc, hs, hkk] at kE
        replace hm4 := Lib.hid hm4
        replace hB4 := Lib.hid hB4
        replace hN4 := Lib.hid hN4
        replace hS4 := Lib.hid hS4
        replace hC4 := Lib.hid hC4
        replace kE := Lib.hid kE
        go_wp2_with fail
        with_reducible refine kE.out.mono ?_
        rintro e w3 ⟨rfl, hm5⟩
        dsimp only
        have hm6 := hm4.out.trans hm5
        have hB5 := hB4.out.mod hm5 (fun h => h)
        have hN5 := hN4.out.mod hm5 (fun h => h)
        have hS5 := hS4.out.mod hm5 (fun h => h)
        have d0 : w3.cell? ⟨w.heap.size, 0, none⟩ = some (.int .i64 o.c) := hB5.cell_ rfl
        have d1 : w3.cell? ⟨w.heap.size, 1, none⟩ = some (.int .i64 o.s) := hB5.cell_ rfl
        have d2 : w3.cell? ⟨w.heap.size, 2, none⟩ = some (.int .i64 o.k) := hB5.cell_ rfl
        have d3 : w3.cell? ⟨w.heap.size, 3, none⟩ = some (.string (txt o.acct)) := hB5.cell_ rfl
        have d4 : w3.cell? ⟨w.heap.size, 4, none⟩ = some (.string (txt o.peer)) := hB5.cell_ rfl
        have d5 : w3.cell? ⟨w.heap.size, 5, none⟩ = some (.int .i64 o.sum) := hB5.cell_ rfl
        have d6 : w3.cell? ⟨w.heap.size, 6, none⟩ = some (.slice L.a L.n L.c) := hB5.cell_ rfl
        have d7 : w3.cell? ⟨w.heap.size, 7, none⟩ = some (.int .i64 o.per) := hB5.cell_ rfl
        have d8 : w3.cell? ⟨w.heap.size, 8, none⟩ = some (.int .i64 o.hold) := hB5.cell_ rfl
        have d9 : w3.cell? ⟨w.heap.size, 9, none⟩ = some (.string (txt o.note)) := hB5.cell_ rfl
        have s1 : w3.cell? ⟨sp, 1, none⟩ = some (.func (Fn.func ff) #[] (cap p)) := hS5.cell_ rfl
        have kF := Lib.hid (hfits.out w3 p hm6 hN5)
        replace hm6 := Lib.hid hm6
        replace hB5 := Lib.hid hB5
        replace hN5 := Lib.hid hN5
        replace hS5 := Lib.hid hS5
        clear hm5
        by_cases hob : o = b
        · rw [decide_eq_true hob]
          replace hob := Lib.hid hob
          go_wp2_with fail
          with_reducible refine kF.out.mono ?_
          rintro e w4 ⟨rfl, hm7⟩
          dsimp only
          have hm8 := Lib.hid (hm6.out.trans hm7)
          replace hm7 := Lib.hid hm7
          go_wp2_with fail
          go_ret
          exact ⟨by rw [hidB.out, decide_eq_true hob.out]; rfl, hm8.out⟩
        · rw [decide_eq_false hob]
          replace hob := Lib.hid hob
          go_wp2_with fail
          go_ret
          exact ⟨by rw [hidB.out, decide_eq_false hob.out]; rfl, hm6.out⟩
    · have hidB : Hid (idB o = false) := Lib.hid (decide_eq_false hid)
      go_wp2_with fail
      all_goals
        first
          | (go_ret; exact ⟨by rw [hidB.out]; rfl, hm.out⟩)
          | (exfalso; omega)
end Go.Proofs.YtdnbclhidpkpgaaGreat
/-
  order.Right, whole.
-/
namespace Go.Proofs.YtdnbclhidpkpgaaGreat
set_option linter.unusedVariables false
set_option linter.unusedSimpArgs false
open Go.RowKit
set_option maxRecDepth 100000 in
set_option maxHeartbeats 8000000 in
theorem rightO_no (w : World) (o : Od) (L : SV) (hk : (Lit.int .i64 o.k).wf = true)
    (hlook : ∀ p, (shapesD p).atKey (.int .i64 o.k) (.held zSh) = .held (.agg #[.nilFunc, .nilFunc]))
    (hhas : ∀ p, Maps.has (shapesD p) (.int .i64 o.k) = false) :
    Calls Tryz.prog 82 #[.agg #[.int .i64 o.c, .int .i64 o.s, .int .i64 o.k, .string (txt o.acct), .string (txt o.peer), .int .i64 o.sum, .slice L.a L.n L.c, .int .i64 o.per, .int .i64 o.hold, .string (txt o.note)]] w fun e w' => e = .returned (.bool false) ∧ Mod none_ w w' := by
  have kS := Lib.hid (fun W => shapes_ok W)
  have hsf : ∀ (a : Addr) (f : Fn) (c p : Array Value) (W : World), (store a (.func f c p)).run Tryz.prog W = stored Tryz.prog W a (.func f c p) .plain := fun a f c p W => run_store Tryz.prog W a _ _ rfl
  have hsn : ∀ (a : Addr) (W : World), (store a .nilFunc).run Tryz.prog W = stored Tryz.prog W a .nilFunc .plain := fun a W => run_store Tryz.prog W a _ _ rfl
  have hlk := Lib.hid (fun (W : World) b' n p (h : W.ownsMap Tryz.prog 3 VR b' n (shapesD p)) => mapF_look_run 141 3 _ Tryz.underlying141 Tryz.underlying3 (zSh_run W) b' n _ h o.k hk _ (hlook p) _ (hhas p))
  have hB0 := (Blk.new w 30 #[.int .i64 o.c, .int .i64 o.s, .int .i64 o.k, .string (txt o.acct), .string (txt o.peer), .int .i64 o.sum, .slice L.a L.n L.c, .int .i64 o.per, .int .i64 o.hold, .string (txt o.note)]).drew
  have hm0 := ((Mod.refl none_ w).alloc (.cells #[.int .i64 o.c, .int .i64 o.s, .int .i64 o.k, .string (txt o.acct), .string (txt o.peer), .int .i64 o.sum, .slice L.a L.n L.c, .int .i64 o.per, .int .i64 o.hold, .string (txt o.note)] 30)).drew
  have hBa := ((Blk.new w 30 #[.int .i64 o.c, .int .i64 o.s, .int .i64 o.k, .string (txt o.acct), .string (txt o.peer), .int .i64 o.sum, .slice L.a L.n L.c, .int .i64 o.per, .int .i64 o.hold, .string (txt o.note)]).alloc (.cells #[.nilFunc, .nilFunc] 139)).drew
  have hma := (((Mod.refl none_ w).alloc (.cells #[.int .i64 o.c, .int .i64 o.s, .int .i64 o.k, .string (txt o.acct), .string (txt o.peer), .int .i64 o.sum, .slice L.a L.n L.c, .int .i64 o.per, .int .i64 o.hold, .string (txt o.note)] 30)).alloc (.cells #[.nilFunc, .nilFunc] 139)).drew
  have hSa : Blk ((w.alloc (.cells #[.int .i64 o.c, .int .i64 o.s, .int .i64 o.k, .string (txt o.acct), .string (txt o.peer), .int .i64 o.sum, .slice L.a L.n L.c, .int .i64 o.per, .int .i64 o.hold, .string (txt o.note)] 30)).alloc (.cells #[.nilFunc, .nilFunc] 139)).drew (w.heap.size + 1) 139 #[.nilFunc, .nilFunc] := heap_alloc2_new w _ _
  replace hBa := Lib.hid hBa
  replace hma := Lib.hid hma
  replace hSa := Lib.hid hSa
  replace hlook := Lib.hid hlook
  replace hhas := Lib.hid hhas
  replace hB0 := Lib.hid hB0
  replace hm0 := Lib.hid hm0
  replace hk := Lib.hid hk
  go_enter Tryz.func82, Tryz.ntmps82
  go_upto_region 1 with fail
  go_cut [3, 4] from 3 to 12 (fun s3 s4 W => ∃ sp p : Nat, s3 = .pointer (some ⟨sp, 0, none⟩) ∧ s4 = .bool false ∧ Mod none_ w W ∧ Blk W w.heap.size 30 #[.int .i64 o.c, .int .i64 o.s, .int .i64 o.k, .string (txt o.acct), .string (txt o.peer), .int .i64 o.sum, .slice L.a L.n L.c, .int .i64 o.per, .int .i64 o.hold, .string (txt o.note)] ∧ Blk W p 118 #[nameF] ∧ Blk W sp 139 #[.nilFunc, .nilFunc])
  case first =>
    go_region_held3 (fun W => W.cell? ⟨w.heap.size, 2, none⟩ = some (.int .i64 o.k)) (first | exact hB0.out.cell_ rfl | exact hBa.out.cell_ rfl | exact hB1.out.cell_ rfl | exact (hB1.out.alloc _).cell_ rfl | exact ((hB1.out.far (by simp) _).far (by simp) _).cell_ rfl | go_keep)
      (first | (go_at_call 103; refine (kS.out _).mono ?_; rintro e w1 ⟨b', p, n, rfl, hD, hN, hm1⟩; have e1 := hlk.out _ _ _ _ hD; have e2 := fun o => hlk.out _ _ _ _ (hD.alloc o); (first | (have hB1 := Lib.hid (hB0.out.mod hm1 (fun h => h)); have hmm := Lib.hid (hm0.out.trans hm1)) | (have hB1 := Lib.hid (hBa.out.mod hm1 (fun h => h)); have hmm := Lib.hid (hma.out.trans hm1); have hS1 := (hSa.out.mod hm1 (fun h => h)); have s0 : w1.cell? ⟨w.heap.size + 1, 0, none⟩ = some .nilFunc := hS1.cell_ rfl; have s1 : w1.cell? ⟨w.heap.size + 1, 1, none⟩ = some .nilFunc := hS1.cell_ rfl; have f0 := hS1.frozen 0; have f1 := hS1.frozen 1; replace hS1 := Lib.hid hS1)); replace hN := Lib.hid hN; clear hm1 hD))
    all_goals
      go_wp2
      go_meet
      first
        | exact ⟨_, p, rfl, rfl, hmm.out.alloc _, hB1.out.alloc _, hN.out.alloc _, Blk.new _ _ _⟩
        | exact ⟨_, p, rfl, rfl, (hmm.out.setCell (p := ⟨w.heap.size + 1, 0, none⟩) (.inr (Nat.le_succ _)) _).setCell (p := ⟨w.heap.size + 1, 1, none⟩) (.inr (Nat.le_succ _)) _, (hB1.out.far (by simp) _).far (by simp) _, (hN.out.far (hN.out.ne_ hS1.out (by decide)) _).far (hN.out.ne_ hS1.out (by decide)) _, (hS1.out.set_ 0 _).set_ 1 _⟩
  case rest =>
    obtain ⟨sp, p, rfl, rfl, hm, hB, hN, hS⟩ := hcut
    replace hm := Lib.hid hm
    replace hB := Lib.hid hB
    replace hN := Lib.hid hN
    replace hS := Lib.hid hS
    go_wp2_with fail
    go_ret
    exact ⟨rfl, hm.out⟩
def fits7 (o : Od) : Bool := nameB o.acct
def kindB (o : Od) : Bool :=
  if o.k = 1 then decide (o = bare1 o) && fits1 o
  else if o.k = 2 then decide (o = bare2 o) && fits2 o
  else if o.k = 3 then decide (o = bare3 o) && fits3 o
  else if o.k = 4 then decide (o = bare4 o) && fits4 o
  else if o.k = 5 then decide (o = bare5 o) && fits5 o
  else if o.k = 6 then decide (o = bare6 o) && fits6 o
  else if o.k = 7 then decide (o = bare7 o) && fits7 o
  else false
def rightO (o : Od) : Bool := idB o && kindB o
set_option maxRecDepth 100000 in
theorem rightO_1 (w : World) (o : Od) (L : SV) (hO : OdM w o L) (hL : L.n ≤ 140737488355328) (hk : o.k = 1) (hz : ∀ l ∈ o.legs, (txt l.n).size ≤ maxLen) :
    Calls Tryz.prog 82 #[.agg #[.int .i64 o.c, .int .i64 o.s, .int .i64 o.k, .string (txt o.acct), .string (txt o.peer), .int .i64 o.sum, .slice L.a L.n L.c, .int .i64 o.per, .int .i64 o.hold, .string (txt o.note)]] w fun e w' => e = .returned (.bool (idB o && (decide (o = bare1 o) && fits1 o))) ∧ Mod none_ w w' :=
  rightO_gen w o L hO hL (by rw [hk]; decide) 114 115 (fun p => #[.pointer (some ⟨p, 0, none⟩)]) (bare1 o) ⟨none, 0, 0⟩ (fits1 o) (fun W _ => ⟨Rd.none_, Nat.le_refl _⟩) (by decide) rfl rfl rfl
    (fun p => by rw [hk]; rfl) (fun p => by rw [hk]; rfl) (fun _ _ => rfl) (fun _ _ => rfl) (fun W => bare1_ok W o L) (fun W p h hp => fits1_ok W p hp o L (hO.mod0 h) hL hz)
set_option maxRecDepth 100000 in
theorem rightO_2 (w : World) (o : Od) (L : SV) (hO : OdM w o L) (hL : L.n ≤ 140737488355328) (hk : o.k = 2) (hz : ∀ l ∈ o.legs, (txt l.n).size ≤ maxLen) :
    Calls Tryz.prog 82 #[.agg #[.int .i64 o.c, .int .i64 o.s, .int .i64 o.k, .string (txt o.acct), .string (txt o.peer), .int .i64 o.sum, .slice L.a L.n L.c, .int .i64 o.per, .int .i64 o.hold, .string (txt o.note)]] w fun e w' => e = .returned (.bool (idB o && (decide (o = bare2 o) && fits2 o))) ∧ Mod none_ w w' :=
  rightO_gen w o L hO hL (by rw [hk]; decide) 116 117 (fun _ => #[]) (bare2 o) ⟨L.a, L.n, L.c⟩ (fits2 o) (fun W h => ⟨h.rd, h.cap⟩) (hL) rfl rfl rfl
    (fun p => by rw [hk]; rfl) (fun p => by rw [hk]; rfl) (fun _ _ => rfl) (fun _ _ => rfl) (fun W => bare2_ok W o L) (fun W p h _ => by have := fits2_ok W o L (hO.mod0 h) hL hz; simpa using this)
set_option maxRecDepth 100000 in
theorem rightO_3 (w : World) (o : Od) (L : SV) (hO : OdM w o L) (hL : L.n ≤ 140737488355328) (hk : o.k = 3) (hz : ∀ l ∈ o.legs, (txt l.n).size ≤ maxLen) :
    Calls Tryz.prog 82 #[.agg #[.int .i64 o.c, .int .i64 o.s, .int .i64 o.k, .string (txt o.acct), .string (txt o.peer), .int .i64 o.sum, .slice L.a L.n L.c, .int .i64 o.per, .int .i64 o.hold, .string (txt o.note)]] w fun e w' => e = .returned (.bool (idB o && (decide (o = bare3 o) && fits3 o))) ∧ Mod none_ w w' :=
  rightO_gen w o L hO hL (by rw [hk]; decide) 120 121 (fun p => #[.pointer (some ⟨p, 0, none⟩)]) (bare3 o) ⟨none, 0, 0⟩ (fits3 o) (fun W _ => ⟨Rd.none_, Nat.le_refl _⟩) (by decide) rfl rfl rfl
    (fun p => by rw [hk]; rfl) (fun p => by rw [hk]; rfl) (fun _ _ => rfl) (fun _ _ => rfl) (fun W => bare3_ok W o L) (fun W p h hp => fits3_ok W p hp o L (hO.mod0 h) hL hz)
set_option maxRecDepth 100000 in
theorem rightO_4 (w : World) (o : Od) (L : SV) (hO : OdM w o L) (hL : L.n ≤ 140737488355328) (hk : o.k = 4) (hz : ∀ l ∈ o.legs, (txt l.n).size ≤ maxLen) :
    Calls Tryz.prog 82 #[.agg #[.int .i64 o.c, .int .i64 o.s, .int .i64 o.k, .string (txt o.acct), .string (txt o.peer), .int .i64 o.sum, .slice L.a L.n L.c, .int .i64 o.per, .int .i64 o.hold, .string (txt o.note)]] w fun e w' => e = .returned (.bool (idB o && (decide (o = bare4 o) && fits4 o))) ∧ Mod none_ w w' :=
  rightO_gen w o L hO hL (by rw [hk]; decide) 122 123 (fun p => #[.pointer (some ⟨p, 0, none⟩)]) (bare4 o) ⟨none, 0, 0⟩ (fits4 o) (fun W _ => ⟨Rd.none_, Nat.le_refl _⟩) (by decide) rfl rfl rfl
    (fun p => by rw [hk]; rfl) (fun p => by rw [hk]; rfl) (fun _ _ => rfl) (fun _ _ => rfl) (fun W => bare4_ok W o L) (fun W p h hp => fits4_ok W p hp o L (hO.mod0 h) hL hz)
set_option maxRecDepth 100000 in
theorem rightO_5 (w : World) (o : Od) (L : SV) (hO : OdM w o L) (hL : L.n ≤ 140737488355328) (hk : o.k = 5) (hz : ∀ l ∈ o.legs, (txt l.n).size ≤ maxLen) :
    Calls Tryz.prog 82 #[.agg #[.int .i64 o.c, .int .i64 o.s, .int .i64 o.k, .string (txt o.acct), .string (txt o.peer), .int .i64 o.sum, .slice L.a L.n L.c, .int .i64 o.per, .int .i64 o.hold, .string (txt o.note)]] w fun e w' => e = .returned (.bool (idB o && (decide (o = bare5 o) && fits5 o))) ∧ Mod none_ w w' :=
  rightO_gen w o L hO hL (by rw [hk]; decide) 125 126 (fun p => #[.pointer (some ⟨p, 0, none⟩)]) (bare5 o) ⟨none, 0, 0⟩ (fits5 o) (fun W _ => ⟨Rd.none_, Nat.le_refl _⟩) (by decide) rfl rfl rfl
    (fun p => by rw [hk]; rfl) (fun p => by rw [hk]; rfl) (fun _ _ => rfl) (fun _ _ => rfl) (fun W => bare5_ok W o L) (fun W p h hp => fits5_ok W p hp o L (hO.mod0 h) hL hz)
set_option maxRecDepth 100000 in
theorem rightO_6 (w : World) (o : Od) (L : SV) (hO : OdM w o L) (hL : L.n ≤ 140737488355328) (hk : o.k = 6) (hz : ∀ l ∈ o.legs, (txt l.n).size ≤ maxLen) :
    Calls Tryz.prog 82 #[.agg #[.int .i64 o.c, .int .i64 o.s, .int .i64 o.k, .string (txt o.acct), .string (txt o.peer), .int .i64 o.sum, .slice L.a L.n L.c, .int .i64 o.per, .int .i64 o.hold, .string (txt o.note)]] w fun e w' => e = .returned (.bool (idB o && (decide (o = bare6 o) && fits6 o))) ∧ Mod none_ w w' :=
  rightO_gen w o L hO hL (by rw [hk]; decide) 127 128 (fun _ => #[]) (bare6 o) ⟨none, 0, 0⟩ (fits6 o) (fun W _ => ⟨Rd.none_, Nat.le_refl _⟩) (by decide) rfl rfl rfl
    (fun p => by rw [hk]; rfl) (fun p => by rw [hk]; rfl) (fun _ _ => rfl) (fun _ _ => rfl) (fun W => bare6_ok W o L) (fun W p h _ => by have := fits6_ok W o L (hO.mod0 h) hL hz; simpa using this)
set_option maxRecDepth 100000 in
theorem rightO_7 (w : World) (o : Od) (L : SV) (hO : OdM w o L) (hL : L.n ≤ 140737488355328) (hk : o.k = 7) (hz : ∀ l ∈ o.legs, (txt l.n).size ≤ maxLen) :
    Calls Tryz.prog 82 #[.agg #[.int .i64 o.c, .int .i64 o.s, .int .i64 o.k, .string (txt o.acct), .string (txt o.peer), .int .i64 o.sum, .slice L.a L.n L.c, .int .i64 o.per, .int .i64 o.hold, .string (txt o.note)]] w fun e w' => e = .returned (.bool (idB o && (decide (o = bare7 o) && fits7 o))) ∧ Mod none_ w w' :=
  rightO_gen w o L hO hL (by rw [hk]; decide) 129 112 (fun _ => #[]) (bare7 o) ⟨none, 0, 0⟩ (fits7 o) (fun W _ => ⟨Rd.none_, Nat.le_refl _⟩) (by decide) rfl rfl rfl
    (fun p => by rw [hk]; rfl) (fun p => by rw [hk]; rfl) (fun _ _ => rfl) (fun _ _ => rfl) (fun W => bare7_ok W o L) (fun W p _ _ => by have := name1_ok W o L; simpa [fits7] using this)
set_option maxRecDepth 100000 in
set_option maxHeartbeats 2000000 in
theorem rightO_ok (w : World) (o : Od) (L : SV) (hO : OdM w o L) (hL : L.n ≤ 140737488355328) (hk : (Lit.int .i64 o.k).wf = true) (hz : ∀ l ∈ o.legs, (txt l.n).size ≤ maxLen) :
    Calls Tryz.prog 82 #[.agg #[.int .i64 o.c, .int .i64 o.s, .int .i64 o.k, .string (txt o.acct), .string (txt o.peer), .int .i64 o.sum, .slice L.a L.n L.c, .int .i64 o.per, .int .i64 o.hold, .string (txt o.note)]] w fun e w' => e = .returned (.bool (rightO o)) ∧ Mod none_ w w' := by
  unfold rightO kindB
  by_cases h1 : o.k = 1
  · rw [if_pos h1]; exact rightO_1 w o L hO hL h1 hz
  rw [if_neg h1]
  by_cases h2 : o.k = 2
  · rw [if_pos h2]; exact rightO_2 w o L hO hL h2 hz
  rw [if_neg h2]
  by_cases h3 : o.k = 3
  · rw [if_pos h3]; exact rightO_3 w o L hO hL h3 hz
  rw [if_neg h3]
  by_cases h4 : o.k = 4
  · rw [if_pos h4]; exact rightO_4 w o L hO hL h4 hz
  rw [if_neg h4]
  by_cases h5 : o.k = 5
  · rw [if_pos h5]; exact rightO_5 w o L hO hL h5 hz
  rw [if_neg h5]
  by_cases h6 : o.k = 6
  · rw [if_pos h6]; exact rightO_6 w o L hO hL h6 hz
  rw [if_neg h6]
  by_cases h7 : o.k = 7
  · rw [if_pos h7]; exact rightO_7 w o L hO hL h7 hz
  rw [if_neg h7]
  rw [Bool.and_false]
  have hs : ∀ n : Int, ¬ o.k = n → ¬ n = o.k := fun n h e => h e.symm
  exact rightO_no w o L hk (fun p => by simp [shapesD, DataW.atKey, Lit.sameKey, hs _ h1, hs _ h2, hs _ h3, hs _ h4, hs _ h5, hs _ h6, hs _ h7, zSh]) (fun p => by simp [shapesD, Maps.has, Lit.sameKey, hs _ h1, hs _ h2, hs _ h3, hs _ h4, hs _ h5, hs _ h6, hs _ h7])
end Go.Proofs.YtdnbclhidpkpgaaGreat
