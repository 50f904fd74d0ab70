/-
  The contracts of chart's Give and Aside.
-/
import Derived.Test.YtaohgefpnndjcaaChTurn
import Derived.Test.YtaohgefpnndjcaaIter
namespace Go.Proofs.Ytaohgefpnndjcaa
set_option linter.unusedVariables false
open Go.RowKit
def giveA (x : Int) : Act_ := fun a => ({ a with h := (actR (a.h - x)).1 }, (actR (a.h - x)).2)
def asideA (x : Int) : Act_ := fun a => ({ a with s := (actR (a.s + x)).1 }, (actR (a.s + x)).2)
theorem give_does (xb : Nat) (x : Int) (hx : I64 x) : Does 54 xb x (giveA x) := by
  intro W q a ha hb hc
  refine (giveC_ok W q xb _ a.h a.s a.l x hb hc ha.1 hx).mono ?_
  rintro e w' ⟨h1, h2, h3⟩
  exact ⟨h1, h2, h3⟩
theorem aside_does (xb : Nat) (x : Int) (hx : I64 x) : Does 55 xb x (asideA x) := by
  intro W q a ha hb hc
  refine (asideC_ok W q xb _ a.h a.s a.l x hb hc ha.2.1 hx).mono ?_
  rintro e w' ⟨h1, h2, h3⟩
  exact ⟨h1, h2, h3⟩
theorem turn_ok (w : World) (p b fid xb : Nat) (C : List Ac) (s : ByteArray) (x : Int) (act : Act_) (hc : ChAt w p b C) (hs : s.size ≤ maxLen) (hw : ∀ a ∈ C, WfA a) (hx : I64 x)
    (hxb : w.cell? ⟨xb, 0, none⟩ = some (.int .i64 x)) (hne : xb ≠ b) (henter : ∀ args W, (callFunc fid args).run Try.prog W = .ok (.enter fid args) W) (hdo : Does fid xb x act) (hn : ∀ a, (act a).1.n = a.n) (hroom : C.length + 1 < maxLen) :
    Calls Try.prog 53 #[.pointer (some ⟨p, 0, none⟩), .string s, .int .i64 x, .func (.func fid) #[] #[.pointer (some ⟨xb, 0, none⟩)]] w (ChPost w p b (turnR C s.data.toList x act)) := by
  cases hg : getC C s.data.toList with
  | none => exact turn_none w p b fid xb C s x act hc hs hg
  | some a => exact turn_some w p b fid xb C s x act a hc hs hg hw hx hxb hne henter hdo (hn a) hroom
set_option maxRecDepth 100000 in
theorem give_ok (w : World) (p b : Nat) (C : List Ac) (s : ByteArray) (x : Int) (hc : ChAt w p b C) (hs : s.size ≤ maxLen) (hw : ∀ a ∈ C, WfA a) (hx : I64 x) (hroom : C.length + 1 < maxLen) :
    Calls Try.prog 29 #[.pointer (some ⟨p, 0, none⟩), .string s, .int .i64 x] w (ChPost w p b (turnR C s.data.toList x (giveA x))) := by
  have hb := hc.2.1.lt
  have ct := Lib.hid (turn_ok (w.alloc (.cells #[.int .i64 x] 2)) p b 54 w.heap.size C s x (giveA x) (hc.alloc _) hs hw hx ((Blk.new w 2 #[.int .i64 x]).cell_ rfl) (by omega)
    (Go.Proofs.enters_of Try.func54 (by kernel_rfl) rfl) (give_does w.heap.size x hx) (fun _ => rfl) hroom)
  replace hc := Lib.hid hc
  replace hs := Lib.hid hs
  replace hw := Lib.hid hw
  replace hx := Lib.hid hx
  replace hroom := Lib.hid hroom
  replace hb := Lib.hid hb
  go_enter Try.func29, Try.ntmps29
  go_wp2_with fail
  refine ct.out.mono ?_
  rintro e w1 ⟨rfl, hch, hm⟩
  dsimp only
  replace hch := Lib.hid hch
  replace hm := Lib.hid hm
  go_wp2_with fail
  go_ret
  exact ⟨rfl, hch.out, ((Mod.refl _ _).alloc _).then hm.out (fun _ _ h => h)⟩
set_option maxRecDepth 100000 in
theorem aside_ok (w : World) (p b : Nat) (C : List Ac) (s : ByteArray) (x : Int) (hc : ChAt w p b C) (hs : s.size ≤ maxLen) (hw : ∀ a ∈ C, WfA a) (hx : I64 x) (hroom : C.length + 1 < maxLen) :
    Calls Try.prog 31 #[.pointer (some ⟨p, 0, none⟩), .string s, .int .i64 x] w (ChPost w p b (turnR C s.data.toList x (asideA x))) := by
  have hb := hc.2.1.lt
  have ct := Lib.hid (turn_ok (w.alloc (.cells #[.int .i64 x] 2)) p b 55 w.heap.size C s x (asideA x) (hc.alloc _) hs hw hx ((Blk.new w 2 #[.int .i64 x]).cell_ rfl) (by omega)
    (Go.Proofs.enters_of Try.func55 (by kernel_rfl) rfl) (aside_does w.heap.size x hx) (fun _ => rfl) hroom)
  replace hc := Lib.hid hc
  replace hs := Lib.hid hs
  replace hw := Lib.hid hw
  replace hx := Lib.hid hx
  replace hroom := Lib.hid hroom
  replace hb := Lib.hid hb
  go_enter Try.func31, Try.ntmps31
  go_wp2_with fail
  refine ct.out.mono ?_
  rintro e w1 ⟨rfl, hch, hm⟩
  dsimp only
  replace hch := Lib.hid hch
  replace hm := Lib.hid hm
  go_wp2_with fail
  go_ret
  exact ⟨rfl, hch.out, ((Mod.refl _ _).alloc _).then hm.out (fun _ _ h => h)⟩
end Go.Proofs.Ytaohgefpnndjcaa
