/-
  What posting legs of different names does; legs in another row. Plain.
-/
import Derived.Test.YtaohgefpnndjcaaVoAccts
namespace Go.Proofs.Ytaohgefpnndjcaa
set_option linter.unusedVariables false
open Go.RowKit
def updL (C : List Ac) (l : Lg) : List Ac := C.map fun a => if a.n = l.n then { a with h := a.h + l.x } else a
def addL (ls : List Lg) (a : Ac) : Ac := match ls.find? (fun l => l.n == a.n) with | some l => { a with h := a.h + l.x } | none => a
def applyL (C : List Ac) (ls : List Lg) : List Ac := C.map (addL ls)
theorem post_eff {C : List Ac} {l : Lg} (hs : SortedC C) (h : (postR C l).2 = 0) : (∃ a, getC C l.n = some a ∧ I64 (a.h + l.x)) ∧ (postR C l).1 = updL C l := by
  unfold postR at h ⊢
  cases hg : getC C l.n with
  | none => rw [hg] at h; dsimp only at h; omega
  | some a =>
    rw [hg] at h
    dsimp only at h ⊢
    by_cases h1 : (actR (0 - l.x)).2 ≠ 0
    · rw [if_pos h1] at h; exact absurd h h1
    · rw [if_neg h1] at h ⊢
      have h2 : (actR (0 - l.x)).2 = 0 := by omega
      obtain ⟨_, h3⟩ := actR_zero h2
      rw [h3] at h ⊢
      obtain ⟨a', hg', k1, _, _, k4⟩ := turn_zero h
      rw [hg] at hg'
      injection hg' with hg'
      subst hg'
      obtain ⟨k5, k6⟩ := actR_zero (show (actR (a.h - (0 - l.x))).2 = 0 from k1)
      have k7 : a.h - (0 - l.x) = a.h + l.x := by omega
      rw [k7] at k5 k6
      refine ⟨⟨a, rfl, ⟨(inI_yes.1 k5).1, (inI_yes.1 k5).2⟩⟩, ?_⟩
      rw [k4]
      have k8 : (giveA (0 - l.x) a).1 = { a with h := a.h + l.x } := by unfold giveA; rw [k7, k6]
      rw [k8]
      unfold setC updL
      refine List.map_congr_left fun y hy => ?_
      have hn := getC_name hg
      by_cases e : y.n = l.n
      · have : y = a := uniq_n hs hy (getC_mem hg) (by rw [e, hn])
        subst this
        rw [if_pos e, if_pos (by simp)]
      · rw [if_neg e, if_neg (by simp only [beq_iff_eq]; rw [hn]; exact e)]
theorem post_agree {C D : List Ac} {l : Lg} (h : getC C l.n = getC D l.n) : (postR C l).2 = (postR D l).2 := by
  unfold postR
  rw [← h]
  cases getC C l.n with
  | none => rfl
  | some a =>
    dsimp only
    split
    · rfl
    · exact (turn_agree (fun _ => rfl) h).1
theorem get_upd_other {l : Lg} {n : List UInt8} (h : l.n ≠ n) : ∀ C : List Ac, getC (updL C l) n = getC C n
  | [] => rfl
  | y :: t => by
    have ih := get_upd_other h t
    unfold updL getC at ih ⊢
    rw [List.map_cons]
    by_cases e : y.n = l.n
    · rw [if_pos e]
      have hf : (y.n == n) = false := by rw [beq_eq_false_iff_ne, e]; exact h
      rw [List.find?_cons_of_neg (by simpa using (by rw [e]; exact h : y.n ≠ n)), List.find?_cons_of_neg (by simpa using (by rw [e]; exact h : y.n ≠ n)), ih]
    · rw [if_neg e]
      by_cases e2 : y.n = n
      · rw [List.find?_cons_of_pos (by simpa using e2), List.find?_cons_of_pos (by simpa using e2)]
      · rw [List.find?_cons_of_neg (by simpa using e2), List.find?_cons_of_neg (by simpa using e2), ih]
theorem upd_names (C : List Ac) (l : Lg) : (updL C l).map (fun a => a.n) = C.map (fun a => a.n) := by
  unfold updL
  rw [List.map_map]
  refine List.map_congr_left fun a _ => ?_
  show (if a.n = l.n then { a with h := a.h + l.x } else a).n = a.n
  split <;> rfl
theorem upd_sorted {C : List Ac} (h : SortedC C) (l : Lg) : SortedC (updL C l) := by
  unfold SortedC at h ⊢
  have := upd_names C l
  have h1 : ((updL C l).map fun a => a.n).Pairwise fun a b => bytesBefore a b = true := by rw [this, List.pairwise_map]; exact h
  rwa [List.pairwise_map] at h1
theorem add_upd (C : List Ac) (l : Lg) (ls : List Lg) (h : ∀ m ∈ ls, m.n ≠ l.n) : applyL (updL C l) ls = applyL C (l :: ls) := by
  unfold applyL updL
  rw [List.map_map]
  refine List.map_congr_left fun a _ => ?_
  show addL ls (if a.n = l.n then { a with h := a.h + l.x } else a) = addL (l :: ls) a
  unfold addL
  by_cases e : a.n = l.n
  · rw [if_pos e]
    have hf : ls.find? (fun m => m.n == a.n) = none := by
      rw [List.find?_eq_none]
      intro m hm
      simp only [beq_iff_eq]
      rw [e]; exact h m hm
    dsimp only
    rw [hf, List.find?_cons_of_pos (by simpa using e.symm)]
  · rw [if_neg e, List.find?_cons_of_neg (by simp only [beq_iff_eq]; exact fun h => e h.symm)]
theorem all_eff : ∀ (ls : List Lg) {C : List Ac}, SortedC C → (ls.map fun l => l.n).Nodup → ((allR C ls).2 = 0 ↔ ∀ l ∈ ls, (postR C l).2 = 0) ∧ ((allR C ls).2 = 0 → (allR C ls).1 = applyL C ls)
  | [], C, _, _ => by
    refine ⟨by simp [allR], fun _ => ?_⟩
    show C = C.map (addL [])
    conv => lhs; rw [← List.map_id C]
    exact List.map_congr_left fun a _ => rfl
  | l :: ls, C, hs, hn => by
    rw [List.map_cons, List.nodup_cons] at hn
    have hne : ∀ m ∈ ls, m.n ≠ l.n := fun m hm e => hn.1 (List.mem_map.2 ⟨m, hm, e⟩)
    by_cases h0 : (postR C l).2 = 0
    · obtain ⟨_, he⟩ := post_eff hs h0
      have hag : ∀ m ∈ ls, (postR (updL C l) m).2 = (postR C m).2 := fun m hm => post_agree (get_upd_other (fun e => hne m hm e.symm) C)
      obtain ⟨i1, i2⟩ := all_eff ls (C := updL C l) (upd_sorted hs l) hn.2
      have hall : allR C (l :: ls) = allR (updL C l) ls := by
        show (if (postR C l).2 ≠ 0 then postR C l else allR (postR C l).1 ls) = _
        rw [if_neg (by omega), he]
      rw [hall]
      refine ⟨i1.trans ?_, fun h => by rw [i2 h, add_upd C l ls hne]⟩
      constructor
      · intro h m hm
        rcases List.mem_cons.1 hm with rfl | hm
        · exact h0
        · rw [← hag m hm]; exact h m hm
      · intro h m hm
        rw [hag m hm]; exact h m (List.mem_cons_of_mem _ hm)
    · have hall : allR C (l :: ls) = postR C l := by
        show (if (postR C l).2 ≠ 0 then postR C l else allR (postR C l).1 ls) = _
        rw [if_pos h0]
      rw [hall]
      exact ⟨⟨fun h => absurd h h0, fun h => absurd (h l (by simp)) h0⟩, fun h => absurd h h0⟩
theorem right_iff (ls : List Lg) : rightB ls = true ↔ (∀ l ∈ ls, okLeg l = true) ∧ (ls.map fun l => l.n).Nodup ∧ 2 ≤ ls.length ∧ ls.length ≤ 6 := by
  unfold rightB
  rw [Bool.and_eq_true, Bool.and_eq_true, Bool.and_eq_true, decide_eq_true_iff, decide_eq_true_iff, decide_eq_true_iff, (seenL_len ls).2, List.all_eq_true]
  exact ⟨fun ⟨⟨⟨a, b⟩, c⟩, d⟩ => ⟨a, b, c, d⟩, fun ⟨a, b, c, d⟩ => ⟨⟨⟨a, b⟩, c⟩, d⟩⟩
theorem right_perm {ls ms : List Lg} (h : ls.Perm ms) : rightB ls = rightB ms := by
  rw [Bool.eq_iff_iff, right_iff, right_iff, h.length_eq, (h.map fun l : Lg => l.n).nodup_iff]
  exact ⟨fun ⟨a, b⟩ => ⟨fun l hl => a l (h.mem_iff.2 hl), b⟩, fun ⟨a, b⟩ => ⟨fun l hl => a l (h.mem_iff.1 hl), b⟩⟩
theorem weigh_perm {ls ms : List Lg} (h : ls.Perm ms) : weighB ls = weighB ms := by
  unfold weighB
  rw [isum_perm (h.map fun l : Lg => l.x)]
theorem uniq_l {ls : List Lg} (h : (ls.map fun l => l.n).Nodup) : ∀ {l m : Lg}, l ∈ ls → m ∈ ls → l.n = m.n → l = m := by
  induction ls with
  | nil => intro l m hl; cases hl
  | cons y t ih =>
    rw [List.map_cons, List.nodup_cons] at h
    intro l m hl hm he
    rcases List.mem_cons.1 hl with hl2 | hl2
    · rcases List.mem_cons.1 hm with hm2 | hm2
      · rw [hl2, hm2]
      · exact absurd (List.mem_map.2 ⟨m, hm2, by rw [← he, hl2]⟩) h.1
    · rcases List.mem_cons.1 hm with hm2 | hm2
      · exact absurd (List.mem_map.2 ⟨l, hl2, by rw [he, hm2]⟩) h.1
      · exact ih h.2 hl2 hm2 he
theorem find_perm {ls ms : List Lg} (h : ls.Perm ms) (hn : (ls.map fun l => l.n).Nodup) (s : List UInt8) : ls.find? (fun l => l.n == s) = ms.find? (fun l => l.n == s) := by
  cases hl : ls.find? (fun l => l.n == s) with
  | none =>
    symm
    rw [List.find?_eq_none] at hl ⊢
    exact fun x hx => hl x (h.mem_iff.2 hx)
  | some l =>
    have h1 := List.mem_of_find?_eq_some hl
    have h2 : l.n = s := by simpa using List.find?_some hl
    cases hm : ms.find? (fun l => l.n == s) with
    | none =>
      have := List.find?_eq_none.1 hm l (h.mem_iff.1 h1)
      simp at this
      exact absurd h2 this
    | some m =>
      have h3 := List.mem_of_find?_eq_some hm
      have h4 : m.n = s := by simpa using List.find?_some hm
      rw [uniq_l hn h1 (h.mem_iff.2 h3) (by rw [h2, h4])]
theorem apply_perm {ls ms : List Lg} (h : ls.Perm ms) (hn : (ls.map fun l => l.n).Nodup) (C : List Ac) : applyL C ls = applyL C ms := by
  unfold applyL
  refine List.map_congr_left fun a _ => ?_
  unfold addL
  rw [find_perm h hn]
theorem make_no1 {C : List Ac} {ls : List Lg} (h : rightB ls = false) : makeR C ls = (C, 1) := by
  have : checkR C ls = 1 := by unfold checkR; rw [if_pos h]
  unfold makeR
  rw [this, if_pos (by omega)]
theorem make_no2 {C : List Ac} {ls : List Lg} (h : rightB ls = true) (h2 : weighB ls = false) : makeR C ls = (C, 8) := by
  have : checkR C ls = 8 := by unfold checkR; rw [if_neg (by rw [h]; simp), if_pos h2]
  unfold makeR
  rw [this, if_pos (by omega)]
theorem make_yes {C : List Ac} {ls : List Lg} (h : rightB ls = true) (h2 : weighB ls = true) : makeR C ls = if (allR C ls).2 ≠ 0 then (C, (allR C ls).2) else allR C ls := by
  have : checkR C ls = (allR C ls).2 := by unfold checkR; rw [if_neg (by rw [h]; simp), if_neg (by rw [h2]; simp)]
  unfold makeR
  rw [this]
theorem make_perm {C : List Ac} {ls ms : List Lg} (hs : SortedC C) (h : ls.Perm ms) : ((makeR C ls).2 = 0 ↔ (makeR C ms).2 = 0) ∧ (makeR C ls).1 = (makeR C ms).1 := by
  have hr2 := right_perm h
  have hw2 := weigh_perm h
  cases hr : rightB ls with
  | false => rw [make_no1 hr, make_no1 (hr2 ▸ hr)]; simp
  | true =>
    cases hw : weighB ls with
    | false => rw [make_no2 hr hw, make_no2 (hr2 ▸ hr) (hw2 ▸ hw)]; simp
    | true =>
      rw [make_yes hr hw, make_yes (hr2 ▸ hr) (hw2 ▸ hw)]
      obtain ⟨_, hn, _⟩ := (right_iff ls).1 hr
      have hn' : (ms.map fun l => l.n).Nodup := (h.map fun l : Lg => l.n).nodup_iff.1 hn
      obtain ⟨a1, a2⟩ := all_eff ls hs hn
      obtain ⟨b1, b2⟩ := all_eff ms hs hn'
      have hiff : (allR C ls).2 = 0 ↔ (allR C ms).2 = 0 := a1.trans (Iff.trans ⟨fun k l hl => k l (h.mem_iff.2 hl), fun k l hl => k l (h.mem_iff.1 hl)⟩ b1.symm)
      by_cases h0 : (allR C ls).2 = 0
      · have h1 := hiff.1 h0
        rw [if_neg (by omega), if_neg (by omega)]
        exact ⟨hiff, by rw [a2 h0, b2 h1, apply_perm h hn]⟩
      · have h1 : ¬ (allR C ms).2 = 0 := fun k => h0 (hiff.2 k)
        rw [if_pos h0, if_pos h1]
        exact ⟨⟨fun k => absurd k h0, fun k => absurd k h1⟩, rfl⟩
end Go.Proofs.Ytaohgefpnndjcaa
