import Derived.Test.YtbphgomdjjkffaaA09i
set_option linter.all false
set_option linter.unusedVariables false
set_option linter.unusedSimpArgs false
set_option linter.unnecessarySimpa false
namespace Go.Proofs.Ytbphgomdjjkffaa.M
open Go Go.Mir Go.Proofs

theorem sameI_refl (a : Item) : sameI a a = true := by simp [sameI]
theorem rowEq_refl : ∀ l : List Item, rowEq sameI l l = true
  | [] => rfl
  | a :: r => by simp [rowEq, sameI_refl, rowEq_refl r]
theorem sameW_refl (w : Win) : sameW w w = true := by simp [sameW, rowEq_refl]
theorem sameI_eq {a b : Item} (h : sameI a b = true) : a = b := by
  simp only [sameI, Bool.and_eq_true, beq_iff_eq] at h
  cases a; cases b; simp_all
theorem rowEq_eq : ∀ {a b : List Item}, rowEq sameI a b = true → a = b
  | [], [], _ => rfl
  | a :: r, b :: s, h => by
    simp only [rowEq, Bool.and_eq_true] at h
    rw [sameI_eq h.1, rowEq_eq h.2]
  | [], _ :: _, h => by cases h
  | _ :: _, [], h => by cases h
theorem sameW_eq {a b : Win} (h : sameW a b = true) : a = b := by
  simp only [sameW, Bool.and_eq_true, beq_iff_eq] at h
  cases a; cases b; simp only [Win.mk.injEq]; exact ⟨h.1, rowEq_eq h.2⟩
theorem asc_mono : ∀ {l : List Item} {a b : Int}, asc b l = true → a ≤ b → asc a l = true
  | [], _, _, _, _ => rfl
  | x :: r, a, b, h, hab => by
    obtain ⟨h1, h2, h3⟩ := asc_parts h
    simp only [asc, h1, h3, Bool.true_and, Bool.and_true, decide_eq_true_eq]; omega
/-- In a row that rises it is found where it would stand, or nowhere. -/
theorem found_eq : ∀ {l : List Item} {low s : Int}, asc low l = true → found l s = waits l s
  | [], _, _, _ => rfl
  | a :: r, low, s, h => by
    obtain ⟨_, h2, h3⟩ := asc_parts h
    by_cases hl : a.seq < s
    · have ih := found_eq h3 (s := s)
      have e1 : found (a :: r) s = found r s := by simp only [found, below, if_pos hl, List.getElem?_cons_succ]
      have e2 : waits (a :: r) s = waits r s := by
        have : (a.seq == s) = false := by simp; omega
        simp only [waits, List.any_cons, this, Bool.false_or]
      rw [e1, e2, ih]
    · have e1 : found (a :: r) s = (a.seq == s) := by simp only [found, below, if_neg hl, List.getElem?_cons_zero]
      rw [e1]
      by_cases e : a.seq = s
      · simp [waits, e]
      · have := waits_low h3 (s := s) (by omega)
        have e3 : (a.seq == s) = false := by simpa using e
        simp only [waits] at this
        simp only [waits, List.any_cons, e3, this, Bool.or_false]
theorem ins_eq : ∀ {l : List Item} {low : Int} {x : Item}, asc low l = true → waits l x.seq = false → insR x l = l.take (below x.seq l) ++ x :: l.drop (below x.seq l)
  | [], _, _, _, _ => rfl
  | a :: r, low, x, h, hw => by
    obtain ⟨_, h2, h3⟩ := asc_parts h
    have hw' : a.seq ≠ x.seq ∧ waits r x.seq = false := by
      simp only [waits, List.any_cons, Bool.or_eq_false_iff, beq_eq_false_iff_ne, ne_eq] at hw; exact hw
    by_cases hl : a.seq < x.seq
    · simp only [insR, below, if_pos hl, if_neg (show ¬ x.seq < a.seq by omega), List.take_succ_cons, List.drop_succ_cons, List.cons_append, ins_eq h3 hw'.2]
    · simp only [insR, below, if_neg hl, if_pos (show x.seq < a.seq by omega), List.take_zero, List.drop_zero, List.nil_append]
theorem put_eq {w : Win} (h : asc w.next w.l = true) (x : Item) (last : Int) : putW w x last = putR w x last := by
  unfold putW putR
  rw [found_eq h]
  split
  · rfl
  · rename_i hn
    simp only [not_or] at hn
    rw [insW, ins_eq h (by simpa using hn.2.2.2.2)]
theorem peek_eq {w : Win} (h : asc w.next w.l = true) : peekW w = peekR w := by
  unfold peekW peekR
  cases hl : w.l with
  | nil => rfl
  | cons a r =>
    rw [hl] at h
    obtain ⟨_, h2, h3⟩ := asc_parts h
    simp only [List.find?_cons]
    by_cases e : a.seq = w.next
    · simp [e]
    · have e' : (a.seq == w.next) = false := by simpa using e
      rw [if_neg e, e']
      have : r.find? (fun a => a.seq == w.next) = none := by
        rw [List.find?_eq_none]
        intro x hx
        have := (asc_ge h3 x hx).1
        simp; omega
      simp only [this]
theorem take_eq {w : Win} (h : asc w.next w.l = true) : takeW w = takeR w := by
  unfold takeW takeR
  rw [← peek_eq h]
  split
  · rename_i hp
    have : w.l.drop 1 = w.l.filter (fun a => a.seq != w.next) := by
      unfold peekW at hp
      cases hl : w.l with
      | nil => rfl
      | cons a r =>
        rw [hl] at hp h
        obtain ⟨_, h2, h3⟩ := asc_parts h
        simp only at hp
        split at hp
        · rename_i e
          have e' : (a.seq != w.next) = false := by simp [e]
          rw [List.filter_cons, e']
          simp only [List.drop_succ_cons, List.drop_zero, Bool.false_eq_true, if_false]
          symm
          rw [List.filter_eq_self]
          intro x hx
          have := (asc_ge h3 x hx).1
          simp; omega
        · cases hp
    rw [this]
  · rfl
theorem fewL_len {l : List Item} (h : fewL l = true) : l.length ≤ 1000 := by
  simp only [fewL, Bool.and_eq_true, decide_eq_true_eq] at h; omega
theorem winTells (x : WinTellsIn) : Cl 3 [eWinTellsIn x] [.pv (B true)] := t3 _ (by
  unfold P3
  refine ⟨_, c8, _, c9 _, Fk_of (fun _ => .refl _) fun h1 => ⟨_, c9 _, Fk_of (fun _ => .refl _) fun _ => ⟨_, c10 _, Fk_of (fun _ => .refl _) fun _ => ⟨_, c11 _, _, c12 _, Fk_f (by simp) ⟨_, c13 _ _, _, c14 _ _, Fk_f (by simp) ⟨_, c15, _, c16, _, c14 _ _, Fk_f (by rw [sameW_refl]; rfl) (Fk_of (fun _ => .refl _) fun h => ?_)⟩⟩⟩⟩⟩⟩
  have hr : rightW x.w = true := by simpa using h
  obtain ⟨h2, h3, h4, h5⟩ := right_parts hr
  refine ⟨_, _, c17 _ _ _, _, _, c18 _ _ _, _, _, c19 _, _, _, c20 _, _, _, _, c21 _ (by omega), _, _, _, c22 _ (by omega), _, _, c23 _ _ hr, _, _, c24 _ _ hr, ?_⟩
  rw [← put_eq h5, ← peek_eq h5, ← take_eq h5]
  exact Fk_t rfl ⟨_, c14 _ _, Fk_t (sameW_refl _) (Fk_t (by simp) ⟨_, c25 _ _, Fk_t (sameI_refl _) (Fk_t (by simp) ⟨_, c25 _ _, Fk_t (sameI_refl _) ⟨_, c14 _ _, Fk_t (sameW_refl _) (Fk_t (by simp) (Fk_t (by simp) (by simp only [rvB]; simp)))⟩⟩)⟩)⟩)
end Go.Proofs.Ytbphgomdjjkffaa.M
