import Derived.Test.YtbphgomdjjkffaaA09j
set_option linter.all false
set_option linter.unusedVariables false
set_option linter.unusedSimpArgs false
set_option linter.unnecessarySimpa false
namespace Go.Proofs.Ytbphgomdjjkffaa.M
open Go Go.Mir Go.Proofs

theorem asc_ins : ∀ {l : List Item} {low : Int} {x : Item}, asc low l = true → waits l x.seq = false → mayI x = true → low ≤ x.seq → asc low (insR x l) = true
  | [], low, x, _, _, hm, hx => by simp [insR, asc, hm, hx]
  | a :: r, low, x, h, hw, hm, hx => by
    obtain ⟨h1, h2, h3⟩ := asc_parts h
    have hw' : a.seq ≠ x.seq ∧ waits r x.seq = false := by
      simp only [waits, List.any_cons, Bool.or_eq_false_iff, beq_eq_false_iff_ne, ne_eq] at hw; exact hw
    unfold insR
    split
    · rename_i hlt
      simp only [asc, hm, h1, hx, decide_true, Bool.true_and, Bool.and_true]
      rw [asc_mono h3 (Int.le_refl _)]; simp; omega
    · simp only [asc, h1, h2, decide_true, Bool.true_and]
      exact asc_ins h3 hw'.2 hm (by omega)
theorem ins_len (x : Item) : ∀ l : List Item, (insR x l).length = l.length + 1
  | [] => rfl
  | a :: r => by unfold insR; split; rfl; simp [ins_len x r]
theorem put_cases (w : Win) (x : Item) (last : Int) : (putR w x last = (w, false)) ∨ (mayI x = true ∧ w.next ≤ x.seq ∧ x.seq ≤ last ∧ w.l.length < 64 ∧ waits w.l x.seq = false ∧ putR w x last = (⟨w.next, insR x w.l⟩, true)) := by
  unfold putR
  split
  · exact .inl rfl
  · rename_i h
    simp only [not_or] at h
    exact .inr ⟨by simpa using h.1, by omega, by omega, by omega, by simpa using h.2.2.2.2, rfl⟩
theorem right_put {w : Win} (h : rightW w = true) (x : Item) (last : Int) : rightW (putW w x last).1 = true := by
  obtain ⟨h1, h2, h3, h4⟩ := right_parts h
  rw [put_eq h4]
  rcases put_cases w x last with e | ⟨a, b, c, d, e, f⟩
  · rw [e]; exact h
  · rw [f]; exact right_mk h1 h2 (by simp [ins_len]; omega) (asc_ins h4 e a b)
theorem take_cases (w : Win) : (takeW w = (zI, w, false)) ∨ ∃ x r, w.l = x :: r ∧ x.seq = w.next ∧ takeW w = (x, ⟨w64 (w.next + 1), r⟩, true) := by
  unfold takeW
  split
  · rename_i h
    unfold peekW at h ⊢
    cases hl : w.l with
    | nil => rw [hl] at h; cases h
    | cons a r =>
      rw [hl] at h
      simp only at h ⊢
      split at h
      · rename_i e; exact .inr ⟨a, r, rfl, e, by rw [if_pos e]; rfl⟩
      · cases h
  · exact .inl rfl
theorem right_take {w : Win} (h : rightW w = true) : rightW (takeW w).2.1 = true := by
  obtain ⟨h1, h2, h3, h4⟩ := right_parts h
  rcases take_cases w with e | ⟨x, r, hl, hx, e⟩
  · rw [e]; exact h
  · rw [e]
    rw [hl] at h4 h3
    obtain ⟨g1, g2, g3⟩ := asc_parts h4
    have := may_seq g1
    have e1 : w64 (w.next + 1) = w.next + 1 := w64_id (by omega) (by omega)
    simp only [e1]
    exact right_mk (by simp only; omega) (by simp only; omega) (by simp at h3 ⊢; omega) (by simpa [hx] using g3)
/-- How many are the same as one, of one number. -/
def cnt (x : Item) (l : List Item) : Nat := (l.filter fun a => a.seq == x.seq && sameI a x).length
theorem cnt_cons (x a : Item) (l : List Item) : cnt x (a :: l) = (if (a.seq == x.seq && sameI a x) = true then 1 else 0) + cnt x l := by
  unfold cnt; rw [List.filter_cons]; split <;> simp <;> omega
theorem cnt_none {x : Item} : ∀ {l : List Item}, waits l x.seq = false → cnt x l = 0
  | [], _ => rfl
  | a :: r, h => by
    simp only [waits, List.any_cons, Bool.or_eq_false_iff] at h
    rw [cnt_cons, h.1, cnt_none (l := r) h.2]; simp
theorem cnt_ins {x : Item} : ∀ {l : List Item}, waits l x.seq = false → cnt x (insR x l) = 1
  | [], _ => by simp [insR, cnt, sameI_refl]
  | a :: r, h => by
    have h' := h
    simp only [waits, List.any_cons, Bool.or_eq_false_iff] at h
    unfold insR
    split
    · rw [cnt_cons, cnt_none h']; simp [sameI_refl]
    · rw [cnt_cons, h.1, cnt_ins (l := r) h.2]; simp
theorem waits_ins (x : Item) : ∀ l : List Item, waits (insR x l) x.seq = true
  | [] => by simp [insR, waits]
  | a :: r => by
    unfold insR; split
    · simp [waits]
    · have := waits_ins x r; simp only [waits] at this; simp [waits, this]
set_option maxHeartbeats 1000000 in
theorem winStays (w : Win) (it : Item) (last : Int) : Cl 4 [eWin w, eItem it, I last] [.pv (B true)] := t4 _ _ _ (by
  unfold P4
  simp only [SmA_true, true_and]
  refine ⟨_, c8, _, c9 _, Fk_of (fun _ => .refl _) fun _ => ⟨_, c10 _, Fk_of (fun _ => .refl _) fun _ => ⟨_, c11 _, Fk_of (fun _ => .refl _) fun h => ?_⟩⟩⟩
  have hr : rightW w = true := by simpa using h
  obtain ⟨h2, h3, h4, h5⟩ := right_parts hr
  refine ⟨_, _, c17 _ _ _, _, _, _, c21 _ (by omega), ?_⟩
  have ra := right_put hr it last
  have rb := right_take hr
  generalize hp : putW w it last = p at *
  generalize ht : takeW w = t at *
  obtain ⟨a, is⟩ := p
  obtain ⟨x, b, took⟩ := t
  simp only at ra rb ⊢
  refine Jn_mid (fun v => v = (true, is, took, (), (), (a.next, List.map eItem a.l, ()), (x.kind, x.seq, x.epoch, x.index, x.total, x.count, List.map I x.l, List.map U8 x.body, ()), (b.next, List.map eItem b.l, ()), ())) (fun j hj => ?_) ?_
  · have s1 : is = false → sameW a w = true := fun hi => by
      rw [put_eq h5] at hp
      rcases put_cases w it last with e | ⟨_, _, _, _, _, e⟩
      · rw [e] at hp; cases hp; exact sameW_refl _
      · rw [e] at hp; cases hp; cases hi
    have s2 : took = false → sameW b w = true := fun hi => by
      rcases take_cases w with e | ⟨_, _, _, _, e⟩
      · rw [e] at ht; cases ht; exact sameW_refl _
      · rw [e] at ht; cases ht; cases hi
    refine ⟨_, c11 _, Fk_f (by simp [ra]) ⟨_, c11 _, Fk_f (by simp [rb]) (Fk_of (fun hi => ⟨_, c14 _ _, Fk_f (by rw [s1 (by simpa using hi)]; rfl) (Fk_of (fun hk => ⟨_, c14 _ _, Fk_f (by rw [s2 (by simpa using hk)]; rfl) (hj _ rfl)⟩) fun _ => hj _ rfl)⟩) fun _ => Fk_of (fun hk => ⟨_, c14 _ _, Fk_f (by rw [s2 (by simpa using hk)]; rfl) (hj _ rfl)⟩) fun _ => hj _ rfl)⟩⟩
  · rintro _ rfl
    refine Jn_mid (fun v => v = (true, is, (), (), (a.next, List.map eItem a.l, ()), ())) (fun j hj => ?_) ?_
    · simp only [Ln, List.length_map]
      intro _ _
      refine Fk_of (fun hk => ?_) fun _ => hj _ rfl
      rcases take_cases w with e | ⟨y, r, hl, hx, e⟩
      · rw [e] at ht; cases ht; cases hk
      · rw [e] at ht; cases ht
        refine Fk_f (by simp [hx]) (Fk_f (by simp) (Fk_f ?_ (hj _ rfl)))
        rw [hl]; simp only [List.length_cons]
        have e9 : w64 (r.length : Int) = (r.length : Int) := by
          rw [hl] at h4; simp only [List.length_cons] at h4
          exact w64_id (by omega) (by omega)
        simp [e9]
    · rintro _ rfl
      refine Fk_of (fun _ => .refl _) fun hi => ?_
      have hi' : is = true := by simpa using hi
      rw [put_eq h5] at hp
      rcases put_cases w it last with e | ⟨g1, g2, g3, g4, g5, e⟩
      · rw [e] at hp; cases hp; cases hi'
      rw [e] at hp
      cases hp
      have hcn := cnt_ins g5
      have hlen := ins_len it w.l
      have hw2 := waits_ins it w.l
      refine Lo_drop (insR it w.l) (fun i r v => ∃ n : Nat, v = (true, (n : Int), (i : Int), (), (), (w.next, List.map eItem (insR it w.l), ()), ()) ∧ n + cnt it r = 1) ?_ ?_ ⟨0, rfl, by omega⟩
      · rintro L _ ⟨n, rfl, hn⟩
        simp only [Ln, List.length_map]
        intro _
        refine Fk_f (by simp) ⟨_, _, (c17 ⟨w.next, insR it w.l⟩ it last).dull rfl, ?_⟩
        have e2 : putW ⟨w.next, insR it w.l⟩ it last = (⟨w.next, insR it w.l⟩, false) := by
          have := ra
          rw [put_eq (right_parts this).2.2.2]
          unfold putR
          rw [if_pos]
          exact .inr (.inr (.inr (.inr hw2)))
        simp only [e2]
        have hn1 : n = 1 := by simpa [cnt] using hn
        subst hn1
        intro _
        refine Fk_t rfl (Fk_t rfl (Fk_t ?_ (Fk_t (by simp) (.refl _))))
        rw [hlen]
        have : w64 ((w.l.length : Int) + 1) = ((w.l.length + 1 : Nat) : Int) := by rw [w64_id (by omega) (by omega)]; omega
        simp [this]
      · rintro L i y r _ hi ha _ ⟨n, rfl, hn⟩ hL
        simp only [Ln, List.length_map]
        intro hl
        rw [cnt_cons] at hn
        refine Fk_t (by simpa using hi) (Jn_mid (fun v => ∃ n' : Nat, v = (true, (n' : Int), (i : Int), (), (), (w.next, List.map eItem (insR it w.l), ()), ()) ∧ n' + cnt it r = 1) (fun j hj => ?_) ?_)
        · refine Ix_nat ha (Fk_of (fun h1 => Ix_nat ha ⟨_, c25 _ _, Fk_of (fun h2 => hj _ ⟨n + 1, ?_, ?_⟩) fun h2 => hj _ ⟨n, rfl, ?_⟩⟩) fun h1 => hj _ ⟨n, rfl, ?_⟩)
          · rw [h1, h2] at hn; simp at hn
            rw [w64_id (by omega) (by omega)]; rfl
          · rw [h1, h2] at hn; simp at hn; omega
          · rw [h1, h2] at hn; simpa using hn
          · rw [h1] at hn; simpa using hn
        · rintro _ ⟨n', rfl, hn'⟩
          exact hL _ ⟨n', by simp only [w64_succ hi hl], hn'⟩)
end Go.Proofs.Ytbphgomdjjkffaa.M
