import Derived.Test.YtbphgomdjjkffaaA09g
set_option linter.all false
set_option linter.unusedVariables false
set_option linter.unusedSimpArgs false
set_option linter.unnecessarySimpa false
namespace Go.Proofs.Ytbphgomdjjkffaa.M
open Go Go.Mir Go.Proofs

/-- How many stand at the head, one behind the other, from low on. -/
def runLen (low : Int) : List Item → Nat
  | [] => 0
  | x :: r => if x.seq = low then runLen (low + 1) r + 1 else 0
theorem runLen_le (low : Int) : ∀ l : List Item, runLen low l ≤ l.length
  | [] => Nat.le_refl _
  | x :: r => by
    unfold runLen; split
    · have := runLen_le (low + 1) r; simp; omega
    · omega
theorem runLen_seq : ∀ {l : List Item} {low : Int} {j : Nat}, j < runLen low l → ∃ x, l[j]? = some x ∧ x.seq = low + j
  | [], low, j, h => by simp [runLen] at h
  | x :: r, low, j, h => by
    unfold runLen at h
    split at h
    · rename_i hx
      cases j with
      | zero => exact ⟨x, rfl, by omega⟩
      | succ j =>
        obtain ⟨y, hy, hs⟩ := runLen_seq (l := r) (low := low + 1) (j := j) (by omega)
        exact ⟨y, by simpa using hy, by omega⟩
    · omega
theorem runLen_stop : ∀ {l : List Item} {low : Int} {x : Item}, l[runLen low l]? = some x → x.seq ≠ low + runLen low l
  | [], low, x, h => by simp at h
  | y :: r, low, x, h => by
    unfold runLen at h ⊢
    split at h
    · rename_i hy
      rw [if_pos hy]
      have := runLen_stop (l := r) (low := low + 1) (x := x) (by simpa using h)
      omega
    · rename_i hy
      rw [if_neg hy]
      simp at h; subst h; simpa using hy
theorem asc_parts {low : Int} {x : Item} {r : List Item} (h : asc low (x :: r) = true) : mayI x = true ∧ low ≤ x.seq ∧ asc (x.seq + 1) r = true := by
  simp only [asc, Bool.and_eq_true, decide_eq_true_eq] at h; exact ⟨h.1.1, h.1.2, h.2⟩
theorem asc_ge : ∀ {l : List Item} {low : Int}, asc low l = true → ∀ x ∈ l, low ≤ x.seq ∧ mayI x = true
  | [], _, _, x, hx => by simp at hx
  | a :: r, low, h, x, hx => by
    obtain ⟨h1, h2, h3⟩ := asc_parts h
    rcases List.mem_cons.1 hx with rfl | hx
    · exact ⟨h2, h1⟩
    · have := asc_ge h3 x hx; exact ⟨by omega, this.2⟩
theorem waits_low {l : List Item} {low s : Int} (h : asc low l = true) (hs : s < low) : waits l s = false := by
  simp only [waits, List.any_eq_false, beq_iff_eq]
  intro x hx hxs
  have := (asc_ge h x hx).1; omega
theorem waits_run {l : List Item} {low : Int} {j : Nat} (h : j < runLen low l) : waits l (low + j) = true := by
  obtain ⟨x, hx, hs⟩ := runLen_seq h
  simp only [waits, List.any_eq_true, beq_iff_eq]
  exact ⟨x, List.mem_of_getElem? hx, hs⟩
/-- Behind the run nothing waits up to the next one. -/
theorem waits_gap : ∀ {l : List Item} {low s : Int}, asc low l = true → low + runLen low l ≤ s → (∀ x, l[runLen low l]? = some x → s < x.seq) → waits l s = false
  | [], _, _, _, _, _ => rfl
  | a :: r, low, s, h, h1, h2 => by
    obtain ⟨_, h4, h5⟩ := asc_parts h
    unfold runLen at h1 h2
    by_cases e : a.seq = low
    · rw [if_pos e] at h1 h2
      rw [e] at h5
      have := waits_gap h5 (s := s) (by omega) (fun x hx => h2 x (by simpa using hx))
      simp only [waits, List.any_cons, Bool.or_eq_false_iff, beq_eq_false_iff_ne, ne_eq] at this ⊢
      exact ⟨by omega, this⟩
    · rw [if_neg e] at h1 h2
      have h6 := h2 a rfl
      have := waits_low h5 (s := s) (by omega)
      simp only [waits, List.any_cons, Bool.or_eq_false_iff, beq_eq_false_iff_ne, ne_eq] at this ⊢
      exact ⟨by omega, this⟩
theorem waits_at {l : List Item} {i : Nat} {x : Item} (h : l[i]? = some x) : waits l x.seq = true := by
  simp only [waits, List.any_eq_true, beq_iff_eq]
  exact ⟨x, List.mem_of_getElem? h, rfl⟩
theorem right_parts {w : Win} (h : rightW w = true) : 1 ≤ w.next ∧ w.next ≤ 4611686018427387905 ∧ w.l.length ≤ 64 ∧ asc w.next w.l = true := by
  simp only [rightW, Bool.and_eq_true, decide_eq_true_eq] at h
  exact ⟨h.1.1.1, h.1.1.2, by omega, h.2⟩
theorem right_mk {w : Win} (h1 : 1 ≤ w.next) (h2 : w.next ≤ 4611686018427387905) (h3 : w.l.length ≤ 64) (h4 : asc w.next w.l = true) : rightW w = true := by
  simp only [rightW, Bool.and_eq_true, decide_eq_true_eq]; exact ⟨⟨⟨h1, h2⟩, by omega⟩, h4⟩
def gapW (w : Win) (top : Int) : Int × Int :=
  let lo := w.next + runLen w.next w.l
  let t := min top 4611686018427387904
  if t < lo then (0, 0) else
    let t' := match w.l[runLen w.next w.l]? with
      | some x => min t (x.seq - 1)
      | none => t
    (lo, min (t' - lo + 1) 64)
theorem c23 (w : Win) (top : Int) (hr : rightW w = true) : Cl 23 [eWin w, I top] [.pv (I (gapW w top).1), .pv (I (gapW w top).2)] := t23 _ _ (by
  simp only [P23, Ln, SmA_true, true_and, List.length_map, imin_eq]
  obtain ⟨h1, h2, h3, h4⟩ := right_parts hr
  have hk := runLen_le w.next w.l
  have hge : ∀ x ∈ w.l, w.next ≤ x.seq ∧ 1 ≤ x.seq ∧ x.seq ≤ 4611686018427387904 := fun x hx => by
    have := asc_ge h4 x hx; have := may_seq this.2; omega
  refine Jn_mid (fun v => v = (w.next + runLen w.next w.l, ((runLen w.next w.l : Nat) : Int), (), ())) (fun j hj => ?_) ?_
  · refine Lo_of (fun v => ∃ i : Nat, v = (w.next + (i : Int), (i : Int), (), ()) ∧ i ≤ runLen w.next w.l) (fun v => w.l.length + 1 - v.2.1.toNat) ?_ ⟨0, by simp, by omega⟩
    rintro L _ ⟨i, rfl, hi⟩ hL hl
    by_cases hlt : i < runLen w.next w.l
    · obtain ⟨x, hx, hs⟩ := runLen_seq hlt
      refine Fk_t (by simp; omega) (Ix_nat hx (Fk_t (by simpa using hs) (hL _ ⟨i + 1, ?_, by omega⟩ ?_)))
      · rw [w64_id (n := w.next + (i : Int) + 1) (by omega) (by omega), w64_id (n := (i : Int) + 1) (by omega) (by omega)]
        simp only [Prod.mk.injEq, and_true]; omega
      · simp only; rw [w64_id (by omega) (by omega)]; omega
    · obtain rfl : i = runLen w.next w.l := by omega
      cases hx : w.l[runLen w.next w.l]? with
      | none =>
        have hn : w.l.length ≤ runLen w.next w.l := by simpa using hx
        exact Fk_f (by simp; omega) (hj _ rfl)
      | some x =>
        have hp := (List.getElem?_eq_some_iff.1 hx).1
        have hs := runLen_stop hx
        exact Fk_t (by simpa using hp) (Ix_nat hx (Fk_f (by simpa using hs) (hj _ rfl)))
  · rintro _ rfl
    refine Fk_of (fun h => ?_) fun h => ?_
    · have e : gapW w top = (0, 0) := if_pos (by simpa using h)
      rw [e]; exact .refl _
    have h' : ¬ min top 4611686018427387904 < w.next + (runLen w.next w.l : Nat) := by simpa using h
    refine Jn_mid (fun v => v = ((match w.l[runLen w.next w.l]? with
      | some x => min (min top 4611686018427387904) (x.seq - 1)
      | none => min top 4611686018427387904), w.next + (runLen w.next w.l : Nat), ())) (fun j hj => ?_) ?_
    · intro hl
      cases hx : w.l[runLen w.next w.l]? with
      | none =>
        have hn : w.l.length ≤ runLen w.next w.l := by simpa using hx
        exact Fk_f (by simp; omega) (hj _ (by rw [hx]))
      | some x =>
        have hp := (List.getElem?_eq_some_iff.1 hx).1
        have hb := hge x (List.mem_of_getElem? hx)
        refine Fk_t (by simpa using hp) (Ix_nat hx (hj _ ?_))
        rw [hx, w64_id (n := x.seq - 1) (by omega) (by omega)]
    · rintro _ rfl
      have e : gapW w top = (w.next + (runLen w.next w.l : Nat), min ((match w.l[runLen w.next w.l]? with
        | some x => min (min top 4611686018427387904) (x.seq - 1)
        | none => min top 4611686018427387904) - (w.next + (runLen w.next w.l : Nat)) + 1) 64) := if_neg h'
      rw [e]
      have hT : min top 4611686018427387904 ≤ 4611686018427387904 := by omega
      have hb : -1 ≤ (match w.l[runLen w.next w.l]? with
        | some x => min (min top 4611686018427387904) (x.seq - 1)
        | none => min top 4611686018427387904) ∧ (match w.l[runLen w.next w.l]? with
        | some x => min (min top 4611686018427387904) (x.seq - 1)
        | none => min top 4611686018427387904) ≤ 4611686018427387904 := by
        generalize min top 4611686018427387904 = T at *
        split
        · rename_i x hx
          have hb := hge x (List.mem_of_getElem? hx)
          have e1 : min T (x.seq - 1) = if T ≤ x.seq - 1 then T else x.seq - 1 := Int.min_def _ _
          rw [e1]
          split <;> omega
        · omega
      simp only
      generalize (match w.l[runLen w.next w.l]? with
        | some x => min (min top 4611686018427387904) (x.seq - 1)
        | none => min top 4611686018427387904) = t at hb ⊢
      rw [w64_id (n := t - _) (by omega) (by omega), w64_id (by omega) (by omega)]
      exact .refl _)
theorem c24 (w : Win) (top : Int) (hr : rightW w = true) : Cl 24 [eWin w, I top] [.pv (I (gapW w top).1), .pv (I (gapW w top).2)] := t24 _ _ (by
  simp only [P24, SmA_true, true_and]
  obtain ⟨h1, h2, h3, h4⟩ := right_parts hr
  have hk := runLen_le w.next w.l
  have hge : ∀ x ∈ w.l, w.next ≤ x.seq ∧ 1 ≤ x.seq ∧ x.seq ≤ 4611686018427387904 := fun x hx => by
    have := asc_ge h4 x hx; have := may_seq this.2; omega
  refine Jn_mid (fun v => v = (min top 4611686018427387904, (), ())) (fun j hj => ?_) ?_
  · refine Fk_of (fun h => hj _ ?_) fun h => hj _ ?_
    · simp at h; rw [Int.min_eq_right (by omega)]
    · simp at h; rw [Int.min_eq_left (by omega)]
  rintro _ rfl
  have hgap : ∀ s, w.next + (runLen w.next w.l : Nat) ≤ s → (∀ x, w.l[runLen w.next w.l]? = some x → s < x.seq) → waits w.l s = false := fun s => waits_gap h4
  have hstop : ∀ x, w.l[runLen w.next w.l]? = some x → w.next + (runLen w.next w.l : Nat) < x.seq := fun x hx => by
    have h5 := runLen_stop hx
    have h6 : ∀ {l : List Item} {low : Int} {i : Nat} {x : Item}, asc low l = true → l[i]? = some x → low + i ≤ x.seq := by
      intro l
      induction l with
      | nil => intro low i x _ h; simp at h
      | cons a r ih =>
        intro low i x h hx
        obtain ⟨_, g1, g2⟩ := asc_parts h
        cases i with
        | zero => simp at hx; subst hx; omega
        | succ i => have := ih g2 (i := i) (by simpa using hx); omega
    have := h6 h4 hx
    omega
  refine Lo_of (fun v => ∃ i : Nat, v = (min top 4611686018427387904, w.next + (i : Int), (), ()) ∧ i ≤ runLen w.next w.l) (fun v => (w.next + 100 - v.2.1).toNat) ?_ ⟨0, by simp, by omega⟩
  rintro L _ ⟨i, rfl, hi⟩ hL
  refine ⟨_, c33 w _, ?_⟩
  by_cases hlt : i < runLen w.next w.l
  · refine Fk_t (waits_run hlt) (hL _ ⟨i + 1, ?_, by omega⟩ ?_)
    · simp only [Prod.mk.injEq, and_true, true_and]
      rw [w64_id (by omega) (by omega)]; omega
    · simp only; rw [w64_id (by omega) (by omega)]; omega
  obtain rfl : i = runLen w.next w.l := by omega
  refine Fk_f (hgap _ (Int.le_refl _) hstop) ?_
  refine Fk_of (fun h => ?_) fun h => ?_
  · have e : gapW w top = (0, 0) := if_pos (by simpa using h)
    rw [e]; exact .refl _
  have h' : ¬ min top 4611686018427387904 < w.next + (runLen w.next w.l : Nat) := by simpa using h
  have e : gapW w top = (w.next + (runLen w.next w.l : Nat), min ((match w.l[runLen w.next w.l]? with
    | some x => min (min top 4611686018427387904) (x.seq - 1)
    | none => min top 4611686018427387904) - (w.next + (runLen w.next w.l : Nat)) + 1) 64) := if_neg h'
  rw [e]
  generalize hlo : w.next + (runLen w.next w.l : Nat) = lo at *
  obtain ⟨t, ht, htl⟩ : ∃ t : Int, t = (match w.l[runLen w.next w.l]? with
    | some x => min (min top 4611686018427387904) (x.seq - 1)
    | none => min top 4611686018427387904) ∧ lo ≤ t ∧ t ≤ min top 4611686018427387904 ∧ (∀ s, lo ≤ s → s ≤ t → waits w.l s = false) ∧ (t < min top 4611686018427387904 → waits w.l (t + 1) = true) := by
    refine ⟨_, rfl, ?_⟩
    cases hx : w.l[runLen w.next w.l]? with
    | none =>
      refine ⟨by simp only; omega, by simp only; omega, fun s g1 g2 => hgap s g1 fun x h => (by rw [hx] at h; cases h), fun g => ?_⟩
      simp only at g; omega
    | some x =>
      have := hstop x hx
      refine ⟨by simp only; omega, by simp only; omega, fun s g1 g2 => hgap s g1 fun y h => ?_, fun g => ?_⟩
      · rw [hx] at h; cases h; simp only at g2; omega
      · simp only at g ⊢
        have : min (min top 4611686018427387904) (x.seq - 1) + 1 = x.seq := by omega
        rw [this]; exact waits_at hx
  rw [← ht]
  obtain ⟨g1, g2, g3, g4⟩ := htl
  generalize min top 4611686018427387904 = T at *
  refine Jn_mid (fun v => v = (lo, min (t - lo + 1) 64, ())) (fun j hj => ?_) ?_
  rotate_left
  · rintro _ rfl; exact .refl _
  refine Lo_of (fun v => ∃ i : Nat, v = (T, lo, (i : Int), (), ()) ∧ (i : Int) ≤ min (t - lo + 1) 64) (fun v => (100 - v.2.2.1).toNat) ?_ ⟨0, by simp, by omega⟩
  rintro L _ ⟨i, rfl, hi⟩ hL
  have e2 : w64 (lo + i) = lo + i := w64_id (by omega) (by omega)
  simp only [e2]
  have fin : (i : Int) = min (t - lo + 1) 64 → j (lo, (i : Int), ()) := fun h => hj _ (by rw [h])
  refine Fk_of (fun h => ?_) fun h => fin (by simp at h; omega)
  refine Fk_of (fun h5 => ?_) fun h5 => fin (by simp at h h5; omega)
  simp at h h5
  refine ⟨_, c33 w _, Fk_of (fun h6 => ?_) fun h6 => ?_⟩
  · have h7 : waits w.l (lo + i) = false := by simpa using h6
    have : ¬ (lo + i = t + 1) := fun hc => by
      rw [hc, g4 (by omega)] at h7; cases h7
    exact hL _ ⟨i + 1, by rw [w64_id (by omega) (by omega)]; rfl, by omega⟩ (by simp only; rw [w64_id (by omega) (by omega)]; omega)
  · have h7 : waits w.l (lo + i) = true := by simpa using h6
    refine fin ?_
    have : ¬ (lo + i ≤ t) := fun hc => by rw [g3 _ (by omega) hc] at h7; cases h7
    omega)
end Go.Proofs.Ytbphgomdjjkffaa.M
