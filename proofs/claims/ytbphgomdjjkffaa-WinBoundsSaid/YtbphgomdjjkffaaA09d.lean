import Derived.Test.YtbphgomdjjkffaaA09c
set_option linter.all false
set_option linter.unusedVariables false
set_option linter.unusedSimpArgs false
set_option linter.unnecessarySimpa false
namespace Go.Proofs.Ytbphgomdjjkffaa.M
open Go Go.Mir Go.Proofs

theorem c11 (w : Win) : Cl 11 [eWin w] [.pv (B (rightW w))] := t11 _ (by
  unfold P11
  simp only [Ln, SmA_true, true_and, List.length_map]
  intro hl
  refine Fk_of (fun h => ?_) fun h1 => Fk_of (fun h => ?_) fun h2 => Fk_of (fun h => ?_) fun h3 => ?_
  · simp at h; simp [rvB, rightW]; intros; omega
  · simp at h; simp [rvB, rightW]; intros; omega
  · simp at h; simp [rvB, rightW]; intros; omega
  simp only [decide_eq_false_iff_not] at h1 h2 h3
  have hr : rightW w = asc w.next w.l := by
    have e1 : (w.l.length : Int) ≤ 64 := by omega
    have e2 : 1 ≤ w.next := by omega
    have e3 : w.next ≤ 4611686018427387905 := by omega
    simp [rightW, e1, e2, e3]
  rw [hr]
  refine Lo_drop w.l (fun i r v => v = ((i : Int), (), ()) ∧ ∃ low, w.next ≤ low ∧ (i = 0 → low = w.next) ∧ (∀ j, i = j + 1 → ∃ y, w.l[j]? = some y ∧ low = y.seq + 1) ∧ asc w.next w.l = asc low r) ?_ ?_ ⟨rfl, _, Int.le_refl _, fun _ => rfl, fun j h => (by cases h), rfl⟩
  · rintro L _ ⟨rfl, low, _, _, _, he⟩
    exact Fk_f (by simp) (by rw [rvB, he]; rfl)
  · rintro L i a r _ hi ha _ ⟨rfl, low, hlow, hz, hp, he⟩ hL
    refine Fk_t (by simpa using hi) ?_
    refine Jn_mid (fun v => v = ((i : Int), (), ()) ∧ mayI a = true ∧ low ≤ a.seq) ?_ ?_
    · intro j hj
      refine Ix_nat ha ⟨_, c26 _, Fk_of (fun h => ?_) fun h => Ix_nat ha (Fk_of (fun h' => ?_) fun h' => Fk_of (fun h0 => Ix_nat ha ?_) fun h0 => ?_)⟩
      · simp at h; simp [rvB, he, asc, h]
      · have : ¬ low ≤ a.seq := by simp at h'; omega
        simp [rvB, he, asc, this]
      · have hm : mayI a = true := by simpa using h
        simp at h0
        obtain ⟨y, hy, hly⟩ := hp (i - 1) (by omega)
        have ei : w64 ((i : Int) - 1) = ((i - 1 : Nat) : Int) := by rw [w64_id (by omega) (by omega)]; omega
        rw [ei]
        refine Ix_nat hy (Fk_of (fun h4 => ?_) fun h4 => hj _ ⟨rfl, hm, ?_⟩)
        · have : ¬ low ≤ a.seq := by simp at h4; omega
          simp [rvB, he, asc, this]
        · simp at h4; omega
      · have hm : mayI a = true := by simpa using h
        simp at h0 h'
        subst h0
        exact hj _ ⟨rfl, hm, by rw [hz rfl]; omega⟩
    · rintro _ ⟨rfl, hm, hla⟩
      refine hL _ ⟨by simp only [w64_succ hi hl], a.seq + 1, by omega, fun h => (by omega), fun j h => ⟨a, ?_, rfl⟩, ?_⟩
      · have e : i = j := by omega
        rw [← e]; exact ha
      · rw [he]; simp [asc, hm, hla])
def waits (l : List Item) (s : Int) : Bool := l.any fun x => x.seq == s
theorem c33 (w : Win) (s : Int) : Cl 33 [eWin w, I s] [.pv (B (waits w.l s))] := t33 _ _ (by
  unfold P33
  simp only [Ln, SmA_true, true_and, List.length_map, rvB]
  refine Lo_drop w.l (fun i r v => v = ((i : Int), (), ()) ∧ waits w.l s = waits r s) ?_ ?_ ⟨rfl, rfl⟩
  · rintro L _ ⟨rfl, he⟩ hl
    exact Fk_f (by simp) (by rw [he]; rfl)
  · rintro L i a r _ hi ha _ ⟨rfl, he⟩ hL hl
    refine Fk_t (by simpa using hi) (Ix_nat ha (Fk_of (fun h => ?_) (fun h => hL _ ⟨?_, ?_⟩)))
    · rw [he]; simp [waits] at h ⊢; simp [h]
    · simp only [w64_succ hi hl]
    · rw [he]; simp [waits] at h ⊢; simp [h])
/-- How many lie below s, at the head. -/
def below (s : Int) : List Item → Nat
  | [] => 0
  | x :: r => if x.seq < s then below s r + 1 else 0
theorem below_le (s : Int) : ∀ l : List Item, below s l ≤ l.length
  | [] => Nat.le_refl _
  | x :: r => by unfold below; split; simp; exact below_le s r; simp
def found (l : List Item) (s : Int) : Bool := match l[below s l]? with
  | some x => x.seq == s
  | none => false
theorem c31 (w : Win) (s : Int) : Cl 31 [eWin w, I s] [.pv (I (below s w.l : Nat)), .pv (B (found w.l s))] := t31 _ _ (by
  unfold P31
  simp only [Ln, SmA_true, true_and, List.length_map]
  -- what is behind a place that isn't passed
  have stop : ∀ (i : Nat), (∀ x, w.l[i]? = some x → ¬ x.seq < s) → (∀ j x, j < i → w.l[j]? = some x → x.seq < s) → i ≤ w.l.length → below s w.l = i := by
    have key : ∀ (l : List Item) (i : Nat), (∀ x, l[i]? = some x → ¬ x.seq < s) → (∀ j x, j < i → l[j]? = some x → x.seq < s) → i ≤ l.length → below s l = i := by
      intro l
      induction l with
      | nil => intro i _ _ h; simp at h; simp [below, h]
      | cons a r ih =>
        intro i h1 h2 h3
        cases i with
        | zero => have := h1 a rfl; simp [below, this]
        | succ i =>
          have := h2 0 a (by omega) rfl
          simp [below, this]
          exact ih i (fun x hx => h1 x (by simpa using hx)) (fun j x hj hx => h2 (j + 1) x (by omega) (by simpa using hx)) (by simpa using h3)
    exact key w.l
  have fin : ∀ (i : Nat) (x : Item), w.l[i]? = some x → below s w.l = i → RvsLe [.pv (I i), .pv (B (x.seq == s))] [.pv (I (below s w.l : Nat)), .pv (B (found w.l s))] := fun i x hx hb => by
    have : found w.l s = (x.seq == s) := by simp only [found, hb, hx]
    rw [hb, this]; exact .refl _
  have fin0 : ∀ (i : Nat), w.l[i]? = none → below s w.l = i → RvsLe [.pv (I i), .pv (B false)] [.pv (I (below s w.l : Nat)), .pv (B (found w.l s))] := fun i hx hb => by
    have : found w.l s = false := by simp only [found, hb, hx]
    rw [hb, this]; exact .refl _
  refine Jn_mid (fun v => ∃ i : Nat, v = ((i : Int), (), ()) ∧ i ≤ w.l.length ∧ ∀ j x, j < i → w.l[j]? = some x → x.seq < s) ?_ ?_
  · intro j hj hl
    cases h0 : w.l[0]? with
    | none =>
      have hn : w.l.length = 0 := by simpa using h0
      refine Fk_f (by simp [hn]) (Fk_f (by simp [hn]) (fin0 0 h0 (stop 0 (fun x hx => by rw [h0] at hx; cases hx) (fun j x h => by omega) (by omega))))
    | some x =>
      have hp := (List.getElem?_eq_some_iff.1 h0).1
      refine Fk_t (by simp; omega) (Ix_nat (i := 0) h0 (Fk_of (fun h => hj _ ⟨1, rfl, by omega, fun j y hj' hy => ?_⟩) fun h => Fk_t (by simp; omega) (Ix_nat (i := 0) h0 (fin 0 x h0 (stop 0 (fun y hy => ?_) (fun j x h => by omega) (by omega))))))
      · obtain rfl : j = 0 := by omega
        rw [h0] at hy; cases hy; simpa using h
      · rw [h0] at hy; cases hy; simpa using h
  · rintro _ ⟨i0, rfl, hi0, hb0⟩
    refine Lo_of (fun v => ∃ i : Nat, v = ((i : Int), (), ()) ∧ i ≤ w.l.length ∧ ∀ j x, j < i → w.l[j]? = some x → x.seq < s) (fun v => w.l.length - v.1.toNat) ?_ ⟨i0, rfl, hi0, hb0⟩
    rintro L _ ⟨i, rfl, hi, hb⟩ hL hl
    cases hx : w.l[i]? with
    | none =>
      have hn : w.l.length ≤ i := by simpa using hx
      refine Fk_f (by simp; omega) (Fk_f (by simp; omega) (fin0 i hx (stop i (fun x h => by rw [hx] at h; cases h) hb hi)))
    | some x =>
      have hp := (List.getElem?_eq_some_iff.1 hx).1
      refine Fk_t (by simpa using hp) (Ix_nat hx (Fk_of (fun h => hL _ ⟨i + 1, ?_, by omega, fun j y hj' hy => ?_⟩ ?_) fun h => Fk_t (by simpa using hp) (Ix_nat hx (fin i x hx (stop i (fun y hy => ?_) hb hi)))))
      · simp only [w64_succ hp hl]
      · by_cases e : j = i
        · subst e; rw [hx] at hy; cases hy; simpa using h
        · exact hb j y (by omega) hy
      · simp only [w64_succ hp hl]; simp; omega
      · rw [hx] at hy; cases hy; simpa using h)
end Go.Proofs.Ytbphgomdjjkffaa.M
