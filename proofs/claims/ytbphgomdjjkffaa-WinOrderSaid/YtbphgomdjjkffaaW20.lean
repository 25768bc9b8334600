import Derived.Test.YtbphgomdjjkffaaI20
set_option linter.all false
set_option linter.unusedVariables false
set_option linter.unusedSimpArgs false
set_option linter.unnecessarySimpa false
namespace Go.Proofs.Ytbphgomdjjkffaa.M
open Go Go.Mir Go.Proofs
namespace W9

theorem fL8 (l : List Item) : allN 8 (l.map eItem) = true := allN_map (e := eItem) (n := 8) (fun _ => rfl) l
theorem nL8 (l : List Item) : okNews 8 (l.map eItem) = true := okNews_map (e := eItem) (n := 8) (fun _ => rfl) (fun _ => rfl) l
def sameW (a b : Win) : Bool := a.next == b.next && rowEq sameI a.l b.l
theorem c13 (a b : Win) : Cl 13 [eWin a, eWin b] [.pv (B (sameW a b))] := t13 _ _ (by
  refine Fk_of (fun h => ⟨_, c28 _ _, ?_⟩) fun h => ?_ <;> simp [rvB, sameW, *])
theorem c14 (a b : Win) : Cl 14 [eWin a, eWin b] [.pv (B (sameW a b))] := t14 _ _ (by
  refine ⟨_, c30 _ _, Fk_of (fun h => ?_) fun h => ?_⟩ <;> simp [rvB, sameW, *])
def newW : Win := ⟨1, []⟩
theorem c15 : Cl 15 [] [.pv (eWin newW)] := t15 (.dull rfl)
theorem c16 : Cl 16 [] [.pv (eWin newW)] := t16 (.dull rfl)
/-- Items that may be, each above the one ahead, from low on. -/
def asc (low : Int) : List Item → Bool
  | [] => true
  | x :: r => mayI x && decide (low ≤ x.seq) && asc (x.seq + 1) r
def rightW (w : Win) : Bool := decide (1 ≤ w.next) && decide (w.next ≤ 4611686018427387905) && decide ((w.l.length : Int) ≤ 64) && asc w.next w.l
theorem may_seq {x : Item} (h : mayI x = true) : 1 ≤ x.seq ∧ x.seq ≤ 4611686018427387904 := by
  simp [mayI, within] at h; omega
theorem c12 (w : Win) : Cl 12 [eWin w] [.pv (B (rightW w))] := t12 _ (by
  unfold P12
  simp only [Ln, SmA_true, true_and, List.length_map, rvB]
  intro hl
  refine Lo_drop w.l (fun i r v => ∃ low, v = (low, (i : Int), (), ()) ∧ asc w.next w.l = asc low r) ?_ ?_ ⟨_, rfl, rfl⟩
  · rintro L _ ⟨low, rfl, he⟩
    refine Fk_f (by simp) ?_
    simp only [rightW, he, asc, Bool.and_true]
    refine Fk_of (fun h1 => Fk_of (fun h2 => ?_) fun h2 => ?_) fun h1 => ?_ <;> simp only [rvB, *, Bool.true_and, Bool.false_and, Bool.and_false]
  · rintro L i a r _ hi ha _ ⟨low, rfl, he⟩ hL
    refine Fk_t (by simpa using hi) (Ix_nat ha ⟨_, c27 _, Fk_of (fun h => ?_) fun h => Fk_of (fun h' => ?_) fun h' => hL _ ⟨a.seq + 1, ?_⟩⟩)
    · simp at h; simp [rvB, rightW, he, asc, h]
    · have : ¬ low ≤ a.seq := by simp at h'; omega
      simp [rvB, rightW, he, asc, this]
    · have hm : mayI a = true := by simpa using h
      have := may_seq hm
      have hlow : low ≤ a.seq := by simp at h'; omega
      refine ⟨?_, by rw [he]; simp [asc, hm, hlow]⟩
      rw [w64_id (n := a.seq + 1) (by omega) (by omega)]
      simp only [w64_succ hi hl])
theorem c11 (w : Win) : Cl 11 [eWin w] [.pv (B (rightW w))] := t11 _ (by
  unfold P11
  simp only [Ln, SmA_true, true_and, List.length_map]
  intro hl
  refine Fk_of (fun h => ?_) fun h1 => Fk_of (fun h => ?_) fun h2 => Fk_of (fun h => ?_) fun h3 => ?_
  · simp at h; simp [rvB, rightW]; intros; omega
  · simp at h; simp [rvB, rightW]; intros; omega
  · simp at h; simp [rvB, rightW]; intros; omega
  simp only [decide_eq_false_iff_not] at h1 h2 h3
  have hr : rightW w = asc w.next w.l := by
    have e1 : (w.l.length : Int) ≤ 64 := by omega
    have e2 : 1 ≤ w.next := by omega
    have e3 : w.next ≤ 4611686018427387905 := by omega
    simp [rightW, e1, e2, e3]
  rw [hr]
  refine Lo_drop w.l (fun i r v => v = ((i : Int), (), ()) ∧ ∃ low, w.next ≤ low ∧ (i = 0 → low = w.next) ∧ (∀ j, i = j + 1 → ∃ y, w.l[j]? = some y ∧ low = y.seq + 1) ∧ asc w.next w.l = asc low r) ?_ ?_ ⟨rfl, _, Int.le_refl _, fun _ => rfl, fun j h => (by cases h), rfl⟩
  · rintro L _ ⟨rfl, low, _, _, _, he⟩
    exact Fk_f (by simp) (by rw [rvB, he]; rfl)
  · rintro L i a r _ hi ha _ ⟨rfl, low, hlow, hz, hp, he⟩ hL
    refine Fk_t (by simpa using hi) ?_
    refine Jn_mid (fun v => v = ((i : Int), (), ()) ∧ mayI a = true ∧ low ≤ a.seq) ?_ ?_
    · intro j hj
      refine Ix_nat ha ⟨_, c26 _, Fk_of (fun h => ?_) fun h => Ix_nat ha (Fk_of (fun h' => ?_) fun h' => Fk_of (fun h0 => Ix_nat ha ?_) fun h0 => ?_)⟩
      · simp at h; simp [rvB, he, asc, h]
      · have : ¬ low ≤ a.seq := by simp at h'; omega
        simp [rvB, he, asc, this]
      · have hm : mayI a = true := by simpa using h
        simp at h0
        obtain ⟨y, hy, hly⟩ := hp (i - 1) (by omega)
        have ei : w64 ((i : Int) - 1) = ((i - 1 : Nat) : Int) := by rw [w64_id (by omega) (by omega)]; omega
        rw [ei]
        refine Ix_nat hy (Fk_of (fun h4 => ?_) fun h4 => hj _ ⟨rfl, hm, ?_⟩)
        · have : ¬ low ≤ a.seq := by simp at h4; omega
          simp [rvB, he, asc, this]
        · simp at h4; omega
      · have hm : mayI a = true := by simpa using h
        simp at h0 h'
        subst h0
        exact hj _ ⟨rfl, hm, by rw [hz rfl]; omega⟩
    · rintro _ ⟨rfl, hm, hla⟩
      refine hL _ ⟨by simp only [w64_succ hi hl], a.seq + 1, by omega, fun h => (by omega), fun j h => ⟨a, ?_, rfl⟩, ?_⟩
      · have e : i = j := by omega
        rw [← e]; exact ha
      · rw [he]; simp [asc, hm, hla])
def waits (l : List Item) (s : Int) : Bool := l.any fun x => x.seq == s
theorem c33 (w : Win) (s : Int) : Cl 33 [eWin w, I s] [.pv (B (waits w.l s))] := t33 _ _ (by
  unfold P33
  simp only [Ln, SmA_true, true_and, List.length_map, rvB]
  refine Lo_drop w.l (fun i r v => v = ((i : Int), (), ()) ∧ waits w.l s = waits r s) ?_ ?_ ⟨rfl, rfl⟩
  · rintro L _ ⟨rfl, he⟩ hl
    exact Fk_f (by simp) (by rw [he]; rfl)
  · rintro L i a r _ hi ha _ ⟨rfl, he⟩ hL hl
    refine Fk_t (by simpa using hi) (Ix_nat ha (Fk_of (fun h => ?_) (fun h => hL _ ⟨?_, ?_⟩)))
    · rw [he]; simp [waits] at h ⊢; simp [h]
    · simp only [w64_succ hi hl]
    · rw [he]; simp [waits] at h ⊢; simp [h])
/-- How many lie below s, at the head. -/
def below (s : Int) : List Item → Nat
  | [] => 0
  | x :: r => if x.seq < s then below s r + 1 else 0
theorem below_le (s : Int) : ∀ l : List Item, below s l ≤ l.length
  | [] => Nat.le_refl _
  | x :: r => by unfold below; split; simp; exact below_le s r; simp
def found (l : List Item) (s : Int) : Bool := match l[below s l]? with
  | some x => x.seq == s
  | none => false
theorem c31 (w : Win) (s : Int) : Cl 31 [eWin w, I s] [.pv (I (below s w.l : Nat)), .pv (B (found w.l s))] := t31 _ _ (by
  unfold P31
  simp only [Ln, SmA_true, true_and, List.length_map]
  -- what is behind a place that isn't passed
  have stop : ∀ (i : Nat), (∀ x, w.l[i]? = some x → ¬ x.seq < s) → (∀ j x, j < i → w.l[j]? = some x → x.seq < s) → i ≤ w.l.length → below s w.l = i := by
    have key : ∀ (l : List Item) (i : Nat), (∀ x, l[i]? = some x → ¬ x.seq < s) → (∀ j x, j < i → l[j]? = some x → x.seq < s) → i ≤ l.length → below s l = i := by
      intro l
      induction l with
      | nil => intro i _ _ h; simp at h; simp [below, h]
      | cons a r ih =>
        intro i h1 h2 h3
        cases i with
        | zero => have := h1 a rfl; simp [below, this]
        | succ i =>
          have := h2 0 a (by omega) rfl
          simp [below, this]
          exact ih i (fun x hx => h1 x (by simpa using hx)) (fun j x hj hx => h2 (j + 1) x (by omega) (by simpa using hx)) (by simpa using h3)
    exact key w.l
  have fin : ∀ (i : Nat) (x : Item), w.l[i]? = some x → below s w.l = i → RvsLe [.pv (I i), .pv (B (x.seq == s))] [.pv (I (below s w.l : Nat)), .pv (B (found w.l s))] := fun i x hx hb => by
    have : found w.l s = (x.seq == s) := by simp only [found, hb, hx]
    rw [hb, this]; exact .refl _
  have fin0 : ∀ (i : Nat), w.l[i]? = none → below s w.l = i → RvsLe [.pv (I i), .pv (B false)] [.pv (I (below s w.l : Nat)), .pv (B (found w.l s))] := fun i hx hb => by
    have : found w.l s = false := by simp only [found, hb, hx]
    rw [hb, this]; exact .refl _
  refine Jn_mid (fun v => ∃ i : Nat, v = ((i : Int), (), ()) ∧ i ≤ w.l.length ∧ ∀ j x, j < i → w.l[j]? = some x → x.seq < s) ?_ ?_
  · intro j hj hl
    cases h0 : w.l[0]? with
    | none =>
      have hn : w.l.length = 0 := by simpa using h0
      refine Fk_f (by simp [hn]) (Fk_f (by simp [hn]) (fin0 0 h0 (stop 0 (fun x hx => by rw [h0] at hx; cases hx) (fun j x h => by omega) (by omega))))
    | some x =>
      have hp := (List.getElem?_eq_some_iff.1 h0).1
      refine Fk_t (by simp; omega) (Ix_nat (i := 0) h0 (Fk_of (fun h => hj _ ⟨1, rfl, by omega, fun j y hj' hy => ?_⟩) fun h => Fk_t (by simp; omega) (Ix_nat (i := 0) h0 (fin 0 x h0 (stop 0 (fun y hy => ?_) (fun j x h => by omega) (by omega))))))
      · obtain rfl : j = 0 := by omega
        rw [h0] at hy; cases hy; simpa using h
      · rw [h0] at hy; cases hy; simpa using h
  · rintro _ ⟨i0, rfl, hi0, hb0⟩
    refine Lo_of (fun v => ∃ i : Nat, v = ((i : Int), (), ()) ∧ i ≤ w.l.length ∧ ∀ j x, j < i → w.l[j]? = some x → x.seq < s) (fun v => w.l.length - v.1.toNat) ?_ ⟨i0, rfl, hi0, hb0⟩
    rintro L _ ⟨i, rfl, hi, hb⟩ hL hl
    cases hx : w.l[i]? with
    | none =>
      have hn : w.l.length ≤ i := by simpa using hx
      refine Fk_f (by simp; omega) (Fk_f (by simp; omega) (fin0 i hx (stop i (fun x h => by rw [hx] at h; cases h) hb hi)))
    | some x =>
      have hp := (List.getElem?_eq_some_iff.1 hx).1
      refine Fk_t (by simpa using hp) (Ix_nat hx (Fk_of (fun h => hL _ ⟨i + 1, ?_, by omega, fun j y hj' hy => ?_⟩ ?_) fun h => Fk_t (by simpa using hp) (Ix_nat hx (fin i x hx (stop i (fun y hy => ?_) hb hi)))))
      · simp only [w64_succ hp hl]
      · by_cases e : j = i
        · subst e; rw [hx] at hy; cases hy; simpa using h
        · exact hb j y (by omega) hy
      · simp only [w64_succ hp hl]; simp; omega
      · rw [hx] at hy; cases hy; simpa using h)
theorem c52 (n : Int) (h : 0 ≤ n) (h' : n ≤ 10000) : Cl 52 [.sl true [], I n] [.fresh 28 8 []] := t52a _ (by
  have e : w64 (n - 0) = n := by rw [Int.sub_zero, w64_id (by omega) (by omega)]
  refine Fk_f (by simp; omega) ?_
  refine Jn_mid (fun v => v = ([], ())) ?_ ?_
  · intro j hj
    rw [e]
    exact Fk_of (fun h0 => ⟨by simpa using h0, by omega, by omega, hj _ rfl⟩) fun _ => hj _ rfl
  · rintro _ rfl
    exact .row)
theorem c40 (ls : List (List Item)) (h : ls.flatten.length ≤ 1000) : Cl 40 [.sl false (ls.map lItem)] [.fresh 28 8 (ls.flatten.map eItem)] := t40 _ (by
  unfold P40
  simp only [Ln, SmA_true, true_and, List.length_map]
  intro hl
  refine Lo_drop ls (fun i r v => ∃ m : Nat, v = ((m : Int), (i : Int), ()) ∧ m + r.flatten.length = ls.flatten.length) ?_ ?_ ⟨0, rfl, by simp⟩
  · rintro L _ ⟨m, rfl, hm⟩
    refine Fk_f (by simp) ⟨[], c52 _ (by omega) (by have : (List.flatten ([] : List (List Item))).length = 0 := rfl; omega), ?_⟩
    refine Lo_drop ls (fun i r v => ∃ acc : List Item, v = (acc.map eItem, (i : Int), ()) ∧ acc ++ r.flatten = ls.flatten) ?_ ?_ ⟨[], rfl, by simp⟩
    · rintro L _ ⟨acc, rfl, ha⟩
      simp at ha
      exact Fk_f (by simp) (by rw [ha]; exact .row)
    · rintro L i a r _ hi ha _ ⟨acc, rfl, hacc⟩ hL
      have hlen : acc.length + a.length ≤ 1000 := by
        have := congrArg List.length hacc
        simp only [List.flatten_cons, List.length_append] at this; omega
      refine Fk_t (by simpa using hi) (Ix_nat ha (Ok_of (nL8 _) (Sz_of (by simp; omega) (hL _ ⟨acc ++ a, ?_, ?_⟩))))
      · simp only [w64_succ hi hl, List.map_append]
      · rw [← hacc]; simp
  · rintro L i a r _ hi ha _ ⟨m, rfl, hm⟩ hL
    simp only [List.flatten_cons, List.length_append] at hm
    have e : w64 ((m : Int) + (a.length : Int)) = ((m + a.length : Nat) : Int) := by rw [w64_id (by omega) (by omega)]; omega
    refine Fk_t (by simpa using hi) (Ix_nat ha ?_)
    intro _
    simp only [e]
    exact Fk_f (by simp; omega) (hL _ ⟨m + a.length, by simp only [w64_succ hi hl], by omega⟩))
theorem c32 (ls : List (List Item)) (h : ls.flatten.length ≤ 1000) : Cl 32 [.sl false (ls.map lItem)] [.fresh 28 8 (ls.flatten.map eItem)] := t32 _ ⟨_, c40 ls h, .row⟩
def zI : Item := ⟨0, 0, 0, 0, 0, 0, [], []⟩
def insW (w : Win) (x : Item) : Win := ⟨w.next, w.l.take (below x.seq w.l) ++ x :: w.l.drop (below x.seq w.l)⟩
def putW (w : Win) (x : Item) (last : Int) : Win × Bool := if mayI x = false ∨ x.seq < w.next ∨ last < x.seq ∨ 64 ≤ w.l.length ∨ found w.l x.seq = true then (w, false) else (insW w x, true)
theorem c17 (w : Win) (x : Item) (last : Int) : Cl 17 [eWin w, eItem x, I last] [.pv (eWin (putW w x last).1), .pv (B (putW w x last).2)] := t17 _ _ _ (by
  simp only [P17, Ln, List.length_map]
  intro hl
  have no : (mayI x = false ∨ x.seq < w.next ∨ last < x.seq ∨ 64 ≤ w.l.length ∨ found w.l x.seq = true) → RvsLe [.pv (eWin w), .pv (B false)] [.pv (eWin (putW w x last).1), .pv (B (putW w x last).2)] := fun h => by
    rw [putW, if_pos h]; exact .refl _
  refine ⟨_, c27 _, Fk_of (fun h => no (.inl (by simpa using h))) fun h1 => Fk_of (fun h => no (.inr (.inl (by simpa using h)))) fun h2 => Fk_of (fun h => no (.inr (.inr (.inl (by simpa using h))))) fun h3 => Fk_of (fun h => no (.inr (.inr (.inr (.inl (by simp at h; omega)))))) fun h4 =>
    ⟨_, _, c31 w x.seq, Fk_of (fun h => no (.inr (.inr (.inr (.inr h))))) fun h5 => ?_⟩⟩
  simp at h1 h2 h3 h4
  have hb := below_le x.seq w.l
  have c := c32 [w.l.take (below x.seq w.l), [x], w.l.drop (below x.seq w.l)] (by simp; omega)
  simp only [lItem, List.map_cons, List.map_nil, List.map_take, List.map_drop] at c
  refine ⟨by omega, by simpa using hb, by omega, by simpa using hb, fL8 _, _, c, ?_⟩
  · have e : putW w x last = (insW w x, true) := if_neg (by simp [h1, h5]; omega)
    rw [e]
    refine .dull ?_
    simp [RV.dull, PV.dull, PV.dull1, insW])
/-- Laid ahead of the first one that is greater. -/
def insR (x : Item) : List Item → List Item
  | [] => [x]
  | a :: r => if x.seq < a.seq then x :: a :: r else a :: insR x r
def putR (w : Win) (x : Item) (last : Int) : Win × Bool := if mayI x = false ∨ x.seq < w.next ∨ last < x.seq ∨ 64 ≤ w.l.length ∨ waits w.l x.seq = true then (w, false) else (⟨w.next, insR x w.l⟩, true)
theorem c18 (w : Win) (x : Item) (last : Int) : Cl 18 [eWin w, eItem x, I last] [.pv (eWin (putR w x last).1), .pv (B (putR w x last).2)] := t18 _ _ _ (by
  simp only [P18, Ln, List.length_map, SmA_true, true_and]
  have no : (mayI x = false ∨ x.seq < w.next ∨ last < x.seq ∨ 64 ≤ w.l.length ∨ waits w.l x.seq = true) → RvsLe [.pv (eWin w), .pv (B false)] [.pv (eWin (putR w x last).1), .pv (B (putR w x last).2)] := fun h => by
    rw [putR, if_pos h]; exact .refl _
  refine ⟨_, c26 _, fun hl => Fk_of (fun h => no (.inl (by simpa using h))) fun h1 => Fk_of (fun h => no (.inr (.inl (by simpa using h)))) fun h2 => Fk_of (fun h => no (.inr (.inr (.inl (by simpa using h))))) fun h3 => Fk_of (fun h => no (.inr (.inr (.inr (.inl (by simp at h; omega)))))) fun h4 =>
    ⟨_, c33 w x.seq, Fk_of (fun h => no (.inr (.inr (.inr (.inr h))))) fun h5 => ?_⟩⟩
  simp at h1 h2 h3 h4
  have e : putR w x last = (⟨w.next, insR x w.l⟩, true) := if_neg (by simp [h1, h5]; omega)
  rw [e]
  refine Lo_drop w.l (fun i r v => ∃ (acc : List Item) (b : Bool), v = (acc.map eItem, b, (i : Int), (), (), (), ()) ∧ acc.length = i + b.toNat ∧ insR x w.l = acc ++ (if b then r else insR x r)) ?_ ?_ ⟨[], false, rfl, by simp, rfl⟩
  · rintro L _ ⟨acc, b, rfl, ha, he⟩
    refine Fk_f (by simp) (Jn_mid (fun v => v = ((insR x w.l).map eItem, (), (), ())) (fun j hj => ?_) ?_)
    · refine Fk_of (fun h => Sz_of (by have := b.toNat_le; simp; omega) (hj _ ?_)) fun h => hj _ ?_
      · simp at h; subst h; simp [he, insR]
      · simp at h; subst h; simp [he]
    · rintro _ rfl; exact .refl _
  · rintro L i a r _ hi ha _ ⟨acc, b, rfl, hlen, he⟩ hL
    have hb := b.toNat_le
    refine Fk_t (by simpa using hi) (Jn_mid (fun v => ∃ (acc' : List Item) (b' : Bool), v = (acc'.map eItem, b', (i : Int), (), (), (), ()) ∧ acc'.length = i + b'.toNat ∧ insR x w.l = acc' ++ a :: (if b' then r else insR x r)) (fun j hj => ?_) ?_)
    · refine Fk_of (fun h => Ix_nat ha (Fk_of (fun h' => Sz_of (by simp; omega) (hj _ ⟨acc ++ [x], true, by simp, ?_, ?_⟩)) fun h' => hj _ ⟨acc, b, rfl, hlen, ?_⟩)) fun h => hj _ ⟨acc, b, rfl, hlen, ?_⟩
      · simp at h; subst h; simp [hlen]
      · simp at h h'; subst h; simp [he, insR, h']
      · simp at h h'; subst h; rw [he]; simp only [insR, Bool.false_eq_true, if_false]; rw [if_neg (by omega)]
      · simp at h; subst h; simp [he]
    · rintro _ ⟨acc', b', rfl, h6, he'⟩
      have hb' := b'.toNat_le
      refine Ix_nat ha (Sz_of (by simp; omega) (hL _ ⟨acc' ++ [a], b', ?_, ?_, ?_⟩))
      · simp only [w64_succ hi hl]; simp
      · simp; omega
      · rw [he']; simp)
def peekW (w : Win) : Item × Bool := match w.l with
  | [] => (zI, false)
  | a :: _ => if a.seq = w.next then (a, true) else (zI, false)
theorem c19 (w : Win) : Cl 19 [eWin w] [.pv (eItem (peekW w).1), .pv (B (peekW w).2)] := t19 _ (by
  unfold P19
  simp only [Ln, List.length_map]
  intro hl
  cases hw : w.l with
  | nil =>
    have e : peekW w = (zI, false) := by simp only [peekW, hw]
    rw [e]
    exact Fk_t (by simp) (.dull rfl)
  | cons a r =>
    refine Fk_f (by simp; omega) (Ix_nat (i := 0) (a := a) rfl (Fk_of (fun h => ?_) fun h => Ix_nat (i := 0) (a := a) rfl ?_))
    · have e : peekW w = (zI, false) := by simp only [peekW, hw]; rw [if_neg (by simpa using h)]
      rw [e]; exact .dull rfl
    · have e : peekW w = (a, true) := by simp only [peekW, hw]; rw [if_pos (by simpa using h)]
      rw [e]; exact .refl _)
def peekR (w : Win) : Item × Bool := match w.l.find? (fun a => a.seq == w.next) with
  | none => (zI, false)
  | some a => (a, true)
theorem c20 (w : Win) : Cl 20 [eWin w] [.pv (eItem (peekR w).1), .pv (B (peekR w).2)] := t20 _ (by
  unfold P20
  simp only [Ln, SmA_true, true_and, List.length_map]
  refine Lo_drop w.l (fun i r v => v = ((i : Int), (), (), ()) ∧ w.l.find? (fun a => a.seq == w.next) = r.find? (fun a => a.seq == w.next)) ?_ ?_ ⟨rfl, rfl⟩
  · rintro L _ ⟨rfl, he⟩ hl
    have e : peekR w = (zI, false) := by simp only [peekR, he, List.find?_nil]
    rw [e]
    exact Fk_f (by simp) (.dull rfl)
  · rintro L i a r _ hi ha _ ⟨rfl, he⟩ hL hl
    refine Fk_t (by simpa using hi) (Ix_nat ha (Fk_of (fun h => Ix_nat ha ?_) (fun h => hL _ ⟨?_, ?_⟩)))
    · have e : peekR w = (a, true) := by simp only [peekR, he, List.find?_cons, h]
      rw [e]; exact .refl _
    · simp only [w64_succ hi hl]
    · rw [he, List.find?_cons, h])
def takeW (w : Win) : Item × Win × Bool := if (peekW w).2 then ((peekW w).1, ⟨w64 (w.next + 1), w.l.drop 1⟩, true) else (zI, w, false)
theorem c21 (w : Win) (h : w.l.length ≤ 1000) : Cl 21 [eWin w] [.pv (eItem (takeW w).1), .pv (eWin (takeW w).2.1), .pv (B (takeW w).2.2)] := t21 _ (by
  refine ⟨_, _, c19 w, Fk_of (fun h' => ?_) fun h' => ?_⟩
  · have e : takeW w = (zI, w, false) := if_neg (by simpa using h')
    rw [e]; exact .dull rfl
  · have h'' : (peekW w).2 = true := by simpa using h'
    have e : takeW w = ((peekW w).1, ⟨w64 (w.next + 1), w.l.drop 1⟩, true) := if_pos h''
    rw [e]
    have h1 : w.l ≠ [] := fun h0 => by simp [peekW, h0] at h''
    have h2 : 0 < w.l.length := List.length_pos_iff.2 h1
    have c := c32 [w.l.drop 1] (by simp; omega)
    simp only [List.map_cons, List.map_nil, lItem, List.map_drop] at c
    refine ⟨by omega, by simp; omega, fL8 _, _, c, .dull ?_⟩
    simp [RV.dull, PV.dull, PV.dull1])
def takeR (w : Win) : Item × Win × Bool := if (peekR w).2 then ((peekR w).1, ⟨w64 (w.next + 1), w.l.filter (fun a => a.seq != w.next)⟩, true) else (zI, w, false)
theorem c22 (w : Win) (h : w.l.length ≤ 1000) : Cl 22 [eWin w] [.pv (eItem (takeR w).1), .pv (eWin (takeR w).2.1), .pv (B (takeR w).2.2)] := t22 _ (by
  refine ⟨_, _, c20 w, Fk_of (fun h' => ?_) fun h' => ?_⟩
  · have e : takeR w = (zI, w, false) := if_neg (by simpa using h')
    rw [e]; exact .dull rfl
  · have h'' : (peekR w).2 = true := by simpa using h'
    have e : takeR w = ((peekR w).1, ⟨w64 (w.next + 1), w.l.filter (fun a => a.seq != w.next)⟩, true) := if_pos h''
    rw [e]
    generalize (peekR w).1 = x
    simp only [Ln, SmA_true, true_and, List.length_map]
    refine Lo_drop w.l (fun i r v => ∃ acc : List Item, v = (acc.map eItem, (i : Int), (), (), (), (x.kind, x.seq, x.epoch, x.index, x.total, x.count, List.map I x.l, List.map U8 x.body, ()), ()) ∧ acc.length ≤ i ∧ w.l.filter (fun a => a.seq != w.next) = acc ++ r.filter (fun a => a.seq != w.next)) ?_ ?_ ⟨[], rfl, by simp, rfl⟩
    · rintro L _ ⟨acc, rfl, hlen, he⟩ hl
      refine Fk_f (by simp) ?_
      rw [he]; simp; exact .refl _
    · rintro L i a r _ hi ha _ ⟨acc, rfl, hlen, he⟩ hL hl
      refine Fk_t (by simpa using hi) (Jn_mid (fun v => ∃ acc : List Item, v = (acc.map eItem, (i : Int), (), (), (), (x.kind, x.seq, x.epoch, x.index, x.total, x.count, List.map I x.l, List.map U8 x.body, ()), ()) ∧ acc.length ≤ i + 1 ∧ w.l.filter (fun a => a.seq != w.next) = acc ++ r.filter (fun a => a.seq != w.next)) (fun j hj => ?_) ?_)
      · refine Ix_nat ha (Fk_of (fun h => Ix_nat ha (Sz_of (by simp; omega) (hj _ ⟨acc ++ [a], by simp, by simp; omega, ?_⟩))) fun h => hj _ ⟨acc, rfl, by omega, ?_⟩)
        · rw [he, List.filter_cons, h]; simp
        · rw [he, List.filter_cons, h]; simp
      · rintro _ ⟨acc, rfl, h5, he⟩
        exact hL _ ⟨acc, by simp only [w64_succ hi hl], h5, he⟩)
/-- How many stand at the head, one behind the other, from low on. -/
def runLen (low : Int) : List Item → Nat
  | [] => 0
  | x :: r => if x.seq = low then runLen (low + 1) r + 1 else 0
theorem runLen_le (low : Int) : ∀ l : List Item, runLen low l ≤ l.length
  | [] => Nat.le_refl _
  | x :: r => by
    unfold runLen; split
    · have := runLen_le (low + 1) r; simp; omega
    · omega
theorem runLen_seq : ∀ {l : List Item} {low : Int} {j : Nat}, j < runLen low l → ∃ x, l[j]? = some x ∧ x.seq = low + j
  | [], low, j, h => by simp [runLen] at h
  | x :: r, low, j, h => by
    unfold runLen at h
    split at h
    · rename_i hx
      cases j with
      | zero => exact ⟨x, rfl, by omega⟩
      | succ j =>
        obtain ⟨y, hy, hs⟩ := runLen_seq (l := r) (low := low + 1) (j := j) (by omega)
        exact ⟨y, by simpa using hy, by omega⟩
    · omega
theorem runLen_stop : ∀ {l : List Item} {low : Int} {x : Item}, l[runLen low l]? = some x → x.seq ≠ low + runLen low l
  | [], low, x, h => by simp at h
  | y :: r, low, x, h => by
    unfold runLen at h ⊢
    split at h
    · rename_i hy
      rw [if_pos hy]
      have := runLen_stop (l := r) (low := low + 1) (x := x) (by simpa using h)
      omega
    · rename_i hy
      rw [if_neg hy]
      simp at h; subst h; simpa using hy
theorem asc_parts {low : Int} {x : Item} {r : List Item} (h : asc low (x :: r) = true) : mayI x = true ∧ low ≤ x.seq ∧ asc (x.seq + 1) r = true := by
  simp only [asc, Bool.and_eq_true, decide_eq_true_eq] at h; exact ⟨h.1.1, h.1.2, h.2⟩
theorem asc_ge : ∀ {l : List Item} {low : Int}, asc low l = true → ∀ x ∈ l, low ≤ x.seq ∧ mayI x = true
  | [], _, _, x, hx => by simp at hx
  | a :: r, low, h, x, hx => by
    obtain ⟨h1, h2, h3⟩ := asc_parts h
    rcases List.mem_cons.1 hx with rfl | hx
    · exact ⟨h2, h1⟩
    · have := asc_ge h3 x hx; exact ⟨by omega, this.2⟩
theorem waits_low {l : List Item} {low s : Int} (h : asc low l = true) (hs : s < low) : waits l s = false := by
  simp only [waits, List.any_eq_false, beq_iff_eq]
  intro x hx hxs
  have := (asc_ge h x hx).1; omega
theorem waits_run {l : List Item} {low : Int} {j : Nat} (h : j < runLen low l) : waits l (low + j) = true := by
  obtain ⟨x, hx, hs⟩ := runLen_seq h
  simp only [waits, List.any_eq_true, beq_iff_eq]
  exact ⟨x, List.mem_of_getElem? hx, hs⟩
/-- Behind the run nothing waits up to the next one. -/
theorem waits_gap : ∀ {l : List Item} {low s : Int}, asc low l = true → low + runLen low l ≤ s → (∀ x, l[runLen low l]? = some x → s < x.seq) → waits l s = false
  | [], _, _, _, _, _ => rfl
  | a :: r, low, s, h, h1, h2 => by
    obtain ⟨_, h4, h5⟩ := asc_parts h
    unfold runLen at h1 h2
    by_cases e : a.seq = low
    · rw [if_pos e] at h1 h2
      rw [e] at h5
      have := waits_gap h5 (s := s) (by omega) (fun x hx => h2 x (by simpa using hx))
      simp only [waits, List.any_cons, Bool.or_eq_false_iff, beq_eq_false_iff_ne, ne_eq] at this ⊢
      exact ⟨by omega, this⟩
    · rw [if_neg e] at h1 h2
      have h6 := h2 a rfl
      have := waits_low h5 (s := s) (by omega)
      simp only [waits, List.any_cons, Bool.or_eq_false_iff, beq_eq_false_iff_ne, ne_eq] at this ⊢
      exact ⟨by omega, this⟩
theorem waits_at {l : List Item} {i : Nat} {x : Item} (h : l[i]? = some x) : waits l x.seq = true := by
  simp only [waits, List.any_eq_true, beq_iff_eq]
  exact ⟨x, List.mem_of_getElem? h, rfl⟩
theorem right_parts {w : Win} (h : rightW w = true) : 1 ≤ w.next ∧ w.next ≤ 4611686018427387905 ∧ w.l.length ≤ 64 ∧ asc w.next w.l = true := by
  simp only [rightW, Bool.and_eq_true, decide_eq_true_eq] at h
  exact ⟨h.1.1.1, h.1.1.2, by omega, h.2⟩
theorem right_mk {w : Win} (h1 : 1 ≤ w.next) (h2 : w.next ≤ 4611686018427387905) (h3 : w.l.length ≤ 64) (h4 : asc w.next w.l = true) : rightW w = true := by
  simp only [rightW, Bool.and_eq_true, decide_eq_true_eq]; exact ⟨⟨⟨h1, h2⟩, by omega⟩, h4⟩
def gapW (w : Win) (top : Int) : Int × Int :=
  let lo := w.next + runLen w.next w.l
  let t := min top 4611686018427387904
  if t < lo then (0, 0) else
    let t' := match w.l[runLen w.next w.l]? with
      | some x => min t (x.seq - 1)
      | none => t
    (lo, min (t' - lo + 1) 64)
theorem c23 (w : Win) (top : Int) (hr : rightW w = true) : Cl 23 [eWin w, I top] [.pv (I (gapW w top).1), .pv (I (gapW w top).2)] := t23 _ _ (by
  simp only [P23, Ln, SmA_true, true_and, List.length_map, imin_eq]
  obtain ⟨h1, h2, h3, h4⟩ := right_parts hr
  have hk := runLen_le w.next w.l
  have hge : ∀ x ∈ w.l, w.next ≤ x.seq ∧ 1 ≤ x.seq ∧ x.seq ≤ 4611686018427387904 := fun x hx => by
    have := asc_ge h4 x hx; have := may_seq this.2; omega
  refine Jn_mid (fun v => v = (w.next + runLen w.next w.l, ((runLen w.next w.l : Nat) : Int), (), ())) (fun j hj => ?_) ?_
  · refine Lo_of (fun v => ∃ i : Nat, v = (w.next + (i : Int), (i : Int), (), ()) ∧ i ≤ runLen w.next w.l) (fun v => w.l.length + 1 - v.2.1.toNat) ?_ ⟨0, by simp, by omega⟩
    rintro L _ ⟨i, rfl, hi⟩ hL hl
    by_cases hlt : i < runLen w.next w.l
    · obtain ⟨x, hx, hs⟩ := runLen_seq hlt
      refine Fk_t (by simp; omega) (Ix_nat hx (Fk_t (by simpa using hs) (hL _ ⟨i + 1, ?_, by omega⟩ ?_)))
      · rw [w64_id (n := w.next + (i : Int) + 1) (by omega) (by omega), w64_id (n := (i : Int) + 1) (by omega) (by omega)]
        simp only [Prod.mk.injEq, and_true]; omega
      · simp only; rw [w64_id (by omega) (by omega)]; omega
    · obtain rfl : i = runLen w.next w.l := by omega
      cases hx : w.l[runLen w.next w.l]? with
      | none =>
        have hn : w.l.length ≤ runLen w.next w.l := by simpa using hx
        exact Fk_f (by simp; omega) (hj _ rfl)
      | some x =>
        have hp := (List.getElem?_eq_some_iff.1 hx).1
        have hs := runLen_stop hx
        exact Fk_t (by simpa using hp) (Ix_nat hx (Fk_f (by simpa using hs) (hj _ rfl)))
  · rintro _ rfl
    refine Fk_of (fun h => ?_) fun h => ?_
    · have e : gapW w top = (0, 0) := if_pos (by simpa using h)
      rw [e]; exact .refl _
    have h' : ¬ min top 4611686018427387904 < w.next + (runLen w.next w.l : Nat) := by simpa using h
    refine Jn_mid (fun v => v = ((match w.l[runLen w.next w.l]? with
      | some x => min (min top 4611686018427387904) (x.seq - 1)
      | none => min top 4611686018427387904), w.next + (runLen w.next w.l : Nat), ())) (fun j hj => ?_) ?_
    · intro hl
      cases hx : w.l[runLen w.next w.l]? with
      | none =>
        have hn : w.l.length ≤ runLen w.next w.l := by simpa using hx
        exact Fk_f (by simp; omega) (hj _ (by rw [hx]))
      | some x =>
        have hp := (List.getElem?_eq_some_iff.1 hx).1
        have hb := hge x (List.mem_of_getElem? hx)
        refine Fk_t (by simpa using hp) (Ix_nat hx (hj _ ?_))
        rw [hx, w64_id (n := x.seq - 1) (by omega) (by omega)]
    · rintro _ rfl
      have e : gapW w top = (w.next + (runLen w.next w.l : Nat), min ((match w.l[runLen w.next w.l]? with
        | some x => min (min top 4611686018427387904) (x.seq - 1)
        | none => min top 4611686018427387904) - (w.next + (runLen w.next w.l : Nat)) + 1) 64) := if_neg h'
      rw [e]
      have hT : min top 4611686018427387904 ≤ 4611686018427387904 := by omega
      have hb : -1 ≤ (match w.l[runLen w.next w.l]? with
        | some x => min (min top 4611686018427387904) (x.seq - 1)
        | none => min top 4611686018427387904) ∧ (match w.l[runLen w.next w.l]? with
        | some x => min (min top 4611686018427387904) (x.seq - 1)
        | none => min top 4611686018427387904) ≤ 4611686018427387904 := by
        generalize min top 4611686018427387904 = T at *
        split
        · rename_i x hx
          have hb := hge x (List.mem_of_getElem? hx)
          have e1 : min T (x.seq - 1) = if T ≤ x.seq - 1 then T else x.seq - 1 := Int.min_def _ _
          rw [e1]
          split <;> omega
        · omega
      simp only
      generalize (match w.l[runLen w.next w.l]? with
        | some x => min (min top 4611686018427387904) (x.seq - 1)
        | none => min top 4611686018427387904) = t at hb ⊢
      rw [w64_id (n := t - _) (by omega) (by omega), w64_id (by omega) (by omega)]
      exact .refl _)
theorem c24 (w : Win) (top : Int) (hr : rightW w = true) : Cl 24 [eWin w, I top] [.pv (I (gapW w top).1), .pv (I (gapW w top).2)] := t24 _ _ (by
  simp only [P24, SmA_true, true_and]
  obtain ⟨h1, h2, h3, h4⟩ := right_parts hr
  have hk := runLen_le w.next w.l
  have hge : ∀ x ∈ w.l, w.next ≤ x.seq ∧ 1 ≤ x.seq ∧ x.seq ≤ 4611686018427387904 := fun x hx => by
    have := asc_ge h4 x hx; have := may_seq this.2; omega
  refine Jn_mid (fun v => v = (min top 4611686018427387904, (), ())) (fun j hj => ?_) ?_
  · refine Fk_of (fun h => hj _ ?_) fun h => hj _ ?_
    · simp at h; rw [Int.min_eq_right (by omega)]
    · simp at h; rw [Int.min_eq_left (by omega)]
  rintro _ rfl
  have hgap : ∀ s, w.next + (runLen w.next w.l : Nat) ≤ s → (∀ x, w.l[runLen w.next w.l]? = some x → s < x.seq) → waits w.l s = false := fun s => waits_gap h4
  have hstop : ∀ x, w.l[runLen w.next w.l]? = some x → w.next + (runLen w.next w.l : Nat) < x.seq := fun x hx => by
    have h5 := runLen_stop hx
    have h6 : ∀ {l : List Item} {low : Int} {i : Nat} {x : Item}, asc low l = true → l[i]? = some x → low + i ≤ x.seq := by
      intro l
      induction l with
      | nil => intro low i x _ h; simp at h
      | cons a r ih =>
        intro low i x h hx
        obtain ⟨_, g1, g2⟩ := asc_parts h
        cases i with
        | zero => simp at hx; subst hx; omega
        | succ i => have := ih g2 (i := i) (by simpa using hx); omega
    have := h6 h4 hx
    omega
  refine Lo_of (fun v => ∃ i : Nat, v = (min top 4611686018427387904, w.next + (i : Int), (), ()) ∧ i ≤ runLen w.next w.l) (fun v => (w.next + 100 - v.2.1).toNat) ?_ ⟨0, by simp, by omega⟩
  rintro L _ ⟨i, rfl, hi⟩ hL
  refine ⟨_, c33 w _, ?_⟩
  by_cases hlt : i < runLen w.next w.l
  · refine Fk_t (waits_run hlt) (hL _ ⟨i + 1, ?_, by omega⟩ ?_)
    · simp only [Prod.mk.injEq, and_true, true_and]
      rw [w64_id (by omega) (by omega)]; omega
    · simp only; rw [w64_id (by omega) (by omega)]; omega
  obtain rfl : i = runLen w.next w.l := by omega
  refine Fk_f (hgap _ (Int.le_refl _) hstop) ?_
  refine Fk_of (fun h => ?_) fun h => ?_
  · have e : gapW w top = (0, 0) := if_pos (by simpa using h)
    rw [e]; exact .refl _
  have h' : ¬ min top 4611686018427387904 < w.next + (runLen w.next w.l : Nat) := by simpa using h
  have e : gapW w top = (w.next + (runLen w.next w.l : Nat), min ((match w.l[runLen w.next w.l]? with
    | some x => min (min top 4611686018427387904) (x.seq - 1)
    | none => min top 4611686018427387904) - (w.next + (runLen w.next w.l : Nat)) + 1) 64) := if_neg h'
  rw [e]
  generalize hlo : w.next + (runLen w.next w.l : Nat) = lo at *
  obtain ⟨t, ht, htl⟩ : ∃ t : Int, t = (match w.l[runLen w.next w.l]? with
    | some x => min (min top 4611686018427387904) (x.seq - 1)
    | none => min top 4611686018427387904) ∧ lo ≤ t ∧ t ≤ min top 4611686018427387904 ∧ (∀ s, lo ≤ s → s ≤ t → waits w.l s = false) ∧ (t < min top 4611686018427387904 → waits w.l (t + 1) = true) := by
    refine ⟨_, rfl, ?_⟩
    cases hx : w.l[runLen w.next w.l]? with
    | none =>
      refine ⟨by simp only; omega, by simp only; omega, fun s g1 g2 => hgap s g1 fun x h => (by rw [hx] at h; cases h), fun g => ?_⟩
      simp only at g; omega
    | some x =>
      have := hstop x hx
      refine ⟨by simp only; omega, by simp only; omega, fun s g1 g2 => hgap s g1 fun y h => ?_, fun g => ?_⟩
      · rw [hx] at h; cases h; simp only at g2; omega
      · simp only at g ⊢
        have : min (min top 4611686018427387904) (x.seq - 1) + 1 = x.seq := by omega
        rw [this]; exact waits_at hx
  rw [← ht]
  obtain ⟨g1, g2, g3, g4⟩ := htl
  generalize min top 4611686018427387904 = T at *
  refine Jn_mid (fun v => v = (lo, min (t - lo + 1) 64, ())) (fun j hj => ?_) ?_
  rotate_left
  · rintro _ rfl; exact .refl _
  refine Lo_of (fun v => ∃ i : Nat, v = (T, lo, (i : Int), (), ()) ∧ (i : Int) ≤ min (t - lo + 1) 64) (fun v => (100 - v.2.2.1).toNat) ?_ ⟨0, by simp, by omega⟩
  rintro L _ ⟨i, rfl, hi⟩ hL
  have e2 : w64 (lo + i) = lo + i := w64_id (by omega) (by omega)
  simp only [e2]
  have fin : (i : Int) = min (t - lo + 1) 64 → j (lo, (i : Int), ()) := fun h => hj _ (by rw [h])
  refine Fk_of (fun h => ?_) fun h => fin (by simp at h; omega)
  refine Fk_of (fun h5 => ?_) fun h5 => fin (by simp at h h5; omega)
  simp at h h5
  refine ⟨_, c33 w _, Fk_of (fun h6 => ?_) fun h6 => ?_⟩
  · have h7 : waits w.l (lo + i) = false := by simpa using h6
    have : ¬ (lo + i = t + 1) := fun hc => by
      rw [hc, g4 (by omega)] at h7; cases h7
    exact hL _ ⟨i + 1, by rw [w64_id (by omega) (by omega)]; rfl, by omega⟩ (by simp only; rw [w64_id (by omega) (by omega)]; omega)
  · have h7 : waits w.l (lo + i) = true := by simpa using h6
    refine fin ?_
    have : ¬ (lo + i ≤ t) := fun hc => by rw [g3 _ (by omega) hc] at h7; cases h7
    omega)
theorem sameI_refl (a : Item) : sameI a a = true := by simp [sameI]
theorem rowEq_refl : ∀ l : List Item, rowEq sameI l l = true
  | [] => rfl
  | a :: r => by simp [rowEq, sameI_refl, rowEq_refl r]
theorem sameW_refl (w : Win) : sameW w w = true := by simp [sameW, rowEq_refl]
theorem sameI_eq {a b : Item} (h : sameI a b = true) : a = b := by
  simp only [sameI, Bool.and_eq_true, beq_iff_eq] at h
  cases a; cases b; simp_all
theorem rowEq_eq : ∀ {a b : List Item}, rowEq sameI a b = true → a = b
  | [], [], _ => rfl
  | a :: r, b :: s, h => by
    simp only [rowEq, Bool.and_eq_true] at h
    rw [sameI_eq h.1, rowEq_eq h.2]
  | [], _ :: _, h => by cases h
  | _ :: _, [], h => by cases h
theorem sameW_eq {a b : Win} (h : sameW a b = true) : a = b := by
  simp only [sameW, Bool.and_eq_true, beq_iff_eq] at h
  cases a; cases b; simp only [Win.mk.injEq]; exact ⟨h.1, rowEq_eq h.2⟩
theorem asc_mono : ∀ {l : List Item} {a b : Int}, asc b l = true → a ≤ b → asc a l = true
  | [], _, _, _, _ => rfl
  | x :: r, a, b, h, hab => by
    obtain ⟨h1, h2, h3⟩ := asc_parts h
    simp only [asc, h1, h3, Bool.true_and, Bool.and_true, decide_eq_true_eq]; omega
/-- In a row that rises it is found where it would stand, or nowhere. -/
theorem found_eq : ∀ {l : List Item} {low s : Int}, asc low l = true → found l s = waits l s
  | [], _, _, _ => rfl
  | a :: r, low, s, h => by
    obtain ⟨_, h2, h3⟩ := asc_parts h
    by_cases hl : a.seq < s
    · have ih := found_eq h3 (s := s)
      have e1 : found (a :: r) s = found r s := by simp only [found, below, if_pos hl, List.getElem?_cons_succ]
      have e2 : waits (a :: r) s = waits r s := by
        have : (a.seq == s) = false := by simp; omega
        simp only [waits, List.any_cons, this, Bool.false_or]
      rw [e1, e2, ih]
    · have e1 : found (a :: r) s = (a.seq == s) := by simp only [found, below, if_neg hl, List.getElem?_cons_zero]
      rw [e1]
      by_cases e : a.seq = s
      · simp [waits, e]
      · have := waits_low h3 (s := s) (by omega)
        have e3 : (a.seq == s) = false := by simpa using e
        simp only [waits] at this
        simp only [waits, List.any_cons, e3, this, Bool.or_false]
theorem ins_eq : ∀ {l : List Item} {low : Int} {x : Item}, asc low l = true → waits l x.seq = false → insR x l = l.take (below x.seq l) ++ x :: l.drop (below x.seq l)
  | [], _, _, _, _ => rfl
  | a :: r, low, x, h, hw => by
    obtain ⟨_, h2, h3⟩ := asc_parts h
    have hw' : a.seq ≠ x.seq ∧ waits r x.seq = false := by
      simp only [waits, List.any_cons, Bool.or_eq_false_iff, beq_eq_false_iff_ne, ne_eq] at hw; exact hw
    by_cases hl : a.seq < x.seq
    · simp only [insR, below, if_pos hl, if_neg (show ¬ x.seq < a.seq by omega), List.take_succ_cons, List.drop_succ_cons, List.cons_append, ins_eq h3 hw'.2]
    · simp only [insR, below, if_neg hl, if_pos (show x.seq < a.seq by omega), List.take_zero, List.drop_zero, List.nil_append]
theorem put_eq {w : Win} (h : asc w.next w.l = true) (x : Item) (last : Int) : putW w x last = putR w x last := by
  unfold putW putR
  rw [found_eq h]
  split
  · rfl
  · rename_i hn
    simp only [not_or] at hn
    rw [insW, ins_eq h (by simpa using hn.2.2.2.2)]
theorem peek_eq {w : Win} (h : asc w.next w.l = true) : peekW w = peekR w := by
  unfold peekW peekR
  cases hl : w.l with
  | nil => rfl
  | cons a r =>
    rw [hl] at h
    obtain ⟨_, h2, h3⟩ := asc_parts h
    simp only [List.find?_cons]
    by_cases e : a.seq = w.next
    · simp [e]
    · have e' : (a.seq == w.next) = false := by simpa using e
      rw [if_neg e, e']
      have : r.find? (fun a => a.seq == w.next) = none := by
        rw [List.find?_eq_none]
        intro x hx
        have := (asc_ge h3 x hx).1
        simp; omega
      simp only [this]
theorem take_eq {w : Win} (h : asc w.next w.l = true) : takeW w = takeR w := by
  unfold takeW takeR
  rw [← peek_eq h]
  split
  · rename_i hp
    have : w.l.drop 1 = w.l.filter (fun a => a.seq != w.next) := by
      unfold peekW at hp
      cases hl : w.l with
      | nil => rfl
      | cons a r =>
        rw [hl] at hp h
        obtain ⟨_, h2, h3⟩ := asc_parts h
        simp only at hp
        split at hp
        · rename_i e
          have e' : (a.seq != w.next) = false := by simp [e]
          rw [List.filter_cons, e']
          simp only [List.drop_succ_cons, List.drop_zero, Bool.false_eq_true, if_false]
          symm
          rw [List.filter_eq_self]
          intro x hx
          have := (asc_ge h3 x hx).1
          simp; omega
        · cases hp
    rw [this]
  · rfl
theorem fewL_len {l : List Item} (h : fewL l = true) : l.length ≤ 1000 := by
  simp only [fewL, Bool.and_eq_true, decide_eq_true_eq] at h; omega
theorem asc_ins : ∀ {l : List Item} {low : Int} {x : Item}, asc low l = true → waits l x.seq = false → mayI x = true → low ≤ x.seq → asc low (insR x l) = true
  | [], low, x, _, _, hm, hx => by simp [insR, asc, hm, hx]
  | a :: r, low, x, h, hw, hm, hx => by
    obtain ⟨h1, h2, h3⟩ := asc_parts h
    have hw' : a.seq ≠ x.seq ∧ waits r x.seq = false := by
      simp only [waits, List.any_cons, Bool.or_eq_false_iff, beq_eq_false_iff_ne, ne_eq] at hw; exact hw
    unfold insR
    split
    · rename_i hlt
      simp only [asc, hm, h1, hx, decide_true, Bool.true_and, Bool.and_true]
      rw [asc_mono h3 (Int.le_refl _)]; simp; omega
    · simp only [asc, h1, h2, decide_true, Bool.true_and]
      exact asc_ins h3 hw'.2 hm (by omega)
theorem ins_len (x : Item) : ∀ l : List Item, (insR x l).length = l.length + 1
  | [] => rfl
  | a :: r => by unfold insR; split; rfl; simp [ins_len x r]
theorem put_cases (w : Win) (x : Item) (last : Int) : (putR w x last = (w, false)) ∨ (mayI x = true ∧ w.next ≤ x.seq ∧ x.seq ≤ last ∧ w.l.length < 64 ∧ waits w.l x.seq = false ∧ putR w x last = (⟨w.next, insR x w.l⟩, true)) := by
  unfold putR
  split
  · exact .inl rfl
  · rename_i h
    simp only [not_or] at h
    exact .inr ⟨by simpa using h.1, by omega, by omega, by omega, by simpa using h.2.2.2.2, rfl⟩
theorem right_put {w : Win} (h : rightW w = true) (x : Item) (last : Int) : rightW (putW w x last).1 = true := by
  obtain ⟨h1, h2, h3, h4⟩ := right_parts h
  rw [put_eq h4]
  rcases put_cases w x last with e | ⟨a, b, c, d, e, f⟩
  · rw [e]; exact h
  · rw [f]; exact right_mk h1 h2 (by simp [ins_len]; omega) (asc_ins h4 e a b)
theorem take_cases (w : Win) : (takeW w = (zI, w, false)) ∨ ∃ x r, w.l = x :: r ∧ x.seq = w.next ∧ takeW w = (x, ⟨w64 (w.next + 1), r⟩, true) := by
  unfold takeW
  split
  · rename_i h
    unfold peekW at h ⊢
    cases hl : w.l with
    | nil => rw [hl] at h; cases h
    | cons a r =>
      rw [hl] at h
      simp only at h ⊢
      split at h
      · rename_i e; exact .inr ⟨a, r, rfl, e, by rw [if_pos e]; rfl⟩
      · cases h
  · exact .inl rfl
theorem right_take {w : Win} (h : rightW w = true) : rightW (takeW w).2.1 = true := by
  obtain ⟨h1, h2, h3, h4⟩ := right_parts h
  rcases take_cases w with e | ⟨x, r, hl, hx, e⟩
  · rw [e]; exact h
  · rw [e]
    rw [hl] at h4 h3
    obtain ⟨g1, g2, g3⟩ := asc_parts h4
    have := may_seq g1
    have e1 : w64 (w.next + 1) = w.next + 1 := w64_id (by omega) (by omega)
    simp only [e1]
    exact right_mk (by simp only; omega) (by simp only; omega) (by simp at h3 ⊢; omega) (by simpa [hx] using g3)
/-- How many are the same as one, of one number. -/
def cnt (x : Item) (l : List Item) : Nat := (l.filter fun a => a.seq == x.seq && sameI a x).length
theorem cnt_cons (x a : Item) (l : List Item) : cnt x (a :: l) = (if (a.seq == x.seq && sameI a x) = true then 1 else 0) + cnt x l := by
  unfold cnt; rw [List.filter_cons]; split <;> simp <;> omega
theorem cnt_none {x : Item} : ∀ {l : List Item}, waits l x.seq = false → cnt x l = 0
  | [], _ => rfl
  | a :: r, h => by
    simp only [waits, List.any_cons, Bool.or_eq_false_iff] at h
    rw [cnt_cons, h.1, cnt_none (l := r) h.2]; simp
theorem cnt_ins {x : Item} : ∀ {l : List Item}, waits l x.seq = false → cnt x (insR x l) = 1
  | [], _ => by simp [insR, cnt, sameI_refl]
  | a :: r, h => by
    have h' := h
    simp only [waits, List.any_cons, Bool.or_eq_false_iff] at h
    unfold insR
    split
    · rw [cnt_cons, cnt_none h']; simp [sameI_refl]
    · rw [cnt_cons, h.1, cnt_ins (l := r) h.2]; simp
theorem waits_ins (x : Item) : ∀ l : List Item, waits (insR x l) x.seq = true
  | [] => by simp [insR, waits]
  | a :: r => by
    unfold insR; split
    · simp [waits]
    · have := waits_ins x r; simp only [waits] at this; simp [waits, this]
set_option maxHeartbeats 1000000 in
theorem u8_mod (a : UInt8) (m : Int) (hm : 0 < m) : 0 ≤ Int.tmod (w64 (a.toNat : Int)) m ∧ Int.tmod (w64 (a.toNat : Int)) m < m := by
  have := a.toNat_lt
  rw [w64_id (by omega) (by omega)]
  exact ⟨Int.tmod_nonneg _ (by omega), Int.tmod_lt_of_pos _ hm⟩
def tok (s : Int) : Item := ⟨3, s, 0, 0, 0, 0, [], []⟩
theorem tok_may {s : Int} (h1 : 1 ≤ s) (h2 : s ≤ 4611686018427387904) : mayI (tok s) = true := by
  simp [tok, mayI, ruleOf, bare, noth, within, h1, h2]
theorem waits_insR (x : Item) (s : Int) : ∀ l : List Item, waits (insR x l) s = (waits l s || x.seq == s)
  | [] => by simp [insR, waits]
  | a :: r => by
    unfold insR; split
    · simp only [waits, List.any_cons]; cases (a.seq == s) <;> cases (x.seq == s) <;> simp
    · have := waits_insR x s r; simp only [waits] at this; simp only [waits, List.any_cons, this, Bool.or_assoc]
theorem asc_len : ∀ {l : List Item} {low m : Int}, asc low l = true → (∀ s, waits l s = true → s ≤ m) → low ≤ m + 1 → (l.length : Int) ≤ m + 1 - low
  | [], _, _, _, _, h => by simp; omega
  | a :: r, low, m, h, hm, _ => by
    obtain ⟨_, h2, h3⟩ := asc_parts h
    have h4 := hm a.seq (by simp [waits])
    have := asc_len h3 (m := m) (fun s hs => hm s (by simp only [waits] at hs; simp [waits, hs])) (by omega)
    simp only [List.length_cons]; omega
theorem asc_at : ∀ {l : List Item} {low : Int} {i : Nat} {x : Item}, asc low l = true → l[i]? = some x → low + i ≤ x.seq
  | [], _, _, _, _, h => by simp at h
  | a :: r, low, i, x, h, hx => by
    obtain ⟨_, g1, g2⟩ := asc_parts h
    cases i with
    | zero => simp at hx; subst hx; omega
    | succ i => have := asc_at g2 (i := i) (by simpa using hx); omega
theorem run_next {l : List Item} {low : Int} {x : Item} (h : asc low l = true) (hx : l[runLen low l]? = some x) : low + runLen low l < x.seq := by
  have := runLen_stop hx; have := asc_at h hx; omega
theorem run_ge {l : List Item} {low m : Int} (h : asc low l = true) (hm : ∀ s, low ≤ s → s ≤ m → waits l s = true) : m + 1 ≤ low + runLen low l := by
  refine Int.not_lt.1 fun hl => ?_
  have hw := hm (low + runLen low l) (by omega) (by omega)
  rw [waits_gap h (Int.le_refl _) (fun x hx => run_next h hx)] at hw
  cases hw
theorem waits_upto {l : List Item} {low s : Int} (h1 : low ≤ s) (h2 : s < low + runLen low l) : waits l s = true := by
  have := waits_run (l := l) (low := low) (j := (s - low).toNat) (by omega)
  rwa [show low + ((s - low).toNat : Int) = s by omega] at this
theorem gap_spec {w : Win} {t : Int} (hr : rightW w = true) (h : w.next + runLen w.next w.l ≤ t) (ht : t ≤ 4611686018427387904) :
    ∃ m : Int, gapW w t = (w.next + runLen w.next w.l, m) ∧ 1 ≤ m ∧ m ≤ 64 ∧ w.next + runLen w.next w.l + m ≤ t + 1 ∧ ∀ s, w.next + runLen w.next w.l ≤ s → s < w.next + runLen w.next w.l + m → waits w.l s = false := by
  have h4 := (right_parts hr).2.2.2
  have e0 : min t 4611686018427387904 = t := by omega
  have e : gapW w t = (w.next + (runLen w.next w.l : Nat), min ((match w.l[runLen w.next w.l]? with
    | some x => min (min t 4611686018427387904) (x.seq - 1)
    | none => min t 4611686018427387904) - (w.next + (runLen w.next w.l : Nat)) + 1) 64) := if_neg (by rw [e0]; omega)
  rw [e, e0]
  refine ⟨_, rfl, ?_⟩
  cases hx : w.l[runLen w.next w.l]? with
  | none =>
    refine ⟨by simp only; omega, by simp only; omega, by simp only; omega, fun s g1 g2 => waits_gap h4 g1 fun x h => (by rw [hx] at h; cases h)⟩
  | some x =>
    have := run_next h4 hx
    refine ⟨by simp only; omega, by simp only; omega, by simp only; omega, fun s g1 g2 => waits_gap h4 g1 fun y h => ?_⟩
    rw [hx] at h; cases h; simp only at g2; omega
end W9
end Go.Proofs.Ytbphgomdjjkffaa.M
