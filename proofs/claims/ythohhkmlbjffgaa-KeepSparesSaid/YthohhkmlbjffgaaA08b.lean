import Derived.Test.YthohhkmlbjffgaaA08a
set_option linter.all false
set_option linter.unusedVariables false
set_option linter.unusedSimpArgs false
set_option linter.unnecessarySimpa false
namespace Go.Proofs.Ythohhkmlbjffgaa.M
open Go Go.Mir Go.Proofs


theorem c30 (a b : Item) : Cl 30 [eItem a, eItem b] [.pv (B (sameI a b))] := t30 _ _ (by
  unfold P30
  simp only [rvB, sameI]
  refine Fk_of (fun h => Fk_of (fun h => Fk_of (fun h => Fk_of (fun h => Fk_of (fun h => Fk_of (fun h => ⟨_, c39 _ _, Fk_of (fun h => ⟨_, c40 _ _, ?_⟩) fun h => ?_⟩) fun h => ?_) fun h => ?_) fun h => ?_) fun h => ?_) fun h => ?_) fun h => ?_
  all_goals simp [*])
theorem c31 (a b : List Item) : Cl 31 [lItem a, lItem b] [.pv (B (rowEq sameI a b))] := t31 _ _ (by
  unfold P31
  simp only [Ln, SmA_true, true_and, List.length_map, rvB]
  intro ha hb
  refine Fk_of (fun h => ?_) fun h => ?_
  · cases hr : rowEq sameI a b with
    | false => rfl
    | true => have := rowEq_len hr; simp [this] at h
  · refine Lo_two a b sameI (fun i => ((i : Int), ())) (by simp at h; omega) (G := fun c => c = rowEq sameI a b) ?_ ?_ rfl
    · exact fun L hg => Fk_f (by simp) hg
    · intro L i x y hi hx hy hf hL
      refine Fk_t (by simpa using hi) (Ix_nat hx (Ix_nat hy ⟨_, c24 _ _, Fk_of (fun h => hf (by simpa using h)) fun h => ?_⟩))
      rw [w64_succ hi ha]; exact hL (by simpa using h))
theorem c29 (a b : List Item) : Cl 29 [lItem a, lItem b, .fn (.func 30) [] []] [.pv (B (rowEq sameI a b))] := t29a _ _ (by
  unfold P29a
  simp only [Ln, SmA_true, true_and, List.length_map, rvB]
  intro ha hb
  refine Fk_of (fun h => ?_) fun h => ?_
  · cases hr : rowEq sameI a b with
    | false => rfl
    | true => have := rowEq_len hr; simp [this] at h
  · refine Lo_two a b sameI (fun i => ((i : Int), ())) (by simp at h; omega) (G := fun c => c = rowEq sameI a b) ?_ ?_ rfl
    · exact fun L hg => Fk_f (by simp) hg
    · intro L i x y hi hx hy hf hL
      refine Fk_t (by simpa using hi) (Ix_nat hx (Ix_nat hy ⟨_, c30 _ _, Fk_of (fun h => hf (by simpa using h)) fun h => ?_⟩))
      rw [w64_succ hi ha]; exact hL (by simpa using h))
def sameK (a b : Keep) : Bool := a.next == b.next && rowEq sameI a.l b.l
theorem c14 (a b : Keep) : Cl 14 [eKeep a, eKeep b] [.pv (B (sameK a b))] := t14 _ _ (by
  refine Fk_of (fun h => ⟨_, c29 _ _, ?_⟩) fun h => ?_ <;> simp [rvB, sameK, *])
theorem c15 (a b : Keep) : Cl 15 [eKeep a, eKeep b] [.pv (B (sameK a b))] := t15 _ _ (by
  refine ⟨_, c31 _ _, Fk_of (fun h => ?_) fun h => ?_⟩ <;> simp [rvB, sameK, *])
/-- Items with numbers one behind the other, the last one ahead of n. -/
def asc (n : Int) : List Item → Bool
  | [] => true
  | x :: r => mayI x && x.seq == n - ((r.length : Int) + 1) && asc n r
def rightK (k : Keep) : Bool := decide ((k.l.length : Int) ≤ 64) && decide (1 ≤ k.next) && decide (k.next ≤ 4611686018427387905) && asc k.next k.l
theorem c12 (k : Keep) : Cl 12 [eKeep k] [.pv (B (rightK k))] := t12 _ (by
  unfold P12
  simp only [Ln, SmA_true, true_and, List.length_map, rvB]
  intro hl
  refine Fk_of (fun h => ?_) fun h1 => Fk_of (fun h => ?_) fun h2 => Fk_of (fun h => ?_) fun h3 => ?_
  · simp at h; simp [rightK]; intros; omega
  · simp at h; simp [rightK]; intros; omega
  · simp at h; simp [rightK]; intros; omega
  simp only [decide_eq_false_iff_not] at h1 h2 h3
  have hr : rightK k = asc k.next k.l := by
    have e1 : (k.l.length : Int) ≤ 64 := by omega
    have e2 : 1 ≤ k.next := by omega
    have e3 : k.next ≤ 4611686018427387905 := by omega
    simp [rightK, e1, e2, e3]
  rw [hr]
  refine Lo_drop k.l (fun i r v => v = ((i : Int), (), ()) ∧ (i : Int) + r.length = k.l.length ∧ asc k.next k.l = asc k.next r) ?_ ?_ ⟨rfl, by simp, rfl⟩
  · rintro L _ ⟨rfl, _, he⟩
    exact Fk_f (by simp) (by rw [he]; rfl)
  · rintro L i a r _ hi ha _ ⟨rfl, hn, he⟩ hL
    rw [he]
    simp only [List.length_cons] at hn
    have e4 : w64 (k.next - w64 ((k.l.length : Int) - i)) = k.next - ((r.length : Int) + 1) := by
      rw [w64_id (n := (k.l.length : Int) - i) (by omega) (by omega), w64_id (by omega) (by omega)]; omega
    refine Fk_t (by simpa using hi) (Ix_nat ha ⟨_, c27 _, Fk_of (fun h => ?_) (fun h => Ix_nat ha (Fk_of (fun h' => ?_) (fun h' => hL _ ⟨?_, ?_, ?_⟩)))⟩)
    · simp at h; simp [asc, h]
    · simp only [e4] at h'; simp at h'; simp [asc, h']
    · simp only [w64_succ hi hl]
    · omega
    · simp only [e4] at h'; simp at h h'; rw [he]; simp [asc, h, h'])
theorem c13 (k : Keep) : Cl 13 [eKeep k] [.pv (B (rightK k))] := t13 _ (by
  unfold P13
  simp only [Ln, SmA_true, true_and, List.length_map, rvB]
  intro hl
  by_cases hr : (k.l.length : Int) ≤ 64 ∧ 1 ≤ k.next ∧ k.next ≤ 4611686018427387905
  · have hr' : rightK k = asc k.next k.l := by simp [rightK, hr]
    rw [hr']
    refine Lo_drop k.l (fun i r v => v = ((i : Int), (), ()) ∧ (i : Int) + r.length = k.l.length ∧ asc k.next k.l = asc k.next r) ?_ ?_ ⟨rfl, by simp, rfl⟩
    · rintro L _ ⟨rfl, _, he⟩
      refine Fk_f (by simp) (Fk_t (by simp [hr]) (Fk_t (by simp [hr]) ?_))
      rw [he]; simp [asc, hr]
    · rintro L i a r _ hi ha _ ⟨rfl, hn, he⟩ hL
      rw [he]
      simp only [List.length_cons] at hn
      have e4 : w64 (w64 (k.next - k.l.length) + i) = k.next - ((r.length : Int) + 1) := by
        rw [w64_id (n := k.next - k.l.length) (by omega) (by omega), w64_id (by omega) (by omega)]; omega
      refine Fk_t (by simpa using hi) (Ix_nat ha ⟨_, c28 _, Fk_of (fun h => ?_) (fun h => Fk_of (fun h' => ?_) (fun h' => hL _ ⟨?_, ?_, ?_⟩))⟩)
      · simp at h; simp [asc, h]
      · simp only [e4] at h'; simp at h'; simp [asc, h']
      · simp only [w64_succ hi hl]
      · omega
      · simp only [e4] at h'; simp at h h'; rw [he]; simp [asc, h, h']
  · have hr' : rightK k = false := by
      cases h : rightK k with
      | false => rfl
      | true => simp [rightK] at h; exact absurd ⟨h.1.1.1, h.1.1.2, h.1.2⟩ hr
    rw [hr']
    refine Lo_drop k.l (fun i r v => v = ((i : Int), (), ())) ?_ ?_ rfl
    · rintro L _ rfl
      refine Fk_f (by simp) (Fk_of (fun h1 => Fk_of (fun h2 => ?_) fun _ => rfl) fun _ => rfl)
      simp at h1 h2 ⊢; omega
    · rintro L i a r _ hi ha _ rfl hL
      exact Fk_t (by simpa using hi) (Ix_nat ha ⟨_, c28 _, Fk_of (fun h => rfl) (fun h => Fk_of (fun h' => rfl) (fun h' => hL _ (by simp only [w64_succ hi hl])))⟩))
def roomK (k : Keep) (b s : Int) : Int := if b < 0 ∨ 64 < b ∨ s < 0 ∨ b < s ∨ 4611686018427387904 < k.next then 0 else max 0 (b - s - k.l.length)
theorem c22 (k : Keep) (b s : Int) : Cl 22 [eKeep k, I b, I s] [.pv (I (roomK k b s))] := t22 _ _ _ (by
  simp only [P22, Ln, List.length_map, rvI, roomK, imax_eq]
  refine Fk_of (fun h => ?_) fun h1 => Fk_of (fun h => ?_) fun h2 => Fk_of (fun h => ?_) fun h3 => Fk_of (fun h => ?_) fun h4 => Fk_of (fun h => ?_) fun h5 hl => ?_
  all_goals simp only [decide_eq_true_eq, decide_eq_false_iff_not] at *
  iterate 5 (· rw [if_pos (by omega)])
  rw [w64_id (n := b - s) (by omega) (by omega), w64_id (by omega) (by omega), if_neg (by omega)])
theorem c23 (k : Keep) (b s : Int) : Cl 23 [eKeep k, I b, I s] [.pv (I (roomK k b s))] := t23 _ _ _ (by
  simp only [P23, Ln, List.length_map, rvI, roomK]
  intro hl
  refine Fk_of (fun h => ?_) fun h1 => Fk_of (fun h => ?_) fun h2 => Fk_of (fun h => ?_) fun h3 => Fk_of (fun h => ?_) fun h4 => Fk_of (fun h => ?_) fun h5 => Fk_of (fun h => ?_) fun h6 => ?_
  all_goals simp only [decide_eq_true_eq, decide_eq_false_iff_not] at *
  iterate 3 (· rw [if_pos (by omega)])
  · rw [if_pos (by omega)]
  · rw [if_pos (by omega)]
  · by_cases hs : b < s
    · rw [if_pos (by omega)]
    · rw [w64_id (n := b - s) (by omega) (by omega)] at h
      rw [if_neg (by omega)]; omega
  · have h7 : s ≤ b := by
      rw [w64_id (n := b - s) (by omega) (by omega)] at h6; omega
    rw [w64_id (n := b - s) (by omega) (by omega)] at h6 ⊢
    rw [w64_id (by omega) (by omega), if_neg (by omega)]; omega)
def zI : Item := ⟨0, 0, 0, 0, 0, 0, [], []⟩
def numb (k : Keep) (x : Item) : Item := { x with seq := if 4611686018427387904 < k.next then 1 else k.next }
def pushK (k : Keep) (x : Item) (b s : Int) : Keep × Item × Int :=
  if mayI (numb k x) = false then (k, zI, 1) else if roomK k b s = 0 then (k, zI, 4) else (⟨k.next + 1, k.l ++ [numb k x]⟩, numb k x, 0)
theorem room_len {k : Keep} {b s : Int} (h : roomK k b s ≠ 0) : (k.l.length : Int) ≤ 64 ∧ k.next ≤ 4611686018427387904 := by
  unfold roomK at h; split at h <;> omega
theorem may_seq {x : Item} (h : mayI x = true) : 1 ≤ x.seq ∧ x.seq ≤ 4611686018427387904 := by
  simp [mayI, within] at h; omega
theorem push_no {k : Keep} {x : Item} {b s : Int} (h : mayI (numb k x) = false) : pushK k x b s = (k, zI, 1) := if_pos h
theorem push_full {k : Keep} {x : Item} {b s : Int} (h : mayI (numb k x) = true) (hr : roomK k b s = 0) : pushK k x b s = (k, zI, 4) := by simp [pushK, h, hr]
theorem push_ok {k : Keep} {x : Item} {b s : Int} (h : mayI (numb k x) = true) (hr : roomK k b s ≠ 0) : pushK k x b s = (⟨k.next + 1, k.l ++ [numb k x]⟩, numb k x, 0) := by simp [pushK, h, hr]
theorem c18 (k : Keep) (x : Item) (b s : Int) : Cl 18 [eKeep k, eItem x, I b, I s] [.pv (eKeep (pushK k x b s).1), .pv (eItem (pushK k x b s).2.1), .pv (I (pushK k x b s).2.2)] := t18 _ _ _ _ (by
  simp only [P18, SmA_true, true_and, Jn, Ln, List.length_map]
  refine Fk_of (fun h => ?_) (fun h => ?_)
  all_goals
    simp only [decide_eq_true_eq, decide_eq_false_iff_not] at h
    first
    | (have e : numb k x = { x with seq := 1 } := by simp [numb, h]
       have c := c28 { x with seq := 1 })
    | (have e : numb k x = { x with seq := k.next } := by simp [numb, h]
       have c := c28 { x with seq := k.next })
    refine ⟨_, c, Fk_of (fun h1 => ?_) fun h1 => ⟨_, c22 _ _ _, Fk_of (fun h2 => ?_) fun h2 hl => ?_⟩⟩
    · rw [← e] at h1; simp at h1; rw [push_no h1]; exact .dull rfl
    · rw [← e] at h1; simp at h1 h2; rw [push_full h1 h2]; exact .dull rfl
    · rw [← e] at h1; simp at h1 h2
      have hm := may_seq h1
      obtain ⟨g1, g2⟩ := room_len h2
      have hw : w64 (k.next + 1) = k.next + 1 := by
        simp [numb] at hm; exact w64_id (by split at hm <;> omega) (by omega)
      have ht : List.take ((k.l.length : Int).toNat) (List.map eItem k.l) = List.map eItem k.l := List.take_of_length_le (by simp)
      rw [push_ok h1 h2, ht, hw, e]
      refine ⟨by omega, rfl, by simp, Ok_of (okOld_map (e := eItem) (n := 8) (fun _ => rfl) _ _ _) (Sz_of (by simp; omega) (.dull ?_))⟩
      simp [RV.dull, PV.dull, PV.dull1])
theorem c19 (k : Keep) (x : Item) (b s : Int) : Cl 19 [eKeep k, eItem x, I b, I s] [.pv (eKeep (pushK k x b s).1), .pv (eItem (pushK k x b s).2.1), .pv (I (pushK k x b s).2.2)] := t19 _ _ _ _ (by
  simp only [P19, SmA_true, true_and, Jn, List.length_map]
  have hpos : 0 ≤ roomK k b s := by unfold roomK; split <;> omega
  refine Fk_of (fun h => ?_) (fun h => ?_)
  all_goals
    simp only [decide_eq_true_eq, decide_eq_false_iff_not] at h
    first
    | (have e : numb k x = { x with seq := 1 } := by simp [numb, h]
       have c := c27 { x with seq := 1 })
    | (have e : numb k x = { x with seq := k.next } := by simp [numb, h]
       have c := c27 { x with seq := k.next })
    refine ⟨_, c, Fk_of (fun h1 => ?_) fun h1 => ⟨_, c23 _ _ _, Fk_of (fun h2 => ?_) fun h2 => ?_⟩⟩
    · rw [← e] at h1; simp at h1; rw [push_no h1]; exact .dull rfl
    · rw [← e] at h1; simp at h1 h2; rw [push_full h1 (by omega)]; exact .dull rfl
    · rw [← e] at h1; simp at h1 h2
      have h3 : roomK k b s ≠ 0 := by omega
      have hm := may_seq h1
      obtain ⟨g1, g2⟩ := room_len h3
      have hw : w64 (k.next + 1) = k.next + 1 := by
        simp [numb] at hm; exact w64_id (by split at hm <;> omega) (by omega)
      rw [push_ok h1 h3, hw, e]
      refine Ok_of (okNews_map (e := eItem) (n := 8) (fun _ => rfl) (fun _ => rfl) _) (Sz_of (by omega) (Sz_of (by omega) (.dull ?_)))
      simp [RV.dull, PV.dull, PV.dull1])
theorem c35 (q u : Int) : Cl 35 [I q, .ip [I u] 0] [.pv (B (decide (u < q)))] := t35a _ _ (.refl _)
theorem c33 (q u : Int) : Cl 33 [I q, .ip [I u] 0] [.pv (B (q == u))] := t33a _ _ (.refl _)
theorem c42a (x : Item) (u : Int) : Cl 42 [eItem x, .ip [.fn (.func 35) [] [.ip [I u] 0]] 0] [.pv (B (decide (u < x.seq)))] := t42a _ _ ⟨_, c35 _ _, .refl _⟩
theorem c42b (x : Item) (u : Int) : Cl 42 [eItem x, .ip [.fn (.func 33) [] [.ip [I u] 0]] 0] [.pv (B (x.seq == u))] := t42b _ _ ⟨_, c33 _ _, .refl _⟩
/-- The first place, or none. -/
def place (f : Item → Bool) : Nat → List Item → Int
  | _, [] => -1
  | i, x :: r => if f x then i else place f (i + 1) r
theorem c41a (l : List Item) (u : Int) : Cl 41 [lItem l, .fn (.func 42) [] [.ip [.fn (.func 35) [] [.ip [I u] 0]] 0]] [.pv (I (place (fun x => decide (u < x.seq)) 0 l))] := t41a _ _ (by
  unfold P41a
  simp only [Ln, SmA_true, true_and, List.length_map, rvI]
  intro hl
  refine Lo_drop l (fun i r v => v = ((i : Int), ()) ∧ place (fun x => decide (u < x.seq)) 0 l = place (fun x => decide (u < x.seq)) i r) ?_ ?_ ⟨rfl, rfl⟩
  · rintro L _ ⟨rfl, he⟩
    exact Fk_f (by simp) (by rw [he]; rfl)
  · rintro L i a r _ hi ha _ ⟨rfl, he⟩ hL
    refine Fk_t (by simpa using hi) (Ix_nat ha ⟨_, c42a _ _, Fk_of (fun h => ?_) (fun h => hL _ ⟨?_, ?_⟩)⟩)
    · rw [he]; simp [place, h]
    · simp only [w64_succ hi hl]
    · rw [he]; simp [place, h])
theorem c41b (l : List Item) (u : Int) : Cl 41 [lItem l, .fn (.func 42) [] [.ip [.fn (.func 33) [] [.ip [I u] 0]] 0]] [.pv (I (place (fun x => x.seq == u) 0 l))] := t41b _ _ (by
  unfold P41b
  simp only [Ln, SmA_true, true_and, List.length_map, rvI]
  intro hl
  refine Lo_drop l (fun i r v => v = ((i : Int), ()) ∧ place (fun x => x.seq == u) 0 l = place (fun x => x.seq == u) i r) ?_ ?_ ⟨rfl, rfl⟩
  · rintro L _ ⟨rfl, he⟩
    exact Fk_f (by simp) (by rw [he]; rfl)
  · rintro L i a r _ hi ha _ ⟨rfl, he⟩ hL
    refine Fk_t (by simpa using hi) (Ix_nat ha ⟨_, c42b _ _, Fk_of (fun h => ?_) (fun h => hL _ ⟨?_, ?_⟩)⟩)
    · rw [he]; simp [place, h]
    · simp only [w64_succ hi hl]
    · rw [he]; simp [place, h])
theorem place_spec (f : Item → Bool) : ∀ (l : List Item) (i : Nat), (place f i l = -1 ∧ ∀ x ∈ l, f x = false) ∨ ∃ j x, place f i l = ((i + j : Nat) : Int) ∧ l[j]? = some x ∧ f x = true ∧ ∀ y ∈ l.take j, f y = false
  | [], i => .inl ⟨rfl, fun x h => by simp at h⟩
  | a :: r, i => by
    unfold place
    by_cases h : f a = true
    · rw [if_pos h]; exact .inr ⟨0, a, rfl, rfl, h, fun y hy => by simp at hy⟩
    · rw [if_neg h]
      rcases place_spec f r (i + 1) with ⟨h1, h2⟩ | ⟨j, x, h1, h2, h3, h4⟩
      · exact .inl ⟨h1, fun x hx => by rcases List.mem_cons.1 hx with rfl | hx; simpa using h; exact h2 x hx⟩
      · refine .inr ⟨j + 1, x, by rw [h1]; omega, by simpa using h2, h3, fun y hy => ?_⟩
        rw [List.take_succ_cons] at hy
        rcases List.mem_cons.1 hy with rfl | hy
        · simpa using h
        · exact h4 y hy
theorem c32a (k : Keep) (u : Int) : Cl 32 [eKeep k, .fn (.func 35) [] [.ip [I u] 0]] [.pv (I (place (fun x => decide (u < x.seq)) 0 k.l))] := t32a _ _ ⟨_, c41a _ _, .refl _⟩
theorem c32b (k : Keep) (u : Int) : Cl 32 [eKeep k, .fn (.func 33) [] [.ip [I u] 0]] [.pv (I (place (fun x => x.seq == u) 0 k.l))] := t32b _ _ ⟨_, c41b _ _, .refl _⟩
def freeL (u : Int) : List Item → List Item
  | [] => []
  | x :: r => if u < x.seq then x :: r else freeL u r
theorem free_drop (u : Int) (l : List Item) : freeL u l = l.drop (if place (fun x => decide (u < x.seq)) 0 l < 0 then l.length else (place (fun x => decide (u < x.seq)) 0 l).toNat) := by
  have key : ∀ (l : List Item) (i : Nat), freeL u l = l.drop (if place (fun x => decide (u < x.seq)) i l < 0 then l.length else (place (fun x => decide (u < x.seq)) i l).toNat - i) := by
    intro l
    induction l with
    | nil => intro i; simp [freeL]
    | cons a r ih =>
      intro i
      unfold freeL place
      by_cases h : u < a.seq
      · simp only [h, if_true, decide_true]
        rw [if_neg (by omega)]; simp
      · simp only [h, if_false, decide_false, Bool.false_eq_true]
        rw [ih (i + 1)]
        rcases place_spec (fun x => decide (u < x.seq)) r (i + 1) with ⟨h1, _⟩ | ⟨j, x, h1, _⟩
        · rw [h1]; simp
        · rw [h1, if_neg (by omega), if_neg (by omega)]
          have : ((((i + 1 + j : Nat) : Int).toNat - i)) = (((i + 1 + j : Nat) : Int).toNat - (i + 1)) + 1 := by omega
          rw [this, List.drop_succ_cons]
  simpa using key l 0
theorem c25 (k : Keep) (u : Int) : Cl 25 [eKeep k, I u] [.pv (eKeep ⟨k.next, freeL u k.l⟩)] := t25 _ _ (by
  simp only [P25, SmA_true, true_and, Jn, Ln, List.length_map]
  refine ⟨_, c32a _ _, ?_⟩
  rw [free_drop]
  rcases place_spec (fun x => decide (u < x.seq)) k.l 0 with ⟨h1, _⟩ | ⟨j, x, h1, h2, _⟩
  · rw [h1]
    refine Fk_t (by simp) fun hl hl' => ?_
    refine ⟨by omega, by omega, rfl, by simp, allN_map (e := eItem) (n := 8) (fun _ => rfl) _, .dull ?_⟩
    simp [RV.dull, PV.dull, PV.dull1]
  · rw [h1]
    have hj := (List.getElem?_eq_some_iff.1 h2).1
    refine Fk_f (by simp) fun hl => ?_
    rw [if_neg (by omega)]
    refine ⟨by omega, by omega, rfl, by simp, allN_map (e := eItem) (n := 8) (fun _ => rfl) _, .dull ?_⟩
    simp [RV.dull, PV.dull, PV.dull1, List.map_drop]
    rw [List.take_of_length_le (by simp)])
end Go.Proofs.Ythohhkmlbjffgaa.M
