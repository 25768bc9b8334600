import Derived.Test.YtemaikelagchcaaV07
set_option linter.all false
set_option linter.unusedVariables false
set_option linter.unusedSimpArgs false
set_option linter.unnecessarySimpa false
namespace Go.Proofs.Ytemaikelagchcaa.M
open Go Go.Mir Go.Proofs

theorem c10 (a b : List Int) : Cl 10 [lI a, lI b] [.pv (B (a == b))] := t10 _ _ (by
  unfold P10
  simp only [Ln, SmA_true, true_and, List.length_map, rvB]
  intro ha hb
  refine Fk_of (fun h => ?_) fun h => ?_
  · simp at h; simp; intro e; rw [e] at h; exact h rfl
  · have hlen : a.length = b.length := by simp at h; omega
    refine Lo_drop a (fun i r v => v = ((i : Int), ()) ∧ (a == b) = (r == b.drop i)) ?_ ?_ ⟨rfl, by simp⟩
    · rintro L _ ⟨rfl, he⟩
      refine Fk_f (by simp) ?_
      rw [he, hlen]; simp
    · rintro L i x r _ hi hx hd ⟨rfl, he⟩ hL
      have hy : b[i]? = some (b[i]'(by omega)) := List.getElem?_eq_getElem (by omega)
      have hd2 : b.drop i = b[i]'(by omega) :: b.drop (i + 1) := List.drop_eq_getElem_cons (by omega)
      refine Fk_t (by simpa using hi) (Ix_nat hx (Ix_nat hy (Fk_of (fun h' => ?_) fun h' => hL _ ⟨by simp only [w64_succ hi ha], ?_⟩)))
      · have e : (x == b[i]'(by omega)) = false := by simpa using h'
        rw [he, hd2, List.cons_beq_cons, e]; rfl
      · have e : (x == b[i]'(by omega)) = true := by simpa using h'
        rw [he, hd2, List.cons_beq_cons, e, Bool.true_and])
theorem c25 (a b : Int) : Cl 25 [I a, I b] [.pv (I (min a b))] := t25 _ _ (by rw [P25, rvI, imin_eq])
theorem c28 (a b : Int) : Cl 28 [I a, I b] [.pv (B (decide (a ≤ b)))] := t28 _ _ (.refl _)
theorem c21m (a b : List Int) (ha : a.length ≤ 1000000) (hb : b.length ≤ 1000000) : Cl 21 [lI a, lI b, .fn (.func 25) [] []] [.pv (lI (zipV min a b))] := t21b _ _ (by
  unfold P21b
  simp only [Ln, SmA_true, true_and, List.length_map, imax_len, Int.toNat_natCast]
  have hz := zipV_len min a b
  intro _ _
  refine ⟨by omega, Int.le_refl _, by omega, by omega, fun _ => ?_⟩
  refine Lo_up (max a.length b.length) (fun i v => v = (((zipV min a b).take i ++ List.replicate ((zipV min a b).length - i) 0).map I, (i : Int), ())) ?_ (i := 0) (Nat.zero_le _) (by simp [hz])
  rintro L i _ hi rfl hL
  by_cases hlt : i < max a.length b.length
  · refine Fk_t (by simpa using hlt) ⟨_, c29 _ _, _, c29 _ _, _, c25 _ _, Rx_nat (by simp [hz]; omega) ?_⟩
    have hg := zipV_get min a b hlt
    rw [Nat.zero_add, Int.toNat_natCast]
    refine Ld_map (fill_get (z := zipV min a b) (d := (0 : Int)) (by omega)) ?_
    rw [w64_succ hlt (by omega), ← List.map_set, atV_nat, atV_nat, fill_set hg]
    exact hL _ hlt rfl
  · obtain rfl : i = max a.length b.length := by omega
    refine Fk_f (by simp) ?_
    rw [List.take_of_length_le (by omega), hz, Nat.sub_self]
    simp only [List.replicate_zero, List.append_nil]
    exact .cons (.toRow _ _ _) .nil)
theorem c27 (a b : List Int) (ha : a.length ≤ 1000000) (hb : b.length ≤ 1000000) : Cl 27 [lI a, lI b, .fn (.func 28) [] []] [.pv (lB (zipV (fun x y => decide (x ≤ y)) a b))] := t27a _ _ (by
  unfold P27a
  simp only [Ln, SmA_true, true_and, List.length_map, imax_len, Int.toNat_natCast]
  have hz := zipV_len (fun x y => decide (x ≤ y)) a b
  intro _ _
  refine ⟨by omega, Int.le_refl _, by omega, by omega, fun _ => ?_⟩
  refine Lo_up (max a.length b.length) (fun i v => v = (((zipV (fun x y => decide (x ≤ y)) a b).take i ++ List.replicate ((zipV (fun x y => decide (x ≤ y)) a b).length - i) false).map B, (i : Int), ())) ?_ (i := 0) (Nat.zero_le _) (by simp [hz])
  rintro L i _ hi rfl hL
  by_cases hlt : i < max a.length b.length
  · refine Fk_t (by simpa using hlt) ⟨_, c29 _ _, _, c29 _ _, _, c28 _ _, Rx_nat (by simp [hz]; omega) ?_⟩
    have hg := zipV_get (fun x y => decide (x ≤ y)) a b hlt
    rw [Nat.zero_add, Int.toNat_natCast]
    refine Ld_map (fill_get (z := zipV (fun x y => decide (x ≤ y)) a b) (d := false) (by omega)) ?_
    rw [w64_succ hlt (by omega), ← List.map_set, atV_nat, atV_nat, fill_set hg]
    exact hL _ hlt rfl
  · obtain rfl : i = max a.length b.length := by omega
    refine Fk_f (by simp) ?_
    rw [List.take_of_length_le (by omega), hz, Nat.sub_self]
    simp only [List.replicate_zero, List.append_nil]
    exact .cons (.toRow _ _ _) .nil)
theorem c13 (a b : List Int) (ha : a.length ≤ 1000000) (hb : b.length ≤ 1000000) : Cl 13 [lI a, lI b] [.pv (lI (zipV min a b))] := t13 _ _ ⟨_, c21m a b ha hb, .refl _⟩
/-- Where a bit stands. -/
def indexB (x : Bool) : Nat → List Bool → Int
  | _, [] => -1
  | i, y :: r => if x = y then i else indexB x (i + 1) r
theorem c30 (l : List Bool) (x : Bool) : Cl 30 [lB l, B x] [.pv (I (indexB x 0 l))] := t30 _ _ (by
  unfold P30
  simp only [Ln, SmA_true, true_and, List.length_map, rvI]
  intro hl
  refine Lo_drop l (fun i r v => v = ((i : Int), ()) ∧ indexB x 0 l = indexB x i r) ?_ ?_ ⟨rfl, rfl⟩
  · rintro L _ ⟨rfl, he⟩
    exact Fk_f (by simp) (by rw [he]; rfl)
  · rintro L i a r _ hi ha _ ⟨rfl, he⟩ hL
    refine Fk_t (by simpa using hi) (Ix_nat ha (Fk_of (fun h => ?_) fun h => hL _ ⟨by simp only [w64_succ hi hl], ?_⟩))
    · simp at h; rw [he, indexB, if_pos h]
    · simp only [beq_eq_false_iff_ne, ne_eq] at h; rw [he, indexB, if_neg h])
theorem indexB_neg (x : Bool) : ∀ (l : List Bool) (i : Nat), (0 ≤ indexB x i l) = (x ∈ l)
  | [], i => by simp [indexB]
  | y :: r, i => by
    unfold indexB
    by_cases h : x = y
    · simp [h]
    · rw [if_neg h, indexB_neg x r (i + 1)]; simp [h]
theorem c26 (l : List Bool) (x : Bool) : Cl 26 [lB l, B x] [.pv (B (decide (x ∈ l)))] := t26 _ _ ⟨_, c30 _ _, by simp only [indexB_neg]; exact .refl _⟩
def belowV (a b : List Int) : Bool := !decide (false ∈ zipV (fun x y => decide (x ≤ y)) a b)
theorem c15 (a b : List Int) (ha : a.length ≤ 1000000) (hb : b.length ≤ 1000000) : Cl 15 [lI a, lI b] [.pv (B (belowV a b))] := t15 _ _ ⟨_, c27 a b ha hb, _, c26 _ _, .refl _⟩
def sumV (l : List Int) : Int := l.foldl (fun n x => w64 (n + x)) 0
theorem c19 (l : List Int) : Cl 19 [lI l] [.pv (I (sumV l))] := t19 _ (by
  unfold P19
  simp only [Ln, SmA_true, true_and, List.length_map, rvI]
  intro hl
  refine Lo_drop l (fun i r v => ∃ n : Int, v = (n, (i : Int), ()) ∧ sumV l = r.foldl (fun n x => w64 (n + x)) n) ?_ ?_ ⟨_, rfl, rfl⟩
  · rintro L _ ⟨n, rfl, he⟩
    exact Fk_f (by simp) (by rw [he]; rfl)
  · rintro L i a r _ hi ha _ ⟨n, rfl, he⟩ hL
    exact Fk_t (by simpa using hi) (Ix_nat ha (hL _ ⟨_, by rw [w64_succ hi hl], he⟩)))
theorem c8 : Cl 8 [] [.pv (B true)] := t8 (by
  have m := c11 [1, 5] [3, 2, 4] (by decide) (by decide)
  have n := c13 [1, 5] [3, 2, 4] (by decide) (by decide)
  have e1 : maxV [1, 5] [3, 2, 4] = [3, 5, 4] := by decide
  have e2 : zipV min [1, 5] [3, 2, 4] = [1, 2, 0] := by decide
  rw [e1] at m
  rw [e2] at n
  exact ⟨_, m, _, c10 _ [3, 5, 4], Fk_t (by decide) ⟨_, n, _, c10 _ [1, 2, 0], Fk_t (by decide) ⟨_, c17 [[1, 5], [3, 2, 4]] 1, Fk_t (by decide) ⟨_, c17 [[1, 5], [3, 2, 4]] 2, Fk_t (by decide)
    ⟨_, c15 [1, 5] [3, 2, 4] (by decide) (by decide), Fk_t (by decide) ⟨_, m, _, c15 [1, 5] _ (by decide) (by decide), Fk_t (by decide) ⟨_, c19 [3, 2, 4], Fk_t (by decide) ⟨_, (c17 [] 0).dull rfl, .refl _⟩⟩⟩⟩⟩⟩⟩⟩)
def fewV (l : List (List Int)) : Bool := decide (l.length ≤ 50) && l.all fun r => decide (r.length ≤ 50)
theorem c9 (l : List (List Int)) : Cl 9 [llI l] [.pv (B (fewV l))] := t9 _ (by
  unfold P9
  simp only [Ln, SmA_true, true_and, List.length_map, rvB]
  intro hl
  refine Fk_of (fun h => ?_) fun h => ?_
  · simp at h; simp [fewV]; intro h'; omega
  have h8 : fewV l = l.all fun r => decide (r.length ≤ 50) := by simp at h; simp [fewV]; intro _; omega
  rw [h8]
  refine Lo_drop l (fun i r v => v = ((i : Int), ()) ∧ (l.all fun r => decide (r.length ≤ 50)) = r.all fun r => decide (r.length ≤ 50)) ?_ ?_ ⟨rfl, rfl⟩
  · rintro L _ ⟨rfl, he⟩
    exact Fk_f (by simp) (by rw [he]; rfl)
  · rintro L i a r _ hi ha _ ⟨rfl, he⟩ hL
    rw [he, List.all_cons]
    refine Fk_t (by simpa using hi) (Ix_nat ha (Fk_of (fun h => ?_) fun h => hL _ ⟨by simp only [w64_succ hi hl], ?_⟩))
    · simp at h; simp; omega
    · simp at h; rw [he, List.all_cons]; simp; omega)
end Go.Proofs.Ytemaikelagchcaa.M
