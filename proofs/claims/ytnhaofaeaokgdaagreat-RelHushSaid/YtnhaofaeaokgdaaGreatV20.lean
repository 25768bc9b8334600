import Derived.Test.YtnhaofaeaokgdaaGreatI20
set_option linter.all false
set_option linter.unusedVariables false
set_option linter.unusedSimpArgs false
set_option linter.unnecessarySimpa false
namespace Go.Proofs.YtnhaofaeaokgdaaGreat.M
open Go Go.Mir Go.Proofs

/-- A row's place; behind its end 0. -/
def atN (l : List Int) (i : Nat) : Int := (l[i]?).getD 0
def atV (l : List Int) (i : Int) : Int := if 0 ≤ i then atN l i.toNat else 0
theorem atV_nat (l : List Int) (i : Nat) : atV l (i : Int) = atN l i := by simp [atV]
theorem c107 (l : List Int) (i : Int) : Cl 107 [lI l, I i] [.pv (I (atV l i))] := t107 _ _ (by
  simp only [P107, Ln, List.length_map, rvI]
  refine fun _ => Fk_of (fun h => ?_) fun h => Fk_of (fun h' => ?_) fun h' => ?_
  · simp at h; simp [atV]; omega
  · simp at h h'; simp only [atV, atN]; rw [if_pos h, List.getElem?_eq_none (by omega)]; rfl
  · simp at h h'
    have hx : l[i.toNat]? = some l[i.toNat] := List.getElem?_eq_getElem (by omega)
    refine Ix_map h hx ?_
    simp only [atV, atN, if_pos h, hx]; rfl)
/-- Two rows, place by place, as long as the longer one. -/
def zipV {α : Type} (f : Int → Int → α) (a b : List Int) : List α := (List.range (max a.length b.length)).map fun i => f (atN a i) (atN b i)
theorem zipV_len {α : Type} (f : Int → Int → α) (a b : List Int) : (zipV f a b).length = max a.length b.length := by simp [zipV]
theorem zipV_get {α : Type} (f : Int → Int → α) (a b : List Int) {i : Nat} (h : i < max a.length b.length) : (zipV f a b)[i]? = some (f (atN a i) (atN b i)) := by
  simp [zipV, h]
theorem c91 (a b : Int) : Cl 91 [I a, I b] [.pv (I (max a b))] := t91 _ _ (by rw [P91, rvI, imax_eq])
theorem imax_len (a b : Nat) : imax (a : Int) (b : Int) = ((max a b : Nat) : Int) := by unfold imax; split <;> omega
theorem c90 (a b : List Int) (ha : a.length ≤ 1000000) (hb : b.length ≤ 1000000) : Cl 90 [lI a, lI b, .fn (.func 91) [] []] [.pv (lI (zipV max a b))] := t90a _ _ (by
  unfold P90a
  simp only [Ln, SmA_true, true_and, List.length_map, imax_len, Int.toNat_natCast]
  have hz := zipV_len max a b
  intro _ _
  refine ⟨by omega, Int.le_refl _, by omega, by omega, fun _ => ?_⟩
  refine Lo_up (max a.length b.length) (fun i v => v = (((zipV max a b).take i ++ List.replicate ((zipV max a b).length - i) 0).map I, (i : Int), ())) ?_ (i := 0) (Nat.zero_le _) (by simp [hz])
  rintro L i _ hi rfl hL
  by_cases hlt : i < max a.length b.length
  · refine Fk_t (by simpa using hlt) ⟨_, c107 _ _, _, c107 _ _, _, c91 _ _, Rx_nat (by simp [hz]; omega) ?_⟩
    have hg := zipV_get max a b hlt
    rw [Nat.zero_add, Int.toNat_natCast]
    refine Ld_map (fill_get (z := zipV max a b) (d := (0 : Int)) (by omega)) ?_
    rw [w64_succ hlt (by omega), ← List.map_set, atV_nat, atV_nat, fill_set hg]
    exact hL _ hlt rfl
  · obtain rfl : i = max a.length b.length := by omega
    refine Fk_f (by simp) ?_
    rw [List.take_of_length_le (by omega), hz, Nat.sub_self]
    simp only [List.replicate_zero, List.append_nil]
    exact .cons (.toRow _ _ _) .nil)
def maxV (a b : List Int) : List Int := zipV max a b
theorem c35 (a b : List Int) (ha : a.length ≤ 1000000) (hb : b.length ≤ 1000000) : Cl 35 [lI a, lI b] [.pv (lI (maxV a b))] := t35 _ _ ⟨_, c90 a b ha hb, .refl _⟩
def leastV (l : List (List Int)) (i : Int) : Int := match l with
  | [] => 0
  | a :: r => r.foldl (fun n x => min n (atV x i)) (atV a i)
theorem c59 (l : List (List Int)) (i : Int) : Cl 59 [llI l, I i] [.pv (I (leastV l i))] := t59 _ _ (by
  unfold P59
  simp only [Ln, List.length_map, rvI]
  intro hl
  cases l with
  | nil => exact Fk_t rfl rfl
  | cons a r =>
    refine Fk_f (by simp; omega) (Ix_nat (i := 0) (a := a) rfl ⟨_, c107 _ _, by omega, by simp; omega, allN_map (e := lI) (n := 1) (fun _ => rfl) _, ?_⟩)
    simp only [List.map_cons, List.drop_succ_cons, List.drop_zero, List.length_map, SmA_true, true_and]
    simp only [List.length_cons] at hl
    refine Lo_drop r (fun j s v => ∃ n : Int, v = (n, (j : Int), ()) ∧ leastV (a :: r) i = s.foldl (fun n x => min n (atV x i)) n) ?_ ?_ ⟨_, rfl, rfl⟩
    · rintro L _ ⟨n, rfl, he⟩
      exact Fk_f (by simp) (by rw [he]; rfl)
    · rintro L j x s _ hj hx _ ⟨n, rfl, he⟩ hL
      refine Fk_t (by simpa using hj) (Ix_nat hx ⟨_, c107 _ _, hL _ ⟨_, ?_, he⟩⟩)
      rw [imin_eq, w64_succ hj (by omega)])
end Go.Proofs.YtnhaofaeaokgdaaGreat.M
