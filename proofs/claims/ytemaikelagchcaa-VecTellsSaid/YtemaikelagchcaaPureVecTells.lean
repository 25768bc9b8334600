/- VecTells, plainly: what package vec computes is what its reference computes, for rows of at most 100 counts, and at most 50 rows of at most 50; for greater ones the law answers true at once. (Condition: none but the lengths that memory allows.) -/
import Derived.Test.YtemaikelagchcaaPCx7
import Derived.Test.YtemaikelagchcaaLib07
namespace Go.Proofs.Ytemaikelagchcaa.Pure
open Go.RowKit Go.Proofs.Ytemaikelagchcaa.PC Go.Proofs.YtemaikelagchcaaW.PrintWords Go.Proofs.YtemaikelagchcaaW.PrintLast Go.Proofs.YtemaikelagchcaaW.PrintMore Go.Proofs.Ytemaikelagchcaa.Vec

theorem long_f (a b : List Int) : precentorref07_long.f a b = some ((max a.length b.length : Nat) : Int) := by
  unfold precentorref07_long.f
  by_cases h : (a.length : Int) > (b.length : Int)
  · rw [if_pos h]; congr 1; omega
  · rw [if_neg h]; congr 1; omega
theorem refMax_l0 (a b : List Int) (hn : max a.length b.length ≤ 1099511627776) : ∀ (d k i : Nat), i + d = max a.length b.length → d < k →
    precentorref07_Max.l0 k a b ((List.range i).map fun j => mx (a.getD j 0) (b.getD j 0)) (i : Int) = some (join mx a b) := by
  intro d
  induction d with
  | zero =>
    intro k i h hk
    obtain ⟨k, rfl⟩ : ∃ m, k = m + 1 := ⟨k - 1, by omega⟩
    simp only [precentorref07_Max.l0, long_f, Option.bind_some]
    rw [if_neg (by omega)]
    unfold join; rw [← h, Nat.add_zero]
  | succ d ih =>
    intro k i h hk
    obtain ⟨k, rfl⟩ : ∃ m, k = m + 1 := ⟨k - 1, by omega⟩
    simp only [precentorref07_Max.l0, long_f, Option.bind_some, refat_f, atI_nat, List.length_map, List.length_range]
    rw [if_pos (by omega), wrap_step (n := max a.length b.length) (by omega) hn]
    have e : ((List.range i).map fun j => mx (a.getD j 0) (b.getD j 0)) ++ [mx (a.getD i 0) (b.getD i 0)] = (List.range (i + 1)).map fun j => mx (a.getD j 0) (b.getD j 0) := by
      rw [List.range_succ, List.map_append]; rfl
    have hi := ih k (i + 1) (by omega) (by omega)
    rw [← e] at hi
    by_cases q : b.getD i 0 > a.getD i 0
    · rw [if_pos q, if_pos (by omega)]
      have : mx (a.getD i 0) (b.getD i 0) = b.getD i 0 := by unfold mx; split <;> omega
      rw [this] at hi; exact hi
    · rw [if_neg q, if_pos (by omega)]
      have : mx (a.getD i 0) (b.getD i 0) = a.getD i 0 := by unfold mx; split <;> omega
      rw [this] at hi; exact hi
theorem refMax_f (a b : List Int) (k : Nat) (hn : max a.length b.length ≤ 1099511627776) (hk : max a.length b.length < k) : precentorref07_Max.f k a b = some (join mx a b) := by
  unfold precentorref07_Max.f
  have := refMax_l0 a b hn (max a.length b.length) k 0 (by omega) hk
  rw [Int.natCast_zero] at this
  exact this
theorem refMin_l0 (a b : List Int) (hn : max a.length b.length ≤ 1099511627776) : ∀ (d k i : Nat), i + d = max a.length b.length → d < k →
    precentorref07_Min.l0 k a b ((List.range i).map fun j => mn (a.getD j 0) (b.getD j 0)) (i : Int) = some (join mn a b) := by
  intro d
  induction d with
  | zero =>
    intro k i h hk
    obtain ⟨k, rfl⟩ : ∃ m, k = m + 1 := ⟨k - 1, by omega⟩
    simp only [precentorref07_Min.l0, long_f, Option.bind_some]
    rw [if_neg (by omega)]
    unfold join; rw [← h, Nat.add_zero]
  | succ d ih =>
    intro k i h hk
    obtain ⟨k, rfl⟩ : ∃ m, k = m + 1 := ⟨k - 1, by omega⟩
    simp only [precentorref07_Min.l0, long_f, Option.bind_some, refat_f, atI_nat, List.length_map, List.length_range]
    rw [if_pos (by omega), wrap_step (n := max a.length b.length) (by omega) hn]
    have e : ((List.range i).map fun j => mn (a.getD j 0) (b.getD j 0)) ++ [mn (a.getD i 0) (b.getD i 0)] = (List.range (i + 1)).map fun j => mn (a.getD j 0) (b.getD j 0) := by
      rw [List.range_succ, List.map_append]; rfl
    have hi := ih k (i + 1) (by omega) (by omega)
    rw [← e] at hi
    by_cases q : b.getD i 0 < a.getD i 0
    · rw [if_pos q, if_pos (by omega)]
      have : mn (a.getD i 0) (b.getD i 0) = b.getD i 0 := by unfold mn; split <;> omega
      rw [this] at hi; exact hi
    · rw [if_neg q, if_pos (by omega)]
      have : mn (a.getD i 0) (b.getD i 0) = a.getD i 0 := by unfold mn; split <;> omega
      rw [this] at hi; exact hi
theorem refMin_f (a b : List Int) (k : Nat) (hn : max a.length b.length ≤ 1099511627776) (hk : max a.length b.length < k) : precentorref07_Min.f k a b = some (join mn a b) := by
  unfold precentorref07_Min.f
  have := refMin_l0 a b hn (max a.length b.length) k 0 (by omega) hk
  rw [Int.natCast_zero] at this
  exact this
theorem refbelow_l0 (a b : List Int) (hn : max a.length b.length ≤ 1099511627776) : ∀ (d k i : Nat), i + d = max a.length b.length → d < k → (∀ j, j < i → a.getD j 0 ≤ b.getD j 0) → precentorref07_Below.l0 k a b (i : Int) = some (below a b) := by
  intro d
  induction d with
  | zero =>
    intro k i h hk hj
    obtain ⟨k, rfl⟩ : ∃ m, k = m + 1 := ⟨k - 1, by omega⟩
    simp only [precentorref07_Below.l0, long_f, Option.bind_some]
    rw [if_neg (by omega)]
    have : below a b = true := (below_iff a b).2 fun j => by
      by_cases q : j < i
      · exact hj j q
      · rw [getD_out (show a.length ≤ j by omega), getD_out (show b.length ≤ j by omega)]; exact Int.le_refl _
    rw [this]
  | succ d ih =>
    intro k i h hk hj
    obtain ⟨k, rfl⟩ : ∃ m, k = m + 1 := ⟨k - 1, by omega⟩
    simp only [precentorref07_Below.l0, long_f, Option.bind_some, refat_f, atI_nat]
    rw [if_pos (by omega)]
    by_cases q : a.getD i 0 > b.getD i 0
    · rw [if_pos q]
      have : below a b = false := by
        cases h' : below a b with
        | false => rfl
        | true => have := (below_iff a b).1 h' i; omega
      rw [this]
    · rw [if_neg q, wrap_step (n := max a.length b.length) (by omega) hn]
      refine ih k (i + 1) (by omega) (by omega) fun j hj' => ?_
      by_cases e : j = i
      · rw [e]; omega
      · exact hj j (by omega)
theorem refbelow_f (a b : List Int) (k : Nat) (hn : max a.length b.length ≤ 1099511627776) (hk : max a.length b.length < k) : precentorref07_Below.f k a b = some (below a b) := by
  unfold precentorref07_Below.f
  have := refbelow_l0 a b hn (max a.length b.length) k 0 (by omega) hk (fun j hj => by omega)
  rw [Int.natCast_zero] at this
  exact this
theorem VecTells : precentorlaw07_VecTells.Pure := by
  intro a b l i _ _ _ _
  refine ⟨998 + 1, ?_⟩
  unfold precentorlaw07_VecTells.f
  rw [shown_f _ (by omega)]
  simp only [Option.bind_some]
  by_cases ha : (a.length : Int) > 100
  · rw [if_pos ha]; rfl
  · rw [if_neg ha]
    by_cases hb : (b.length : Int) > 100
    · rw [if_pos hb]; rfl
    · rw [if_neg hb, few_f _ _ (by omega)]
      simp only [Option.bind_some]
      cases hf : fewR l with
      | false => rfl
      | true =>
        have hl := ((few_iff l).1 hf).1
        simp only [precentorlaw07_VecTells.j0, Bool.not_true, Bool.false_eq_true, if_false, if_true]
        simp only [vec_Max_f a b 998 (by omega) (by omega), vec_Min_f a b 998 (by omega) (by omega), refMax_f a b 998 (by omega) (by omega), refMin_f a b 998 (by omega) (by omega), below_f a b 998 (by omega) (by omega), refbelow_f a b 998 (by omega) (by omega), least_f l i 998 (by omega) (by omega), refleast_f l i 998 (by omega) (by omega), sum_f a 998 (by omega) (by omega), refsum_f a 998 (by omega) (by omega), Option.bind_some,
          same_f _ (join mx a b) 998 (show (join mx a b).length ≤ _ by rw [join_length]; omega) (show (join mx a b).length < _ by rw [join_length]; omega), same_f _ (join mn a b) 998 (show (join mn a b).length ≤ _ by rw [join_length]; omega) (show (join mn a b).length < _ by rw [join_length]; omega)]
        simp
end Go.Proofs.Ytemaikelagchcaa.Pure
