/- VecSums, plainly: sums of two rows one behind the other, the least of some rows, and a row joined with itself. (Condition: none but the lengths that memory allows.) -/
import Derived.Test.YtemaikelagchcaaPCx11
import Derived.Test.YtemaikelagchcaaLib07
namespace Go.Proofs.Ytemaikelagchcaa.Pure
open Go.RowKit Go.Proofs.Ytemaikelagchcaa.PC Go.Proofs.YtemaikelagchcaaW.PrintWords Go.Proofs.YtemaikelagchcaaW.PrintLast Go.Proofs.YtemaikelagchcaaW.PrintMore Go.Proofs.Ytemaikelagchcaa.Vec

theorem join_self {f : Int → Int → Int} (h : ∀ x, f x x = x) (a : List Int) : join f a a = a := by
  unfold join
  rw [Nat.max_self]
  simp only [h]
  exact map_range_getD a 0
theorem mx_self (x : Int) : mx x x = x := by unfold mx; split <;> rfl
theorem mn_self (x : Int) : mn x x = x := by unfold mn; split <;> rfl
theorem wrap_two (s t : Int) : wrap64 (wrap64 s + wrap64 t) = wrap64 (s + t) := by unfold wrap64; omega
theorem sums_l0 (a b : List Int) (l : List (List Int)) (p : Int) (ha : a.length ≤ 100) (hb : b.length ≤ 100) (hl : l.length ≤ 50) (h1 : 1 ≤ l.length) : ∀ (d k i : Nat), i + 1 + d = l.length + 1 → d + 500 < k →
    precentorlaw07_VecSums.l0 k a b l true p (leastR l p) ((i + 1 : Nat) : Int) = some true := by
  intro d
  induction d with
  | zero =>
    intro k i h hk
    obtain ⟨k, rfl⟩ : ∃ m, k = m + 1 := ⟨k - 1, by omega⟩
    simp only [precentorlaw07_VecSums.l0, if_true]
    rw [if_neg (by omega)]
    simp only [Option.bind_some, List.length_nil, List.nil_append, List.length_append]
    rw [if_pos (by omega), if_pos (by omega)]
    have e : (a ++ b).length = a.length + b.length := List.length_append
    simp only [sum_f (a ++ b) k (by omega) (by omega), sum_f a k (by omega) (by omega), sum_f b k (by omega) (by omega), Option.bind_some, vec_Max_f a a k (by omega) (by omega), vec_Min_f a a k (by omega) (by omega), join_self mx_self, join_self mn_self, same_f a a k (by omega) (by omega), wrap_two, List.sum_append]
    simp
  | succ d ih =>
    intro k i h hk
    obtain ⟨k, rfl⟩ : ∃ m, k = m + 1 := ⟨k - 1, by omega⟩
    have w1 : wrap64 (((i + 1 : Nat) : Int) - 1) = (i : Int) := by unfold wrap64; omega
    simp only [precentorlaw07_VecSums.l0]
    have w2 := wrap_step (i := i + 1) (n := l.length + 1) (by omega) (by omega)
    rw [if_pos (by omega), if_pos (by omega), w1, if_pos (by omega), if_pos (by omega), w2, Int.toNat_natCast, Int.toNat_natCast]
    have t1 : (l.take (i + 1)).length ≤ l.length := by rw [List.length_take]; omega
    have t2 : (l.drop i).length ≤ l.length := by rw [List.length_drop]; omega
    rw [least_f (l.take (i + 1)) p k (by omega) (by omega), least_f (l.drop i) p k (by omega) (by omega)]
    simp only [Option.bind_some]
    have g1 : leastR l p ≤ leastR (l.take (i + 1)) p := le_least p _ (by intro q; have := congrArg List.length q; rw [List.length_take, List.length_nil] at this; omega) fun r hr => least_le p (List.mem_of_mem_take hr)
    have g2 : leastR l p ≤ leastR (l.drop i) p := le_least p _ (by intro q; have := congrArg List.length q; rw [List.length_drop, List.length_nil] at this; omega) fun r hr => least_le p (List.mem_of_mem_drop hr)
    rw [if_neg (by omega), if_neg (by omega)]
    exact ih k (i + 1) (by omega) (by omega)
theorem VecSums : precentorlaw07_VecSums.Pure := by
  intro a b l i _ _ _ hi
  refine ⟨998 + 1, ?_⟩
  unfold precentorlaw07_VecSums.f
  rw [shown_f _ (by omega)]
  simp only [Option.bind_some]
  by_cases ha : (a.length : Int) > 100
  · rw [if_pos ha]; rfl
  · rw [if_neg ha]
    by_cases hb : (b.length : Int) > 100
    · rw [if_pos hb]; rfl
    · rw [if_neg hb, few_f _ _ (by omega)]
      simp only [Option.bind_some]
      cases hf : fewR l with
      | false => rfl
      | true =>
        have hl := ((few_iff l).1 hf).1
        rw [if_pos rfl]
        by_cases h1 : (l.length : Int) < 1
        · rw [decide_eq_true h1]; rfl
        · rw [decide_eq_false h1]
          simp only [precentorlaw07_VecSums.j0, Bool.false_eq_true, if_false]
          rw [least_f l _ _ (by omega) (by omega)]
          simp only [Option.bind_some]
          have := sums_l0 a b l (Int.tmod (wrap64 i) 60) (by omega) (by omega) hl (by omega) l.length 998 0 (by omega) (by omega)
          simpa using this
end Go.Proofs.Ytemaikelagchcaa.Pure
