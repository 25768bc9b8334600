/- VecBounds, plainly: Max is the least row above both, Min the greatest one below both. (Condition: none but the lengths that memory allows.) -/
import Derived.Test.YtemaikelagchcaaPCx8
import Derived.Test.YtemaikelagchcaaLib07
namespace Go.Proofs.Ytemaikelagchcaa.Pure
open Go.RowKit Go.Proofs.Ytemaikelagchcaa.PC Go.Proofs.YtemaikelagchcaaW.PrintWords Go.Proofs.YtemaikelagchcaaW.PrintLast Go.Proofs.YtemaikelagchcaaW.PrintMore Go.Proofs.Ytemaikelagchcaa.Vec

theorem bel_max (a b c : List Int) : below (join mx a b) c = (below a c && below b c) := by
  rw [Bool.eq_iff_iff, Bool.and_eq_true, below_iff, below_iff, below_iff]
  constructor
  · intro h
    refine ⟨fun j => ?_, fun j => ?_⟩ <;> (have := h j; rw [join_getD mx a b j 0 rfl] at this; unfold mx at this; split at this <;> omega)
  · rintro ⟨h1, h2⟩ j
    rw [join_getD mx a b j 0 rfl]
    have := h1 j; have := h2 j
    unfold mx; split <;> omega
theorem bel_min (a b c : List Int) : below c (join mn a b) = (below c a && below c b) := by
  rw [Bool.eq_iff_iff, Bool.and_eq_true, below_iff, below_iff, below_iff]
  constructor
  · intro h
    refine ⟨fun j => ?_, fun j => ?_⟩ <;> (have := h j; rw [join_getD mn a b j 0 rfl] at this; unfold mn at this; split at this <;> omega)
  · rintro ⟨h1, h2⟩ j
    rw [join_getD mn a b j 0 rfl]
    have := h1 j; have := h2 j
    unfold mn; split <;> omega
theorem bel_self (a : List Int) : below a a = true := (below_iff a a).2 fun _ => Int.le_refl _
theorem bel_refl_max (a b : List Int) : below a (join mx a b) = true ∧ below b (join mx a b) = true := by
  have := bel_max a b (join mx a b)
  rw [bel_self] at this
  exact Bool.and_eq_true_iff.1 this.symm
theorem bel_refl_min (a b : List Int) : below (join mn a b) a = true ∧ below (join mn a b) b = true := by
  have := bel_min a b (join mn a b)
  rw [bel_self] at this
  exact Bool.and_eq_true_iff.1 this.symm
theorem VecBounds : precentorlaw07_VecBounds.Pure := by
  intro a b c _ _ _
  refine ⟨997 + 2, ?_⟩
  unfold precentorlaw07_VecBounds.f
  rw [shown_f _ (by omega)]
  simp only [Option.bind_some]
  by_cases ha : (a.length : Int) > 100
  · rw [if_pos ha]; rfl
  · rw [if_neg ha]
    by_cases hb : (b.length : Int) > 100
    · rw [if_pos hb]; rfl
    · rw [if_neg hb]
      by_cases hc : (c.length : Int) > 100
      · rw [decide_eq_true hc]; rfl
      · rw [decide_eq_false hc]
        have lx := join_length mx a b
        have ln := join_length mn a b
        obtain ⟨x1, x2⟩ := bel_refl_max a b
        obtain ⟨n1, n2⟩ := bel_refl_min a b
        simp only [precentorlaw07_VecBounds.j0, Bool.false_eq_true, if_false, vec_Max_f a b 998 (by omega) (by omega), vec_Min_f a b 998 (by omega) (by omega), Option.bind_some]
        rw [below_f a (join mx a b) 998 (by omega) (by omega), below_f b (join mx a b) 998 (by omega) (by omega), below_f (join mn a b) a 998 (by omega) (by omega), below_f (join mn a b) b 998 (by omega) (by omega), x1, x2, n1, n2]
        simp only [Option.bind_some, if_true, Bool.not_true, precentorlaw07_VecBounds.j1, Bool.false_eq_true, if_false]
        rw [below_f (join mx a b) c 997 (by omega) (by omega), below_f a c 997 (by omega) (by omega), below_f b c 997 (by omega) (by omega), below_f c (join mn a b) 997 (by omega) (by omega), below_f c a 997 (by omega) (by omega), below_f c b 997 (by omega) (by omega), bel_max, bel_min]
        simp only [Option.bind_some]
        cases below a c <;> cases below b c <;> cases below c a <;> cases below c b <;> rfl
end Go.Proofs.Ytemaikelagchcaa.Pure
