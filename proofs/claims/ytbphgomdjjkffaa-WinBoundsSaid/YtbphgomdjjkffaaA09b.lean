import Derived.Test.YtbphgomdjjkffaaA09a
set_option linter.all false
set_option linter.unusedVariables false
set_option linter.unusedSimpArgs false
set_option linter.unnecessarySimpa false
namespace Go.Proofs.Ytbphgomdjjkffaa.M
open Go Go.Mir Go.Proofs
theorem c29 (a b : Item) : Cl 29 [eItem a, eItem b] [.pv (B (sameI a b))] := t29 _ _ (by
  unfold P29
  simp only [rvB, sameI]
  refine Fk_of (fun h => Fk_of (fun h => Fk_of (fun h => Fk_of (fun h => Fk_of (fun h => Fk_of (fun h => ⟨_, c38 _ _, Fk_of (fun h => ⟨_, c39 _ _, ?_⟩) fun h => ?_⟩) fun h => ?_) fun h => ?_) fun h => ?_) fun h => ?_) fun h => ?_) fun h => ?_
  all_goals simp [*])
theorem c30 (a b : List Item) : Cl 30 [lItem a, lItem b] [.pv (B (rowEq sameI a b))] := t30 _ _ (by
  unfold P30
  simp only [Ln, SmA_true, true_and, List.length_map, rvB]
  intro ha hb
  refine Fk_of (fun h => ?_) fun h => ?_
  · cases hr : rowEq sameI a b with
    | false => rfl
    | true => have := rowEq_len hr; simp [this] at h
  · refine Lo_two a b sameI (fun i => ((i : Int), ())) (by simp at h; omega) (G := fun c => c = rowEq sameI a b) ?_ ?_ rfl
    · exact fun L hg => Fk_f (by simp) hg
    · intro L i x y hi hx hy hf hL
      refine Fk_t (by simpa using hi) (Ix_nat hx (Ix_nat hy ⟨_, c25 _ _, Fk_of (fun h => hf (by simpa using h)) fun h => ?_⟩))
      rw [w64_succ hi ha]; exact hL (by simpa using h))
theorem c28 (a b : List Item) : Cl 28 [lItem a, lItem b, .fn (.func 29) [] []] [.pv (B (rowEq sameI a b))] := t28a _ _ (by
  unfold P28a
  simp only [Ln, SmA_true, true_and, List.length_map, rvB]
  intro ha hb
  refine Fk_of (fun h => ?_) fun h => ?_
  · cases hr : rowEq sameI a b with
    | false => rfl
    | true => have := rowEq_len hr; simp [this] at h
  · refine Lo_two a b sameI (fun i => ((i : Int), ())) (by simp at h; omega) (G := fun c => c = rowEq sameI a b) ?_ ?_ rfl
    · exact fun L hg => Fk_f (by simp) hg
    · intro L i x y hi hx hy hf hL
      refine Fk_t (by simpa using hi) (Ix_nat hx (Ix_nat hy ⟨_, c29 _ _, Fk_of (fun h => hf (by simpa using h)) fun h => ?_⟩))
      rw [w64_succ hi ha]; exact hL (by simpa using h))
end Go.Proofs.Ytbphgomdjjkffaa.M
