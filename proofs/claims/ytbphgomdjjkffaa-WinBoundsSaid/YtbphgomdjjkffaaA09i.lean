import Derived.Test.YtbphgomdjjkffaaA09h
set_option linter.all false
set_option linter.unusedVariables false
set_option linter.unusedSimpArgs false
set_option linter.unnecessarySimpa false
namespace Go.Proofs.Ytbphgomdjjkffaa.M
open Go Go.Mir Go.Proofs

theorem c8 : Cl 8 [] [.pv (B true)] := t8 (by
  unfold P8
  refine ⟨_, c15, _, _, (c17 newW ⟨3, 2, 0, 0, 0, 0, [], []⟩ 9).dull rfl, ?_⟩
  have e1 : putW newW ⟨3, 2, 0, 0, 0, 0, [], []⟩ 9 = (⟨1, [⟨3, 2, 0, 0, 0, 0, [], []⟩]⟩, true) := by kernel_rfl
  simp only [e1]
  refine ⟨_, _, c19 _, _, _, (c17 _ ⟨3, 2, 0, 0, 0, 0, [], []⟩ 9).dull rfl, _, _, (c17 _ ⟨3, 9, 0, 0, 0, 0, [], []⟩ 8).dull rfl, _, _, (c17 _ ⟨3, 1, 0, 0, 0, 0, [], []⟩ 9).dull rfl, ?_⟩
  have e2 : putW ⟨1, [⟨3, 2, 0, 0, 0, 0, [], []⟩]⟩ ⟨3, 1, 0, 0, 0, 0, [], []⟩ 9 = (⟨1, [⟨3, 1, 0, 0, 0, 0, [], []⟩, ⟨3, 2, 0, 0, 0, 0, [], []⟩]⟩, true) := by kernel_rfl
  simp only [e2]
  refine ⟨_, _, c23 _ _ (by kernel_rfl), _, _, _, c21 _ (by decide), ?_⟩
  have e3 : takeW ⟨1, [⟨3, 1, 0, 0, 0, 0, [], []⟩, ⟨3, 2, 0, 0, 0, 0, [], []⟩]⟩ = (⟨3, 1, 0, 0, 0, 0, [], []⟩, ⟨2, [⟨3, 2, 0, 0, 0, 0, [], []⟩]⟩, true) := by kernel_rfl
  simp only [e3]
  refine ⟨_, _, _, c21 _ (by decide), ?_⟩
  have e4 : takeW ⟨2, [⟨3, 2, 0, 0, 0, 0, [], []⟩]⟩ = (⟨3, 2, 0, 0, 0, 0, [], []⟩, ⟨3, []⟩, true) := by kernel_rfl
  simp only [e4]
  refine ⟨_, _, _, c21 _ (by decide), ?_⟩
  refine Fk_t rfl (Fk_t (by kernel_rfl) (Fk_t (by kernel_rfl) (Fk_t (by kernel_rfl) (Fk_t rfl (Fk_t (by kernel_rfl) (Fk_t (by kernel_rfl) (Fk_t rfl (Fk_t rfl (Fk_t rfl (Fk_t rfl (Fk_t (by kernel_rfl) ?_)))))))))))
  refine ⟨_, c12 _, Fk_t (by kernel_rfl) ⟨_, (c12 ⟨0, []⟩).dull rfl, Fk_t (by kernel_rfl) ⟨_, c13 _ _, Fk_t (by kernel_rfl) ⟨_, c13 _ _, ?_⟩⟩⟩⟩
  rw [rvB]; kernel_rfl)
end Go.Proofs.Ytbphgomdjjkffaa.M
