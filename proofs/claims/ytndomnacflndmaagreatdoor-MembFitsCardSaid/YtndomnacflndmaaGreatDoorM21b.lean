import Derived.Test.YtndomnacflndmaaGreatDoorM21a
set_option linter.all false
set_option linter.unusedVariables false
set_option linter.unusedSimpArgs false
set_option linter.unnecessarySimpa false
namespace Go.Proofs.YtndomnacflndmaaGreatDoor.M
open Go Go.Mir Go.Proofs
set_option maxHeartbeats 4000000

theorem c7 (c : Conf) (hm : c.msg ≤ 9223372036854775807) : Cl 7 [eConf c] [.pv (B (fits c))] := t7 _ (by
  unfold P7
  repeat' first
    | refine ⟨_, c20 _ _ _, ?_⟩
    | refine ⟨_, c27 _ _ hm, ?_⟩
    | refine ⟨_, c22 _ _, ?_⟩
    | refine ⟨_, c28 _ _ _ _, ?_⟩
    | refine Fk_of (fun h => ?_) fun h => ?_
    | exact rvB.2 (by simp only [fits, *, Bool.and_true, Bool.true_and, Bool.false_and, Bool.and_false]))
theorem c8 (c : Conf) (hm : c.msg ≤ 9223372036854775807) : Cl 8 [eConf c] [.pv (B (fits c))] := t8 _ (by
  unfold P8
  have hlt : (decide (c.msg < 0)) = !decide (0 ≤ c.msg) := by rw [Bool.eq_iff_iff]; simp
  rw [hlt]
  repeat' first
    | refine ⟨_, c29 _ _ _, ?_⟩
    | refine ⟨_, c30 _ _ hm, ?_⟩
    | refine ⟨_, c31' _ _ _, ?_⟩
    | refine Fk_of (fun h => ?_) fun h => ?_
    | exact rvB.2 (by simp only [Bool.not_eq_true', Bool.not_eq_false'] at *; simp only [fits, *, Bool.and_true, Bool.true_and, Bool.false_and, Bool.and_false]))
end Go.Proofs.YtndomnacflndmaaGreatDoor.M
