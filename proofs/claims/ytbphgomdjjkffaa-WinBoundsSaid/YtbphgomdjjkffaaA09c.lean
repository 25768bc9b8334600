import Derived.Test.YtbphgomdjjkffaaA09b
set_option linter.all false
set_option linter.unusedVariables false
set_option linter.unusedSimpArgs false
set_option linter.unnecessarySimpa false
namespace Go.Proofs.Ytbphgomdjjkffaa.M
open Go Go.Mir Go.Proofs

theorem fL8 (l : List Item) : allN 8 (l.map eItem) = true := allN_map (e := eItem) (n := 8) (fun _ => rfl) l
theorem nL8 (l : List Item) : okNews 8 (l.map eItem) = true := okNews_map (e := eItem) (n := 8) (fun _ => rfl) (fun _ => rfl) l
def sameW (a b : Win) : Bool := a.next == b.next && rowEq sameI a.l b.l
theorem c13 (a b : Win) : Cl 13 [eWin a, eWin b] [.pv (B (sameW a b))] := t13 _ _ (by
  refine Fk_of (fun h => ⟨_, c28 _ _, ?_⟩) fun h => ?_ <;> simp [rvB, sameW, *])
theorem c14 (a b : Win) : Cl 14 [eWin a, eWin b] [.pv (B (sameW a b))] := t14 _ _ (by
  refine ⟨_, c30 _ _, Fk_of (fun h => ?_) fun h => ?_⟩ <;> simp [rvB, sameW, *])
def newW : Win := ⟨1, []⟩
theorem c15 : Cl 15 [] [.pv (eWin newW)] := t15 (.dull rfl)
theorem c16 : Cl 16 [] [.pv (eWin newW)] := t16 (.dull rfl)
/-- Items that may be, each above the one ahead, from low on. -/
def asc (low : Int) : List Item → Bool
  | [] => true
  | x :: r => mayI x && decide (low ≤ x.seq) && asc (x.seq + 1) r
def rightW (w : Win) : Bool := decide (1 ≤ w.next) && decide (w.next ≤ 4611686018427387905) && decide ((w.l.length : Int) ≤ 64) && asc w.next w.l
theorem may_seq {x : Item} (h : mayI x = true) : 1 ≤ x.seq ∧ x.seq ≤ 4611686018427387904 := by
  simp [mayI, within] at h; omega
theorem c12 (w : Win) : Cl 12 [eWin w] [.pv (B (rightW w))] := t12 _ (by
  unfold P12
  simp only [Ln, SmA_true, true_and, List.length_map, rvB]
  intro hl
  refine Lo_drop w.l (fun i r v => ∃ low, v = (low, (i : Int), (), ()) ∧ asc w.next w.l = asc low r) ?_ ?_ ⟨_, rfl, rfl⟩
  · rintro L _ ⟨low, rfl, he⟩
    refine Fk_f (by simp) ?_
    simp only [rightW, he, asc, Bool.and_true]
    refine Fk_of (fun h1 => Fk_of (fun h2 => ?_) fun h2 => ?_) fun h1 => ?_ <;> simp only [rvB, *, Bool.true_and, Bool.false_and, Bool.and_false]
  · rintro L i a r _ hi ha _ ⟨low, rfl, he⟩ hL
    refine Fk_t (by simpa using hi) (Ix_nat ha ⟨_, c27 _, Fk_of (fun h => ?_) fun h => Fk_of (fun h' => ?_) fun h' => hL _ ⟨a.seq + 1, ?_⟩⟩)
    · simp at h; simp [rvB, rightW, he, asc, h]
    · have : ¬ low ≤ a.seq := by simp at h'; omega
      simp [rvB, rightW, he, asc, this]
    · have hm : mayI a = true := by simpa using h
      have := may_seq hm
      have hlow : low ≤ a.seq := by simp at h'; omega
      refine ⟨?_, by rw [he]; simp [asc, hm, hlow]⟩
      rw [w64_id (n := a.seq + 1) (by omega) (by omega)]
      simp only [w64_succ hi hl])
end Go.Proofs.Ytbphgomdjjkffaa.M
