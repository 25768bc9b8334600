import Derived.Test.YtbphgomdjjkffaaA09e
set_option linter.all false
set_option linter.unusedVariables false
set_option linter.unusedSimpArgs false
set_option linter.unnecessarySimpa false
namespace Go.Proofs.Ytbphgomdjjkffaa.M
open Go Go.Mir Go.Proofs

def zI : Item := ⟨0, 0, 0, 0, 0, 0, [], []⟩
def insW (w : Win) (x : Item) : Win := ⟨w.next, w.l.take (below x.seq w.l) ++ x :: w.l.drop (below x.seq w.l)⟩
def putW (w : Win) (x : Item) (last : Int) : Win × Bool := if mayI x = false ∨ x.seq < w.next ∨ last < x.seq ∨ 64 ≤ w.l.length ∨ found w.l x.seq = true then (w, false) else (insW w x, true)
theorem c17 (w : Win) (x : Item) (last : Int) : Cl 17 [eWin w, eItem x, I last] [.pv (eWin (putW w x last).1), .pv (B (putW w x last).2)] := t17 _ _ _ (by
  simp only [P17, Ln, List.length_map]
  intro hl
  have no : (mayI x = false ∨ x.seq < w.next ∨ last < x.seq ∨ 64 ≤ w.l.length ∨ found w.l x.seq = true) → RvsLe [.pv (eWin w), .pv (B false)] [.pv (eWin (putW w x last).1), .pv (B (putW w x last).2)] := fun h => by
    rw [putW, if_pos h]; exact .refl _
  refine ⟨_, c27 _, Fk_of (fun h => no (.inl (by simpa using h))) fun h1 => Fk_of (fun h => no (.inr (.inl (by simpa using h)))) fun h2 => Fk_of (fun h => no (.inr (.inr (.inl (by simpa using h))))) fun h3 => Fk_of (fun h => no (.inr (.inr (.inr (.inl (by simp at h; omega)))))) fun h4 =>
    ⟨_, _, c31 w x.seq, Fk_of (fun h => no (.inr (.inr (.inr (.inr h))))) fun h5 => ?_⟩⟩
  simp at h1 h2 h3 h4
  have hb := below_le x.seq w.l
  have c := c32 [w.l.take (below x.seq w.l), [x], w.l.drop (below x.seq w.l)] (by simp; omega)
  simp only [lItem, List.map_cons, List.map_nil, List.map_take, List.map_drop] at c
  refine ⟨by omega, by simpa using hb, by omega, by simpa using hb, fL8 _, _, c, ?_⟩
  · have e : putW w x last = (insW w x, true) := if_neg (by simp [h1, h5]; omega)
    rw [e]
    refine .dull ?_
    simp [RV.dull, PV.dull, PV.dull1, insW])
end Go.Proofs.Ytbphgomdjjkffaa.M
