import Derived.Test.YtbphgomdjjkffaaA09d
set_option linter.all false
set_option linter.unusedVariables false
set_option linter.unusedSimpArgs false
set_option linter.unnecessarySimpa false
namespace Go.Proofs.Ytbphgomdjjkffaa.M
open Go Go.Mir Go.Proofs

theorem c52 (n : Int) (h : 0 ≤ n) (h' : n ≤ 10000) : Cl 52 [.sl true [], I n] [.fresh 28 8 []] := t52a _ (by
  have e : w64 (n - 0) = n := by rw [Int.sub_zero, w64_id (by omega) (by omega)]
  refine Fk_f (by simp; omega) ?_
  refine Jn_mid (fun v => v = ([], ())) ?_ ?_
  · intro j hj
    rw [e]
    exact Fk_of (fun h0 => ⟨by simpa using h0, by omega, by omega, hj _ rfl⟩) fun _ => hj _ rfl
  · rintro _ rfl
    exact .row)
theorem c40 (ls : List (List Item)) (h : ls.flatten.length ≤ 1000) : Cl 40 [.sl false (ls.map lItem)] [.fresh 28 8 (ls.flatten.map eItem)] := t40 _ (by
  unfold P40
  simp only [Ln, SmA_true, true_and, List.length_map]
  intro hl
  refine Lo_drop ls (fun i r v => ∃ m : Nat, v = ((m : Int), (i : Int), ()) ∧ m + r.flatten.length = ls.flatten.length) ?_ ?_ ⟨0, rfl, by simp⟩
  · rintro L _ ⟨m, rfl, hm⟩
    refine Fk_f (by simp) ⟨[], c52 _ (by omega) (by have : (List.flatten ([] : List (List Item))).length = 0 := rfl; omega), ?_⟩
    refine Lo_drop ls (fun i r v => ∃ acc : List Item, v = (acc.map eItem, (i : Int), ()) ∧ acc ++ r.flatten = ls.flatten) ?_ ?_ ⟨[], rfl, by simp⟩
    · rintro L _ ⟨acc, rfl, ha⟩
      simp at ha
      exact Fk_f (by simp) (by rw [ha]; exact .row)
    · rintro L i a r _ hi ha _ ⟨acc, rfl, hacc⟩ hL
      have hlen : acc.length + a.length ≤ 1000 := by
        have := congrArg List.length hacc
        simp only [List.flatten_cons, List.length_append] at this; omega
      refine Fk_t (by simpa using hi) (Ix_nat ha (Ok_of (nL8 _) (Sz_of (by simp; omega) (hL _ ⟨acc ++ a, ?_, ?_⟩))))
      · simp only [w64_succ hi hl, List.map_append]
      · rw [← hacc]; simp
  · rintro L i a r _ hi ha _ ⟨m, rfl, hm⟩ hL
    simp only [List.flatten_cons, List.length_append] at hm
    have e : w64 ((m : Int) + (a.length : Int)) = ((m + a.length : Nat) : Int) := by rw [w64_id (by omega) (by omega)]; omega
    refine Fk_t (by simpa using hi) (Ix_nat ha ?_)
    intro _
    simp only [e]
    exact Fk_f (by simp; omega) (hL _ ⟨m + a.length, by simp only [w64_succ hi hl], by omega⟩))
theorem c32 (ls : List (List Item)) (h : ls.flatten.length ≤ 1000) : Cl 32 [.sl false (ls.map lItem)] [.fresh 28 8 (ls.flatten.map eItem)] := t32 _ ⟨_, c40 ls h, .row⟩
end Go.Proofs.Ytbphgomdjjkffaa.M
