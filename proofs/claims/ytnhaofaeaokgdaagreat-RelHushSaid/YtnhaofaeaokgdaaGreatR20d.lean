import Derived.Test.YtnhaofaeaokgdaaGreatR20c
set_option linter.all false
set_option linter.unusedVariables false
set_option linter.unusedSimpArgs false
set_option linter.unnecessarySimpa false
namespace Go.Proofs.YtnhaofaeaokgdaaGreat.M
open Go Go.Mir Go.Proofs

/-! ### Questions -/
def hushA (a : Ask) (now wait : Int) : Ask := if a.due = 0 then a else ⟨imax a.due (w64 (now + wait))⟩
theorem c87 (a : Ask) (now wait : Int) : Cl 87 [eAsk a, I now, I wait] [.pv (eAsk (hushA a now wait))] := t87 _ _ _ (by
  simp only [P87, Jn, SmA_true, true_and]
  refine Fk_of (fun h => ?_) fun h => ?_
  · have : a.due ≠ 0 := by simpa using h
    rw [hushA, if_neg this]; exact .refl _
  · have : a.due = 0 := by simpa using h
    rw [hushA, if_pos this]; exact .refl _)
theorem c41 (a : Ask) (now wait : Int) : Cl 41 [eAsk a, I now, I wait] [.pv (eAsk (hushA a now wait))] := t41 _ _ _ (by
  simp only [P41, Jn, SmA_true, true_and]
  refine Fk_of (fun h => Fk_of (fun h' => ?_) fun h' => ?_) fun h => ?_
  · have : a.due ≠ 0 := by simpa using h
    rw [hushA, if_neg this, imax, if_pos (by simpa using h')]; exact .refl _
  · have : a.due ≠ 0 := by simpa using h
    rw [hushA, if_neg this, imax, if_neg (by simpa using h')]; exact .refl _
  · have : a.due = 0 := by simpa using h
    rw [hushA, if_pos this]; exact .refl _)
def stepA (a : Ask) (now wait : Int) (gap : Bool) : Ask × Bool :=
  if gap = false then (⟨0⟩, false) else if a.due = 0 then (⟨w64 (now + 1)⟩, false) else if a.due ≤ now then (⟨w64 (now + wait)⟩, true) else (a, false)
theorem w64_sub_add (n : Int) (h : -9223372036854775808 < n) (h' : n ≤ 9223372036854775807) : w64 (w64 (w64 n - 1) + 1) = w64 n := by
  rw [w64_id (n := n) (by omega) (by omega), w64_id (n := n - 1) (by omega) (by omega), show n - 1 + 1 = n by omega, w64_id (by omega) (by omega)]
theorem c49 (a : Ask) (now wait : Int) (gap : Bool) (h1 : 0 ≤ now) (h2 : now ≤ 4611686018427387904) (h3 : 0 ≤ wait) (h4 : wait ≤ 1000) : Cl 49 [eAsk a, I now, I wait, B gap] [.pv (eAsk (stepA a now wait gap).1), .pv (B (stepA a now wait gap).2)] := t49 _ _ _ _ (by
  simp only [P49, Jn, SmA_true, true_and]
  refine Fk_of (fun h => ?_) fun h => ⟨_, t103a _ _ (Φ := fun r => RvsLe r [.pv (B (a.due != 0 && decide (a.due ≤ now)))]) ?_, Fk_of (fun h' => ?_) fun h' => Fk_of (fun h'' => ?_) fun h'' => ?_⟩
  · have : gap = false := by simpa using h
    rw [stepA, if_pos this]; exact .refl _
  · refine Fk_of (fun h => ?_) fun h => ?_
    · simp only [h, Bool.true_and]; exact .refl _
    · simp only [h, Bool.false_and]; exact .refl _
  · have hg : gap = true := by simpa using h
    simp only [Bool.and_eq_true, bne_iff_ne, ne_eq, decide_eq_true_eq] at h'
    refine Fk_f rfl ?_
    rw [stepA, if_neg (by simp [hg]), if_neg h'.1, if_pos h'.2, w64_sub_add (now + wait) (by omega) (by omega)]
    exact .refl _
  · have hg : gap = true := by simpa using h
    have : a.due = 0 := by simpa using h''
    refine Fk_t rfl ?_
    rw [stepA, if_neg (by simp [hg]), if_pos this]
    exact .refl _
  · have hg : gap = true := by simpa using h
    have hd : a.due ≠ 0 := by simpa using h''
    have : ¬ a.due ≤ now := by simp [hd] at h'; omega
    rw [stepA, if_neg (by simp [hg]), if_neg hd, if_neg this]
    exact .refl _)
theorem c53 (a : Ask) (now wait : Int) (gap : Bool) : Cl 53 [eAsk a, I now, I wait, B gap] [.pv (eAsk (stepA a now wait gap).1), .pv (B (stepA a now wait gap).2)] := t53 _ _ _ _ (by
  refine Fk_of (fun h => ?_) fun h => Fk_of (fun h' => ?_) fun h' => Fk_of (fun h'' => ?_) fun h'' => ?_
  · have : gap = false := by simpa using h
    rw [stepA, if_pos this]; exact .refl _
  · have hg : gap = true := by simpa using h
    have : a.due = 0 := by simpa using h'
    rw [stepA, if_neg (by simp [hg]), if_pos this]; exact .refl _
  · have hg : gap = true := by simpa using h
    have : a.due ≠ 0 := by simpa using h'
    rw [stepA, if_neg (by simp [hg]), if_neg this, if_pos (by simpa using h'')]; exact .refl _
  · have hg : gap = true := by simpa using h
    have : a.due ≠ 0 := by simpa using h'
    rw [stepA, if_neg (by simp [hg]), if_neg this, if_neg (by simpa using h'')]; exact .refl _)

/-! ### Rows, by the document -/
theorem c98 (a b : List Int) : Cl 98 [lI a, lI b] [.pv (I ((max a.length b.length : Nat) : Int))] := t98 _ _ (by
  unfold P98
  simp only [Ln, List.length_map, rvI]
  exact fun _ _ => Fk_of (fun h => by simp at h; omega) fun h => by simp at h; omega)
theorem c99 (l : List Int) (i : Nat) : Cl 99 [lI l, I i] [.pv (I (atN l i))] := t99 _ _ (by
  simp only [P99, Jn, Ln, SmA_true, true_and, List.length_map]
  intro hl
  refine Fk_t (by simp) (Fk_of (fun h => ?_) fun h => ?_)
  · have hi : i < l.length := by simpa using h
    refine Ix_nat (List.getElem?_eq_getElem hi) ?_
    simp only [rvI, atN, List.getElem?_eq_getElem hi]; rfl
  · have hi : l.length ≤ i := by simpa using h
    simp only [rvI, atN, List.getElem?_eq_none hi]; rfl)
theorem take_zip {α : Type} (l : List α) (i : Nat) (x : α) (h : l[i]? = some x) : l.take (i + 1) = l.take i ++ [x] := by rw [List.take_add_one, h]; rfl
theorem c43 (a b : List Int) (ha : a.length ≤ 1000000) (hb : b.length ≤ 1000000) : Cl 43 [lI a, lI b] [.pv (lI (maxV a b))] := t43 _ _ (by
  simp only [P43, SmA_true, true_and]
  have hz := zipV_len max a b
  refine Lo_up (max a.length b.length) (fun i v => v = (((maxV a b).take i).map I, (i : Int), ())) ?_ (i := 0) (Nat.zero_le _) (by simp)
  rintro L i _ hi rfl hL
  refine ⟨_, c98 _ _, Fk_of (fun h => ⟨_, c99 _ _, _, c99 _ _, ?_⟩) fun h => ?_⟩
  · have hlt : i < max a.length b.length := by simpa using h
    have hg : (maxV a b)[i]? = some (max (atN a i) (atN b i)) := zipV_get max a b hlt
    refine Jn_mid (fun v => v = (((maxV a b).take i).map I, (i : Int), max (atN a i) (atN b i), ())) ?_ ?_
    · intro j hj
      refine Fk_of (fun h => hj _ ?_) fun h => hj _ ?_
      · simp at h; rw [show max (atN a i) (atN b i) = atN b i by omega]
      · simp at h; rw [show max (atN a i) (atN b i) = atN a i by omega]
    · rintro _ rfl
      refine Sz_of (by simp [maxV, hz]; omega) (hL _ hlt ?_)
      rw [take_zip _ _ _ hg, w64_succ hlt (by omega)]; simp
  · have : i = max a.length b.length := by simp at h; omega
    have ht : (maxV a b).take i = maxV a b := List.take_of_length_le (by simp [maxV, hz]; omega)
    simp only [ht]
    exact .cons (.toRow _ _ _) .nil)
end Go.Proofs.YtnhaofaeaokgdaaGreat.M
