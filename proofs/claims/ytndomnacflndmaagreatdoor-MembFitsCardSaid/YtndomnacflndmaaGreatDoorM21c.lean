import Derived.Test.YtndomnacflndmaaGreatDoorM21b
set_option linter.all false
set_option linter.unusedVariables false
set_option linter.unusedSimpArgs false
set_option linter.unnecessarySimpa false
namespace Go.Proofs.YtndomnacflndmaaGreatDoor.M
open Go Go.Mir Go.Proofs
set_option maxHeartbeats 4000000

/-! ### The same record twice (the reference's Same at equal arguments) -/
theorem loop_same {F : (Int × Unit → Prop) → Int × Unit → Prop} (n : Nat) (hn : n ≤ 9223372036854775807)
    (h : ∀ (L : Int × Unit → Prop) (i : Nat), (i < n → L (w64 ((i : Int) + 1), ())) → F L ((i : Int), ())) : Lo F (0, ()) := by
  refine Lo_up n (fun i v => v = ((i : Int), ())) (fun L i v hi hv hL => ?_) (i := 0) (Nat.zero_le _) rfl
  subst hv
  exact h L i fun hlt => by rw [w64_succ hlt hn]; exact hL _ hlt rfl
theorem sameL (l : List Int) : Cl 18 [lI l, lI l] [.pv (B true)] := t18 _ _ (by
  unfold P18
  simp only [Ln, SmA_true, true_and, List.length_map]
  intro hn _
  refine Fk_of (fun h => by simp at h) fun _ => loop_same l.length hn fun L i hL => Fk_of (fun h => ?_) fun _ => .refl _
  have hlt : i < l.length := by simpa using h
  exact Ix_nat (List.getElem?_eq_getElem hlt) (Ix_nat (List.getElem?_eq_getElem hlt) (Fk_of (fun h => by simp at h) fun _ => hL hlt)))
theorem sameIt (x : Item) : Cl 169 [eItem x, eItem x] [.pv (B true)] := t169 _ _ (by
  refine ⟨_, sameL _, Fk_t rfl (Fk_t (by simp) (Fk_t (by simp) (Fk_t (by simp) (Fk_t (by simp) (Fk_t (by simp) (Fk_t (by simp) (By_map (By_map (rvB.2 (by simp)))))))))) ⟩)
theorem sameIts (l : List Item) : Cl 117 [lItem l, lItem l] [.pv (B true)] := t117 _ _ (by
  unfold P117
  simp only [Ln, SmA_true, true_and, List.length_map]
  intro hn _
  refine Fk_of (fun h => by simp at h) fun _ => loop_same l.length hn fun L i hL => Fk_of (fun h => ?_) fun _ => .refl _
  have hlt : i < l.length := by simpa using h
  exact Ix_nat (List.getElem?_eq_getElem hlt) (Ix_nat (List.getElem?_eq_getElem hlt) ⟨_, sameIt _, Fk_of (fun h => by simp at h) fun _ => hL hlt⟩))
theorem sameKp (k : Keep) : Cl 63 [eKeep k, eKeep k] [.pv (B true)] := t63 _ _ ⟨_, sameIts _, Fk_t rfl (rvB.2 (by simp))⟩
theorem sameRows (l : List (List Int)) : Cl 64 [llI l, llI l] [.pv (B true)] := t64 _ _ (by
  unfold P64
  simp only [Ln, SmA_true, true_and, List.length_map]
  intro hn _
  refine Fk_of (fun h => by simp at h) fun _ => loop_same l.length hn fun L i hL => Fk_of (fun h => ?_) fun _ => .refl _
  have hlt : i < l.length := by simpa using h
  exact Ix_nat (List.getElem?_eq_getElem hlt) (Ix_nat (List.getElem?_eq_getElem hlt) ⟨_, sameL _, Fk_of (fun h => by simp at h) fun _ => hL hlt⟩))
theorem sameWn (k : Win) : Cl 65 [eWin k, eWin k] [.pv (B true)] := t65 _ _ ⟨_, sameIts _, Fk_t rfl (rvB.2 (by simp))⟩
theorem loop_same3 {F : (Int × Unit × Unit × Unit → Prop) → Int × Unit × Unit × Unit → Prop} (n : Nat) (hn : n ≤ 9223372036854775807)
    (h : ∀ (L : Int × Unit × Unit × Unit → Prop) (i : Nat), (i < n → L (w64 ((i : Int) + 1), (), (), ())) → F L ((i : Int), (), (), ())) : Lo F (0, (), (), ()) := by
  refine Lo_up n (fun i v => v = ((i : Int), (), (), ())) (fun L i v hi hv hL => ?_) (i := 0) (Nat.zero_le _) rfl
  subst hv
  exact h L i fun hlt => by rw [w64_succ hlt hn]; exact hL _ hlt rfl
theorem sameRl (r : Rel) : Cl 32 [eRel r, eRel r] [.pv (B true)] := t32 _ _ (by
  unfold P32
  simp only [Ln, SmA_true, true_and, List.length_map]
  refine ⟨_, sameKp _, _, sameL _, _, sameL _, _, sameRows _, ?_⟩
  intro _ hw _ ha _ _ _ _ _ _ _ _
  refine Fk_f rfl (Fk_f rfl (Fk_f rfl (Fk_f rfl (Fk_f (by simp) (Fk_f (by simp) (Fk_f (by simp) (Fk_f (by simp) (Fk_f (by simp) ?_))))))))
  refine loop_same3 _ hw fun L i hL => Fk_of (fun h => ?_) fun _ => loop_same3 _ ha fun L i hL => Fk_of (fun h => ?_) fun _ => .refl _
  · have hlt : i < r.win.length := by simpa using h
    exact Ix_nat (List.getElem?_eq_getElem hlt) (Ix_nat (List.getElem?_eq_getElem hlt) ⟨_, sameWn _, Fk_f rfl (hL hlt)⟩)
  · have hlt : i < r.ask.length := by simpa using h
    exact Ix_nat (List.getElem?_eq_getElem hlt) (Ix_nat (List.getElem?_eq_getElem hlt) (Fk_f (by simp) (hL hlt))))
theorem samePcs (l : List (List UInt8)) : Cl 66 [llU8 l, llU8 l] [.pv (B true)] := t66 _ _ (by
  unfold P66
  simp only [Ln, SmA_true, true_and, List.length_map]
  intro hn _
  refine Fk_of (fun h => by simp at h) fun _ => loop_same l.length hn fun L i hL => Fk_of (fun h => ?_) fun _ => .refl _
  have hlt : i < l.length := by simpa using h
  exact Ix_nat (List.getElem?_eq_getElem hlt) (By_map (Ix_nat (List.getElem?_eq_getElem hlt) (By_map (Fk_f (by simp) (hL hlt))))))
theorem sameQ (l : List (List UInt8)) : Cl 33 [llU8 l, llU8 l] [.pv (B true)] := t33 _ _ ⟨_, samePcs _, .refl _⟩
theorem sameEs (l : List Entry) : Cl 118 [lEntry l, lEntry l] [.pv (B true)] := t118 _ _ (by
  unfold P118
  simp only [Ln, SmA_true, true_and, List.length_map]
  intro hn _
  refine Fk_of (fun h => by simp at h) fun _ => loop_same l.length hn fun L i hL => Fk_of (fun h => ?_) fun _ => .refl _
  have hlt : i < l.length := by simpa using h
  have e := List.getElem?_eq_getElem hlt
  exact Ix_nat e (Ix_nat e ⟨_, sameL _, Fk_f rfl (Ix_nat e (Ix_nat e (Fk_f (by simp) (Ix_nat e (Ix_nat e (Fk_f (by simp) (Ix_nat e (By_map (Ix_nat e (By_map (Fk_f (by simp) (Ix_nat e (Ix_nat e (Fk_f (by simp) (hL hlt)))))))))))))))⟩))
theorem samePt (x : Part) : Cl 119 [ePart x, ePart x] [.pv (B true)] := t119 _ _ (by
  refine Fk_t (by simp) (Fk_t (by simp) (Fk_t (by simp) (By_map (By_map (rvB.2 (by simp)))))))
theorem sameLn (x : Lane) : Cl 67 [eLane x, eLane x] [.pv (B true)] := t67 _ _ ⟨_, sameEs _, _, samePt _, Fk_t rfl (.refl _)⟩
theorem sameLns (l : List Lane) : Cl 34 [lLane l, lLane l] [.pv (B true)] := t34 _ _ (by
  unfold P34
  simp only [Ln, SmA_true, true_and, List.length_map]
  intro hn _
  refine Fk_of (fun h => by simp at h) fun _ => loop_same l.length hn fun L i hL => Fk_of (fun h => ?_) fun _ => .refl _
  have hlt : i < l.length := by simpa using h
  have e := List.getElem?_eq_getElem hlt
  exact Ix_nat e (Ix_nat e ⟨_, sameLn _, Fk_f rfl (hL hlt)⟩))
theorem sameYes (l : List Bool) : Cl 68 [lB l, lB l] [.pv (B true)] := t68 _ _ (by
  unfold P68
  simp only [Ln, SmA_true, true_and, List.length_map]
  intro hn _
  refine Fk_of (fun h => by simp at h) fun _ => loop_same l.length hn fun L i hL => Fk_of (fun h => ?_) fun _ => .refl _
  have hlt : i < l.length := by simpa using h
  have e := List.getElem?_eq_getElem hlt
  exact Ix_nat e (Ix_nat e (Fk_f (by simp) (hL hlt))))
theorem sameBr (x : Barrier) : Cl 35 [eBarrier x, eBarrier x] [.pv (B true)] := t35 _ _ (by
  refine ⟨_, sameYes _, _, sameL _, _, sameL _, Fk_t rfl (Fk_t rfl (Fk_t rfl (Fk_t (by simp) (Fk_t (by simp) (rvB.2 (by simp))))))⟩)
theorem sameDs (l : List Deliv) : Cl 36 [lDeliv l, lDeliv l] [.pv (B true)] := t36 _ _ (by
  unfold P36
  simp only [Ln, SmA_true, true_and, List.length_map]
  intro hn _
  refine Fk_of (fun h => by simp at h) fun _ => loop_same l.length hn fun L i hL => Fk_of (fun h => ?_) fun _ => .refl _
  have hlt : i < l.length := by simpa using h
  have e := List.getElem?_eq_getElem hlt
  exact Ix_nat e (Ix_nat e (Fk_f (by simp) (Ix_nat e (By_map (Ix_nat e (By_map (Fk_f (by simp) (hL hlt)))))))))
theorem sameMm (m : Memb) : Cl 9 [eMemb m, eMemb m] [.pv (B true)] := t9 _ _ (by
  refine ⟨_, sameRl _, _, sameQ _, _, sameLns _, _, sameBr _, _, sameDs _, Fk_f rfl (Fk_f rfl (Fk_f rfl (Fk_f rfl (Fk_f rfl (Fk_f (by simp) (Fk_f (by simp) (Fk_f (by simp) (Fk_f (by simp) (Fk_f (by simp) ?_)))))))))⟩
  exact Fk_t (by simp) (Fk_t (by simp) (Fk_t (by simp) (Fk_t (by simp) (Fk_t (by simp) (Fk_t (by simp) (rvB.2 (by simp))))))))

/-! ### The beginning -/
noncomputable def newK : Keep := ⟨1, []⟩
noncomputable def newW : Win := ⟨1, []⟩
noncomputable def newR (me : Int) (n : Nat) : Rel := ⟨me, 0, newK, List.replicate n newW, List.replicate n 0, List.replicate n ⟨0⟩, List.replicate n (List.replicate n 0), [], 0⟩
theorem c59 : Cl 59 [] [.pv (eKeep newK)] := t59 (.dull rfl)
theorem c60 : Cl 60 [] [.pv (eWin newW)] := t60 (.dull rfl)
theorem c61 : Cl 61 [] [.pv (eKeep newK)] := t61 (.dull rfl)
theorem c62 : Cl 62 [] [.pv (eWin newW)] := t62 (.dull rfl)
theorem mk_small {b n : Nat} {K : Prop} (hb : b ≤ 1000) (h : n ≤ 1000) (hk : K) : Mk b n n K := by
  unfold Mk
  have : b * n ≤ 1000 * 1000 := Nat.mul_le_mul hb h
  have : ((b : Int) * (n : Int)) ≤ 1000000 := by rw [← Int.natCast_mul]; omega
  exact ⟨by omega, by omega, by omega, by omega, hk⟩
theorem fillg {l : List PV} {x : PV} {i : Nat} (h : i < l.length) : (l.take i ++ List.replicate (l.length - i) x)[i]? = some x := by
  rw [List.getElem?_append_right (by rw [List.length_take]; exact Nat.min_le_left _ _), List.getElem?_replicate, if_pos (by simp only [List.length_take]; omega)]
theorem fills {y x : PV} {n i : Nat} (h : i < n) : ((List.replicate n y).take i ++ List.replicate (n - i) x).set i y = (List.replicate n y).take (i + 1) ++ List.replicate (n - (i + 1)) x := by
  rw [List.set_append, if_neg (by simp; omega)]
  simp only [List.take_replicate, List.length_replicate]
  rw [show i - min i n = 0 by omega, show n - i = (n - (i + 1)) + 1 by omega, List.replicate_succ, List.set_cons_zero, show min i n = i by omega, show min (i + 1) n = i + 1 by omega, List.replicate_succ' , List.append_assoc]; rfl
theorem c21 (me : Int) (n : Nat) (h : n ≤ 1000) : Cl 21 [I me, I n] [.pv (eRel (newR me n))] := t21 _ _ (by
  unfold P21
  simp only [SmA_true, true_and]
  refine ⟨_, c59, mk_small (by omega) h (mk_small (by omega) h (mk_small (by omega) h (mk_small (by omega) h ?_)))⟩
  simp only [Int.toNat_natCast]
  refine Lo_up n (fun i v => v = ((i : Int), (), (1, [], (List.replicate n (eWin newW)).take i ++ List.replicate (n - i) (.agg [I 0, .sl true []]), List.replicate n (I 0), List.replicate n (.agg [I 0]), (List.replicate n (lI (List.replicate n 0))).take i ++ List.replicate (n - i) (.sl true []), ()), ())) ?_ (i := 0) (Nat.zero_le _) (by simp [newK])
  rintro L i _ hi rfl hL
  refine Fk_of (fun h' => ?_) fun h' => ?_
  · have hlt : i < n := by simp only [decide_eq_true_eq] at h'; omega
    refine ⟨_, c60, Rx_nat (by simp; omega) ?_⟩
    rw [Nat.zero_add, Int.toNat_natCast]
    refine ⟨(I 0, .sl true []), by have := fillg (l := List.replicate n (eWin newW)) (x := .agg [I 0, .sl true []]) (i := i) (by simpa using hlt); simpa using this, mk_small (by omega) h (Rx_nat (by simp; omega) ?_)⟩
    refine ⟨(true, []), by have := fillg (l := List.replicate n (lI (List.replicate n 0))) (x := .sl true []) (i := i) (by simpa using hlt); simpa using this, ?_⟩
    have e : lI (List.replicate n 0) = .sl false (List.replicate n (I 0)) := by simp [lI]
    rw [fills hlt, ← e, fills hlt, w64_succ hlt (by omega)]
    exact hL _ hlt rfl
  · have hin : i = n := by simp only [decide_eq_false_iff_not] at h'; omega
    subst hin
    simp only [List.length_replicate, Nat.sub_self, List.replicate_zero, List.append_nil]
    rw [List.take_of_length_le (by simp), List.take_of_length_le (by simp)]
    refine .dull ?_
    simp only [newR, eRel, lWin, lAsk, lI, List.map_replicate]
    rfl)
theorem sz_small {m b c : Nat} {K : Prop} (hm : m ≤ 1000) (hb : b ≤ 1000) (hc : c ≤ 1000) (hk : K) : Sz m b c K := by
  unfold Sz
  have : (m + b) * c ≤ 2000 * 1000 := Nat.mul_le_mul (by omega) hc
  exact ⟨by omega, hk⟩
theorem c24 (me : Int) (n : Nat) (h : n ≤ 1000) : Cl 24 [I me, I n] [.pv (eRel (newR me n))] := t24 _ _ (by
  unfold P24
  simp only [SmA_true, true_and]
  refine ⟨_, c61, ?_⟩
  refine Lo_up n (fun i v => v = ((i : Int), (), (1, [], List.replicate i (eWin newW), List.replicate i (I 0), List.replicate i (.agg [I 0]), List.replicate i (lI (List.replicate n 0)), ()), ())) ?_ (i := 0) (Nat.zero_le _) (by simp [newK])
  rintro L i _ hi rfl hL
  refine Fk_of (fun h' => ?_) fun h' => ?_
  · have hlt : i < n := by simp only [decide_eq_true_eq] at h'; omega
    simp only [List.length_replicate, Int.toNat_natCast]
    refine ⟨_, c62, sz_small (by omega) (by omega) (by omega) (sz_small (by omega) (by omega) (by omega) (sz_small (by omega) (by omega) (by omega) (mk_small (by omega) h (sz_small (by omega) (by omega) (by omega) ?_))))⟩
    rw [w64_succ hlt (by omega)]
    refine hL _ hlt ?_
    simp only [List.replicate_succ', lI, List.map_replicate]
  · have hin : i = n := by simp only [decide_eq_false_iff_not] at h'; omega
    subst hin
    refine .dull ?_
    simp only [newR, eRel, lWin, lAsk, lI, List.map_replicate]
    rfl)
noncomputable def newB (n : Nat) : Barrier := ⟨false, 0, List.replicate n false, List.replicate n 0, false, []⟩
theorem c23 (n : Nat) (h : n ≤ 1000) : Cl 23 [I n] [.pv (eBarrier (newB n))] := t23 _ (by
  refine mk_small (by omega) h (mk_small (by omega) h ?_)
  refine .dull ?_
  simp only [Int.toNat_natCast, newB, eBarrier, List.map_replicate]
  rfl)
theorem c26 (n : Nat) (h : n ≤ 1000) : Cl 26 [I n] [.pv (eBarrier (newB n))] := t26 _ (by
  refine mk_small (by omega) h (mk_small (by omega) h ?_)
  refine .dull ?_
  simp only [Int.toNat_natCast, newB, eBarrier, List.map_replicate]
  rfl)
end Go.Proofs.YtndomnacflndmaaGreatDoor.M
