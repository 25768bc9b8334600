import Derived.Test.YthohhkmlbjffgaaA08b
set_option linter.all false
set_option linter.unusedVariables false
set_option linter.unusedSimpArgs false
set_option linter.unnecessarySimpa false
namespace Go.Proofs.Ythohhkmlbjffgaa.M
open Go Go.Mir Go.Proofs


def getL (u : Int) : List Item → Item × Bool
  | [] => (zI, false)
  | x :: r => if x.seq == u then (x, true) else getL u r
theorem get_none {u : Int} : ∀ {l : List Item}, (∀ x ∈ l, (x.seq == u) = false) → getL u l = (zI, false)
  | [], _ => rfl
  | a :: r, h => by
    unfold getL
    rw [if_neg (by rw [h a List.mem_cons_self]; simp)]
    exact get_none fun x hx => h x (List.mem_cons_of_mem _ hx)
theorem get_at {u : Int} {x : Item} : ∀ {l : List Item} {j : Nat}, l[j]? = some x → (x.seq == u) = true → (∀ y ∈ l.take j, (y.seq == u) = false) → getL u l = (x, true)
  | [], j, h, _, _ => by simp at h
  | a :: r, 0, h, hx, _ => by simp at h; subst h; simp [getL, hx]
  | a :: r, j + 1, h, hx, hn => by
    unfold getL
    rw [if_neg (by rw [hn a (by simp)]; simp)]
    exact get_at (by simpa using h) hx fun y hy => hn y (by simp [hy])
theorem c20 (k : Keep) (u : Int) : Cl 20 [eKeep k, I u] [.pv (eItem (getL u k.l).1), .pv (B (getL u k.l).2)] := t20 _ _ (by
  refine ⟨_, c32b _ _, ?_⟩
  rcases place_spec (fun x => x.seq == u) k.l 0 with ⟨h1, h2⟩ | ⟨j, x, h1, h2, h3, h4⟩
  · rw [h1, get_none h2]
    exact Fk_t (by simp) (.dull rfl)
  · rw [h1, get_at h2 h3 h4]
    refine Fk_f (by simp) ?_
    rw [Nat.zero_add]
    exact Ix_nat h2 (.dull rfl))
theorem c21 (k : Keep) (u : Int) : Cl 21 [eKeep k, I u] [.pv (eItem (getL u k.l).1), .pv (B (getL u k.l).2)] := t21 _ _ (by
  simp only [P21, SmA_true, true_and, Ln, List.length_map]
  refine Lo_drop k.l (fun i r v => v = ((i : Int), (), (), ()) ∧ getL u k.l = getL u r) ?_ ?_ ⟨rfl, rfl⟩
  · rintro L _ ⟨rfl, he⟩ hl
    exact Fk_f (by simp) (by rw [he]; exact .dull rfl)
  · rintro L i a r _ hi ha _ ⟨rfl, he⟩ hL hl
    refine Fk_t (by simpa using hi) (Ix_nat ha (Fk_of (fun h => Ix_nat ha ?_) (fun h => hL _ ⟨?_, ?_⟩)))
    · rw [he]; unfold getL; rw [if_pos h]; exact .dull rfl
    · simp only [w64_succ hi hl]
    · rw [he]; simp [getL, h])
theorem c26 (k : Keep) (u : Int) (hk : k.l.length ≤ 1000) : Cl 26 [eKeep k, I u] [.pv (eKeep ⟨k.next, k.l.filter fun x => decide (u < x.seq)⟩)] := t26 _ _ (by
  simp only [P26, SmA_true, true_and, Ln, List.length_map, Jn]
  refine Lo_drop k.l (fun i r v => ∃ acc : List Item, v = (acc.map eItem, (i : Int), (), (), ()) ∧ acc.length ≤ i ∧ k.l.filter (fun x => decide (u < x.seq)) = acc ++ r.filter fun x => decide (u < x.seq)) ?_ ?_ ⟨[], rfl, by simp, rfl⟩
  · rintro L _ ⟨acc, rfl, _, he⟩ hl
    refine Fk_f (by simp) ?_
    rw [he]; simp only [List.filter_nil, List.append_nil]; exact .dull rfl
  · rintro L i a r _ hi ha _ ⟨acc, rfl, hn, he⟩ hL hl
    refine Fk_t (by simpa using hi) (Ix_nat ha (Fk_of (fun h => Ix_nat ha (Sz_of ?_ (hL _ ⟨acc ++ [a], ?_, ?_, ?_⟩))) (fun h => hL _ ⟨acc, ?_, ?_, ?_⟩)))
    · simp; omega
    · simp only [w64_succ hi hl, List.map_append, List.map_cons, List.map_nil]
    · simp; omega
    · rw [he]; simp at h; simp [h]
    · simp only [w64_succ hi hl]
    · omega
    · rw [he]; simp at h; simp [h])
theorem c16 : Cl 16 [] [.pv (eKeep ⟨1, []⟩)] := t16 (.dull rfl)
theorem c17 : Cl 17 [] [.pv (eKeep ⟨1, []⟩)] := t17 (.dull rfl)
def tokI : Item := ⟨3, 0, 0, 0, 0, 0, [], []⟩
theorem sameI_refl (a : Item) : sameI a a = true := by simp [sameI]
theorem rowEq_refl : ∀ l : List Item, rowEq sameI l l = true
  | [] => rfl
  | a :: r => by simp [rowEq, sameI_refl, rowEq_refl r]
theorem sameK_refl (k : Keep) : sameK k k = true := by simp [sameK, rowEq_refl]
theorem c9 : Cl 9 [] [.pv (B true)] := t9 (by
  have p1 := c18 ⟨1, []⟩ tokI 8 0
  have p2 := c18 ⟨2, [{ tokI with seq := 1 }]⟩ tokI 8 0
  have p3 := c18 ⟨3, [{ tokI with seq := 1 }, { tokI with seq := 2 }]⟩ tokI 8 6
  have p4 := c18 ⟨3, [{ tokI with seq := 1 }, { tokI with seq := 2 }]⟩ zI 8 6
  rw [show pushK ⟨1, []⟩ tokI 8 0 = (⟨2, [{ tokI with seq := 1 }]⟩, { tokI with seq := 1 }, 0) from rfl] at p1
  rw [show pushK ⟨2, [{ tokI with seq := 1 }]⟩ tokI 8 0 = (⟨3, [{ tokI with seq := 1 }, { tokI with seq := 2 }]⟩, { tokI with seq := 2 }, 0) from rfl] at p2
  rw [show pushK ⟨3, [{ tokI with seq := 1 }, { tokI with seq := 2 }]⟩ tokI 8 6 = (⟨3, [{ tokI with seq := 1 }, { tokI with seq := 2 }]⟩, zI, 4) from rfl] at p3
  rw [show pushK ⟨3, [{ tokI with seq := 1 }, { tokI with seq := 2 }]⟩ zI 8 6 = (⟨3, [{ tokI with seq := 1 }, { tokI with seq := 2 }]⟩, zI, 1) from rfl] at p4
  refine ⟨_, c16, _, _, _, p1.dull rfl, _, _, _, p2.dull rfl, _, c25 _ _, _, _, c20 _ _, _, _, c20 _ _, _, _, _, p3.dull rfl, _, _, _, p4.dull rfl, fun _ => ?_⟩
  refine Fk_t rfl (Fk_t rfl (Fk_t rfl (Fk_t rfl (Fk_t rfl (Fk_t rfl (Fk_t rfl (Fk_t rfl (Fk_t rfl (Fk_t rfl ⟨_, c22 _ _ _, Fk_t rfl ⟨_, c13 _, Fk_t rfl ⟨_, (c13 ⟨0, []⟩).dull rfl, Fk_t rfl ⟨_, c14 _ _, Fk_t rfl ⟨_, c14 _ _, .refl _⟩⟩⟩⟩⟩)))))))))
  )
/-- Of a stream that is right, what is above a number stands at its end. -/
theorem free_filter {n u : Int} : ∀ {l : List Item}, asc n l = true → freeL u l = l.filter fun x => decide (u < x.seq)
  | [], _ => rfl
  | a :: r, h => by
    simp only [asc, Bool.and_eq_true, beq_iff_eq] at h
    unfold freeL
    have all : ∀ {r : List Item} {m : Int}, asc n r = true → m < n - (r.length : Int) → ∀ x ∈ r, m < x.seq := by
      intro r
      induction r with
      | nil => intro m _ _ x hx; simp at hx
      | cons b t ih =>
        intro m hr hm x hx
        simp only [asc, Bool.and_eq_true, beq_iff_eq, List.length_cons] at hr hm
        rcases List.mem_cons.1 hx with rfl | hx
        · rw [hr.1.2]; omega
        · exact ih hr.2 (by omega) x hx
    by_cases hu : u < a.seq
    · rw [if_pos hu, List.filter_cons_of_pos (by simpa using hu)]
      congr 1
      refine (List.filter_eq_self.2 fun x hx => ?_).symm
      have := all h.2 (m := a.seq) (by rw [h.1.2]; omega) x hx
      simp; omega
    · rw [if_neg hu, List.filter_cons_of_neg (by simpa using hu)]
      exact free_filter h.2
theorem fewL_len {l : List Item} (h : fewL l = true) : l.length ≤ 1000 := by
  simp [fewL] at h; omega
theorem keepTells (x : KeepTellsIn) : Cl 3 [eKeepTellsIn x] [.pv (B true)] := t3 _ (by
  simp only [P3, rvB]
  refine ⟨_, c9, _, c10 _, Fk_of (fun _ => rfl) fun h1 => ⟨_, c10 _, Fk_of (fun _ => rfl) fun h2 => ⟨_, c11 _, Fk_of (fun _ => rfl) fun h3 => ⟨_, c12 _, _, c13 _, Fk_f (by simp) ⟨_, c14 _ _, _, c15 _ _, Fk_f (by simp) ⟨_, c16, _, c17, _, c15 _ _, Fk_f (by rw [sameK_refl]; rfl) (Fk_of (fun _ => rfl) fun h4 => ?_)⟩⟩⟩⟩⟩⟩
  simp only [Bool.not_eq_false'] at h1 h4
  have hf : freeL x.spare x.k.l = x.k.l.filter fun a => decide (x.spare < a.seq) := by
    simp [rightK] at h4; exact free_filter h4.2
  refine ⟨_, _, _, c18 _ _ _ _, _, _, _, c19 _ _ _ _, _, _, c20 _ _, _, _, c21 _ _, Fk_t rfl ⟨_, c22 _ _ _, _, c23 _ _ _, Fk_t (by simp) ⟨_, c15 _ _, Fk_t (sameK_refl _) ⟨_, c24 _ _, Fk_t (sameI_refl _) (Fk_t (by simp) ⟨_, c24 _ _, Fk_t (sameI_refl _) (Fk_t (by simp) ⟨_, c25 _ _, _, c26 _ _ (fewL_len h1), _, c15 _ _, ?_⟩)⟩)⟩⟩⟩⟩
  rw [hf]; exact sameK_refl _)
end Go.Proofs.Ythohhkmlbjffgaa.M
