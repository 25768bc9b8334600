import Derived.Test.YtemaikelagchcaaW07
set_option linter.all false
set_option linter.unusedVariables false
set_option linter.unusedSimpArgs false
set_option linter.unnecessarySimpa false
namespace Go.Proofs.Ytemaikelagchcaa.M
open Go Go.Mir Go.Proofs

theorem u8_mod (a : UInt8) (m : Int) (hm : 0 < m) : 0 ≤ Int.tmod (w64 (a.toNat : Int)) m ∧ Int.tmod (w64 (a.toNat : Int)) m < m := by
  have := a.toNat_lt
  rw [w64_id (by omega) (by omega)]
  exact ⟨Int.tmod_nonneg _ (by omega), Int.tmod_lt_of_pos _ hm⟩
theorem fold_le (i : Int) : ∀ (r : List (List Int)) (n : Int), r.foldl (fun n x => min n (atV x i)) n ≤ n ∧ ∀ a ∈ r, r.foldl (fun n x => min n (atV x i)) n ≤ atV a i
  | [], n => ⟨Int.le_refl _, fun a h => by cases h⟩
  | b :: r, n => by
    obtain ⟨h1, h2⟩ := fold_le i r (min n (atV b i))
    simp only [List.foldl_cons]
    refine ⟨by omega, fun a ha => ?_⟩
    rcases List.mem_cons.1 ha with rfl | ha
    · omega
    · exact h2 a ha
theorem fold_is (i : Int) : ∀ (r : List (List Int)) (n : Int), r.foldl (fun n x => min n (atV x i)) n = n ∨ ∃ a ∈ r, r.foldl (fun n x => min n (atV x i)) n = atV a i
  | [], n => .inl rfl
  | b :: r, n => by
    simp only [List.foldl_cons]
    rcases fold_is i r (min n (atV b i)) with h | ⟨a, ha, h⟩
    · rcases Int.le_total n (atV b i) with h' | h'
      · left; rw [h]; omega
      · right; exact ⟨b, by simp, by rw [h]; omega⟩
    · right; exact ⟨a, by simp [ha], h⟩
theorem least_le {l : List (List Int)} {i : Int} {a : List Int} (h : a ∈ l) : leastV l i ≤ atV a i := by
  cases l with
  | nil => cases h
  | cons b r =>
    have := fold_le i r (atV b i)
    simp only [leastV]
    rcases List.mem_cons.1 h with rfl | h
    · exact this.1
    · exact this.2 a h
theorem least_is {l : List (List Int)} (i : Int) (h : l ≠ []) : ∃ a ∈ l, leastV l i = atV a i := by
  cases l with
  | nil => exact absurd rfl h
  | cons b r =>
    simp only [leastV]
    rcases fold_is i r (atV b i) with h | ⟨a, ha, h⟩
    · exact ⟨b, by simp, h⟩
    · exact ⟨a, by simp [ha], h⟩
theorem atN_max (a b : List Int) (i : Nat) : atN a i ≤ atN (maxV a b) i := by
  unfold maxV
  by_cases h : i < max a.length b.length
  · have := zipV_get max a b h
    simp only [atN, this, Option.getD_some]; simp only [atN] at *; omega
  · have e1 : atN a i = 0 := by simp only [atN]; rw [List.getElem?_eq_none (by omega)]; rfl
    have e2 : atN (zipV max a b) i = 0 := by simp only [atN]; rw [List.getElem?_eq_none (by rw [zipV_len]; omega)]; rfl
    omega
theorem atV_max (a b : List Int) (i : Int) : atV a i ≤ atV (maxV a b) i := by
  unfold atV; split
  · exact atN_max _ _ _
  · exact Int.le_refl _
theorem vecLeast (x : VecLeastIn) : Cl 6 [eVecLeastIn x] [.pv (B true)] := t6 _ (by
  unfold P6
  simp only [SmA_true, true_and, Ln, Nz, List.length_map]
  obtain ⟨p0, p1⟩ := u8_mod x.i 60 (by omega)
  generalize Int.tmod (w64 (x.i.toNat : Int)) 60 = p at *
  obtain ⟨l, more, i, k⟩ := x
  simp only at p0 p1 ⊢
  refine ⟨_, c8, fun hl hm => ⟨_, c9 _, Fk_of (fun _ => .refl _) fun hf => Fk_of (fun _ => .refl _) fun h1 => Fk_of (fun _ => .refl _) fun h50 => ⟨by omega, ?_⟩⟩⟩
  have hfew : fewV l = true := by simpa using hf
  simp only [decide_eq_false_iff_not] at h1 h50
  simp only [fewV, Bool.and_eq_true, decide_eq_true_eq, List.all_eq_true] at hfew
  refine ⟨_, c17 _ _, ?_⟩
  have hle : ∀ a ∈ l, leastV l p ≤ atV a p := fun a ha => least_le ha
  obtain ⟨w, hw, hwe⟩ := least_is (l := l) p (fun h => by subst h; simp at h1)
  generalize hn : leastV l p = n at *
  refine Lo_drop l (fun j r v => ∃ b : Bool, v = (true, n, b, (j : Int), ()) ∧ (w ∈ r ∨ b = true)) ?_ ?_ ⟨_, rfl, .inl hw⟩
  · rintro L _ ⟨b, rfl, hb⟩
    have hb' : b = true := by simpa using hb
    subst hb'
    refine Fk_f (by simp) ⟨okNews_map (e := lI) (n := 1) (fun _ => rfl) (fun _ => rfl) l, by omega, by omega, ?_⟩
    have hk := u8_mod k (l.length : Int) (by omega)
    generalize Int.tmod (w64 (k.toNat : Int)) (l.length : Int) = q at *
    obtain ⟨q, rfl⟩ : ∃ q' : Nat, q = (q' : Int) := ⟨q.toNat, by omega⟩
    have hq : l[q]? = some (l[q]'(by omega)) := List.getElem?_eq_getElem (by omega)
    have hx := hfew.2 _ (List.mem_of_getElem? hq)
    refine Ix_nat hq ⟨_, c11 _ _ (by omega) (by omega), ⟨by omega, by omega, ?_⟩⟩
    rw [Nat.zero_add, Int.toNat_natCast]
    refine Ld_map hq (Fk_t rfl (Fk_t rfl ?_))
    rw [← List.map_set]
    refine ⟨_, c17 _ _, ?_⟩
    rw [rvB, decide_eq_true_eq, ← hn]
    obtain ⟨a, ha, he⟩ := least_is (l := l.set q (maxV (l[q]'(by omega)) more)) p (fun h => by
      have := congrArg List.length h; simp at this; subst this; simp at h1)
    rw [he, hn]
    rcases List.mem_or_eq_of_mem_set ha with ha | rfl
    · exact hle a ha
    · exact Int.le_trans (hle _ (List.mem_of_getElem? hq)) (atV_max _ _ _)
  · rintro L j a r _ hj ha hd ⟨b, rfl, hb⟩ hL
    refine Fk_t (by simpa using hj) ?_
    refine Jn_mid (fun v => ∃ b : Bool, v = (true, n, b, (j : Int), ()) ∧ (w ∈ r ∨ b = true)) (fun j2 hj2 => ?_) ?_
    · refine ⟨_, (c19 []).dull rfl, ?_⟩
      refine Jn_mid (fun v => v = (true, n, b, (j : Int), atV a p, ())) (fun j3 hj3 => ?_) ?_
      · obtain ⟨p, rfl⟩ : ∃ p' : Nat, p = (p' : Int) := ⟨p.toNat, by omega⟩
        refine Ix_nat ha (Fk_of (fun h => Ix_nat ha ?_) fun h => hj3 _ ?_)
        · simp at h
          have hx : a[p]? = some (a[p]'(by omega)) := List.getElem?_eq_getElem (by omega)
          refine Ix_nat hx (hj3 _ ?_)
          rw [atV_nat, atN, hx]; rfl
        · simp at h
          have hx : a[p]? = none := List.getElem?_eq_none (by omega)
          rw [atV_nat, atN, hx]; rfl
      · rintro _ rfl
        have hla := hle a (List.mem_of_getElem? ha)
        refine Fk_f (by simp; omega) (Fk_of (fun h => hj2 _ ⟨true, rfl, .inr rfl⟩) fun h => hj2 _ ⟨_, rfl, ?_⟩)
        rcases hb with hb | hb
        · rcases List.mem_cons.1 hb with rfl | hb
          · right; simp [hwe]
          · exact .inl hb
        · rw [hb] at h; cases h
    · rintro _ ⟨b, rfl, hb⟩
      exact hL _ ⟨b, by simp only [w64_succ hj hl], hb⟩)
end Go.Proofs.Ytemaikelagchcaa.M
