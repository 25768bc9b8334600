import Derived.Test.YtnhaofaeaokgdaaGreatR20d
set_option linter.all false
set_option linter.unusedVariables false
set_option linter.unusedSimpArgs false
set_option linter.unnecessarySimpa false
namespace Go.Proofs.YtnhaofaeaokgdaaGreat.M
open Go Go.Mir Go.Proofs

/-! ### Sorted rows -/
theorem srt_perm (l : List Int) : (srt l).Perm l := List.mergeSort_perm l _
theorem srt_len (l : List Int) : (srt l).length = l.length := (srt_perm l).length_eq
theorem srt_pw (l : List Int) : (srt l).Pairwise (· ≤ ·) := by
  have := List.pairwise_mergeSort (le := fun x y : Int => decide (x ≤ y)) (fun a b c h1 h2 => by simp at h1 h2 ⊢; omega) (fun a b => by simp; omega) l
  exact this.imp fun h => by simpa using h
theorem srt_eq {a b : List Int} (h : a.Perm b) : srt a = srt b :=
  List.Perm.eq_of_pairwise (le := fun x y : Int => x ≤ y) (fun _ _ _ _ h1 h2 => by omega) (srt_pw a) (srt_pw b) ((srt_perm a).trans (h.trans (srt_perm b).symm))
theorem srt_min {A B : List Int} {x : Int} (h : ∀ y ∈ A ++ x :: B, x ≤ y) : srt (A ++ x :: B) = x :: srt (A ++ B) := by
  refine List.Perm.eq_of_pairwise (le := fun x y : Int => x ≤ y) (fun _ _ _ _ h1 h2 => by omega) (srt_pw _) ?_ ?_
  · refine List.pairwise_cons.2 ⟨fun y hy => h y ?_, srt_pw _⟩
    have := (srt_perm (A ++ B)).mem_iff.1 hy
    simp at this ⊢; rcases this with h | h <;> simp [h]
  · exact (srt_perm _).trans ((List.perm_middle).trans ((srt_perm _).symm.cons x))

/-! ### What is asked for -/
def kept (r : Rel) (n : Int) : Bool := (K8.getL n r.keep.l).2
/-- Numbers from lo on that are kept, and not in a row. -/
def newL (f : Int → Bool) (lo : Int) : Nat → List Int
  | 0 => []
  | m + 1 => newL f lo m ++ (if f (lo + m) then [lo + m] else [])
theorem newL_len (f : Int → Bool) (lo : Int) : ∀ m, (newL f lo m).length ≤ m
  | 0 => by simp [newL]
  | m + 1 => by have := newL_len f lo m; unfold newL; split <;> simp <;> omega
theorem newL_lt (f : Int → Bool) (lo : Int) : ∀ m, ∀ x ∈ newL f lo m, x < lo + m
  | 0, x, h => by simp [newL] at h
  | m + 1, x, h => by
    unfold newL at h
    rcases List.mem_append.1 h with h | h
    · have := newL_lt f lo m x h; omega
    · split at h
      · simp at h; omega
      · simp at h
def asks (r : Rel) (n : Int) : Bool := kept r n && !r.lost.contains n
def lostL (r : Rel) (lo many : Int) : List Int := (srt (r.lost ++ newL (asks r) lo many.toNat)).take 64
theorem c131 (l : List Int) (x : Int) : Cl 131 [lI l, I x] [.pv (I (idxF (fun y => x == y) 0 l))] := t131 _ _ (by
  unfold P131
  simp only [Ln, SmA_true, true_and, List.length_map]
  intro hl
  refine Lo_drop l (fun i r v => v = ((i : Int), ()) ∧ idxF (fun y => x == y) 0 l = idxF (fun y => x == y) i r) ?_ ?_ ⟨rfl, rfl⟩
  · rintro L _ ⟨rfl, he⟩
    exact Fk_f (by simp) (by rw [he]; exact .refl _)
  · rintro L i a r _ hi ha _ ⟨rfl, he⟩ hL
    refine Fk_t (by simpa using hi) (Ix_nat ha (Fk_of (fun h => ?_) (fun h => hL _ ⟨?_, ?_⟩)))
    · rw [he]; simp only [idxF, h, if_true]; exact .refl _
    · simp only [w64_succ hi hl]
    · rw [he]; simp [idxF, h])
theorem any_contains (l : List Int) (x : Int) : (l.any fun y => x == y) = l.contains x := by
  induction l with
  | nil => rfl
  | cons y r ih => simp only [List.any_cons, List.contains_cons, ih]
theorem c120 (l : List Int) (x : Int) : Cl 120 [lI l, I x] [.pv (B (l.contains x))] := t120 _ _ ⟨_, c131 _ _, by rw [idxF_any, any_contains]; exact .refl _⟩
theorem I_inj {a b : List Int} (h : a.map I = b.map I) : a = b := by
  induction a generalizing b with
  | nil => cases b with | nil => rfl | cons _ _ => cases h
  | cons x r ih => cases b with
    | nil => cases h
    | cons y s =>
      simp only [List.map_cons, List.cons.injEq] at h
      obtain ⟨h1, h2⟩ := h
      have : x = y := by simpa [I] using h1
      rw [this, ih h2]
theorem c86 (hs : SrtOk Tryz.prog 121) (r : Rel) (lo many : Int) (h1 : 1 ≤ lo) (h2 : lo ≤ 4611686018427387904) (h3 : 1 ≤ many) (h4 : many ≤ 64) (hl : r.lost.length ≤ 64) (hn : 0 ≤ r.naks) (hn' : r.naks ≤ 1000) :
    Cl 86 [eRel r, I lo, I many] [.pv (eRel { r with lost := lostL r lo many, naks := imin (w64 (r.naks + 1)) 1000 })] := t86 _ _ _ (by
  unfold P86
  simp only [SmA_true, true_and]
  refine ⟨_, c51 _ (by omega), ?_⟩
  have hm : ((many.toNat : Nat) : Int) = many := by omega
  refine Lo_up many.toNat (fun i v => v = ((r.lost ++ newL (asks r) lo i).map I, (i : Int), (), (), ())) ?_ (i := 0) (Nat.zero_le _) (by simp [newL])
  rintro L i _ hi rfl hL
  have hlen := newL_len (asks r) lo i
  refine Fk_of (fun h => ?_) fun h => ?_
  · have hlt : i < many.toNat := by simp at h; omega
    refine Jn_mid (fun v => v = ((r.lost ++ newL (asks r) lo (i + 1)).map I, (i : Int), (), (), ())) ?_ ?_
    · intro j hj
      have hw : w64 (lo + (i : Int)) = lo + i := w64_id (by omega) (by omega)
      simp only [hw]
      refine ⟨_, _, K8.c46 _ _, Fk_of (fun hk => ⟨_, c120 _ _, Fk_of (fun hc => ?_) fun hc => hj _ ?_⟩) fun hk => hj _ ?_⟩
      · refine Sz_of (by simp; omega) (hj _ ?_)
        have hc' : (r.lost ++ newL (asks r) lo i).contains (lo + i) = false := by simpa using hc
        have : r.lost.contains (lo + i) = false := by
          simp at hc' ⊢; exact hc'.1
        have ha : asks r (lo + i) = true := by simp only [asks, kept, hk, this]; rfl
        simp [newL, ha]
      · have hc' : (r.lost ++ newL (asks r) lo i).contains (lo + i) = true := by revert hc; cases (r.lost ++ newL (asks r) lo i).contains (lo + i) <;> simp
        have hnew : lo + (i : Int) ∉ newL (asks r) lo i := fun h => by have := newL_lt _ _ _ _ h; omega
        have : r.lost.contains (lo + i) = true := by
          simp at hc' ⊢
          rcases hc' with h | h
          · exact h
          · exact absurd h hnew
        have ha : asks r (lo + i) = false := by simp only [asks, this]; simp
        simp [newL, ha]
      · have ha : asks r (lo + i) = false := by simp only [asks, kept, hk]; rfl
        simp [newL, ha]
    · rintro _ rfl
      simp only [w64_succ hlt (by omega)]
      exact hL _ hlt rfl
  · have : i = many.toNat := by simp at h; omega
    subst this
    refine ⟨hs, r.lost ++ newL (asks r) lo many.toNat, rfl, by simp; omega, ?_⟩
    simp only [Ln, List.length_map]
    have hlen2 := srt_len (r.lost ++ newL (asks r) lo many.toNat)
    have hmin : (imin (((r.lost ++ newL (asks r) lo many.toNat).length : Nat) : Int) 64) = ((min (r.lost ++ newL (asks r) lo many.toNat).length 64 : Nat) : Int) := by unfold imin; split <;> omega
    intro _
    refine ⟨by rw [hmin]; omega, by rw [hmin]; omega, by rw [hmin, hlen2]; simp only [Int.toNat_natCast]; omega, ?_⟩
    rw [hmin, Int.toNat_natCast, List.drop_zero, ← List.map_take]
    have ht : (srt (r.lost ++ newL (asks r) lo many.toNat)).take (min (r.lost ++ newL (asks r) lo many.toNat).length 64) = lostL r lo many := by
      unfold lostL
      rcases Nat.le_total (r.lost ++ newL (asks r) lo many.toNat).length 64 with h | h
      · rw [Nat.min_eq_left h, List.take_of_length_le (by omega), List.take_of_length_le (by omega)]
      · rw [Nat.min_eq_right h]
    rw [ht]
    exact .refl _)
theorem c96 (l : List Int) (x : Int) : Cl 96 [lI l, I x] [.pv (B (l.contains x))] := t96 _ _ (by
  unfold P96
  simp only [Ln, SmA_true, true_and, List.length_map]
  refine Lo_drop l (fun i r v => v = ((i : Int), ()) ∧ l.contains x = r.contains x) ?_ ?_ ⟨rfl, rfl⟩
  · rintro L _ ⟨rfl, he⟩ hl
    exact Fk_f (by simp) (by rw [he]; exact .refl _)
  · rintro L i a r _ hi ha _ ⟨rfl, he⟩ hL hl
    refine Fk_t (by simpa using hi) (Ix_nat ha (Fk_of (fun h => ?_) (fun h => hL _ ⟨?_, ?_⟩)))
    · have : a = x := by simpa using h
      rw [he, this]; simp only [List.contains_cons, beq_self_eq_true, Bool.true_or]; exact .refl _
    · simp only [w64_succ hi hl]
    · have : (x == a) = false := by simp at h ⊢; omega
      rw [he]; simp only [List.contains_cons, this, Bool.false_or])
theorem split_at {l : List Int} {k : Nat} {x : Int} (h : l[k]? = some x) : l = l.take k ++ x :: l.drop (k + 1) := by
  obtain ⟨hk, rfl⟩ := List.getElem?_eq_some_iff.1 h
  rw [← List.drop_eq_getElem_cons hk, List.take_append_drop]
theorem c38 (r : Rel) (lo many : Int) (h1 : 1 ≤ lo) (h2 : lo ≤ 4611686018427387904) (h3 : 1 ≤ many) (h4 : many ≤ 64) (hl : r.lost.length ≤ 64) :
    Cl 38 [eRel r, I lo, I many] [.pv (lI (lostL r lo many))] := t38 _ _ _ (by
  unfold P38
  simp only [SmA_true, true_and]
  refine Lo_up many.toNat (fun i v => v = ((newL (asks r) lo i).map I, (i : Int), (), ())) ?_ (i := 0) (Nat.zero_le _) (by simp [newL])
  rintro L i _ hi rfl hL
  have hlen := newL_len (asks r) lo i
  refine Fk_of (fun h => ?_) fun h => ?_
  · have hlt : i < many.toNat := by simp at h; omega
    refine Jn_mid (fun v => v = ((newL (asks r) lo (i + 1)).map I, (i : Int), (), ())) ?_ ?_
    · intro j hj
      have hw : w64 (lo + (i : Int)) = lo + i := w64_id (by omega) (by omega)
      simp only [hw]
      refine ⟨_, _, K8.c52 _ _, Fk_of (fun hk => ⟨_, c96 _ _, Fk_of (fun hc => ?_) fun hc => hj _ ?_⟩) fun hk => hj _ ?_⟩
      · refine Sz_of (by simp; omega) (hj _ ?_)
        have hc' : r.lost.contains (lo + i) = false := by simpa using hc
        have ha : asks r (lo + i) = true := by simp only [asks, kept, hk, hc']; rfl
        simp [newL, ha]
      · have hc' : r.lost.contains (lo + i) = true := by revert hc; cases r.lost.contains (lo + i) <;> simp
        have ha : asks r (lo + i) = false := by simp only [asks, hc']; simp
        simp [newL, ha]
      · have ha : asks r (lo + i) = false := by simp only [asks, kept, hk]; rfl
        simp [newL, ha]
    · rintro _ rfl
      simp only [w64_succ hlt (by omega)]
      exact hL _ hlt rfl
  · have : i = many.toNat := by simp at h; omega
    subst this
    refine Ok_of (okNews_map (e := I) (n := 1) (fun _ => rfl) (fun _ => rfl) _) (Sz_of (by simp; omega) ?_)
    rw [← List.map_append]
    have hR : lostL r lo many = (srt (newL (asks r) lo many.toNat ++ r.lost)).take 64 := by unfold lostL; rw [srt_eq List.perm_append_comm]
    rw [hR]
    have hA : (newL (asks r) lo many.toNat ++ r.lost).length ≤ 200 := by simp; omega
    generalize newL (asks r) lo many.toNat ++ r.lost = all0 at hA ⊢
    refine Jn_mid (fun v => v = (((srt all0).take 64).map I, ())) ?_ ?_
    · intro j hj
      refine Lo_up 64 (fun i v => ∃ all out : List Int, v = (all.map I, out.map I, ()) ∧ out.length = i ∧ all.length ≤ 200 ∧ out ++ (srt all).take (64 - i) = (srt all0).take 64) ?_ (i := 0) (by omega) ⟨all0, [], rfl, rfl, hA, by simp⟩
      rintro L i _ hi ⟨all, out, rfl, hoi, hlen, he⟩ hL
      simp only [Ln, List.length_map]
      intro _ _
      refine Fk_of (fun h => Fk_of (fun h' => ?_) fun h' => ?_) fun h => ?_
      · have h0 : 0 < all.length := by simp only [decide_eq_true_eq] at h; omega
        have hi64 : i < 64 := by simp at h'; omega
        refine Lo_up all.length (fun m v => 1 ≤ m ∧ ∃ (k : Nat) (x : Int), v = (all.map I, out.map I, (k : Int), (m : Int), ()) ∧ k < m ∧ all[k]? = some x ∧ ∀ j y, j < m → all[j]? = some y → x ≤ y) ?_ (i := 1) (by omega) ⟨by omega, 0, all[0], rfl, by omega, by simp, fun j y hj hy => by
          obtain rfl : j = 0 := by omega
          rw [List.getElem?_eq_getElem h0] at hy; cases hy; exact Int.le_refl _⟩
        rintro L2 m _ hm ⟨hm1, k, x, rfl, hk, hx, hmin⟩ hL2
        simp only [List.length_map]
        intro _
        refine Fk_of (fun h => ?_) fun h => ?_
        · have hlt : m < all.length := by simpa using h
          have hym := List.getElem?_eq_getElem hlt
          refine Jn_mid (fun v => ∃ (k : Nat) (x : Int), v = (all.map I, out.map I, (k : Int), (m : Int), ()) ∧ k < m + 1 ∧ all[k]? = some x ∧ ∀ j y, j < m + 1 → all[j]? = some y → x ≤ y) ?_ ?_
          · intro j' hj'
            refine Rx_nat hlt ?_
            rw [Nat.zero_add, Int.toNat_natCast]
            refine Ld_map hym (Rx_nat (by omega) ?_)
            rw [Nat.zero_add, Int.toNat_natCast]
            refine Ld_map hx (Fk_of (fun h => hj' _ ⟨m, _, rfl, by omega, hym, fun j y hj hy => ?_⟩) fun h => hj' _ ⟨k, x, rfl, by omega, hx, fun j y hj hy => ?_⟩)
            · rcases Nat.lt_or_ge j m with h1 | h1
              · have := hmin j y h1 hy; simp at h; omega
              · obtain rfl : j = m := by omega
                rw [hym] at hy; cases hy; exact Int.le_refl _
            · rcases Nat.lt_or_ge j m with h1 | h1
              · exact hmin j y h1 hy
              · obtain rfl : j = m := by omega
                rw [hym] at hy; cases hy; simp at h; omega
          · rintro _ ⟨k', x', rfl, hk', hx', hmin'⟩
            simp only [w64_succ hlt (by omega)]
            exact hL2 _ hlt ⟨by omega, k', x', rfl, hk', hx', hmin'⟩
        · have hm' : m = all.length := by simp at h; omega
          subst hm'
          have hw : w64 ((k : Int) + 1) = ((k + 1 : Nat) : Int) := w64_succ hk (by omega)
          refine Rx_nat hk ?_
          simp only [Nat.zero_add, Int.toNat_natCast, hw]
          refine Ld_map hx (Sz_of (by first | omega | (simp; omega)) ⟨by omega, by omega, by omega, ?_⟩)
          rw [List.drop_zero, ← List.map_take]
          refine Ok_of (okNews_map (e := I) (n := 1) (fun _ => rfl) (fun _ => rfl) _) (Sz_of (by simp; omega) ⟨by omega, by omega, by omega, ?_⟩)
          rw [← List.map_drop, ← List.map_take]
          refine Ok_of (okNews_map (e := I) (n := 1) (fun _ => rfl) (fun _ => rfl) _) (Sz_of (by simp; omega) ?_)
          have ht : (all.drop (k + 1)).take (all.length - (k + 1)) = all.drop (k + 1) := List.take_of_length_le (by simp)
          rw [ht, ← List.map_append, show out.map I ++ [I x] = (out ++ [x]).map I by simp]
          refine hL _ hi64 ⟨_, _, rfl, by simp [hoi], by simp; omega, ?_⟩
          have hs := split_at hx
          have hall : ∀ y ∈ all.take k ++ x :: all.drop (k + 1), x ≤ y := fun y hy => by
            rw [← hs] at hy
            obtain ⟨j, hj⟩ := List.getElem?_of_mem hy
            exact hmin j y (List.getElem?_eq_some_iff.1 hj).1 hj
          have hsm := srt_min hall
          rw [← hs] at hsm
          rw [← he, hsm, show 64 - i = (64 - (i + 1)) + 1 by omega, List.take_succ_cons]
          simp
      · have : i = 64 := by simp at h'; omega
        subst this
        refine hj _ ?_
        rw [← he]; simp
      · have : all = [] := by
          have : all.length = 0 := by simp only [decide_eq_false_iff_not] at h; omega
          exact List.eq_nil_of_length_eq_zero this
        subst this
        refine hj _ ?_
        rw [← he]; simp [srt]
    · rintro _ rfl
      exact .cons (.toRow _ _ _) .nil)
end Go.Proofs.YtnhaofaeaokgdaaGreat.M
