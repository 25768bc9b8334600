import Derived.Test.YthohhkmlbjffgaaA08d
set_option linter.all false
set_option linter.unusedVariables false
set_option linter.unusedSimpArgs false
set_option linter.unnecessarySimpa false
namespace Go.Proofs.Ythohhkmlbjffgaa.M
open Go Go.Mir Go.Proofs


theorem asc_free {n u : Int} : ∀ {l : List Item}, asc n l = true → asc n (freeL u l) = true
  | [], h => h
  | a :: r, h => by
    unfold freeL
    split
    · exact h
    · simp only [asc, Bool.and_eq_true] at h; exact asc_free h.2
theorem free_len (u : Int) : ∀ l : List Item, (freeL u l).length ≤ l.length
  | [] => Nat.le_refl _
  | a :: r => by
    unfold freeL
    split
    · exact Nat.le_refl _
    · exact Nat.le_trans (free_len u r) (by simp)
theorem asc_push {n : Int} {x : Item} (hm : mayI x = true) (hx : x.seq = n) : ∀ {l : List Item}, asc n l = true → asc (n + 1) (l ++ [x]) = true
  | [], _ => by simp [asc, hm, hx]
  | a :: r, h => by
    simp only [asc, Bool.and_eq_true, beq_iff_eq] at h
    simp only [List.cons_append, asc, Bool.and_eq_true, beq_iff_eq, List.length_append, List.length_cons, List.length_nil]
    exact ⟨⟨h.1.1, by rw [h.1.2]; omega⟩, asc_push hm hx h.2⟩
theorem asc_lt {n : Int} : ∀ {l : List Item}, asc n l = true → ∀ x ∈ l, n - (l.length : Int) ≤ x.seq ∧ x.seq < n
  | [], _, x, hx => by simp at hx
  | a :: r, h, x, hx => by
    simp only [asc, Bool.and_eq_true, beq_iff_eq] at h
    simp only [List.length_cons]
    rcases List.mem_cons.1 hx with rfl | hx
    · rw [h.1.2]; omega
    · have := asc_lt h.2 x hx; omega
theorem get_mem {n : Int} : ∀ {l : List Item}, asc n l = true → ∀ x ∈ l, getL x.seq l = (x, true)
  | [], _, x, hx => by simp at hx
  | a :: r, h, x, hx => by
    simp only [asc, Bool.and_eq_true, beq_iff_eq] at h
    unfold getL
    rcases List.mem_cons.1 hx with rfl | hx
    · simp
    · have := asc_lt h.2 x hx
      have hne : (a.seq == x.seq) = false := by simp; rw [h.1.2]; omega
      rw [hne]; simpa using get_mem h.2 x hx
theorem get_not {u : Int} {l : List Item} (h : ∀ x ∈ l, x.seq ≠ u) : getL u l = (zI, false) := get_none fun x hx => by simpa using h x hx
theorem right_parts {k : Keep} (h : rightK k = true) : (k.l.length : Int) ≤ 64 ∧ 1 ≤ k.next ∧ k.next ≤ 4611686018427387905 ∧ asc k.next k.l = true := by
  simp only [rightK, Bool.and_eq_true, decide_eq_true_eq] at h
  exact ⟨h.1.1.1, h.1.1.2, h.1.2, h.2⟩
theorem right_mk {k : Keep} (h1 : (k.l.length : Int) ≤ 64) (h2 : 1 ≤ k.next) (h3 : k.next ≤ 4611686018427387905) (h4 : asc k.next k.l = true) : rightK k = true := by simp [rightK, h1, h2, h3, h4]
theorem right_free {k : Keep} (h : rightK k = true) (u : Int) : rightK ⟨k.next, freeL u k.l⟩ = true := by
  obtain ⟨h1, h2, h3, h4⟩ := right_parts h
  exact right_mk (by have := free_len u k.l; simp; omega) h2 h3 (asc_free h4)
theorem numb_seq {k : Keep} {x : Item} (h : k.next ≤ 4611686018427387904) : (numb k x).seq = k.next := by simp [numb]; omega
theorem push_cases (k : Keep) (x : Item) (b s : Int) : (pushK k x b s = (k, zI, 1)) ∨ (roomK k b s = 0 ∧ pushK k x b s = (k, zI, 4)) ∨ (mayI (numb k x) = true ∧ roomK k b s ≠ 0 ∧ pushK k x b s = (⟨k.next + 1, k.l ++ [numb k x]⟩, numb k x, 0)) := by
  by_cases h1 : mayI (numb k x) = true
  · by_cases h2 : roomK k b s = 0
    · exact .inr (.inl ⟨h2, push_full h1 h2⟩)
    · exact .inr (.inr ⟨h1, h2, push_ok h1 h2⟩)
  · exact .inl (push_no (by simpa using h1))
theorem room_lt {k : Keep} {b s : Int} (h : roomK k b s ≠ 0) : (k.l.length : Int) < 64 := by
  unfold roomK at h; split at h <;> omega
theorem right_push {k : Keep} {x : Item} {b s : Int} (h : rightK k = true) : rightK (pushK k x b s).1 = true := by
  obtain ⟨h1, h2, h3, h4⟩ := right_parts h
  rcases push_cases k x b s with e | ⟨_, e⟩ | ⟨hm, hr, e⟩
  · rw [e]; exact h
  · rw [e]; exact h
  · rw [e]
    obtain ⟨g1, g2⟩ := room_len hr
    have := room_lt hr
    exact right_mk (by simp; omega) (by show 1 ≤ k.next + 1; omega) (by show k.next + 1 ≤ _; omega) (asc_push hm (numb_seq g2) h4)
theorem get_free {k : Keep} (h : rightK k = true) (u : Int) {x : Item} (hx : x ∈ k.l) : getL x.seq (freeL u k.l) = if u < x.seq then (x, true) else (zI, false) := by
  obtain ⟨_, _, _, h4⟩ := right_parts h
  split
  · rename_i hu
    refine get_mem (asc_free h4) x ?_
    rw [free_filter h4]
    exact List.mem_filter.2 ⟨hx, by simpa using hu⟩
  · rename_i hu
    refine get_not fun y hy => ?_
    rw [free_filter h4] at hy
    have := (List.mem_filter.1 hy).2
    simp at this; omega
set_option maxHeartbeats 1000000 in
theorem keepStays (x : KeepStaysIn) : Cl 4 [eKeepStaysIn x] [.pv (B true)] := t4 _ (by
  simp only [P4, rvB, SmA_true, true_and, Jn, Ln, List.length_map]
  obtain ⟨k, it, buf, spare, upto⟩ := x
  refine ⟨_, c9, _, c10 _, Fk_of (fun _ => rfl) fun h1 => ⟨_, c11 _, Fk_of (fun _ => rfl) fun h2 => ⟨_, c12 _, Fk_of (fun _ => rfl) fun h3 => ⟨_, c22 _ _ _, _, _, _, c18 _ _ _ _, _, c25 _ _, ?_⟩⟩⟩⟩
  simp only [Bool.not_eq_false'] at h3
  obtain ⟨r0, r1⟩ := room_range k buf spare
  have hra := right_push (x := it) (b := buf) (s := spare) h3
  have hrb := right_free h3 upto
  obtain ⟨p1, p2, p3, p4⟩ := right_parts h3
  have pc := push_cases k it buf spare
  generalize hp : pushK k it buf spare = q at *
  obtain ⟨a, y, e⟩ := q
  simp only at hra
  refine ⟨_, c12 _, Fk_f (by rw [hra]; rfl) ⟨_, c12 _, Fk_f (by rw [hrb]; rfl) (Fk_f (by simp) (Fk_f (by simp; omega) (Fk_f (by simp; omega) ?_)))⟩⟩
  have J : ∀ G : Prop, (e = 0 ∨ a = k) → (e = 0 → 1 ≤ roomK k buf spare) → G → Fk (e != 0) (∃ x27, Cl 15 [eKeep a, eKeep k] [.pv (B x27)] ∧ Fk (!x27) (false = true) (Fk (e == 0) (Fk (decide (roomK k buf spare < 1)) (false = true) G) G)) (Fk (e == 0) (Fk (decide (roomK k buf spare < 1)) (false = true) G) G) := by
    intro G g1 g2 hG
    by_cases he : e = 0
    · exact Fk_f (by simp [he]) (Fk_t (by simp [he]) (Fk_f (by have := g2 he; simp; omega) hG))
    · exact Fk_t (by simp [he]) ⟨_, c15 _ _, Fk_f (by rw [g1.resolve_left he, sameK_refl]; rfl) (Fk_f (by simp [he]) hG)⟩
  refine J _ ?_ ?_ ?_
  · rcases pc with h | ⟨_, h⟩ | ⟨_, _, h⟩ <;> simp only [Prod.mk.injEq] at h <;> simp [h]
  · intro he
    rcases pc with h | ⟨_, h⟩ | ⟨_, h0, h⟩ <;> simp only [Prod.mk.injEq] at h <;> omega
  refine Lo_drop k.l (fun i r v => v = (_, _, _, (i : Int), (), _, _, _, ())) ?_ ?_ rfl
  · rintro L _ rfl hl
    refine Fk_f (by simp) ?_
    rcases pc with h | ⟨h0, h⟩ | ⟨hm, h0, h⟩ <;> simp only [Prod.mk.injEq] at h <;> obtain ⟨rfl, rfl, rfl⟩ := h
    · exact Fk_t rfl (Fk_t rfl (Fk_t rfl trivial))
    · exact Fk_t rfl (Fk_t rfl (Fk_f rfl (Fk_t rfl (by simpa using h0))))
    · refine Fk_f rfl ⟨_, _, c20 ⟨k.next + 1, k.l ++ [numb k it]⟩ k.next, fun _ => ?_⟩
      obtain ⟨g1, g2⟩ := room_len h0
      have hs := numb_seq (x := it) g2
      have hg : getL k.next (k.l ++ [numb k it]) = (numb k it, true) := by
        rw [← hs]; exact get_mem (n := k.next + 1) (asc_push hm hs p4) _ (by simp)
      simp only [hg]
      refine Fk_t rfl (Fk_t rfl ⟨_, c24 (numb k it) _, Fk_t (sameI_refl _) (Fk_t (by simp [hs]) (Fk_t ?_ ?_))⟩)
      · rw [w64_id (by omega) (by omega)]; simp
      · rw [w64_id (by omega) (by omega)]; simp
  · rintro L i x r _ hi ha _ rfl hL hl
    have hg := get_free h3 upto (List.mem_of_getElem? ha)
    refine Fk_t (by simpa using hi) (Ix_nat ha ⟨_, _, c20 ⟨k.next, freeL upto k.l⟩ x.seq, Ix_nat ha ?_⟩)
    simp only [hg]
    by_cases hu : upto < x.seq
    · simp only [hu, if_true, decide_true]
      refine Fk_f (by simp) (Fk_t rfl (Ix_nat ha ⟨_, c24 _ _, Fk_f (by rw [sameI_refl]; rfl) (hL _ ?_)⟩))
      simp only [w64_succ hi hl]
    · simp only [hu, if_false, decide_false]
      refine Fk_f (by simp) (Fk_f rfl (hL _ ?_))
      simp only [w64_succ hi hl])
end Go.Proofs.Ythohhkmlbjffgaa.M
