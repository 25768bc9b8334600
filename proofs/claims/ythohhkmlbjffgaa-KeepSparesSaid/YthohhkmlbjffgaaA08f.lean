import Derived.Test.YthohhkmlbjffgaaA08e
set_option linter.all false
set_option linter.unusedVariables false
set_option linter.unusedSimpArgs false
set_option linter.unnecessarySimpa false
namespace Go.Proofs.Ythohhkmlbjffgaa.M
open Go Go.Mir Go.Proofs


theorem free_count {n u lo : Int} : ∀ {l : List Item}, asc n l = true → (l.length : Int) = n - lo → ((freeL u l).length : Int) = if u < lo then n - lo else if u < n then n - (u + 1) else 0
  | [], _, hn => by
    simp [freeL] at hn ⊢
    split
    · omega
    · split <;> omega
  | a :: r, h, hn => by
    simp only [asc, Bool.and_eq_true, beq_iff_eq] at h
    simp only [List.length_cons] at hn
    have ha : a.seq = lo := by rw [h.1.2]; omega
    unfold freeL
    rw [ha]
    by_cases hu : u < lo
    · rw [if_pos hu, if_pos hu]; simp; omega
    · rw [if_neg hu, if_neg hu, free_count (lo := lo + 1) h.2 (by omega)]
      split
      · split <;> omega
      · rfl
theorem u8_mod' (a : UInt8) (m : Int) (hm : 0 < m) : 0 ≤ Int.tmod (w64 (a.toNat : Int)) m ∧ Int.tmod (w64 (a.toNat : Int)) m < m := u8_mod a m hm
set_option maxHeartbeats 1000000 in
theorem keepMany (b s : UInt8) (fr : List UInt8) : Cl 5 [U8 b, U8 s, lU8 fr] [.pv (B true)] := t5 _ _ _ (by
  simp only [P5, rvB, SmA_true, true_and, Ln, Nz, List.length_map]
  obtain ⟨n0, n1⟩ := u8_mod b 65 (by omega)
  obtain ⟨s0, s1⟩ := u8_mod s 10 (by omega)
  generalize Int.tmod (w64 (b.toNat : Int)) 65 = n at *
  generalize Int.tmod (w64 (s.toNat : Int)) 10 = s at *
  refine ⟨_, c9, by omega, by omega, fun hl => Fk_of (fun _ => rfl) fun h20 => ⟨_, c16, ?_⟩⟩
  simp only [decide_eq_false_iff_not] at h20
  refine Lo_up (fr.length + 1) (fun i v => ∃ (nx lo : Int) (l : List Item), v = (true, nx, lo, (i : Int), (nx, l.map eItem, ()), ()) ∧ asc nx l = true ∧ (l.length : Int) = nx - lo ∧ 1 ≤ lo ∧ lo ≤ nx ∧ nx ≤ 1 + 64 * i) ?_ (i := 0) (Nat.zero_le _) ⟨1, 1, [], rfl, rfl, rfl, by omega, by omega, by omega⟩
  rintro L i _ hi ⟨nx, lo, l, rfl, ha, hn, hlo, hle, hb⟩ hL
  refine Fk_of (fun h => ?_) (fun h => ?_)
  · simp only [decide_eq_true_eq] at h
    have hW : w64 (w64 (n - s) - w64 (nx - lo)) = n - s - (nx - lo) := by
      rw [w64_id (n := n - s) (by omega) (by omega), w64_id (n := nx - lo) (by omega) (by omega), w64_id (by omega) (by omega)]
    simp only [hW]
    have hrm : ∀ (m : Int) (t : List Item), m ≤ 4000 → roomK ⟨m, t⟩ n s = if n - s - (t.length : Int) < 0 then 0 else n - s - t.length := by
      intro m t hm
      simp only [roomK]
      split
      · split <;> omega
      · split <;> omega
    refine Jn_of ?_
    refine Jn_if fun v hv => ?_
    obtain ⟨r, hr, rfl⟩ : ∃ r : Int, (r = if n - s - (nx - lo) < 0 then 0 else n - s - (nx - lo)) ∧ v = (true, nx, lo, (i : Int), r, (nx, l.map eItem, ()), ()) := by
      refine ⟨_, rfl, ?_⟩
      rw [hv]
      by_cases hc : n - s - (nx - lo) < 0 <;> simp [hc]
    have r0 : 0 ≤ r := by split at hr <;> omega
    have r1 : r ≤ 64 := by split at hr <;> omega
    refine ⟨_, c22 ⟨nx, l⟩ n s, Fk_f ?_ ?_⟩
    · rw [hrm _ _ (by omega)]
      have : (if n - s - (l.length : Int) < 0 then 0 else n - s - (l.length : Int)) = r := by rw [hr, hn]
      rw [this]; simp
    refine Lo_up (r.toNat + 1) (fun j v => ∃ (m : Int) (t : List Item), v = (true, m, lo, (i : Int), r, (j : Int), (m, t.map eItem, ()), ()) ∧ asc m t = true ∧ (t.length : Int) = m - lo ∧ m = nx + min (j : Int) r) ?_ (i := 0) (Nat.zero_le _) ⟨nx, l, rfl, ha, hn, by omega⟩
    rintro L' j _ hj ⟨m, t, rfl, ta, tn, hm⟩ hL'
    refine Fk_of (fun hjr => ?_) (fun hjr => ?_)
    · simp only [decide_eq_true_eq] at hjr
      have hroom : roomK ⟨m, t⟩ n s = r - j := by
        rw [hrm _ _ (by omega), tn, hm]
        by_cases h0 : n - s - (nx - lo) < 0
        · rw [if_pos h0] at hr; rw [if_pos (by omega)]; omega
        · rw [if_neg h0] at hr; rw [if_neg (by omega)]; omega
      by_cases hlt : (j : Int) < r
      · have hmay := tok_may (k := ⟨m, t⟩) (show 1 ≤ m by omega) (show m ≤ _ by omega)
        have hp := push_ok (b := n) (s := s) hmay (by rw [hroom]; omega)
        have c := c18 ⟨m, t⟩ tokI n s
        rw [hp] at c
        have hs : (numb ⟨m, t⟩ tokI).seq = m := numb_seq (show m ≤ _ by omega)
        refine ⟨_, _, _, c.dull rfl, ?_⟩
        have hw : w64 (m + 1) = m + 1 := w64_id (by omega) (by omega)
        refine Jn_of (Fk_f (by simp [hlt]) (Fk_t rfl (Fk_f (by simp [hs]) (Jn_of (Fk_t rfl (hL' _ (by omega) ⟨m + 1, t ++ [numb ⟨m, t⟩ tokI], ?_, asc_push hmay hs ta, by simp; omega, by omega⟩))))))
        simp only [hw, w64_succ (i := j) (n := 1000) (by omega) (by omega)]
      · have hmay := tok_may (k := ⟨m, t⟩) (show 1 ≤ m by omega) (show m ≤ _ by omega)
        have hp := push_full (b := n) (s := s) hmay (by rw [hroom]; omega)
        have c := c18 ⟨m, t⟩ tokI n s
        rw [hp] at c
        refine ⟨_, _, _, c.dull rfl, ?_⟩
        refine Jn_of (Fk_f (by simp [hlt]) (Fk_f rfl (Jn_of (Fk_f rfl (hL' _ (by omega) ⟨m, t, ?_, ta, tn, by omega⟩)))))
        simp only [w64_succ (i := j) (n := 1000) (by omega) (by omega)]
    · simp only [decide_eq_false_iff_not] at hjr
      have hm' : m = nx + r := by omega
      have hi' : i ≤ 20 := by omega
      refine Fk_of (fun hif => ?_) (fun hif => ?_)
      · simp only [decide_eq_true_eq] at hif
        have hif' : i < fr.length := by omega
        refine Ix_nat (List.getElem?_eq_getElem hif') ⟨by omega, ?_⟩
        obtain ⟨d0, d1⟩ := u8_mod fr[i] 20 (by omega)
        generalize Int.tmod (w64 (fr[i].toNat : Int)) 20 = d at *
        have hu : w64 (w64 (lo - 1) + d) = lo - 1 + d := by rw [w64_id (n := lo - 1) (by omega) (by omega), w64_id (by omega) (by omega)]
        simp only [hu]
        refine ⟨_, c25 ⟨m, t⟩ _, ?_⟩
        have hc := free_count (u := lo - 1 + d) ta tn
        refine Jn_if fun v hv => ?_
        obtain ⟨l1, hl1, rfl⟩ : ∃ l1 : Int, (l1 = if lo ≤ lo - 1 + d then lo - 1 + d + 1 else lo) ∧ v = (true, m, l1, (i : Int), (m, (freeL (lo - 1 + d) t).map eItem, ()), ()) := by
          refine ⟨_, rfl, ?_⟩
          rw [hv]
          by_cases hc : lo ≤ lo - 1 + d
          · simp [hc, w64_id (n := lo - 1 + d + 1) (by omega) (by omega)]
          · simp [hc]
        have e5 : w64 ((i : Int) + 1) = ((i + 1 : Nat) : Int) := w64_succ (n := 1000) (by omega) (by omega)
        refine Fk_of (fun hh => ?_) (fun hh => ?_)
        · simp only [decide_eq_true_eq] at hh
          refine hL _ (by omega) ⟨m, m, freeL (lo - 1 + d) t, by simp only [e5], asc_free ta, ?_, by omega, by omega, by omega⟩
          rw [hc]; split at hl1 <;> split <;> (try split) <;> omega
        · simp only [decide_eq_false_iff_not] at hh
          refine hL _ (by omega) ⟨m, l1, freeL (lo - 1 + d) t, by simp only [e5], asc_free ta, ?_, by split at hl1 <;> omega, by omega, by omega⟩
          rw [hc]; split at hl1 <;> split <;> (try split) <;> omega
      · have e5 : w64 ((i : Int) + 1) = ((i + 1 : Nat) : Int) := w64_succ (n := 1000) (by omega) (by omega)
        exact hL _ (by omega) ⟨m, lo, t, by simp only [e5], ta, tn, by omega, by omega, by omega⟩
  · simp only [decide_eq_false_iff_not] at h
    refine fun _ => Fk_t rfl ?_
    simp only
    rw [w64_id (by omega) (by omega)]; simp; omega)
end Go.Proofs.Ythohhkmlbjffgaa.M
