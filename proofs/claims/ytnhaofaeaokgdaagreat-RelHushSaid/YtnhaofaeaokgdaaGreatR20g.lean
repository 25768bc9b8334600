import Derived.Test.YtnhaofaeaokgdaaGreatR20f
set_option linter.all false
set_option linter.unusedVariables false
set_option linter.unusedSimpArgs false
set_option linter.unnecessarySimpa false
namespace Go.Proofs.YtnhaofaeaokgdaaGreat.M
open Go Go.Mir Go.Proofs

theorem putW_eq {w : Win} (h : W9.rightW w = true) (x : Item) (last : Int) : W9.putW w x last = W9.putR w x last := W9.put_eq (W9.right_parts h).2.2.2 x last
theorem c12 {r : Rel} {N : Nat} (hr : WF r N) {p : Packet} (hp : mayP p = true) {done : List Int} (hd : done.length = N) (buf wait : Int) :
    Cl 12 [eRel r, ePacket p, lI done, I buf, I wait] [.pv (eRel (hearR r p done buf wait).1), .pv (B (hearR r p done buf wait).2)] := t12 _ _ _ _ _ (by
  obtain ⟨f0, f1⟩ := may_from hp
  have n64 := hr.n64
  simp only [P12, Ln, List.length_map, SmA_true, true_and]
  intro _ _ _ _ _ _
  refine Jn_mid (fun _ => p.from_ ≠ r.me ∧ p.from_ < r.win.length ∧ (p.kind = 3 → p.to_ < r.win.length) ∧ (p.kind = 4 → (p.l.length : Int) = r.win.length)) ?_ ?_
  · intro j hj _ _ _
    refine Fk_of (fun h => ?_) fun h => Fk_of (fun h' => ?_) fun h' => Fk_of (fun k3 => Fk_of (fun h1 => ?_) fun h1 => Fk_of (fun k4 => ?_) fun k4 => hj _ ?_) fun k3 => Fk_of (fun k4 => Fk_of (fun h2 => ?_) fun h2 => hj _ ?_) fun k4 => hj _ ?_
    all_goals simp only [beq_iff_eq, beq_eq_false_iff_ne, ne_eq, decide_eq_true_eq, decide_eq_false_iff_not, bne_iff_ne, bne_eq_false_iff_eq] at *
    · rw [hearR, if_pos (.inl h)]; exact .refl _
    · rw [hearR, if_pos (.inr h')]; exact .refl _
    · rw [hearR, if_neg (by omega), if_pos k3, if_pos h1]; exact .refl _
    · omega
    · exact ⟨h, by omega, fun _ => by omega, fun h => absurd h k4⟩
    · rw [hearR, if_neg (by omega), if_neg k3, if_pos k4, if_pos h2]; exact .refl _
    · exact ⟨h, by omega, fun h => absurd h k3, fun _ => h2⟩
    · exact ⟨h, by omega, fun h => absurd h k3, fun h => absurd h k4⟩
  · rintro _ ⟨hme, hf, ht, hl⟩
    obtain ⟨s, hs'⟩ : ∃ s : Nat, p.from_ = s := ⟨p.from_.toNat, by omega⟩
    have hsN : s < N := by rw [hr.win] at hf; omega
    have e : hearR r p done buf wait = if p.kind = 3 then (askedR r p wait, true)
        else if p.kind = 4 then ({ topR r s p.top with have_ := r.have_.set s (maxV (nthL r.have_ s) p.l) }, true)
        else ({ topR r s p.item.seq with win := r.win.set s (W9.putW (nthW r.win s) p.item (w64 (atN done s + buf))).1 }, true) := by
      rw [hearR, if_neg (by omega), hs', Int.toNat_natCast]
      split
      · rename_i hk; have := ht hk; rw [if_neg (by omega)]
      · split
        · rename_i hk; have := hl hk; rw [if_neg (by omega)]
        · rfl
    rw [e]
    simp only [hs']
    refine Jn_mid (fun _ => ¬ (p.kind = 3 ∧ p.to_ = r.me)) ?_ ?_
    · intro j hj
      refine Fk_of (fun k3 => Fk_of (fun hto => ?_) fun hto => hj _ ?_) fun k3 => hj _ ?_
      all_goals simp only [beq_iff_eq, beq_eq_false_iff_ne, ne_eq] at *
      · obtain ⟨a1, a2, a3, a4, a5, a6⟩ := may3 hp k3
        refine ⟨_, c38 r _ _ a3 a4 a5 a6 hr.lost, ?_⟩
        rw [if_pos k3, askedR, if_pos hto]
        have hn := hr.naks0; have hn' := hr.naks
        simp only [Jn]
        refine Fk_of (fun h => ?_) fun h => ?_
        · rw [show imin (w64 (r.naks + 1)) 1000 = w64 (r.naks + 1) by simp at h; unfold imin; rw [w64_id (by omega) (by omega), if_neg (by omega)]]
          exact .refl _
        · rw [show imin (w64 (r.naks + 1)) 1000 = r.naks by simp at h; unfold imin; rw [w64_id (by omega) (by omega), if_pos (by omega)]; omega]
          exact .refl _
      · exact fun h => hto h.2
      · exact fun h => k3 h.1
    · intro _ hno
      refine Fk_of (fun k3 => ?_) fun k3 => Fk_of (fun k4 => ?_) fun k4 => ?_
      all_goals simp only [beq_iff_eq, beq_eq_false_iff_ne, ne_eq] at *
      · obtain ⟨a1, a2, a3, a4, a5, a6⟩ := may3 hp k3
        have htN := ht k3
        rw [hr.win] at htN
        obtain ⟨t, ht'⟩ : ∃ t : Nat, p.to_ = t := ⟨p.to_.toNat, by omega⟩
        have htN : t < N := by omega
        have hne : ¬ p.to_ = r.me := fun h => hno ⟨k3, h⟩
        rw [if_pos k3, askedR, if_neg hne]
        simp only [ht', Int.toNat_natCast]
        have hw := hr.w htN
        have htt := hr.t htN
        have hg := gap_rng hw htt.2
        have hb := gap_b hw htt.2
        refine Ix_nat (nthW_get (by rw [hr.win]; exact htN)) (Ix_nat (atN_get (by rw [hr.top]; exact htN)) ⟨_, _, W9.c39 _ _ hw, Fk_of (fun h1 => ?_) fun h1 => Fk_of (fun h2 => ?_) fun h2 => Fk_of (fun h3 => ?_) fun h3 => ?_⟩)
        all_goals simp only [beq_iff_eq, beq_eq_false_iff_ne, ne_eq, decide_eq_true_eq, decide_eq_false_iff_not] at *
        · rw [if_neg (by omega)]; exact .refl _
        · rw [if_neg (by omega)]; exact .refl _
        · rw [w64_id (by omega) (by omega)] at h3
          rw [if_neg (by omega)]; exact .refl _
        · rw [w64_id (by omega) (by omega)] at h3
          have : 0 < (W9.gapW (nthW r.win t) (atN r.top t)).2 := by
            rcases hg with hg | hg
            · rw [hg] at h1; exact absurd rfl h1
            · omega
          rw [if_pos ⟨this, by omega, by omega⟩]
          exact Ix_nat (nthA_get (by rw [hr.ask]; exact htN)) ⟨_, c41 _ _ _, _, c40 r t _ (by rw [hr.ask]; exact htN) (by rw [hr.ask]; omega), .refl _⟩
      · have hpl : p.l.length = N := by have := hl k4; rw [hr.win] at this; omega
        rw [if_neg k3, if_pos k4]
        refine ⟨_, c42 r s _ (by rw [hr.top]; exact hsN) (by rw [hr.top]; omega), Ok_of (okNews_map (e := lI) (n := 1) (fun _ => rfl) (fun _ => rfl) _) (Sz_of (by rw [hr.have_]; omega) (Ix_nat (nthL_get (by rw [hr.have_]; exact hsN)) ⟨_, c43 _ _ (by have := hr.h hsN; omega) (by omega), Rx_nat (by rw [hr.have_]; omega) ?_⟩))⟩
        rw [Nat.zero_add, Int.toNat_natCast, ← List.map_set (f := lI)]
        exact Ld_map (nthL_get (by rw [hr.have_]; exact hsN)) (.refl _)
      · rw [if_neg k3, if_neg k4, putW_eq (hr.w hsN)]
        exact ⟨_, c42 r s _ (by rw [hr.top]; exact hsN) (by rw [hr.top]; omega), Ix_nat (nthW_get (by rw [hr.win]; exact hsN)) (Ix_nat (atN_get (by omega)) ⟨_, _, W9.c44 _ _ _, _, c45 (topR r s p.item.seq) s _ (by show s < r.win.length; rw [hr.win]; exact hsN) (by show r.win.length ≤ _; rw [hr.win]; omega), .refl _⟩)⟩)
end Go.Proofs.YtnhaofaeaokgdaaGreat.M
