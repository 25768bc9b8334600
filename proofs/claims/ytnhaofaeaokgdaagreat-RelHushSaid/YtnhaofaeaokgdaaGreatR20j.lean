import Derived.Test.YtnhaofaeaokgdaaGreatR20i
set_option linter.all false
set_option linter.unusedVariables false
set_option linter.unusedSimpArgs false
set_option linter.unnecessarySimpa false
namespace Go.Proofs.YtnhaofaeaokgdaaGreat.M
open Go Go.Mir Go.Proofs

theorem c14 {r : Rel} {N : Nat} (hr : WF r N) {done : List Int} (hd : done.length = N) {wait every : Int} (he : every ≠ 0) :
    Cl 14 [eRel r, lI done, I wait, I every] [.pv (eRel (tickR r done wait every).1), .pv (lPacket (tickR r done wait every).2)] := t14 _ _ _ _ (by
  have n64 := hr.n64
  have hr1 : WF (tick1 r done) N := hr.tick.free done
  have h0 := hr.now0; have h1 := hr.now
  simp only [P14, SmA_true, true_and]
  refine Jn_mid (fun v => v = (((nowR r).now, ()), (), ())) ?_ ?_
  · intro j hj
    have e : w64 (r.now + 1) = r.now + 1 := w64_id (by omega) (by omega)
    refine Fk_of (fun h => hj _ ?_) fun h => hj _ ?_
    · simp only [decide_eq_true_eq] at h
      rw [nowR, imin, e]; simp only; rw [if_neg (by omega)]
    · simp only [decide_eq_false_iff_not] at h
      rw [nowR, imin, e]; simp only; rw [if_pos (by omega), show r.now = 4611686018427387904 by omega]
  · rintro _ rfl
    refine ⟨tick1 r done, c17 hr.tick hd, ?_⟩
    have hT : tickR r done wait every = ({ tick1 r done with ask := (upA (tick1 r done) wait N).1, lost := [] }, reps (tick1 r done) ++ (upA (tick1 r done) wait N).2 ++ if Int.tmod (tick1 r done).now every = 0 then [stabP (tick1 r done).me (w64 ((tick1 r done).keep.next - 1)) done] else []) := by
      unfold tickR outT; rw [hr1.win, hr.win]
    rw [hT]
    generalize tick1 r done = q at *
    have hlost := hr1.lost
    refine Lo_drop q.lost (fun i s v => ∃ out : List Packet, v = (out.map ePacket, (i : Int), (q.me, q.now, q.keep.next, q.keep.l.map eItem, q.win.map eWin, q.top.map I, q.ask.map eAsk, q.have_.map lI, q.lost.map I, q.naks, ()), (), ()) ∧ out.length ≤ i ∧ reps q = out ++ s.map fun n => repP q.me (K8.getL n q.keep.l).1) ?_ ?_ ⟨[], rfl, by simp, by simp [reps]⟩
    rotate_left
    · rintro L i x s _ hi hx _ ⟨out, rfl, ho, hre⟩ hL
      simp only [Ln, List.length_map]
      intro _ _ _ _ _ _
      refine Fk_t (by simpa using hi) (Ix_nat hx ⟨_, _, K8.c52 q.keep x, Sz_of (by first | omega | (simp; omega)) (hL _ ⟨out ++ [repP q.me (K8.getL x q.keep.l).1], ?_, by simp; omega, by rw [hre]; simp⟩)⟩)
      simp only [w64_succ hi (by omega)]
      rw [← pmap_app _ _ _ rfl]
      rfl
    · rintro L _ ⟨out, rfl, ho, hre⟩
      simp only [List.map_nil, List.append_nil] at hre
      subst hre
      simp only [Ln, List.length_map]
      intro _ _ _ _ _ _
      refine Fk_f (by simp) ?_
      have hrl : (reps q).length ≤ 64 := by simp [reps]; omega
      refine Lo_up N (fun i v => v = ((reps q ++ (upA q wait i).2).map ePacket, (i : Int), (q.me, q.now, q.keep.next, q.keep.l.map eItem, q.win.map eWin, q.top.map I, (upA q wait i).1.map eAsk, q.have_.map lI, [], q.naks, ()), (), ())) ?_ (i := 0) (Nat.zero_le _) (by simp only [upA, List.append_nil]; rfl)
      rintro L2 i _ hi rfl hL2
      have hlen := upA_len q wait i
      simp only [Ln, List.length_map]
      intro _ _ _ _ _ _
      refine Fk_of (fun h => ?_) fun h => ?_
      · have hlt : i < N := by simp [hr1.win] at h; omega
        refine Jn_mid (fun v => v = ((reps q ++ (upA q wait (i + 1)).2).map ePacket, (i : Int), (q.me, q.now, q.keep.next, q.keep.l.map eItem, q.win.map eWin, q.top.map I, (upA q wait (i + 1)).1.map eAsk, q.have_.map lI, [], q.naks, ()), (), ())) ?_ ?_
        · intro j hj
          refine Fk_of (fun hm => ?_) fun hm => ?_
          · have hme : (i : Int) = q.me := by simpa using hm
            refine hj _ ?_
            simp only [upA, if_pos hme]
          · have hne : ¬ (i : Int) = q.me := by simpa using hm
            refine Ix_nat (nthW_get (by rw [hr1.win]; exact hlt)) (Ix_nat (atN_get (by rw [hr1.top]; exact hlt)) ⟨_, _, W9.c39 _ _ (hr1.w hlt), Ix_nat (nthA_get (by rw [hlen.1, hr1.ask]; exact hlt)) ⟨_, _, c53 _ _ _ _, { q with ask := (upA q wait i).1.set i (stepA (nthA (upA q wait i).1 i) q.now wait (decide (0 < (W9.gapW (nthW q.win i) (atN q.top i)).2))).1, lost := [] }, c40 { q with ask := (upA q wait i).1, lost := [] } i _ (by show i < (upA q wait i).1.length; rw [hlen.1, hr1.ask]; exact hlt) (by show (upA q wait i).1.length ≤ _; rw [hlen.1, hr1.ask]; omega), ?_⟩⟩)
            refine Fk_of (fun hf => Sz_of (by simp; omega) (hj _ ?_)) fun hf => hj _ ?_
            · simp only [upA, if_neg hne, hf, if_true]
              rw [← List.append_assoc, ← pmap_app _ _ _ rfl]
              rfl
            · simp only [upA, if_neg hne, hf, Bool.false_eq_true, if_false, List.append_nil]
              rfl
        · rintro _ rfl
          simp only [w64_succ hlt (by omega)]
          exact hL2 _ hlt rfl
      · have hiN : i = N := by simp [hr1.win] at h; omega
        subst hiN
        simp only [Jn]
        refine ⟨he, Fk_of (fun h => Ok_of (okNews_map (e := I) (n := 1) (fun _ => rfl) (fun _ => rfl) _) (Sz_of (by simp; omega) (Sz_of (by simp; omega) ?_))) fun h => ?_⟩
        · have : Int.tmod q.now every = 0 := by simpa using h
          rw [if_pos this]
          simp only [lPacket, List.map_append (l₂ := [stabP q.me (w64 (q.keep.next - 1)) done])]
          exact .dull rfl
        · have : ¬ Int.tmod q.now every = 0 := by simpa using h
          rw [if_neg this, List.append_nil]
          exact .dull rfl)
theorem c18 (a b : List Packet) : Cl 18 [lPacket a, lPacket b] [.pv (B (rowEq sameP a b))] := t18 _ _ (by
  unfold P18
  simp only [Ln, SmA_true, true_and, List.length_map]
  exact fun ha hb => Fk_of (fun h => by rw [rowEq_no h]; exact .refl _) fun h => Lo_eq _ ha (len_of h) (by exact fun _ _ => c63 _ _))
theorem rowEq_rfl {α : Type} {f : α → α → Bool} (hf : ∀ a, f a a = true) : ∀ l : List α, rowEq f l l = true
  | [] => rfl
  | a :: r => by simp [rowEq, hf, rowEq_rfl hf r]
theorem sameP_rfl (p : Packet) : sameP p p = true := by simp [sameP, W9.sameI_refl]
theorem sameR_rfl (r : Rel) : sameR r r = true := by
  have h1 : rowEq W9.sameW r.win r.win = true := rowEq_rfl W9.sameW_refl _
  have h2 : rowEq eqAsk r.ask r.ask = true := rowEq_rfl (fun a => by simp [eqAsk]) _
  simp [sameR, h1, h2, K8.sameK, W9.rowEq_refl]
theorem c15 (a b : Rel) : Cl 15 [eRel a, eRel b] [.pv (B (sameR a b))] := t15 _ _ (by
  unfold P15
  simp only [Ln, SmA_true, true_and, List.length_map]
  refine ⟨_, K8.c54 _ _, _, c55 _ _, _, c55 _ _, _, c56 _ _, ?_⟩
  intro _ hw _ ha _ _ _ _ _ _ _ _
  refine Fk_of (fun h => ?_) fun h1 => Fk_of (fun h => ?_) fun h2 => Fk_of (fun h => ?_) fun h3 => Fk_of (fun h => ?_) fun h4 => Fk_of (fun h => ?_) fun h5 => Fk_of (fun h => ?_) fun h6 => Fk_of (fun h => ?_) fun h7 => Fk_of (fun h => ?_) fun h8 => Fk_of (fun h => ?_) fun h9 => ?_
  · simp only [rvB, sameR]; simp at h; simp [h]
  · simp only [rvB, sameR]; simp at h; simp [h]
  · simp only [rvB, sameR]; simp at h; simp [h]
  · simp only [rvB, sameR]; simp at h; simp [h]
  · simp only [rvB, sameR]; simp at h; simp [h]
  · simp only [rvB, sameR]; simp at h; simp [h]
  · simp only [rvB, sameR]; simp at h; simp [h]
  · have := rowEq_no (f := W9.sameW) h; simp only [rvB, sameR, this]; simp
  · have := rowEq_no (f := eqAsk) h; simp only [rvB, sameR, this]; simp
  simp only [Bool.not_eq_false', bne_eq_false_iff_eq] at h1 h2 h3 h4 h5 h6 h7
  have e : sameR a b = (rowEq W9.sameW a.win b.win && rowEq eqAsk a.ask b.ask) := by
    simp only [sameR, h1, h2, h3, h4, h5, h6, h7, beq_self_eq_true, Bool.true_and, Bool.and_true]
  rw [e]
  refine Lo_two a.win b.win W9.sameW (fun i => ((i : Int), (), (), ())) (len_of h8) (G := fun c => RvsLe [.pv (B (c && rowEq eqAsk a.ask b.ask))] [.pv (B (rowEq W9.sameW a.win b.win && rowEq eqAsk a.ask b.ask))]) ?_ ?_ (.refl _)
  · intro L hg
    refine Fk_f (by simp) ?_
    rw [Bool.true_and] at hg
    refine Lo_two a.ask b.ask eqAsk (fun i => ((i : Int), (), (), ())) (len_of h9) (G := fun c => RvsLe [.pv (B c)] [.pv (B (rowEq W9.sameW a.win b.win && rowEq eqAsk a.ask b.ask))]) ?_ ?_ hg
    · exact fun L hg => Fk_f (by simp) hg
    · intro L i x y hi hx hy hf hL
      refine Fk_t (by simpa using hi) (Ix_nat hx (Ix_nat hy (Fk_of (fun h => hf (by simpa [eqAsk] using h)) fun h => ?_)))
      rw [w64_succ hi ha]; exact hL (by simpa [eqAsk] using h)
  · intro L i x y hi hx hy hf hL
    refine Fk_t (by simpa using hi) (Ix_nat hx (Ix_nat hy ⟨_, c57 _ _, Fk_of (fun h => ?_) fun h => ?_⟩))
    · have := hf (by simpa using h); simpa using this
    · rw [w64_succ hi hw]; exact hL (by simpa using h))
end Go.Proofs.YtnhaofaeaokgdaaGreat.M
