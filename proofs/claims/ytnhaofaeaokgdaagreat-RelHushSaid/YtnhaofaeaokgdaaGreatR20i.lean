import Derived.Test.YtnhaofaeaokgdaaGreatR20h
set_option linter.all false
set_option linter.unusedVariables false
set_option linter.unusedSimpArgs false
set_option linter.unnecessarySimpa false
namespace Go.Proofs.YtnhaofaeaokgdaaGreat.M
open Go Go.Mir Go.Proofs

/-! ### Ticks -/
def repP (me : Int) (x : Item) : Packet := ⟨2, me, x, 0, 0, 0, 0, []⟩
def nakP (me s lo many : Int) : Packet := ⟨3, me, zI, s, lo, many, 0, []⟩
def stabP (me top : Int) (l : List Int) : Packet := ⟨4, me, zI, 0, 0, 0, top, l⟩
def upA (r : Rel) (wait : Int) : Nat → List Ask × List Packet
  | 0 => (r.ask, [])
  | i + 1 =>
    if (i : Int) = r.me then upA r wait i else
    ((upA r wait i).1.set i (stepA (nthA (upA r wait i).1 i) r.now wait (decide (0 < (W9.gapW (nthW r.win i) (atN r.top i)).2))).1,
     (upA r wait i).2 ++ if (stepA (nthA (upA r wait i).1 i) r.now wait (decide (0 < (W9.gapW (nthW r.win i) (atN r.top i)).2))).2 then [nakP r.me i (W9.gapW (nthW r.win i) (atN r.top i)).1 (W9.gapW (nthW r.win i) (atN r.top i)).2] else [])
theorem upA_len (r : Rel) (wait : Int) : ∀ i, (upA r wait i).1.length = r.ask.length ∧ (upA r wait i).2.length ≤ i
  | 0 => ⟨rfl, by simp [upA]⟩
  | i + 1 => by
    have := upA_len r wait i
    unfold upA
    split
    · exact ⟨this.1, by omega⟩
    · refine ⟨by simp [this.1], ?_⟩
      simp only [List.length_append]
      split <;> simp <;> omega
def nowR (r : Rel) : Rel := { r with now := imin (w64 (r.now + 1)) 4611686018427387904, naks := 0 }
def tick1 (r : Rel) (done : List Int) : Rel := freeR (nowR r) done
def reps (r : Rel) : List Packet := r.lost.map fun n => repP r.me (K8.getL n r.keep.l).1
def outT (r1 : Rel) (done : List Int) (wait every : Int) : List Packet := reps r1 ++ (upA r1 wait r1.win.length).2 ++ if Int.tmod r1.now every = 0 then [stabP r1.me (w64 (r1.keep.next - 1)) done] else []
def tickR (r : Rel) (done : List Int) (wait every : Int) : Rel × List Packet := ({ tick1 r done with ask := (upA (tick1 r done) wait r.win.length).1, lost := [] }, outT (tick1 r done) done wait every)
theorem WF.tick {r : Rel} {N : Nat} (h : WF r N) : WF (nowR r) N := by
  have h1 := h.now0; have h2 := h.now
  have e : w64 (r.now + 1) = r.now + 1 := w64_id (by omega) (by omega)
  have e1 : 0 ≤ imin (r.now + 1) 4611686018427387904 ∧ imin (r.now + 1) 4611686018427387904 ≤ 4611686018427387904 := by unfold imin; split <;> omega
  exact { h with naks0 := by simp [nowR], naks := by simp [nowR], now0 := by simp only [nowR, e]; exact e1.1, now := by simp only [nowR, e]; exact e1.2 }
theorem WF.free {r : Rel} {N : Nat} (h : WF r N) (done : List Int) : WF (freeR r done) N :=
  { h with lost := Nat.le_trans (List.length_filter_le _ _) h.lost, keep := K8.right_free h.keep _ }
theorem pmap_app (l : List Packet) (p : Packet) (q : PV) (h : q = ePacket p) : l.map ePacket ++ [q] = (l ++ [p]).map ePacket := by rw [h]; simp
theorem c13 {r : Rel} {N : Nat} (hr : WF r N) {done : List Int} (hd : done.length = N) {wait every : Int} (w0 : 0 ≤ wait) (w1 : wait ≤ 1000) (he : every ≠ 0) :
    Cl 13 [eRel r, lI done, I wait, I every] [.pv (eRel (tickR r done wait every).1), .pv (lPacket (tickR r done wait every).2)] := t13 _ _ _ _ (by
  have n64 := hr.n64
  have hr1 : WF (tick1 r done) N := hr.tick.free done
  unfold P13
  refine ⟨tick1 r done, c16 hr.tick hd, ?_⟩
  have hT : tickR r done wait every = ({ tick1 r done with ask := (upA (tick1 r done) wait N).1, lost := [] }, reps (tick1 r done) ++ (upA (tick1 r done) wait N).2 ++ if Int.tmod (tick1 r done).now every = 0 then [stabP (tick1 r done).me (w64 ((tick1 r done).keep.next - 1)) done] else []) := by
    unfold tickR outT; rw [hr1.win, hr.win]
  rw [hT]
  generalize tick1 r done = q at *
  have hlost := hr1.lost
  simp only [Ln, List.length_map, SmA_true, true_and]
  intro _ _ _ _ _ _
  refine Lo_drop q.lost (fun i s v => ∃ out : List Packet, v = (q.lost.map I, (q.lost.length : Int), (i : Int), (q.me, q.now, q.keep.next, q.keep.l.map eItem, q.win.map eWin, q.top.map I, q.ask.map eAsk, q.have_.map lI, q.lost.map I, q.naks, ()), (), (), (out.map ePacket, ()), ()) ∧ out.length ≤ i ∧ reps q = out ++ s.map fun n => repP q.me (K8.getL n q.keep.l).1) ?_ ?_ ⟨[], rfl, by simp, by simp [reps]⟩
  rotate_left
  · rintro L i x s _ hi hx _ ⟨out, rfl, ho, hre⟩ hL
    refine Fk_t (by simpa using hi) (Ix_nat hx ⟨_, _, K8.c46 q.keep x, Sz_of (by simp; omega) (hL _ ⟨out ++ [repP q.me (K8.getL x q.keep.l).1], ?_, by simp; omega, by rw [hre]; simp⟩)⟩)
    simp only [w64_succ hi (by omega)]
    rw [← pmap_app _ _ _ rfl]
    rfl
  · rintro L _ ⟨out, rfl, ho, hre⟩
    simp only [List.map_nil, List.append_nil] at hre
    subst hre
    refine Fk_f (by simp) ⟨Tryz.func47, Tryz.func102, ?_⟩
    intro _ _ _ _ _ _
    refine Lo_up N (fun i v => v = ((N : Int), (i : Int), (q.me, q.now, q.keep.next, q.keep.l.map eItem, q.win.map eWin, q.top.map I, (upA q wait i).1.map eAsk, q.have_.map lI, q.naks, ()), (), (), ((reps q ++ (upA q wait i).2).map ePacket, ()), (q.me, q.now, q.keep.next, q.keep.l.map eItem, q.win.map eWin, q.top.map I, q.ask.map eAsk, q.have_.map lI, q.naks, ()), ())) ?_ (i := 0) (Nat.zero_le _) (by simp only [List.length_map, hr1.win, upA, List.append_nil]; rfl)
    rintro L2 i _ hi rfl hL2
    have hlen := upA_len q wait i
    have hrl : (reps q).length ≤ 64 := by simp [reps]; omega
    refine Fk_of (fun h => ?_) fun h => ?_
    · have hlt : i < N := by simp at h; omega
      refine Jn_mid (fun v => v = ((N : Int), (i : Int), (q.me, q.now, q.keep.next, q.keep.l.map eItem, q.win.map eWin, q.top.map I, (upA q wait (i + 1)).1.map eAsk, q.have_.map lI, q.naks, ()), (), (), ((reps q ++ (upA q wait (i + 1)).2).map ePacket, ()), (q.me, q.now, q.keep.next, q.keep.l.map eItem, q.win.map eWin, q.top.map I, q.ask.map eAsk, q.have_.map lI, q.naks, ()), ())) ?_ ?_
      · intro j hj
        refine Fk_of (fun hm => ?_) fun hm => ?_
        · have hne : ¬ (i : Int) = q.me := by simpa using hm
          refine Ix_nat (nthW_get (by rw [hr1.win]; exact hlt)) (Ix_nat (atN_get (by rw [hr1.top]; exact hlt)) ⟨_, _, W9.c48 _ _ (hr1.w hlt), Ix_nat (nthA_get (by rw [hlen.1, hr1.ask]; exact hlt)) ⟨_, _, c49 _ _ _ _ hr1.now0 hr1.now w0 w1, _, c50 _ _ _ (by rw [hlen.1, hr1.ask]; exact hlt) (by rw [hlen.1, hr1.ask]; omega), ?_⟩⟩)
          refine Fk_of (fun hf => Sz_of (by simp; omega) (hj _ ?_)) fun hf => hj _ ?_
          · simp only [upA, if_neg hne, hf, if_true]
            rw [← List.append_assoc, ← pmap_app _ _ _ rfl]
            rfl
          · simp only [upA, if_neg hne, hf, Bool.false_eq_true, if_false, List.append_nil]
        · have hme : (i : Int) = q.me := by simpa using hm
          refine hj _ ?_
          simp only [upA, if_pos hme]
      · rintro _ rfl
        simp only [w64_succ hlt (by omega)]
        exact hL2 _ hlt rfl
    · have hiN : i = N := by simp at h; omega
      subst hiN
      simp only [Jn]
      refine ⟨he, Fk_of (fun h => ⟨_, c51 _ (by omega), Sz_of (by simp; omega) ?_⟩) fun h => ?_⟩
      · have : Int.tmod q.now every = 0 := by simpa using h
        rw [if_pos this]
        simp only [lPacket, List.map_append (l₂ := [stabP q.me (w64 (q.keep.next - 1)) done])]
        exact .dull rfl
      · have : ¬ Int.tmod q.now every = 0 := by simpa using h
        rw [if_neg this, List.append_nil]
        exact .dull rfl)
end Go.Proofs.YtnhaofaeaokgdaaGreat.M
