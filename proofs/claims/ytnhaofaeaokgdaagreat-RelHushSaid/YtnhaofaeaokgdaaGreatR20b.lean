import Derived.Test.YtnhaofaeaokgdaaGreatR20a
set_option linter.all false
set_option linter.unusedVariables false
set_option linter.unusedSimpArgs false
set_option linter.unnecessarySimpa false
namespace Go.Proofs.YtnhaofaeaokgdaaGreat.M
open Go Go.Mir Go.Proofs

/-! ### What the statement asks ahead -/
theorem c27 (n : Int) : Cl 27 [I n] [.pv (B (cnt n))] := t27 _ (by
  simp only [P27, Fk, rvB, cnt, within]
  grind)
/-- A loop that stops at the first that isn't so. -/
theorem Lo_all {α V : Type} {F : (V → Prop) → V → Prop} (l : List α) (f : α → Bool) (mk : Nat → V) (c : Bool) {G : Bool → Prop}
    (h0 : ∀ L, G c → F L (mk l.length)) (hs : ∀ (L : V → Prop) (i : Nat) (x : α), i < l.length → l[i]? = some x → (f x = false → G false) → (f x = true → L (mk (i + 1))) → F L (mk i)) (hG : G (l.all f && c)) : Lo F (mk 0) := by
  refine Lo_drop l (fun i r v => v = mk i ∧ G (r.all f && c)) ?_ ?_ ⟨rfl, hG⟩
  · rintro L _ ⟨rfl, hg⟩
    exact h0 L (by simpa using hg)
  · rintro L i x r _ hi ha hd ⟨rfl, hg⟩ hL
    exact hs L i x hi ha (fun h => by simpa [h] using hg) (fun h => hL _ ⟨rfl, by simpa [h] using hg⟩)
def few12 (l : List Int) : Bool := decide ((l.length : Int) ≤ 12)
def fewR (r : Rel) : Bool := fewL r.keep.l && decide ((r.win.length : Int) ≤ 12) && decide ((r.top.length : Int) ≤ 12) && decide ((r.ask.length : Int) ≤ 12) && decide ((r.have_.length : Int) ≤ 12) && decide ((r.lost.length : Int) ≤ 80) && ((r.win.all fun w => fewL w.l) && (r.have_.all few12 && true))
theorem c6 (r : Rel) : Cl 6 [eRel r] [.pv (B (fewR r))] := t6 _ (by
  unfold P6
  simp only [Ln, SmA_true, true_and, List.length_map]
  refine ⟨_, c25 _, fun h1 h2 h3 h4 h5 h6 => ?_⟩
  refine Fk_of (fun h => ?_) fun e1 => Fk_of (fun h => ?_) fun e2 => Fk_of (fun h => ?_) fun e3 => Fk_of (fun h => ?_) fun e4 => Fk_of (fun h => ?_) fun e5 => Fk_of (fun h => ?_) fun e6 => ?_
  · simp at h; simp [rvB, fewR, h]
  iterate 5 (· simp at h; simp [rvB, fewR]; intros; omega)
  have e : fewR r = ((r.win.all fun w => fewL w.l) && (r.have_.all few12 && true)) := by
    simp only [Bool.not_eq_false', decide_eq_false_iff_not, Int.not_lt] at e1 e2 e3 e4 e5 e6
    simp only [fewR, e1, e2, e3, e4, e5, e6, decide_true, Bool.true_and]
  rw [e]
  refine Lo_all r.win (fun w => fewL w.l) (fun i => ((i : Int), (), ())) (r.have_.all few12 && true) (G := fun c => RvsLe [.pv (B c)] [.pv (B ((r.win.all fun w => fewL w.l) && (r.have_.all few12 && true)))]) ?_ ?_ (.refl _)
  · intro L hg
    refine Fk_f (by simp) ?_
    refine Lo_all r.have_ few12 (fun i => ((i : Int), (), ())) true (G := fun c => RvsLe [.pv (B c)] [.pv (B ((r.win.all fun w => fewL w.l) && (r.have_.all few12 && true)))]) ?_ ?_ hg
    · exact fun L hg => Fk_f (by simp) hg
    · intro L i x hi hx hf hL
      refine Fk_t (by simpa using hi) (Ix_nat hx (Fk_of (fun h => hf (by simp at h; simp [few12]; omega)) fun h => ?_))
      rw [w64_succ hi h5]; exact hL (by simp at h; simp [few12]; omega)
  · intro L i x hi hx hf hL
    refine Fk_t (by simpa using hi) (Ix_nat hx ⟨_, c25 _, Fk_of (fun h => hf (by simpa using h)) fun h => ?_⟩)
    rw [w64_succ hi h2]; exact hL (by simpa using h))
def chk (r : Rel) (n : Int) (i : Nat) : Bool := match r.win[i]?, r.top[i]?, r.ask[i]?, r.have_[i]? with
  | some w, some t, some a, some h => W9.rightW w && cnt t && due a && cntL n h
  | _, _, _, _ => false
/-- Numbers that rise. -/
def ascP : Option Int → List Int → Bool
  | _, [] => true
  | p, x :: r => cnt x && decide (1 ≤ x) && (match p with | none => true | some y => decide (y < x)) && ascP (some x) r
def rightH (r : Rel) (n : Int) : Bool := within n 2 64 && within r.me 0 (n - 1) && (r.win.length : Int) == n && (r.top.length : Int) == n && (r.ask.length : Int) == n && (r.have_.length : Int) == n && decide ((r.lost.length : Int) ≤ 64) && within r.naks 0 1000 && K8.rightK r.keep && cnt r.now
def rightR (r : Rel) (n : Int) : Bool := rightH r n && ((List.range r.win.length).all (chk r n) && ascP none r.lost)
theorem prev_get {l : List Int} {i : Nat} {x : Int} {r : List Int} (hd : l.drop i = x :: r) (h0 : 0 < i) : ∃ y, l[i - 1]? = some y := by
  have : i < l.length := by
    rcases Nat.lt_or_ge i l.length with h | h
    · exact h
    · rw [List.drop_eq_nil_of_le h] at hd; cases hd
  exact ⟨l[i - 1], by simp [show i - 1 < l.length by omega]⟩
theorem c7 (r : Rel) (n : Int) : Cl 7 [eRel r, I n] [.pv (B (rightR r n))] := t7 _ _ (by
  unfold P7
  simp only [Ln, SmA_true, true_and, List.length_map]
  intro h1 h2 h3 h4 h5 h6
  refine Fk_of (fun h => ?_) fun e1 => Fk_of (fun h => ?_) fun e2 => Fk_of (fun h => ?_) fun e3 => Fk_of (fun h => ?_) fun e4 => Fk_of (fun h => ?_) fun e5 => Fk_of (fun h => ?_) fun e6 => Fk_of (fun h => ?_) fun e7 => Fk_of (fun h => ?_) fun e8 => Fk_of (fun h => ?_) fun e9 => Fk_of (fun h => ?_) fun e10 => Fk_of (fun h => ?_) fun e11 => ⟨_, K8.c26 _, _, c27 _, Fk_of (fun h => ?_) fun e12 => Fk_of (fun h => ?_) fun e13 => ?_⟩
  iterate 13 (· have hf : rightH r n = false := by
                  simp only [decide_eq_true_eq, bne_iff_ne, ne_eq, Bool.not_eq_true'] at h
                  simp only [rightH, within]
                  first | (simp [h]; done) | (simp; omega) | grind
                simp only [rvB, rightR, hf, Bool.false_and])
  simp only [decide_eq_false_iff_not, Int.not_lt, Int.not_le, bne_eq_false_iff_eq, Bool.not_eq_false'] at e1 e2 e3 e4 e5 e6 e7 e8 e9 e10 e11 e12 e13
  have hh : rightH r n = true := by
    simp only [rightH, within, e12, e13, e5, e6, e7, e8, beq_self_eq_true, Bool.and_true]
    simp; omega
  have hR : rightR r n = ((List.range r.win.length).all (chk r n) && ascP none r.lost) := by simp only [rightR, hh, Bool.true_and]
  rw [hR]
  refine Lo_all (List.range r.win.length) (chk r n) (fun i => ((i : Int), (), ())) (ascP none r.lost) (G := fun c => RvsLe [.pv (B c)] [.pv (B ((List.range r.win.length).all (chk r n) && ascP none r.lost))]) ?_ ?_ (.refl _)
  · intro L hg
    refine Fk_f (by simp; omega) ?_
    refine Lo_drop r.lost (fun i s v => v = ((i : Int), (), ()) ∧ RvsLe [.pv (B (ascP (if i = 0 then none else r.lost[i - 1]?) s))] [.pv (B ((List.range r.win.length).all (chk r n) && ascP none r.lost))]) ?_ ?_ ⟨rfl, by simpa using hg⟩
    · rintro L _ ⟨rfl, hg⟩
      refine Fk_f (by simp) ?_
      simpa [ascP] using hg
    · rintro L i x s _ hi hx hd ⟨rfl, hg⟩ hL
      refine Fk_t (by simpa using hi) ?_
      have next : ascP (if i = 0 then none else r.lost[i - 1]?) (x :: s) = ascP (some x) s → L (w64 ((i : Int) + 1), (), ()) := fun he => by
        rw [w64_succ hi h6]
        refine hL _ ⟨rfl, ?_⟩
        rw [if_neg (by omega), Nat.add_sub_cancel, hx, ← he]
        exact hg
      refine Jn_mid (fun v => v = ((i : Int), (), ()) ∧ ascP (if i = 0 then none else r.lost[i - 1]?) (x :: s) = ascP (some x) s) ?_ ?_
      · intro j hj
        refine Ix_nat hx ⟨_, c27 _, Fk_of (fun h => ?_) fun c1 => Ix_nat hx (Fk_of (fun h => ?_) fun c2 => Fk_of (fun h => ?_) fun c3 => ?_)⟩
        · have : cnt x = false := by simpa using h
          simpa [ascP, this] using hg
        · have : ¬ 1 ≤ x := by simp at h; omega
          simpa [ascP, this] using hg
        · simp only [decide_eq_true_eq] at h
          have h0 : 0 < i := by omega
          obtain ⟨y, hy⟩ : ∃ y, r.lost[i - 1]? = some y := ⟨r.lost[i - 1]'(by omega), by simp⟩
          have hi' : w64 ((i : Int) - 1) = ((i - 1 : Nat) : Int) := by rw [w64_id (by omega) (by omega)]; omega
          rw [hi']
          rw [if_neg (by omega), hy] at hg hj
          simp only [Bool.not_eq_false', decide_eq_false_iff_not, Int.not_lt] at c1 c2
          refine Ix_nat hx (Ix_nat hy (Fk_of (fun h => ?_) fun h => hj _ ⟨rfl, ?_⟩))
          · have : ¬ y < x := by simp at h; omega
            simpa [ascP, this] using hg
          · have : y < x := by simp at h; omega
            simp [ascP, this, c1, c2]
        · simp only [decide_eq_false_iff_not, Int.not_lt, Bool.not_eq_false'] at c1 c2 c3
          have : i = 0 := by omega
          subst this
          exact hj _ ⟨rfl, by simp [ascP, c1, c2]⟩
      · rintro _ ⟨rfl, he⟩
        exact next he
  · intro L i x hi hx hf hL
    simp only [List.length_range] at hi
    obtain rfl : i = x := by simpa [hi] using hx
    have lt : i < r.top.length := by omega
    have la : i < r.ask.length := by omega
    have lh : i < r.have_.length := by omega
    have hw := List.getElem?_eq_getElem hi
    have htp := List.getElem?_eq_getElem lt
    have has := List.getElem?_eq_getElem la
    have hhv := List.getElem?_eq_getElem lh
    have hc : chk r n i = (W9.rightW r.win[i] && cnt r.top[i] && due r.ask[i] && cntL n r.have_[i]) := by simp only [chk, hw, htp, has, hhv]
    rw [hc] at hf hL
    refine Fk_t (by simp; omega) (Ix_nat hw ⟨_, W9.c28 _, Ix_nat htp ⟨_, c27 _, Fk_of (fun h => hf ?_) fun c1 => Fk_of (fun h => hf ?_) fun c2 => Ix_nat has (Fk_of (fun h => hf ?_) fun c3 => Ix_nat has (Fk_of (fun h => hf ?_) fun c4 => Ix_nat hhv (Fk_of (fun h => hf ?_) fun c5 => ?_)))⟩⟩)
    · simp at h; simp [h]
    · simp at h; simp [h]
    · have : due r.ask[i] = false := by simp at h; simp [due, within]; omega
      simp [this]
    · have : due r.ask[i] = false := by simp at h; simp [due, within]; omega
      simp [this]
    · have : cntL n r.have_[i] = false := by simp at h; simp [cntL]; omega
      simp [this]
    simp only [Bool.not_eq_false', decide_eq_false_iff_not, Int.not_lt, bne_eq_false_iff_eq, List.length_map] at c1 c2 c3 c4 c5
    have hdue : due r.ask[i] = true := by simp [due, within]; omega
    have hcl : cntL n r.have_[i] = r.have_[i].all cnt := by simp only [cntL, c5, beq_self_eq_true, Bool.true_and]
    rw [c1, c2, hdue, hcl] at hf hL
    simp only [Bool.true_and] at hf hL
    have hN : n ≤ 64 := by omega
    refine Lo_all r.have_[i] cnt (fun k => ((i : Int), (k : Int), (), ())) true (G := fun c => (c = false → RvsLe [.pv (B false)] [.pv (B ((List.range r.win.length).all (chk r n) && ascP none r.lost))]) ∧ (c = true → L ((i + 1 : Nat), (), ()))) ?_ ?_ ⟨fun h => hf (by simpa using h), fun h => hL (by simpa using h)⟩
    · intro L' hg
      refine Fk_f (by simp; omega) ?_
      rw [w64_succ hi h2]
      exact hg.2 rfl
    · intro L' k y hk hy hf' hL'
      refine Fk_t (by simp; omega) (Ix_nat hhv (Ix_nat hy ⟨_, c27 _, Fk_of (fun h => (hf' (by simpa using h)).1 rfl) fun h => ?_⟩))
      rw [w64_succ hk (by omega)]
      exact hL' (by simpa using h))
end Go.Proofs.YtnhaofaeaokgdaaGreat.M
