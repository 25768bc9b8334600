import Derived.Test.YtnhaofaeaokgdaaGreatR20l
set_option linter.all false
set_option linter.unusedVariables false
set_option linter.unusedSimpArgs false
set_option linter.unnecessarySimpa false
namespace Go.Proofs.YtnhaofaeaokgdaaGreat.M
open Go Go.Mir Go.Proofs

/-! ### Hush -/
def p1 : Packet := ⟨1, 0, ⟨3, 3, 0, 0, 0, 0, [], []⟩, 0, 0, 0, 0, []⟩
def pN (lo : Int) : Packet := ⟨3, 2, zI, 0, lo, 1, 0, []⟩
def d3 : List Int := [0, 0, 0]
def loopX (w : Int) : Nat → Int → Rel → Option Int
  | 0, _, _ => none
  | k + 1, t, b => if w + 3 < t then some 0 else if rightR b 3 then
      match (tickR b d3 w 1000).2 with
      | [] => loopX w k (t + 1) (tickR b d3 w 1000).1
      | [m] => if m.kind == 3 && m.to_ == 0 && m.lo == 1 && m.many == 2 then some t else none
      | _ => none
    else none
def hushAll (w : Int) (same : Bool) : Bool :=
  (hearR (newR 1 3) p1 d3 20 w).2 && (rightR (hearR (newR 1 3) p1 d3 20 w).1 3 &&
    ((tickR (hearR (newR 1 3) p1 d3 20 w).1 d3 w 1000).2.isEmpty && (rightR (tickR (hearR (newR 1 3) p1 d3 20 w).1 d3 w 1000).1 3 &&
      ((hearR (tickR (hearR (newR 1 3) p1 d3 20 w).1 d3 w 1000).1 (pN (if same then 1 else 2)) d3 20 w).2 &&
        (match loopX w 30 2 (hearR (tickR (hearR (newR 1 3) p1 d3 20 w).1 d3 w 1000).1 (pN (if same then 1 else 2)) d3 20 w).1 with
          | some f => if same then f == w + 1 else f == 2
          | none => false)))))
theorem hush_all : ((List.range 20).all fun k => hushAll ((k : Int) + 2) true && hushAll ((k : Int) + 2) false) = true := by decide
theorem hush_of (a : UInt8) (same : Bool) : ∃ w : Int, w64 (2 + Int.tmod (w64 (a.toNat : Int)) 20) = w ∧ 2 ≤ w ∧ w ≤ 21 ∧ hushAll w same = true := by
  have ha := a.toNat_lt
  have e : w64 (a.toNat : Int) = a.toNat := w64_id (by omega) (by omega)
  have h1 := Int.tmod_nonneg 20 (show (0 : Int) ≤ a.toNat by omega)
  have h2 := Int.tmod_lt_of_pos (a.toNat : Int) (show (0 : Int) < 20 by omega)
  obtain ⟨k, hk⟩ : ∃ k : Nat, Int.tmod (a.toNat : Int) 20 = k := ⟨(Int.tmod (a.toNat : Int) 20).toNat, by omega⟩
  have := List.all_eq_true.1 hush_all k (List.mem_range.2 (by omega))
  simp only [Bool.and_eq_true] at this
  refine ⟨(k : Int) + 2, ?_, by omega, by omega, ?_⟩
  · rw [e, hk, w64_id (by omega) (by omega)]; omega
  · cases same
    · exact this.2
    · exact this.1
theorem wf3 {r : Rel} (h : rightR r 3 = true) : WF r 3 := by
  obtain ⟨N, hN, hw⟩ := WF.of h
  have : N = 3 := by omega
  rw [this] at hw; exact hw
theorem relHush_of (hs : SrtOk Tryz.prog 121) (a : UInt8) (same : Bool) : Cl 4 [U8 a, B same] [.pv (B true)] := t4 _ _ (by
  unfold P4
  obtain ⟨w, hw, w2, w21, hall⟩ := hush_of a same
  rw [hw]
  simp only [hushAll, Bool.and_eq_true, List.isEmpty_iff] at hall
  obtain ⟨e1, e2, e3, e4, e5, e6⟩ := hall
  have hr := wf3 e2
  have hr5 := wf3 e4
  refine ⟨_, c5 hs, by omega, newR 1 3, c19 1 3 (by omega), (hearR (newR 1 3) p1 d3 20 w).1, true, ?_, (tickR (hearR (newR 1 3) p1 d3 20 w).1 d3 w 1000).1, [], ?_, ?_⟩
  · have hwf : WF (newR 1 3) 3 := WF.new 1 3 (by omega) (by omega) (by omega)
    have := c11 hs hwf (p := p1) (by decide) (done := d3) rfl 20 w
    rw [e1] at this
    exact Ct.dull this rfl
  · have := c13 hr (done := d3) rfl (wait := w) (every := 1000) (by omega) (by omega) (by omega)
    rw [e3] at this
    exact this
  generalize (tickR (hearR (newR 1 3) p1 d3 20 w).1 d3 w 1000).1 = q at *
  refine Jn_mid (fun v => v = (true, true, [], (if same then 1 else 2), (q.me, q.now, q.keep.next, q.keep.l.map eItem, q.win.map eWin, q.top.map I, q.ask.map eAsk, q.have_.map lI, q.lost.map I, q.naks, ()), ())) ?_ ?_
  · intro j hj
    simp only [SmA_true, true_and]
    exact Fk_of (fun h => hj _ (by rw [show same = false by simpa using h]; rfl)) fun h => hj _ (by rw [show same = true by simpa using h]; rfl)
  · rintro _ rfl
    have hhear := c11 hs hr5 (p := pN (if same then 1 else 2)) (by cases same <;> decide) (done := d3) rfl 20 w
    rw [e5] at hhear
    refine ⟨_, _, Ct.dull hhear rfl, ?_⟩
    intro _
    refine Fk_f rfl (Fk_f rfl (Fk_f rfl ?_))
    generalize (hearR q (pN (if same then 1 else 2)) d3 20 w).1 = b0 at *
    obtain ⟨f, hf, hres⟩ : ∃ f, loopX w 30 2 b0 = some f ∧ (if same then f == w + 1 else f == 2) = true := by
      split at e6
      · rename_i f hf; exact ⟨f, hf, e6⟩
      · cases e6
    refine Jn_mid (fun v => v = (true, f, ())) ?_ ?_
    · intro j hj
      simp only [SmA_true, true_and]
      have hw3 : w64 (w + 3) = w + 3 := w64_id (by omega) (by omega)
      rw [hw3]
      refine Lo_up 30 (fun i v => (∃ b : Rel, v = (true, 0, 2 + (i : Int), (b.me, b.now, b.keep.next, b.keep.l.map eItem, b.win.map eWin, b.top.map I, b.ask.map eAsk, b.have_.map lI, b.lost.map I, b.naks, ()), ()) ∧ loopX w (30 - i) (2 + i) b = some f) ∨ ∃ b : Rel, v = (true, f, 2 + (i : Int), (b.me, b.now, b.keep.next, b.keep.l.map eItem, b.win.map eWin, b.top.map I, b.ask.map eAsk, b.have_.map lI, b.lost.map I, b.naks, ()), ()) ∧ f ≠ 0) ?_ (i := 0) (by omega) (.inl ⟨b0, rfl, hf⟩)
      rintro L i _ hi (⟨b, rfl, hl⟩ | ⟨b, rfl, hf0⟩) hL
      · have hi30 : i < 30 := by
          rcases Nat.lt_or_ge i 30 with h | h
          · exact h
          · rw [show 30 - i = 0 by omega] at hl; cases hl
        rw [show 30 - i = (30 - (i + 1)) + 1 by omega] at hl
        unfold loopX at hl
        have hwt : w64 (2 + (i : Int) + 1) = 2 + ((i + 1 : Nat) : Int) := by rw [w64_id (by omega) (by omega)]; omega
        refine Fk_of (fun h => Fk_t rfl ?_) fun h => ?_
        · rw [if_neg (by simp only [decide_eq_true_eq] at h; omega)] at hl
          split at hl
          · rename_i hrb
            have hwb := wf3 hrb
            refine ⟨_, _, c13 hwb (done := d3) rfl (wait := w) (every := 1000) (by omega) (by omega) (by omega), ?_⟩
            simp only [Jn, Ln, List.length_map]
            generalize tickR b d3 w 1000 = x at *
            obtain ⟨x1, x2⟩ := x
            simp only at hl ⊢
            split at hl
            · intro _
              refine Fk_f (by simp) (Fk_f (by simp) ?_)
              intro _
              refine Fk_f (by simp) ?_
              rw [hwt]
              exact hL _ hi30 (.inl ⟨x1, rfl, by rw [show (2 : Int) + ((i + 1 : Nat) : Int) = 2 + (i : Int) + 1 by omega]; exact hl⟩)
            · rename_i m
              split at hl
              · rename_i hm
                simp only [Bool.and_eq_true, beq_iff_eq] at hm
                obtain ⟨⟨⟨m1, m2⟩, m3⟩, m4⟩ := hm
                have hft : f = 2 + (i : Int) := (Option.some.inj hl).symm
                intro _
                refine Fk_f (by simp) (Fk_t (by simp) ?_)
                refine Ix_nat (i := 0) (a := m) rfl (Fk_f (by simp [m1]) (Ix_nat (i := 0) (a := m) rfl (Fk_f (by simp [m2]) (Ix_nat (i := 0) (a := m) rfl (Fk_f (by simp [m3]) (Ix_nat (i := 0) (a := m) rfl (Fk_f (by simp [m4]) ?_)))))))
                intro _
                refine Fk_t (by simp) ?_
                rw [hwt]
                refine hL _ hi30 (.inr ⟨x1, ?_, by omega⟩)
                rw [← hft]
              · cases hl
            · cases hl
          · cases hl
        · rw [if_pos (by simp only [decide_eq_false_iff_not] at h; omega)] at hl
          have : f = 0 := (Option.some.inj hl).symm
          rw [this] at hj
          exact hj _ rfl
      · refine Fk_of (fun _ => Fk_f (by simpa using hf0) (hj _ rfl)) fun _ => hj _ rfl
    · rintro _ rfl
      refine Fk_t rfl ?_
      have hw1 : w64 (w + 1) = w + 1 := w64_id (by omega) (by omega)
      rw [hw1]
      cases same with
      | true =>
        refine Fk_t rfl (Fk_of (fun _ => .refl _) fun h => ?_)
        simp at hres; simp [hres] at h
      | false =>
        refine Fk_f rfl (Fk_t rfl ?_)
        simp at hres
        rw [hres]; exact .refl _)
end Go.Proofs.YtnhaofaeaokgdaaGreat.M
