import Derived.Test.YtnhaofaeaokgdaaGreatR20j
set_option linter.all false
set_option linter.unusedVariables false
set_option linter.unusedSimpArgs false
set_option linter.unnecessarySimpa false
namespace Go.Proofs.YtnhaofaeaokgdaaGreat.M
open Go Go.Mir Go.Proofs

/-! ### New streams, sent, read -/
def newR (me : Int) (n : Nat) : Rel := ⟨me, 0, ⟨1, []⟩, List.replicate n W9.newW, List.replicate n 0, List.replicate n ⟨0⟩, List.replicate n (List.replicate n 0), [], 0⟩
theorem c19 (me : Int) (n : Nat) (h : n ≤ 1000) : Cl 19 [I me, I n] [.pv (eRel (newR me n))] := t19 _ _ (by
  unfold P19
  simp only [SmA_true, true_and]
  have hm : ∀ (b : Nat) (K : Prop), b ≤ 1000 → K → Mk b n n K := fun b K hb hk => ⟨by omega, by omega, by
    have : b * n ≤ 1000 * 1000 := Nat.mul_le_mul hb h
    have : ((b : Int) * (n : Int)) ≤ 1000000 := by rw [← Int.natCast_mul]; omega
    omega, by omega, hk⟩
  refine ⟨_, K8.c64, hm _ _ (by omega) (hm _ _ (by omega) (hm _ _ (by omega) (hm _ _ (by omega) ?_)))⟩
  simp only [Int.toNat_natCast]
  refine Lo_up n (fun i v => v = ((i : Int), (), (1, [], (List.replicate n (eWin W9.newW)).take i ++ List.replicate ((List.replicate n (eWin W9.newW)).length - i) (.agg [I 0, .sl true []]), List.replicate n (I 0), List.replicate n (.agg [I 0]), (List.replicate n (lI (List.replicate n 0))).take i ++ List.replicate ((List.replicate n (lI (List.replicate n 0))).length - i) (.sl true []), ()), ())) ?_ (i := 0) (Nat.zero_le _) (by simp)
  rintro L i _ hi rfl hL
  refine Fk_of (fun h' => ?_) fun h' => ?_
  · have hlt : i < n := by simp only [decide_eq_true_eq] at h'; omega
    refine ⟨_, W9.c65, Rx_nat (by simp; omega) ?_⟩
    rw [Nat.zero_add, Int.toNat_natCast]
    refine ⟨(I 0, .sl true []), fill_get (by simp; omega), hm _ _ (by omega) (Rx_nat (by simp; omega) ?_)⟩
    refine ⟨(true, []), fill_get (by simp; omega), ?_⟩
    rw [fill_set (by simp [hlt]), fill_set (by simp [hlt]), w64_succ hlt (by omega)]
    exact hL _ hlt rfl
  · have hin : i = n := by simp only [decide_eq_false_iff_not] at h'; omega
    subst hin
    simp only [List.length_replicate, Nat.sub_self, List.replicate_zero, List.append_nil]
    rw [List.take_of_length_le (by simp), List.take_of_length_le (by simp)]
    refine .dull ?_
    simp only [newR, eRel, lWin, lAsk, lI, List.map_replicate]
    rfl)
def itemP (me : Int) (x : Item) : Packet := ⟨1, me, x, 0, 0, 0, 0, []⟩
def zP : Packet := ⟨0, 0, zI, 0, 0, 0, 0, []⟩
def sendR (r : Rel) (x : Item) (b s : Int) : Rel × Packet × Int :=
  if (K8.pushK r.keep x b s).2.2 ≠ 0 then (r, zP, (K8.pushK r.keep x b s).2.2) else ({ r with keep := (K8.pushK r.keep x b s).1 }, itemP r.me (K8.pushK r.keep x b s).2.1, 0)
theorem c20 (r : Rel) (x : Item) (b s : Int) : Cl 20 [eRel r, eItem x, I b, I s] [.pv (eRel (sendR r x b s).1), .pv (ePacket (sendR r x b s).2.1), .pv (I (sendR r x b s).2.2)] := t20 _ _ _ _ (by
  refine ⟨_, _, _, K8.c66 _ _ _ _, Fk_of (fun h => ?_) fun h => ?_⟩
  · have : (K8.pushK r.keep x b s).2.2 ≠ 0 := by simpa using h
    rw [sendR, if_pos this]; exact .dull rfl
  · have : ¬ (K8.pushK r.keep x b s).2.2 ≠ 0 := by simpa using h
    rw [sendR, if_neg this]; exact .dull rfl)
theorem c21 (r : Rel) (s : Nat) (h : s < r.win.length) : Cl 21 [eRel r, I s] [.pv (eItem (W9.peekW (nthW r.win s)).1), .pv (B (W9.peekW (nthW r.win s)).2)] := t21 _ _ (Ix_nat (nthW_get h) ⟨_, _, W9.c67 _, .refl _⟩)
def readR (r : Rel) (s : Nat) : Rel × Bool := if (W9.takeW (nthW r.win s)).2.2 then ({ r with win := r.win.set s (W9.takeW (nthW r.win s)).2.1 }, true) else (r, false)
theorem c22 (r : Rel) (s : Nat) (h : s < r.win.length) (h' : r.win.length ≤ 1000) (hl : (nthW r.win s).l.length ≤ 1000) : Cl 22 [eRel r, I s] [.pv (eRel (readR r s).1), .pv (B (readR r s).2)] := t22 _ _ (Ix_nat (nthW_get h) ⟨_, _, _, W9.c68 _ hl, Fk_of (fun h => by
    have : ¬ (W9.takeW (nthW r.win s)).2.2 = true := by simpa using h
    rw [readR, if_neg this]; exact .refl _) fun h1 => ⟨_, c37 _ _ _ h (by omega), by
    have : (W9.takeW (nthW r.win s)).2.2 = true := by simpa using h1
    rw [readR, if_pos this]; exact .refl _⟩⟩)
def rightQ (r : Rel) (n : Int) : Bool := within n 2 64 && (within r.me 0 (w64 (n - 1)) && ((r.win.length : Int) == n && ((r.top.length : Int) == n && ((r.ask.length : Int) == n && ((r.have_.length : Int) == n && (r.have_.all (cntL n) && (r.ask.all due && (cnt r.now && (K8.rightK r.keep && (r.win.all W9.rightW && (r.top.all cnt && within r.naks 0 1000)))))))))))
theorem c23 (r : Rel) (n : Int) (hl : r.lost = []) : Cl 23 [eRel r, I n] [.pv (B (rightQ r n))] := t23 _ _ (by
  unfold P23
  simp only [Ln, SmA_true, true_and, List.length_map]
  intro _ _ _ _ _ _
  refine ⟨_, c69 _ _ _, Fk_of (fun h => ?_) fun h1 => ⟨_, c69 _ _ _, Fk_of (fun h => ?_) fun h2 => Fk_of (fun h => ?_) fun h3 => Fk_of (fun h => ?_) fun h4 => Fk_of (fun h => ?_) fun h5 => Fk_of (fun h => ?_) fun h6 => ⟨_, c70 _ _, _, c74 _, ?_⟩⟩⟩
  · simp only [rvB, rightQ]; simp at h; simp [h]
  · simp only [rvB, rightQ]; simp at h; simp [h]
  · simp only [rvB, rightQ]; simp at h; simp [h]
  · simp only [rvB, rightQ]; simp at h; simp [h]
  · simp only [rvB, rightQ]; simp at h; simp [h]
  · simp only [rvB, rightQ]; simp at h; simp [h]
  simp only [Bool.not_eq_false', bne_eq_false_iff_eq] at h1 h2 h3 h4 h5 h6
  have e : rightQ r n = (r.have_.all (cntL n) && (r.ask.all due && (cnt r.now && (K8.rightK r.keep && (r.win.all W9.rightW && (r.top.all cnt && within r.naks 0 1000)))))) := by
    simp only [rightQ, h1, h2, h3, h4, h5, h6, beq_self_eq_true, Bool.true_and]
  rw [e, hl]
  refine ⟨1, ?_⟩
  refine Fk_f (by simp) (Fk_of (fun (h : r.have_.all (cntL n) = true) => Fk_of (fun (h : r.ask.all due = true) => ⟨_, c73 _, Fk_of (fun h => ⟨_, K8.c76 _, Fk_of (fun h => ⟨_, c77 _, Fk_of (fun h => ⟨_, c72 _, Fk_of (fun h => Fk_t (by simp) ⟨_, c69 _ _ _, ?_⟩) fun h => ?_⟩) fun h => ?_⟩) fun h => ?_⟩) fun h => ?_⟩) fun (h : r.ask.all due = false) => ?_) fun (h : r.have_.all (cntL n) = false) => ?_)
  all_goals simp only [rvB, *, Bool.true_and, Bool.false_and])
end Go.Proofs.YtnhaofaeaokgdaaGreat.M
