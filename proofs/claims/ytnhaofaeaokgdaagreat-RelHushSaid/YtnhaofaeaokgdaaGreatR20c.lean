import Derived.Test.YtnhaofaeaokgdaaGreatR20b
set_option linter.all false
set_option linter.unusedVariables false
set_option linter.unusedSimpArgs false
set_option linter.unnecessarySimpa false
namespace Go.Proofs.YtnhaofaeaokgdaaGreat.M
open Go Go.Mir Go.Proofs

/-! ### Packets, counts, rows with a thing in a place -/
def fewP (p : Packet) : Bool := fewI p.item && decide ((p.l.length : Int) ≤ 80)
theorem c8 (p : Packet) : Cl 8 [ePacket p] [.pv (B (fewP p))] := t8 _ (by
  unfold P8
  simp only [Ln, List.length_map]
  exact ⟨_, c29 _, fun _ _ _ => Fk_of (fun h => by simp only [rvB, fewP, h, Bool.true_and]) fun h => by simp only [rvB, fewP, h, Bool.false_and]⟩)
def sameP (a b : Packet) : Bool := sameI a.item b.item && a.l == b.l && a.kind == b.kind && a.from_ == b.from_ && a.to_ == b.to_ && a.lo == b.lo && a.many == b.many && a.top == b.top
theorem c63 (a b : Packet) : Cl 63 [ePacket a, ePacket b] [.pv (B (sameP a b))] := t63 _ _ (by
  refine ⟨_, c30 _ _, _, c55 _ _, ?_⟩
  simp only [rvB, sameP]
  refine Fk_of (fun h => Fk_of (fun h => Fk_of (fun h => Fk_of (fun h => Fk_of (fun h => Fk_of (fun h => Fk_of (fun h => ?_) fun h => ?_) fun h => ?_) fun h => ?_) fun h => ?_) fun h => ?_) fun h => ?_) fun h => ?_
  all_goals simp [*])
def zI : Item := ⟨0, 0, 0, 0, 0, 0, [], []⟩
def mayP (p : Packet) : Bool :=
  within p.from_ 0 63 &&
  if p.kind = 1 then mayI p.item && p.to_ == 0 && p.lo == 0 && p.many == 0 && p.top == 0 && (p.l.length : Int) == 0
  else if p.kind = 2 then mayI p.item && p.to_ == 0 && p.lo == 0 && p.many == 0 && p.top == 0 && (p.l.length : Int) == 0
  else if p.kind = 3 then sameI p.item zI && within p.to_ 0 63 && within p.lo 1 4611686018427387904 && within p.many 1 64 && p.top == 0 && (p.l.length : Int) == 0
  else if p.kind = 4 then p.l.all cnt && (sameI p.item zI && p.to_ == 0 && p.lo == 0 && p.many == 0 && within p.top 0 4611686018427387904 && within p.l.length 2 64)
  else false
theorem c9 (p : Packet) : Cl 9 [ePacket p] [.pv (B (mayP p))] := t9 _ (by
  unfold P9
  simp only [SmA_true, true_and]
  refine ⟨_, Ct.dull (c30 p.item zI) rfl, _, c31 _, Fk_of (fun h => ?_) fun h1 => Fk_of (fun h => ?_) fun h2 => ?_⟩
  · have : within p.from_ 0 63 = false := by simp at h; simp [within]; omega
    simp only [rvB, mayP, this, Bool.false_and]
  · have : within p.from_ 0 63 = false := by simp at h; simp [within]; omega
    simp only [rvB, mayP, this, Bool.false_and]
  have hf : within p.from_ 0 63 = true := by simp at h1 h2; simp [within]; omega
  refine Fk_of (fun h => ?_) fun k1 => Fk_of (fun h => ?_) fun k2 => Fk_of (fun h => ?_) fun k3 => Fk_of (fun h => ?_) fun k4 => ?_
  · have hk : p.kind = 1 := by simpa using h
    simp only [Ln, List.length_map, rvB, mayP, hf, hk, if_true, Bool.true_and]
    intro _ _ _
    refine Fk_of (fun h => Fk_of (fun h => Fk_of (fun h => Fk_of (fun h => Fk_of (fun h => ?_) fun h => ?_) fun h => ?_) fun h => ?_) fun h => ?_) fun h => ?_
    all_goals simp [*]
  · have hk : p.kind = 2 := by simpa using h
    simp only [Ln, List.length_map, rvB, mayP, hf, hk, if_true, Bool.true_and, show ¬ (2 : Int) = 1 by decide, if_false]
    intro _ _ _
    refine Fk_of (fun h => Fk_of (fun h => Fk_of (fun h => Fk_of (fun h => Fk_of (fun h => ?_) fun h => ?_) fun h => ?_) fun h => ?_) fun h => ?_) fun h => ?_
    all_goals simp [*]
  · have hk : p.kind = 3 := by simpa using h
    simp only [Ln, List.length_map, rvB, mayP, hf, hk, if_true, Bool.true_and, show ¬ (3 : Int) = 1 by decide, show ¬ (3 : Int) = 2 by decide, if_false]
    intro _ _ _
    simp only [within]
    refine Fk_of (fun h => Fk_of (fun h => Fk_of (fun h => Fk_of (fun h => Fk_of (fun h => Fk_of (fun h => Fk_of (fun h => Fk_of (fun h => ?_) fun h => ?_) fun h => ?_) fun h => ?_) fun h => ?_) fun h => ?_) fun h => ?_) fun h => ?_) fun h => ?_
    all_goals simp [*]
  · have hk : p.kind = 4 := by simpa using h
    have hm : mayP p = (p.l.all cnt && (sameI p.item zI && p.to_ == 0 && p.lo == 0 && p.many == 0 && within p.top 0 4611686018427387904 && within p.l.length 2 64)) := by
      simp only [mayP, hf, hk, if_true, Bool.true_and, show ¬ (4 : Int) = 1 by decide, show ¬ (4 : Int) = 2 by decide, show ¬ (4 : Int) = 3 by decide, if_false]
    rw [hm]
    refine Lo_all p.l cnt (fun i => (sameI p.item zI, (i : Int), (), ())) (sameI p.item zI && p.to_ == 0 && p.lo == 0 && p.many == 0 && within p.top 0 4611686018427387904 && within p.l.length 2 64) (G := fun c => RvsLe [.pv (B c)] [.pv (B (p.l.all cnt && (sameI p.item zI && p.to_ == 0 && p.lo == 0 && p.many == 0 && within p.top 0 4611686018427387904 && within p.l.length 2 64)))]) ?_ ?_ (.refl _)
    · intro L hg
      simp only [Ln, List.length_map]
      intro _ _ _
      refine Fk_f (by simp) ?_
      simp only [within] at hg ⊢
      refine Fk_of (fun h => Fk_of (fun h => Fk_of (fun h => Fk_of (fun h => Fk_of (fun h => Fk_of (fun h => Fk_of (fun h => ?_) fun h => ?_) fun h => ?_) fun h => ?_) fun h => ?_) fun h => ?_) fun h => ?_) fun h => ?_
      all_goals simpa [*] using hg
    · intro L i x hi hx hf hL
      simp only [Ln, List.length_map]
      intro _ _ hl
      refine Fk_t (by simpa using hi) (Ix_nat hx (Fk_of (fun h => hf (by simp at h; simp [cnt, within]; omega)) fun h => Ix_nat hx (Fk_of (fun h => hf (by simp at h; simp [cnt, within]; omega)) fun h' => ?_)))
      rw [w64_succ hi hl]; exact hL (by simp at h h'; simp [cnt, within]; omega)
  · simp only [beq_eq_false_iff_ne, ne_eq] at k1 k2 k3 k4
    simp only [rvB, mayP, hf, k1, k2, k3, k4, if_false, Bool.true_and])
theorem c10 (l : List Int) (n : Int) : Cl 10 [lI l, I n] [.pv (B (l.all cnt && (l.length : Int) == n))] := t10 _ _ (by
  unfold P10
  simp only [SmA_true, true_and, Ln, List.length_map]
  refine Lo_all l cnt (fun i => ((i : Int), ())) ((l.length : Int) == n) (G := fun c => RvsLe [.pv (B c)] [.pv (B (l.all cnt && (l.length : Int) == n))]) ?_ ?_ (.refl _)
  · exact fun L hg hl => Fk_f (by simp) hg
  · intro L i x hi hx hf hL hl
    refine Fk_t (by simpa using hi) (Ix_nat hx ⟨_, c27 _, Fk_of (fun h => hf (by simpa using h)) fun h => ?_⟩)
    rw [w64_succ hi hl]; exact hL (by simpa using h))
/-- A clone. -/
theorem clone_of {α : Type} {e : α → PV} {n b ty sz : Nat} (hn : ∀ a, (e a).cells.length = n) (h0 : 0 < n) (hc : ∀ a, (e a).cells.all PV.isCell = true) (l : List α) (hl : l.length * b ≤ 140737488355328) :
    Nq (l.map e) (RvsLe [.pv (.sl true [])] [.fresh ty sz (l.map e)]) (Ok (okNews n (l.map e)) (Sz 0 (l.map e).length b (RvsLe [.fresh ty sz (l.map e)] [.fresh ty sz (l.map e)]))) := by
  refine Nq_map (fun a h => ?_) (fun h => ?_) (Ok_of (okNews_map hn hc l) (Sz_of (by simpa using hl) (.refl _)))
  · have := hn a; rw [h] at this; simp at this; omega
  · subst h; exact .rowNil
theorem c51 (l : List Int) (h : l.length ≤ 1000000) : Cl 51 [lI l] [.fresh 3 1 (l.map I)] := t51 _ (clone_of (n := 1) (fun _ => rfl) (by omega) (fun _ => rfl) l (by omega))
theorem c89 (l : List (List Int)) (h : l.length ≤ 1000000) : Cl 89 [.sl false (l.map lI)] [.fresh 26 1 (l.map lI)] := t89 _ (clone_of (n := 1) (fun _ => rfl) (by omega) (fun _ => rfl) l (by omega))
theorem c104 (l : List Ask) (h : l.length ≤ 1000000) : Cl 104 [lAsk l] [.fresh 67 1 (l.map eAsk)] := t104 _ (clone_of (n := 1) (fun _ => rfl) (by omega) (fun _ => rfl) l (by omega))
theorem c95 (l : List Win) (h : l.length ≤ 1000000) : Cl 95 [lWin l] [.fresh 62 2 (l.map eWin)] := t95 _ (clone_of (n := 2) (fun _ => rfl) (by omega) (fun _ => rfl) l (by omega))
theorem set_of {α : Type} {e : α → PV} {ty sz : Nat} (l : List α) (i : Nat) (x : α) (hi : i < l.length) : Rx (i : Int) (l.map e).length (Ld e (l.map e) (0 + (i : Int).toNat) fun _ => RvsLe [.fresh ty sz ((l.map e).set (0 + (i : Int).toNat) (e x))] [.pv (.sl false ((l.set i x).map e))]) := by
  refine Rx_nat (by simpa using hi) ?_
  rw [Int.toNat_natCast, Nat.zero_add]
  refine Ld_map (List.getElem?_eq_getElem hi) ?_
  rw [← List.map_set]
  exact .cons (.toRow _ _ _) .nil
theorem c88 (l : List Int) (i : Nat) (x : Int) (hi : i < l.length) (h : l.length ≤ 1000000) : Cl 88 [lI l, I i, I x] [.pv (lI (l.set i x))] := t88 _ _ _ ⟨_, c51 l h, set_of l i x hi⟩
theorem c34 (l : List (List Int)) (i : Nat) (x : List Int) (hi : i < l.length) (h : l.length ≤ 1000000) : Cl 34 [.sl false (l.map lI), I i, lI x] [.pv (.sl false ((l.set i x).map lI))] := t34 _ _ _ ⟨_, c89 l h, set_of l i x hi⟩
theorem c50 (l : List Ask) (i : Nat) (x : Ask) (hi : i < l.length) (h : l.length ≤ 1000000) : Cl 50 [lAsk l, I i, eAsk x] [.pv (lAsk (l.set i x))] := t50 _ _ _ ⟨_, c104 l h, set_of l i x hi⟩
theorem c37 (l : List Win) (i : Nat) (x : Win) (hi : i < l.length) (h : l.length ≤ 1000000) : Cl 37 [lWin l, I i, eWin x] [.pv (lWin (l.set i x))] := t37 _ _ _ ⟨_, c95 l h, set_of l i x hi⟩
end Go.Proofs.YtnhaofaeaokgdaaGreat.M
