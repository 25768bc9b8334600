import Derived.Test.YtnekeanhkkfpnaaG19
set_option linter.all false
set_option linter.unusedVariables false
set_option linter.unusedSimpArgs false
set_option linter.unnecessarySimpa false
namespace Go.Proofs.Ytnekeanhkkfpnaa.M
open Go Go.Mir Go.Proofs

def within (n lo hi : Int) : Bool := decide (lo ≤ n) && decide (n ≤ hi)
def each (l : List Int) (m : Int) : Bool := l.all fun n => within n 0 m
theorem each_cons (a : Int) (r : List Int) (m : Int) : each (a :: r) m = (within a 0 m && each r m) := rfl
def bare (f g : Bool) (x : Item) : Bool := x.total == 0 && (f || x.index == 0) && (g || x.count == 0)
def many (a b m : Int) (x : Item) : Bool := within x.l.length a b && each x.l m && (x.body.length : Int) == 0
def noth (x : Item) : Bool := (x.l.length : Int) == 0 && (x.body.length : Int) == 0
def data (x : Item) : Bool := within x.total 1 32 && within x.index 0 (x.total - 1) && x.count == 0 && (x.l.length : Int) == 0 && decide ((x.body.length : Int) ≤ 1024)
def ruleOf (x : Item) : Bool :=
  if x.kind = 1 then data x else if x.kind = 2 then bare true false x && within x.index 0 1 && many 1 64 63 x else if x.kind = 3 then bare false false x && noth x
  else if x.kind = 4 then bare true false x && within x.index 0 1 && noth x else if x.kind = 5 then bare false true x && noth x && within x.count 0 4611686018427387904
  else if x.kind = 6 then bare false false x && many 2 64 4611686018427387904 x else false
def mayI (x : Item) : Bool := ruleOf x && within x.seq 1 4611686018427387904 && within x.epoch 0 4611686018427387904
theorem c32 (l : List Int) (m : Int) : Cl 32 [lI l, I m] [.pv (B (each l m))] := t32 _ _ (by
  unfold P32
  simp only [Ln, SmA_true, true_and, List.length_map, rvB]
  refine Lo_drop l (fun i r v => v = ((i : Int), ()) ∧ each l m = each r m) ?_ ?_ ⟨rfl, rfl⟩
  · rintro L _ ⟨rfl, he⟩ hl
    exact Fk_f (by simp) (by rw [he]; rfl)
  · rintro L i a r _ hi ha _ ⟨rfl, he⟩ hL hl
    rw [he, each_cons]
    refine Fk_t (by simpa using hi) (Ix_nat ha (Fk_of (fun h => ?_) fun h => Ix_nat ha (Fk_of (fun h' => ?_) (fun h' => hL _ ⟨?_, ?_⟩))))
    · simp [within] at h ⊢; grind
    · simp [within] at h' ⊢; grind
    · simp only [w64_succ hi hl]
    · rw [he, each_cons]; simp [within] at h h' ⊢; grind)
theorem may_ref {x : Item} {b c : Bool} (hs : within x.seq 1 4611686018427387904 = true) (he : within x.epoch 0 4611686018427387904 = true) (hb : b = ruleOf x) : b = mayI x := by simp [mayI, hs, he, hb]
set_option maxHeartbeats 2000000 in
theorem c14 (x : Item) : Cl 14 [eItem x] [.pv (B (mayI x))] := t14 _ (by
  unfold P14
  refine Fk_of (fun h => ?_) fun h1 => Fk_of (fun h => ?_) fun h2 => Fk_of (fun h => ?_) fun h3 => Fk_of (fun h => ?_) fun h4 => ?_
  · simp [rvB, mayI, within] at h ⊢ <;> (intros; omega)
  · simp [rvB, mayI, within] at h ⊢ <;> (intros; omega)
  · simp [rvB, mayI, within] at h ⊢ <;> (intros; omega)
  · simp [rvB, mayI, within] at h ⊢ <;> (intros; omega)
  have hs : within x.seq 1 4611686018427387904 = true := by simp at h1 h2; simp [within, h1, h2]
  have he : within x.epoch 0 4611686018427387904 = true := by simp at h3 h4; simp [within, h3, h4]
  simp only [Ln, List.length_map, rvB, mayI, hs, he, Bool.and_true]
  have e1 := c32 x.l 63
  have e2 := c32 x.l 4611686018427387904
  have hn : 0 ≤ (x.l.length : Int) := by omega
  intro _ _
  simp only [ruleOf, data, bare, many, noth, within]
  generalize (x.l.length : Int) = n at *
  generalize (x.body.length : Int) = m at *
  by_cases k1 : x.kind = 1
  · simp only [k1, Int.reduceBEq, Fk_true, Fk_false, reduceIte]
    refine Fk_of (fun h0 => ?_) fun h0 => ?_
    all_goals repeat' refine Fk_of (fun _ => ?_) (fun _ => ?_)
    all_goals simp_all
    all_goals (intros; omega)
  by_cases k2 : x.kind = 2
  · simp only [k2, Int.reduceBEq, Int.reduceEq, Fk_true, Fk_false, reduceIte]
    refine Fk_of (fun h0 => ⟨_, e1, ?_⟩) fun h0 => ⟨_, e1, ?_⟩
    all_goals repeat' refine Fk_of (fun _ => ?_) (fun _ => ?_)
    all_goals simp_all
    all_goals (intros; omega)
  by_cases k3 : x.kind = 3
  · simp only [k3, Int.reduceBEq, Int.reduceEq, Fk_true, Fk_false, reduceIte]
    repeat' refine Fk_of (fun _ => ?_) (fun _ => ?_)
    all_goals simp_all
    all_goals (intros; omega)
  by_cases k4 : x.kind = 4
  · simp only [k4, Int.reduceBEq, Int.reduceEq, Fk_true, Fk_false, reduceIte]
    repeat' refine Fk_of (fun _ => ?_) (fun _ => ?_)
    all_goals simp_all
    all_goals (intros; omega)
  by_cases k5 : x.kind = 5
  · simp only [k5, Int.reduceBEq, Int.reduceEq, Fk_true, Fk_false, reduceIte]
    repeat' refine Fk_of (fun _ => ?_) (fun _ => ?_)
    all_goals simp_all
    all_goals (intros; omega)
  by_cases k6 : x.kind = 6
  · simp only [k6, Int.reduceBEq, Int.reduceEq, Fk_true, Fk_false, reduceIte]
    refine Fk_of (fun h0 => ⟨_, e2, ?_⟩) fun h0 => ⟨_, e2, ?_⟩
    all_goals repeat' refine Fk_of (fun _ => ?_) (fun _ => ?_)
    all_goals simp_all
    all_goals (intros; omega)
  · repeat' refine Fk_of (fun _ => ?_) (fun _ => ?_)
    all_goals simp_all)
/-- Two rows alike, place by place. -/
def rowEq {α β : Type} (f : α → β → Bool) : List α → List β → Bool
  | [], [] => true
  | a :: r, b :: s => f a b && rowEq f r s
  | _, _ => false
theorem rowEq_len {α β : Type} {f : α → β → Bool} : ∀ {a : List α} {b : List β}, rowEq f a b = true → a.length = b.length
  | [], [], _ => rfl
  | a :: r, b :: s, h => by simp [rowEq] at h; simp [rowEq_len h.2]
  | [], _ :: _, h => by cases h
  | _ :: _, [], h => by cases h
theorem rowEq_beq {α : Type} [BEq α] (a b : List α) : rowEq (fun x y => x == y) a b = (a == b) := by
  induction a generalizing b with
  | nil => cases b <;> rfl
  | cons x r ih => cases b with
    | nil => rfl
    | cons y s => simp only [rowEq, ih]; rfl
/-- A loop over two rows of one length. -/
theorem Lo_two {α β V : Type} {F : (V → Prop) → V → Prop} (a : List α) (b : List β) (f : α → β → Bool) (mk : Nat → V) (hlen : a.length = b.length) {G : Bool → Prop}
    (h0 : ∀ L, G true → F L (mk a.length)) (hs : ∀ (L : V → Prop) (i : Nat) (x : α) (y : β), i < a.length → a[i]? = some x → b[i]? = some y → (f x y = false → G false) → (f x y = true → L (mk (i + 1))) → F L (mk i)) (hG : G (rowEq f a b)) : Lo F (mk 0) := by
  refine Lo_drop a (fun i r v => v = mk i ∧ ∃ s, b.drop i = s ∧ r.length = s.length ∧ G (rowEq f r s)) ?_ ?_ ⟨rfl, b, rfl, hlen, hG⟩
  · rintro L _ ⟨rfl, s, hd, hl, hg⟩
    cases s with
    | nil => exact h0 L hg
    | cons x t => simp at hl
  · rintro L i x r _ hi ha hd ⟨rfl, s, hs', hl, hg⟩ hL
    cases s with
    | nil => simp at hl
    | cons y t =>
      have hb : b[i]? = some y := by
        have : (b.drop i)[0]? = some y := by rw [hs']; rfl
        simpa using this
      simp only [rowEq] at hg
      refine hs L i x y hi ha hb (fun h => by rw [h] at hg; exact hg) (fun h => hL _ ⟨rfl, t, ?_, by simpa using hl, by rw [h] at hg; exact hg⟩)
      have : b.drop (i + 1) = (b.drop i).drop 1 := by rw [List.drop_drop]
      rw [this, hs']; rfl
theorem c26 (a b : List Int) : Cl 26 [lI a, lI b] [.pv (B (a == b))] := t26 _ _ (by
  unfold P26
  simp only [Ln, SmA_true, true_and, List.length_map, rvB]
  intro ha hb
  rw [← rowEq_beq]
  refine Fk_of (fun h => ?_) fun h => ?_
  · cases hr : rowEq (fun x y => x == y) a b with
    | false => rfl
    | true => have := rowEq_len hr; simp [this] at h
  · refine Lo_two a b (fun x y => x == y) (fun i => ((i : Int), ())) (by simp at h; omega) (G := fun c => c = rowEq (fun x y => x == y) a b) ?_ ?_ rfl
    · exact fun L hg => Fk_f (by simp) hg
    · intro L i x y hi hx hy hf hL
      refine Fk_t (by simpa using hi) (Ix_nat hx (Ix_nat hy (Fk_of (fun h => hf (by simpa using h)) fun h => ?_)))
      rw [w64_succ hi ha]; exact hL (by simpa using h))
theorem c30 (a b : List Int) : Cl 30 [lI a, lI b] [.pv (B (a == b))] := t30 _ _ (by
  unfold P30
  simp only [Ln, SmA_true, true_and, List.length_map, rvB]
  intro ha hb
  rw [← rowEq_beq]
  refine Fk_of (fun h => ?_) fun h => ?_
  · cases hr : rowEq (fun x y => x == y) a b with
    | false => rfl
    | true => have := rowEq_len hr; simp [this] at h
  · refine Lo_two a b (fun x y => x == y) (fun i => ((i : Int), ())) (by simp at h; omega) (G := fun c => c = rowEq (fun x y => x == y) a b) ?_ ?_ rfl
    · exact fun L hg => Fk_f (by simp) hg
    · intro L i x y hi hx hy hf hL
      refine Fk_t (by simpa using hi) (Ix_nat hx (Ix_nat hy (Fk_of (fun h => hf (by simpa using h)) fun h => ?_)))
      rw [w64_succ hi ha]; exact hL (by simpa using h))
theorem c29 (a b : List Bool) : Cl 29 [lB a, lB b] [.pv (B (a == b))] := t29 _ _ (by
  unfold P29
  simp only [Ln, SmA_true, true_and, List.length_map, rvB]
  intro ha hb
  rw [← rowEq_beq]
  refine Fk_of (fun h => ?_) fun h => ?_
  · cases hr : rowEq (fun x y => x == y) a b with
    | false => rfl
    | true => have := rowEq_len hr; simp [this] at h
  · refine Lo_two a b (fun x y => x == y) (fun i => ((i : Int), ())) (by simp at h; omega) (G := fun c => c = rowEq (fun x y => x == y) a b) ?_ ?_ rfl
    · exact fun L hg => Fk_f (by simp) hg
    · intro L i x y hi hx hy hf hL
      refine Fk_t (by simpa using hi) (Ix_nat hx (Ix_nat hy (Fk_of (fun h => hf (by simpa using h)) fun h => ?_)))
      rw [w64_succ hi ha]; exact hL (by simpa using h))
theorem c31 (a b : List Bool) : Cl 31 [lB a, lB b] [.pv (B (a == b))] := t31 _ _ (by
  unfold P31
  simp only [Ln, SmA_true, true_and, List.length_map, rvB]
  intro ha hb
  rw [← rowEq_beq]
  refine Fk_of (fun h => ?_) fun h => ?_
  · cases hr : rowEq (fun x y => x == y) a b with
    | false => rfl
    | true => have := rowEq_len hr; simp [this] at h
  · refine Lo_two a b (fun x y => x == y) (fun i => ((i : Int), ())) (by simp at h; omega) (G := fun c => c = rowEq (fun x y => x == y) a b) ?_ ?_ rfl
    · exact fun L hg => Fk_f (by simp) hg
    · intro L i x y hi hx hy hf hL
      refine Fk_t (by simpa using hi) (Ix_nat hx (Ix_nat hy (Fk_of (fun h => hf (by simpa using h)) fun h => ?_)))
      rw [w64_succ hi ha]; exact hL (by simpa using h))
def sameI (a b : Item) : Bool := a.kind == b.kind && a.seq == b.seq && a.epoch == b.epoch && a.index == b.index && a.total == b.total && a.count == b.count && a.l == b.l && a.body == b.body
theorem c25 (a b : Item) : Cl 25 [eItem a, eItem b] [.pv (B (sameI a b))] := t25 _ _ (by
  refine ⟨_, c26 _ _, ?_⟩
  simp only [rvB, sameI]
  refine Fk_of (fun h => Fk_of (fun h => Fk_of (fun h => Fk_of (fun h => Fk_of (fun h => Fk_of (fun h => Fk_of (fun h => By_map (By_map ?_)) fun h => ?_) fun h => ?_) fun h => ?_) fun h => ?_) fun h => ?_) fun h => ?_) fun h => ?_
  all_goals simp [bytes_eq, *])
end Go.Proofs.Ytnekeanhkkfpnaa.M
