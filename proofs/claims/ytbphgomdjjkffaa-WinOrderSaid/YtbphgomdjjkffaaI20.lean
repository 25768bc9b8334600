import Derived.Test.YtbphgomdjjkffaaG20
set_option linter.all false
set_option linter.unusedVariables false
set_option linter.unusedSimpArgs false
set_option linter.unnecessarySimpa false
namespace Go.Proofs.Ytbphgomdjjkffaa.M
open Go Go.Mir Go.Proofs

def within (n lo hi : Int) : Bool := decide (lo ≤ n) && decide (n ≤ hi)
theorem c37 (n lo hi : Int) : Cl 37 [I n, I lo, I hi] [.pv (B (within n lo hi))] := t37 _ _ _ (by
  simp only [P37, Fk, rvB, within]
  grind)
def each (l : List Int) (m : Int) : Bool := l.all fun n => within n 0 m
theorem each_cons (a : Int) (r : List Int) (m : Int) : each (a :: r) m = (within a 0 m && each r m) := rfl
theorem c44 (l : List Int) (m : Int) : Cl 44 [lI l, I m] [.pv (B (each l m))] := t44 _ _ (by
  unfold P44
  simp only [Ln, SmA_true, true_and, List.length_map, rvB]
  intro hl
  refine Lo_drop l (fun i r v => v = ((i : Int), ()) ∧ each l m = each r m) ?_ ?_ ⟨rfl, rfl⟩
  · rintro L _ ⟨rfl, he⟩
    exact Fk_f (by simp) (by rw [he]; rfl)
  · rintro L i a r _ hi ha _ ⟨rfl, he⟩ hL
    rw [he, each_cons]
    refine Fk_t (by simpa using hi) (Ix_nat ha ⟨_, c37 _ _ _, Fk_of (fun h => ?_) (fun h => hL _ ⟨?_, ?_⟩)⟩)
    · simp at h; simp [h]
    · simp only [w64_succ hi hl]
    · simp at h; rw [he, each_cons, h]; rfl)
def bare (f g : Bool) (x : Item) : Bool := x.total == 0 && (f || x.index == 0) && (g || x.count == 0)
theorem c41 (f g : Bool) (x : Item) : Cl 41 [B f, B g, .ip (eItem x).cells 0] [.pv (B (bare f g x))] := t41a _ _ _ (by
  simp only [P41a, Fk, rvB, bare]
  grind)
theorem c42 (x : Item) : Cl 42 [.ip (eItem x).cells 0] [.pv (B (within x.index 0 1))] := t42a _ ⟨_, c37 _ _ _, .refl _⟩
def many (a b m : Int) (x : Item) : Bool := within x.l.length a b && each x.l m && (x.body.length : Int) == 0
theorem c43 (a b m : Int) (x : Item) : Cl 43 [I a, I b, I m, .ip (eItem x).cells 0] [.pv (B (many a b m x))] := t43a _ _ _ _ (by
  refine ⟨_, c37 _ _ _, ?_⟩
  simp only [Fk, many, List.length_map]
  refine ⟨fun h => ⟨_, c44 _ _, ?_⟩, fun h => ?_⟩
  · simp only [rvB, h]; grind
  · simp only [rvB]; grind)
def noth (x : Item) : Bool := (x.l.length : Int) == 0 && (x.body.length : Int) == 0
theorem c45 (x : Item) : Cl 45 [.ip (eItem x).cells 0] [.pv (B (noth x))] := t45a _ (by
  simp only [P45a, Fk, rvB, noth, List.length_map]
  grind)
def data (x : Item) : Bool := within x.total 1 32 && within x.index 0 (x.total - 1) && x.count == 0 && (x.l.length : Int) == 0 && decide ((x.body.length : Int) ≤ 1024)
theorem c46 (x : Item) : Cl 46 [.ip (eItem x).cells 0] [.pv (B (data x))] := t46a _ (by
  refine ⟨_, c37 _ _ _, Fk_of (fun h => ⟨_, c37 _ _ _, ?_⟩) (fun h => ?_)⟩
  · have hw : w64 (x.total - 1) = x.total - 1 := by simp [within] at h; exact w64_id (by omega) (by omega)
    simp only [hw, Fk, rvB, data, List.length_map, h]
    grind
  · simp only [rvB, data, h]; rfl)
theorem c47 (x : Item) : Cl 47 [.ip [.fn (.func 41) [] [.ip (eItem x).cells 0]] 0, .ip [.fn (.func 42) [] [.ip (eItem x).cells 0]] 0, .ip [.fn (.func 43) [] [.ip (eItem x).cells 0]] 0] [.pv (B (bare true false x && within x.index 0 1 && many 1 64 63 x))] := t47a _ _ _ (by
  refine ⟨_, c41 _ _ _, Fk_of (fun h => ⟨_, c42 _, Fk_of (fun h' => ⟨_, c43 _ _ _ _, ?_⟩) (fun h' => ?_)⟩) (fun h => ?_)⟩ <;> simp [rvB, *])
theorem c48 (x : Item) : Cl 48 [.ip [.fn (.func 41) [] [.ip (eItem x).cells 0]] 0, .ip [.fn (.func 45) [] [.ip (eItem x).cells 0]] 0] [.pv (B (bare false false x && noth x))] := t48a _ _ (by
  refine ⟨_, c41 _ _ _, Fk_of (fun h => ⟨_, c45 _, ?_⟩) (fun h => ?_)⟩ <;> simp [rvB, *])
theorem c49 (x : Item) : Cl 49 [.ip [.fn (.func 41) [] [.ip (eItem x).cells 0]] 0, .ip [.fn (.func 42) [] [.ip (eItem x).cells 0]] 0, .ip [.fn (.func 45) [] [.ip (eItem x).cells 0]] 0] [.pv (B (bare true false x && within x.index 0 1 && noth x))] := t49a _ _ _ (by
  refine ⟨_, c41 _ _ _, Fk_of (fun h => ⟨_, c42 _, Fk_of (fun h' => ⟨_, c45 _, ?_⟩) (fun h' => ?_)⟩) (fun h => ?_)⟩ <;> simp [rvB, *])
theorem c50 (x : Item) : Cl 50 [.ip [.fn (.func 41) [] [.ip (eItem x).cells 0]] 0, .ip [.fn (.func 45) [] [.ip (eItem x).cells 0]] 0, .ip (eItem x).cells 0] [.pv (B (bare false true x && noth x && within x.count 0 4611686018427387904))] := t50a _ _ _ (by
  refine ⟨_, c41 _ _ _, Fk_of (fun h => ⟨_, c45 _, Fk_of (fun h' => ⟨_, c37 _ _ _, ?_⟩) (fun h' => ?_)⟩) (fun h => ?_)⟩ <;> simp [rvB, *])
theorem c51 (x : Item) : Cl 51 [.ip [.fn (.func 41) [] [.ip (eItem x).cells 0]] 0, .ip [.fn (.func 43) [] [.ip (eItem x).cells 0]] 0] [.pv (B (bare false false x && many 2 64 4611686018427387904 x))] := t51a _ _ (by
  refine ⟨_, c41 _ _ _, Fk_of (fun h => ⟨_, c43 _ _ _ _, ?_⟩) (fun h => ?_)⟩ <;> simp [rvB, *])
def ruleOf (x : Item) : Bool :=
  if x.kind = 1 then data x else if x.kind = 2 then bare true false x && within x.index 0 1 && many 1 64 63 x else if x.kind = 3 then bare false false x && noth x
  else if x.kind = 4 then bare true false x && within x.index 0 1 && noth x else if x.kind = 5 then bare false true x && noth x && within x.count 0 4611686018427387904
  else if x.kind = 6 then bare false false x && many 2 64 4611686018427387904 x else false
def mayI (x : Item) : Bool := ruleOf x && within x.seq 1 4611686018427387904 && within x.epoch 0 4611686018427387904
theorem may_tail {x : Item} {b : Bool} (hb : ruleOf x = b) : Fk b
    (∃ y, Cl 37 [I x.seq, I 1, I 4611686018427387904] [.pv (B y)] ∧ Fk y (∃ z, Cl 37 [I x.epoch, I 0, I 4611686018427387904] [.pv (B z)] ∧ RvsLe [.pv (B z)] [.pv (B (mayI x))]) (RvsLe [.pv (B false)] [.pv (B (mayI x))])) (RvsLe [.pv (B false)] [.pv (B (mayI x))]) := by
  subst hb
  refine Fk_of (fun h => ⟨_, c37 _ _ _, Fk_of (fun h' => ⟨_, c37 _ _ _, ?_⟩) (fun h' => ?_)⟩) (fun h => ?_) <;> simp [rvB, mayI, *]
theorem c36 (x : Item) {rs : List RV} (h : P36 x (· = rs)) : Cl 36 [eItem x] rs := (t36 x h).mono fun r e => e ▸ .refl _
theorem c27 (x : Item) : Cl 27 [eItem x] [.pv (B (mayI x))] := t27 _ (by
  refine ⟨c36 x rfl, ?_⟩
  refine Fk_of (fun h => ⟨_, c46 x, may_tail ?_⟩) fun h1 => Fk_of (fun h => ⟨_, c47 x, may_tail ?_⟩) fun h2 => Fk_of (fun h => ⟨_, c48 x, may_tail ?_⟩) fun h3 => Fk_of (fun h => ⟨_, c49 x, may_tail ?_⟩) fun h4 =>
    Fk_of (fun h => ⟨_, c50 x, may_tail ?_⟩) fun h5 => Fk_of (fun h => ⟨_, c51 x, may_tail ?_⟩) fun h6 => ?_
  all_goals simp only [beq_iff_eq, beq_eq_false_iff_ne, ne_eq] at *
  all_goals simp [ruleOf, rvB, mayI, *])
theorem c35 (l : List Int) (m : Int) : Cl 35 [lI l, I m] [.pv (B (each l m))] := t35 _ _ (by
  unfold P35
  simp only [Ln, SmA_true, true_and, List.length_map, rvB]
  refine Lo_drop l (fun i r v => v = ((i : Int), ()) ∧ each l m = each r m) ?_ ?_ ⟨rfl, rfl⟩
  · rintro L _ ⟨rfl, he⟩ hl
    exact Fk_f (by simp) (by rw [he]; rfl)
  · rintro L i a r _ hi ha _ ⟨rfl, he⟩ hL hl
    rw [he, each_cons]
    refine Fk_t (by simpa using hi) (Ix_nat ha (Fk_of (fun h => ?_) fun h => Ix_nat ha (Fk_of (fun h' => ?_) (fun h' => hL _ ⟨?_, ?_⟩))))
    · simp [within] at h ⊢; grind
    · simp [within] at h' ⊢; grind
    · simp only [w64_succ hi hl]
    · rw [he, each_cons]; simp [within] at h h' ⊢; grind)
theorem may_ref {x : Item} {b c : Bool} (hs : within x.seq 1 4611686018427387904 = true) (he : within x.epoch 0 4611686018427387904 = true) (hb : b = ruleOf x) : b = mayI x := by simp [mayI, hs, he, hb]
set_option maxHeartbeats 2000000 in
theorem c26 (x : Item) : Cl 26 [eItem x] [.pv (B (mayI x))] := t26 _ (by
  unfold P26
  refine Fk_of (fun h => ?_) fun h1 => Fk_of (fun h => ?_) fun h2 => Fk_of (fun h => ?_) fun h3 => Fk_of (fun h => ?_) fun h4 => ?_
  · simp [rvB, mayI, within] at h ⊢ <;> (intros; omega)
  · simp [rvB, mayI, within] at h ⊢ <;> (intros; omega)
  · simp [rvB, mayI, within] at h ⊢ <;> (intros; omega)
  · simp [rvB, mayI, within] at h ⊢ <;> (intros; omega)
  have hs : within x.seq 1 4611686018427387904 = true := by simp at h1 h2; simp [within, h1, h2]
  have he : within x.epoch 0 4611686018427387904 = true := by simp at h3 h4; simp [within, h3, h4]
  simp only [Ln, List.length_map, rvB, mayI, hs, he, Bool.and_true]
  have e1 := c35 x.l 63
  have e2 := c35 x.l 4611686018427387904
  have hn : 0 ≤ (x.l.length : Int) := by omega
  intro _ _
  simp only [ruleOf, data, bare, many, noth, within]
  generalize (x.l.length : Int) = n at *
  generalize (x.body.length : Int) = m at *
  by_cases k1 : x.kind = 1
  · simp only [k1, Int.reduceBEq, Fk_true, Fk_false, reduceIte]
    refine Fk_of (fun h0 => ?_) fun h0 => ?_
    all_goals repeat' refine Fk_of (fun _ => ?_) (fun _ => ?_)
    all_goals simp_all
    all_goals (intros; omega)
  by_cases k2 : x.kind = 2
  · simp only [k2, Int.reduceBEq, Int.reduceEq, Fk_true, Fk_false, reduceIte]
    refine Fk_of (fun h0 => ⟨_, e1, ?_⟩) fun h0 => ⟨_, e1, ?_⟩
    all_goals repeat' refine Fk_of (fun _ => ?_) (fun _ => ?_)
    all_goals simp_all
    all_goals (intros; omega)
  by_cases k3 : x.kind = 3
  · simp only [k3, Int.reduceBEq, Int.reduceEq, Fk_true, Fk_false, reduceIte]
    repeat' refine Fk_of (fun _ => ?_) (fun _ => ?_)
    all_goals simp_all
    all_goals (intros; omega)
  by_cases k4 : x.kind = 4
  · simp only [k4, Int.reduceBEq, Int.reduceEq, Fk_true, Fk_false, reduceIte]
    repeat' refine Fk_of (fun _ => ?_) (fun _ => ?_)
    all_goals simp_all
    all_goals (intros; omega)
  by_cases k5 : x.kind = 5
  · simp only [k5, Int.reduceBEq, Int.reduceEq, Fk_true, Fk_false, reduceIte]
    repeat' refine Fk_of (fun _ => ?_) (fun _ => ?_)
    all_goals simp_all
    all_goals (intros; omega)
  by_cases k6 : x.kind = 6
  · simp only [k6, Int.reduceBEq, Int.reduceEq, Fk_true, Fk_false, reduceIte]
    refine Fk_of (fun h0 => ⟨_, e2, ?_⟩) fun h0 => ⟨_, e2, ?_⟩
    all_goals repeat' refine Fk_of (fun _ => ?_) (fun _ => ?_)
    all_goals simp_all
    all_goals (intros; omega)
  · repeat' refine Fk_of (fun _ => ?_) (fun _ => ?_)
    all_goals simp_all)
def fewI (a : Item) : Bool := decide ((a.l.length : Int) ≤ 80) && decide ((a.body.length : Int) ≤ 1100)
theorem c10 (a : Item) : Cl 10 [eItem a] [.pv (B (fewI a))] := t10 _ (by
  simp only [P10, Ln, Fk, rvB, fewI, List.length_map]
  grind)
def fewL (l : List Item) : Bool := decide ((l.length : Int) ≤ 80) && l.all fewI
theorem c9 (l : List Item) : Cl 9 [lItem l] [.pv (B (fewL l))] := t9 _ (by
  unfold P9
  simp only [Ln, SmA_true, true_and, List.length_map, rvB]
  intro hl
  refine Fk_of (fun h => ?_) fun h => ?_
  · simp at h; simp [fewL]; intro h'; omega
  have h8 : fewL l = l.all fewI := by simp at h; simp [fewL]; intro _; omega
  rw [h8]
  refine Lo_drop l (fun i r v => v = ((i : Int), ()) ∧ l.all fewI = r.all fewI) ?_ ?_ ⟨rfl, rfl⟩
  · rintro L _ ⟨rfl, he⟩
    exact Fk_f (by simp) (by rw [he]; rfl)
  · rintro L i a r _ hi ha _ ⟨rfl, he⟩ hL
    rw [he, List.all_cons]
    refine Fk_t (by simpa using hi) (Ix_nat ha ⟨_, c10 _, Fk_of (fun h => ?_) (fun h => hL _ ⟨?_, ?_⟩)⟩)
    · simp at h; simp [h]
    · simp only [w64_succ hi hl]
    · simp at h; rw [he, List.all_cons, h]; rfl)
/-- Two rows alike, place by place. -/
def rowEq {α : Type} (f : α → α → Bool) : List α → List α → Bool
  | [], [] => true
  | a :: r, b :: s => f a b && rowEq f r s
  | _, _ => false
theorem rowEq_len {α : Type} {f : α → α → Bool} : ∀ {a b : List α}, rowEq f a b = true → a.length = b.length
  | [], [], _ => rfl
  | a :: r, b :: s, h => by simp [rowEq] at h; simp [rowEq_len h.2]
  | [], _ :: _, h => by cases h
  | _ :: _, [], h => by cases h
theorem rowEq_beq (a b : List Int) : rowEq (fun x y => x == y) a b = (a == b) := by
  induction a generalizing b with
  | nil => cases b <;> rfl
  | cons x r ih => cases b with
    | nil => rfl
    | cons y s => simp only [rowEq, ih]; rfl
/-- A loop over two rows of one length. -/
theorem Lo_two {α V : Type} {F : (V → Prop) → V → Prop} (a b : List α) (f : α → α → Bool) (mk : Nat → V) (hlen : a.length = b.length) {G : Bool → Prop}
    (h0 : ∀ L, G true → F L (mk a.length)) (hs : ∀ (L : V → Prop) (i : Nat) (x y : α), i < a.length → a[i]? = some x → b[i]? = some y → (f x y = false → G false) → (f x y = true → L (mk (i + 1))) → F L (mk i)) (hG : G (rowEq f a b)) : Lo F (mk 0) := by
  refine Lo_drop a (fun i r v => v = mk i ∧ ∃ s, b.drop i = s ∧ r.length = s.length ∧ G (rowEq f r s)) ?_ ?_ ⟨rfl, b, rfl, hlen, hG⟩
  · rintro L _ ⟨rfl, s, hd, hl, hg⟩
    cases s with
    | nil => exact h0 L hg
    | cons x t => simp at hl
  · rintro L i x r _ hi ha hd ⟨rfl, s, hs', hl, hg⟩ hL
    cases s with
    | nil => simp at hl
    | cons y t =>
      have hb : b[i]? = some y := by
        have : (b.drop i)[0]? = some y := by rw [hs']; rfl
        simpa using this
      simp only [rowEq] at hg
      refine hs L i x y hi ha hb (fun h => by rw [h] at hg; exact hg) (fun h => hL _ ⟨rfl, t, ?_, by simpa using hl, by rw [h] at hg; exact hg⟩)
      have : b.drop (i + 1) = (b.drop i).drop 1 := by rw [List.drop_drop]
      rw [this, hs']; rfl
theorem c38 (a b : List Int) : Cl 38 [lI a, lI b] [.pv (B (a == b))] := t38 _ _ (by
  unfold P38
  simp only [Ln, SmA_true, true_and, List.length_map, rvB]
  intro ha hb
  rw [← rowEq_beq]
  refine Fk_of (fun h => ?_) fun h => ?_
  · cases hr : rowEq (fun x y => x == y) a b with
    | false => rfl
    | true => have := rowEq_len hr; simp [this] at h
  · refine Lo_two a b (fun x y => x == y) (fun i => ((i : Int), ())) (by simp at h; omega) (G := fun c => c = rowEq (fun x y => x == y) a b) ?_ ?_ rfl
    · exact fun L hg => Fk_f (by simp) hg
    · intro L i x y hi hx hy hf hL
      refine Fk_t (by simpa using hi) (Ix_nat hx (Ix_nat hy (Fk_of (fun h => hf (by simp at h ⊢; exact h)) fun h => ?_)))
      rw [w64_succ hi ha]; exact hL (by simp at h ⊢; exact h))
theorem c34 (a b : List Int) : Cl 34 [lI a, lI b] [.pv (B (a == b))] := t34 _ _ (by
  unfold P34
  simp only [Ln, SmA_true, true_and, List.length_map, rvB]
  intro ha hb
  rw [← rowEq_beq]
  refine Fk_of (fun h => ?_) fun h => ?_
  · cases hr : rowEq (fun x y => x == y) a b with
    | false => rfl
    | true => have := rowEq_len hr; simp [this] at h
  · refine Lo_two a b (fun x y => x == y) (fun i => ((i : Int), ())) (by simp at h; omega) (G := fun c => c = rowEq (fun x y => x == y) a b) ?_ ?_ rfl
    · exact fun L hg => Fk_f (by simp) hg
    · intro L i x y hi hx hy hf hL
      refine Fk_t (by simpa using hi) (Ix_nat hx (Ix_nat hy (Fk_of (fun h => hf (by simp at h ⊢; exact h)) fun h => ?_)))
      rw [w64_succ hi ha]; exact hL (by simp at h ⊢; exact h))
theorem c39 (a b : List UInt8) : Cl 39 [lU8 a, lU8 b] [.pv (B (a == b))] := t39 _ _ (By_map (By_map (by simp only [rvB, bytes_eq])))
def sameI (a b : Item) : Bool := a.kind == b.kind && a.seq == b.seq && a.epoch == b.epoch && a.index == b.index && a.total == b.total && a.count == b.count && a.l == b.l && a.body == b.body
theorem c25 (a b : Item) : Cl 25 [eItem a, eItem b] [.pv (B (sameI a b))] := t25 _ _ (by
  refine ⟨_, c34 _ _, ?_⟩
  simp only [rvB, sameI]
  refine Fk_of (fun h => Fk_of (fun h => Fk_of (fun h => Fk_of (fun h => Fk_of (fun h => Fk_of (fun h => Fk_of (fun h => By_map (By_map ?_)) fun h => ?_) fun h => ?_) fun h => ?_) fun h => ?_) fun h => ?_) fun h => ?_) fun h => ?_
  all_goals simp [bytes_eq, *])
theorem c29 (a b : Item) : Cl 29 [eItem a, eItem b] [.pv (B (sameI a b))] := t29 _ _ (by
  unfold P29
  simp only [rvB, sameI]
  refine Fk_of (fun h => Fk_of (fun h => Fk_of (fun h => Fk_of (fun h => Fk_of (fun h => Fk_of (fun h => ⟨_, c38 _ _, Fk_of (fun h => ⟨_, c39 _ _, ?_⟩) fun h => ?_⟩) fun h => ?_) fun h => ?_) fun h => ?_) fun h => ?_) fun h => ?_) fun h => ?_
  all_goals simp [*])
theorem c30 (a b : List Item) : Cl 30 [lItem a, lItem b] [.pv (B (rowEq sameI a b))] := t30 _ _ (by
  unfold P30
  simp only [Ln, SmA_true, true_and, List.length_map, rvB]
  intro ha hb
  refine Fk_of (fun h => ?_) fun h => ?_
  · cases hr : rowEq sameI a b with
    | false => rfl
    | true => have := rowEq_len hr; simp [this] at h
  · refine Lo_two a b sameI (fun i => ((i : Int), ())) (by simp at h; omega) (G := fun c => c = rowEq sameI a b) ?_ ?_ rfl
    · exact fun L hg => Fk_f (by simp) hg
    · intro L i x y hi hx hy hf hL
      refine Fk_t (by simpa using hi) (Ix_nat hx (Ix_nat hy ⟨_, c25 _ _, Fk_of (fun h => hf (by simpa using h)) fun h => ?_⟩))
      rw [w64_succ hi ha]; exact hL (by simpa using h))
theorem c28 (a b : List Item) : Cl 28 [lItem a, lItem b, .fn (.func 29) [] []] [.pv (B (rowEq sameI a b))] := t28a _ _ (by
  unfold P28a
  simp only [Ln, SmA_true, true_and, List.length_map, rvB]
  intro ha hb
  refine Fk_of (fun h => ?_) fun h => ?_
  · cases hr : rowEq sameI a b with
    | false => rfl
    | true => have := rowEq_len hr; simp [this] at h
  · refine Lo_two a b sameI (fun i => ((i : Int), ())) (by simp at h; omega) (G := fun c => c = rowEq sameI a b) ?_ ?_ rfl
    · exact fun L hg => Fk_f (by simp) hg
    · intro L i x y hi hx hy hf hL
      refine Fk_t (by simpa using hi) (Ix_nat hx (Ix_nat hy ⟨_, c29 _ _, Fk_of (fun h => hf (by simpa using h)) fun h => ?_⟩))
      rw [w64_succ hi ha]; exact hL (by simpa using h))
end Go.Proofs.Ytbphgomdjjkffaa.M
