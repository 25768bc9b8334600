import Derived.Test.YtnhaofaeaokgdaaGreatV20
import Derived.Test.YtnhaofaeaokgdaaGreatK20
import Derived.Test.YtnhaofaeaokgdaaGreatW20
set_option linter.all false
set_option linter.unusedVariables false
set_option linter.unusedSimpArgs false
set_option linter.unnecessarySimpa false
namespace Go.Proofs.YtnhaofaeaokgdaaGreat.M
open Go Go.Mir Go.Proofs

def cnt (n : Int) : Bool := within n 0 4611686018427387904
theorem c69 (n lo hi : Int) : Cl 69 [I n, I lo, I hi] [.pv (B (within n lo hi))] := t69 _ _ _ (by
  simp only [P69, Fk, rvB, within]
  grind)
theorem c73 (n : Int) : Cl 73 [I n] [.pv (B (cnt n))] := t73 _ ⟨_, c69 _ _ _, .refl _⟩
/-- Where the first one is, or -1. -/
def idxF {α : Type} (f : α → Bool) : Nat → List α → Int
  | _, [] => -1
  | i, x :: r => if f x then i else idxF f (i + 1) r
theorem idxF_any {α : Type} (f : α → Bool) : ∀ (l : List α) (i : Nat), decide (0 ≤ idxF f i l) = l.any f
  | [], i => rfl
  | x :: r, i => by
    unfold idxF
    cases h : f x with
    | true => simp [h]
    | false => simp [h, idxF_any f r]
theorem any_not {α : Type} (f : α → Bool) (l : List α) : (!l.any fun x => !f x) = l.all f := by
  induction l with
  | nil => rfl
  | cons x r ih => simp [← ih]
theorem Lo_idx {α : Type} {e : α → PV} {l : List α} (f : α → Bool) {C : α → Bool → Prop} (hl : l.length ≤ 9223372036854775807) (hc : ∀ a, C a (f a)) :
    Lo (fun (L : Int × Unit → Prop) (v : Int × Unit) => Fk (decide (v.1 < (l.length : Int))) (Ix e (l.map e) v.1 fun x => ∃ b, C x b ∧ Fk b (RvsLe [.pv (I v.1)] [.pv (I (idxF f 0 l))]) (L (w64 (v.1 + 1), ()))) (RvsLe [.pv (I (-1))] [.pv (I (idxF f 0 l))])) (0, ()) := by
  refine Lo_drop l (fun i r v => v = ((i : Int), ()) ∧ idxF f 0 l = idxF f i r) ?_ ?_ ⟨rfl, rfl⟩
  · rintro L _ ⟨rfl, he⟩
    exact Fk_f (by simp) (by rw [he]; exact .refl _)
  · rintro L i a r _ hi ha _ ⟨rfl, he⟩ hL
    refine Fk_t (by simpa using hi) (Ix_nat ha ⟨_, hc _, Fk_of (fun h => ?_) (fun h => hL _ ⟨?_, ?_⟩)⟩)
    · rw [he]; simp only [idxF, h, if_true]; exact .refl _
    · simp only [w64_succ hi hl]
    · rw [he]; simp [idxF, h]
theorem c108 (l : List Int) : Cl 108 [lI l, .fn (.func 113) [] [.ip [.fn (.func 73) [] []] 0]] [.pv (I (idxF (fun x => !cnt x) 0 l))] := t108a _ (by
  unfold P108a
  simp only [Ln, SmA_true, true_and, List.length_map]
  intro hl
  refine Lo_idx _ hl ?_
  exact fun a => t113a _ ⟨_, c73 _, .refl _⟩)
theorem c72 (l : List Int) : Cl 72 [lI l, .fn (.func 73) [] []] [.pv (B (l.all cnt))] := t72a _ ⟨_, t112a _ ⟨_, c108 _, .refl _⟩, by rw [idxF_any, any_not]; exact .refl _⟩
def cntL (n : Int) (l : List Int) : Bool := (l.length : Int) == n && l.all cnt
theorem c71 (l : List Int) (n : Int) : Cl 71 [lI l, .ip [I n] 0] [.pv (B (cntL n l))] := t71a _ _ (by
  unfold P71a
  simp only [Ln, List.length_map]
  exact fun _ => Fk_of (fun h => ⟨_, c72 _, by simp only [rvB, cntL, h, Bool.true_and]⟩) fun h => by simp only [rvB, cntL, h, Bool.false_and])
theorem c127 (l : List (List Int)) (n : Int) : Cl 127 [.sl false (l.map lI), .fn (.func 111) [] [.ip [.fn (.func 71) [] [.ip [I n] 0]] 0]] [.pv (I (idxF (fun x => !cntL n x) 0 l))] := t127a _ _ (by
  unfold P127a
  simp only [Ln, SmA_true, true_and, List.length_map]
  intro hl
  refine Lo_idx _ hl ?_
  exact fun a => t111a _ _ ⟨_, c71 _ _, .refl _⟩)
theorem c70 (l : List (List Int)) (n : Int) : Cl 70 [.sl false (l.map lI), .fn (.func 71) [] [.ip [I n] 0]] [.pv (B (l.all (cntL n)))] := t70a _ _ ⟨_, t110a _ _ ⟨_, c127 _ _, .refl _⟩, by rw [idxF_any, any_not]; exact .refl _⟩
def due (a : Ask) : Bool := within a.due 0 4611686018427388904
theorem c75 (a : Ask) : Cl 75 [eAsk a] [.pv (B (due a))] := t75 _ ⟨_, c69 _ _ _, .refl _⟩
theorem c128 (l : List Ask) : Cl 128 [lAsk l, .fn (.func 115) [] [.ip [.fn (.func 75) [] []] 0]] [.pv (I (idxF (fun x => !due x) 0 l))] := t128a _ (by
  unfold P128a
  simp only [Ln, SmA_true, true_and, List.length_map]
  intro hl
  refine Lo_idx _ hl ?_
  exact fun a => t115a _ ⟨_, c75 _, .refl _⟩)
theorem c74 (l : List Ask) : Cl 74 [lAsk l, .fn (.func 75) [] []] [.pv (B (l.all due))] := t74a _ ⟨_, t114a _ ⟨_, c128 _, .refl _⟩, by rw [idxF_any, any_not]; exact .refl _⟩
theorem c129 (l : List Win) : Cl 129 [lWin l, .fn (.func 117) [] [.ip [.fn (.func 78) [] []] 0]] [.pv (I (idxF (fun x => !W9.rightW x) 0 l))] := t129a _ (by
  unfold P129a
  simp only [Ln, SmA_true, true_and, List.length_map]
  intro hl
  refine Lo_idx _ hl ?_
  exact fun a => t117a _ ⟨_, W9.c78 _, .refl _⟩)
theorem c77 (l : List Win) : Cl 77 [lWin l, .fn (.func 78) [] []] [.pv (B (l.all W9.rightW))] := t77a _ ⟨_, t116a _ ⟨_, c129 _, .refl _⟩, by rw [idxF_any, any_not]; exact .refl _⟩

/-! ### Rows that are the same -/
theorem Lo_eq {α : Type} {e : α → PV} {a b : List α} (f : α → α → Bool) {C : α → α → Bool → Prop} (ha : a.length ≤ 9223372036854775807) (hab : a.length = b.length) (hc : ∀ x y, C x y (f x y)) :
    Lo (fun (L : Int × Unit → Prop) (v : Int × Unit) => Fk (decide (v.1 < (a.length : Int))) (Ix e (a.map e) v.1 fun x => Ix e (b.map e) v.1 fun y => ∃ c, C x y c ∧ Fk (!c) (RvsLe [.pv (B false)] [.pv (B (rowEq f a b))]) (L (w64 (v.1 + 1), ()))) (RvsLe [.pv (B true)] [.pv (B (rowEq f a b))])) (0, ()) := by
  refine Lo_two a b f (fun i => ((i : Int), ())) hab (G := fun c => RvsLe [.pv (B c)] [.pv (B (rowEq f a b))]) ?_ ?_ (.refl _)
  · exact fun L hg => Fk_f (by simp) hg
  · intro L i x y hi hx hy hf hL
    refine Fk_t (by simpa using hi) (Ix_nat hx (Ix_nat hy ⟨_, hc _ _, Fk_of (fun h => hf (by simpa using h)) fun h => ?_⟩))
    rw [w64_succ hi ha]; exact hL (by simpa using h)
theorem rowEq_no {α : Type} {f : α → α → Bool} {a b : List α} (h : ((a.length : Int) != (b.length : Int)) = true) : rowEq f a b = false := by
  cases hr : rowEq f a b with
  | false => rfl
  | true => have := rowEq_len hr; simp [this] at h
theorem len_of {α : Type} {a b : List α} (h : ((a.length : Int) != (b.length : Int)) = false) : a.length = b.length := by simp at h; omega
theorem c81 (a b : List Win) : Cl 81 [lWin a, lWin b, .fn (.func 82) [] []] [.pv (B (rowEq W9.sameW a b))] := t81a _ _ (by
  unfold P81a
  simp only [Ln, SmA_true, true_and, List.length_map]
  exact fun ha hb => Fk_of (fun h => by rw [rowEq_no h]; exact .refl _) fun h => Lo_eq _ ha (len_of h) (by exact fun _ _ => W9.c82 _ _))
def eqAsk (a b : Ask) : Bool := a.due == b.due
theorem c83 (a b : List Ask) : Cl 83 [lAsk a, lAsk b] [.pv (B (rowEq eqAsk a b))] := t83 _ _ (by
  unfold P83
  simp only [Ln, SmA_true, true_and, List.length_map, Bool.and_true]
  intro ha hb
  refine Fk_of (fun h => by rw [rowEq_no h]; exact .refl _) fun h => ?_
  refine Lo_two a b eqAsk (fun i => ((i : Int), ())) (len_of h) (G := fun c => RvsLe [.pv (B c)] [.pv (B (rowEq eqAsk a b))]) ?_ ?_ (.refl _)
  · exact fun L hg => Fk_f (by simp) hg
  · intro L i x y hi hx hy hf hL
    refine Fk_t (by simpa using hi) (Ix_nat hx (Ix_nat hy (Fk_of (fun h => hf (by simpa [eqAsk] using h)) fun h => ?_)))
    rw [w64_succ hi ha]; exact hL (by simpa [eqAsk] using h))
theorem rowEq_LL (a b : List (List Int)) : rowEq (fun x y => x == y) a b = (a == b) := by
  induction a generalizing b with
  | nil => cases b <;> rfl
  | cons x r ih => cases b with
    | nil => rfl
    | cons y s => simp only [rowEq, ih]; rfl
theorem c84 (a b : List (List Int)) : Cl 84 [.sl false (a.map lI), .sl false (b.map lI), .fn (.func 80) [] []] [.pv (B (a == b))] := t84a _ _ (by
  unfold P84a
  simp only [Ln, SmA_true, true_and, List.length_map]
  rw [← rowEq_LL]
  exact fun ha hb => Fk_of (fun h => by rw [rowEq_no h]; exact .refl _) fun h => Lo_eq _ ha (len_of h) (by exact fun _ _ => c80 _ _))
theorem c56 (a b : List (List Int)) : Cl 56 [.sl false (a.map lI), .sl false (b.map lI)] [.pv (B (a == b))] := t56 _ _ (by
  unfold P56
  simp only [Ln, SmA_true, true_and, List.length_map]
  rw [← rowEq_LL]
  exact fun ha hb => Fk_of (fun h => by rw [rowEq_no h]; exact .refl _) fun h => Lo_eq _ ha (len_of h) (by exact fun _ _ => c55 _ _))
def sameR (a b : Rel) : Bool := a.me == b.me && a.now == b.now && K8.sameK a.keep b.keep && a.lost == b.lost && a.naks == b.naks && rowEq W9.sameW a.win b.win && a.top == b.top && rowEq eqAsk a.ask b.ask && a.have_ == b.have_
theorem c24 (a b : Rel) : Cl 24 [eRel a, eRel b] [.pv (B (sameR a b))] := t24 _ _ (by
  unfold P24
  have cW := c81 a.win b.win
  have cT := c80 a.top b.top
  have cA := c83 a.ask b.ask
  have hno : ∀ {x : Bool}, sameR a b = false → (∃ x16, Cl 81 [lWin a.win, lWin b.win, .fn (.func 82) [] []] [.pv (B x16)] ∧ Fk x16 (∃ x17, Cl 80 [lI a.top, lI b.top] [.pv (B x17)] ∧ Fk x17 (∃ x18, Cl 83 [lAsk a.ask, lAsk b.ask] [.pv (B x18)] ∧ RvsLe [.pv (B false)] [.pv (B (sameR a b))]) (RvsLe [.pv (B false)] [.pv (B (sameR a b))])) (RvsLe [.pv (B false)] [.pv (B (sameR a b))])) := fun h => by
    rw [h]
    exact ⟨_, cW, Fk_of (fun _ => ⟨_, cT, Fk_of (fun _ => ⟨_, cA, .refl _⟩) fun _ => .refl _⟩) fun _ => .refl _⟩
  refine Fk_of (fun h1 => Fk_of (fun h2 => ⟨_, K8.c79 _ _, Fk_of (fun h3 => ⟨_, c80 _ _, Fk_of (fun h4 => ⟨_, cW, Fk_of (fun h5 => ⟨_, cT, Fk_of (fun h6 => ⟨_, cA, Fk_of (fun h7 => Fk_of (fun h8 => ⟨_, c84 _ _, ?_⟩) fun h8 => ?_) fun h7 => ?_⟩) fun h6 => Fk_of (fun h7 => ?_) fun h7 => ?_⟩) fun h5 => Fk_of (fun h7 => ?_) fun h7 => ?_⟩) fun h4 => hno (x := true) ?_⟩) fun h3 => hno (x := true) ?_⟩) fun h2 => hno (x := true) ?_) fun h1 => hno (x := true) ?_
  all_goals simp [rvB, sameR, *])
theorem c57 (a b : Win) : Cl 57 [eWin a, eWin b] [.pv (B (W9.sameW a b))] := W9.c57 a b
end Go.Proofs.YtnhaofaeaokgdaaGreat.M
