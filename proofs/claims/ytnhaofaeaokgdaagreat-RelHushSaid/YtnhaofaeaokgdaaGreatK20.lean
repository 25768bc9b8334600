import Derived.Test.YtnhaofaeaokgdaaGreatI20
set_option linter.all false
set_option linter.unusedVariables false
set_option linter.unusedSimpArgs false
set_option linter.unnecessarySimpa false
namespace Go.Proofs.YtnhaofaeaokgdaaGreat.M
open Go Go.Mir Go.Proofs
namespace K8

def sameK (a b : Keep) : Bool := a.next == b.next && rowEq sameI a.l b.l
theorem c79 (a b : Keep) : Cl 79 [eKeep a, eKeep b] [.pv (B (sameK a b))] := t79 _ _ (by
  refine Fk_of (fun h => ⟨_, c118 _ _, ?_⟩) fun h => ?_ <;> simp [rvB, sameK, *])
theorem c54 (a b : Keep) : Cl 54 [eKeep a, eKeep b] [.pv (B (sameK a b))] := t54 _ _ (by
  refine ⟨_, c105 _ _, Fk_of (fun h => ?_) fun h => ?_⟩ <;> simp [rvB, sameK, *])
/-- Items with numbers one behind the other, the last one ahead of n. -/
def asc (n : Int) : List Item → Bool
  | [] => true
  | x :: r => mayI x && x.seq == n - ((r.length : Int) + 1) && asc n r
def rightK (k : Keep) : Bool := decide ((k.l.length : Int) ≤ 64) && decide (1 ≤ k.next) && decide (k.next ≤ 4611686018427387905) && asc k.next k.l
theorem c26 (k : Keep) : Cl 26 [eKeep k] [.pv (B (rightK k))] := t26 _ (by
  unfold P26
  simp only [Ln, SmA_true, true_and, List.length_map, rvB]
  intro hl
  refine Fk_of (fun h => ?_) fun h1 => Fk_of (fun h => ?_) fun h2 => Fk_of (fun h => ?_) fun h3 => ?_
  · simp at h; simp [rightK]; intros; omega
  · simp at h; simp [rightK]; intros; omega
  · simp at h; simp [rightK]; intros; omega
  simp only [decide_eq_false_iff_not] at h1 h2 h3
  have hr : rightK k = asc k.next k.l := by
    have e1 : (k.l.length : Int) ≤ 64 := by omega
    have e2 : 1 ≤ k.next := by omega
    have e3 : k.next ≤ 4611686018427387905 := by omega
    simp [rightK, e1, e2, e3]
  rw [hr]
  refine Lo_drop k.l (fun i r v => v = ((i : Int), (), ()) ∧ (i : Int) + r.length = k.l.length ∧ asc k.next k.l = asc k.next r) ?_ ?_ ⟨rfl, by simp, rfl⟩
  · rintro L _ ⟨rfl, _, he⟩
    exact Fk_f (by simp) (by rw [he]; rfl)
  · rintro L i a r _ hi ha _ ⟨rfl, hn, he⟩ hL
    rw [he]
    simp only [List.length_cons] at hn
    have e4 : w64 (k.next - w64 ((k.l.length : Int) - i)) = k.next - ((r.length : Int) + 1) := by
      rw [w64_id (n := (k.l.length : Int) - i) (by omega) (by omega), w64_id (by omega) (by omega)]; omega
    refine Fk_t (by simpa using hi) (Ix_nat ha ⟨_, c31 _, Fk_of (fun h => ?_) (fun h => Ix_nat ha (Fk_of (fun h' => ?_) (fun h' => hL _ ⟨?_, ?_, ?_⟩)))⟩)
    · simp at h; simp [asc, h]
    · simp only [e4] at h'; simp at h'; simp [asc, h']
    · simp only [w64_succ hi hl]
    · omega
    · simp only [e4] at h'; simp at h h'; rw [he]; simp [asc, h, h'])
theorem c76 (k : Keep) : Cl 76 [eKeep k] [.pv (B (rightK k))] := t76 _ (by
  unfold P76
  simp only [Ln, SmA_true, true_and, List.length_map, rvB]
  intro hl
  by_cases hr : (k.l.length : Int) ≤ 64 ∧ 1 ≤ k.next ∧ k.next ≤ 4611686018427387905
  · have hr' : rightK k = asc k.next k.l := by simp [rightK, hr]
    rw [hr']
    refine Lo_drop k.l (fun i r v => v = ((i : Int), (), ()) ∧ (i : Int) + r.length = k.l.length ∧ asc k.next k.l = asc k.next r) ?_ ?_ ⟨rfl, by simp, rfl⟩
    · rintro L _ ⟨rfl, _, he⟩
      refine Fk_f (by simp) (Fk_t (by simp [hr]) (Fk_t (by simp [hr]) ?_))
      rw [he]; simp [asc, hr]
    · rintro L i a r _ hi ha _ ⟨rfl, hn, he⟩ hL
      rw [he]
      simp only [List.length_cons] at hn
      have e4 : w64 (w64 (k.next - k.l.length) + i) = k.next - ((r.length : Int) + 1) := by
        rw [w64_id (n := k.next - k.l.length) (by omega) (by omega), w64_id (by omega) (by omega)]; omega
      refine Fk_t (by simpa using hi) (Ix_nat ha ⟨_, c92 _, Fk_of (fun h => ?_) (fun h => Fk_of (fun h' => ?_) (fun h' => hL _ ⟨?_, ?_, ?_⟩))⟩)
      · simp at h; simp [asc, h]
      · simp only [e4] at h'; simp at h'; simp [asc, h']
      · simp only [w64_succ hi hl]
      · omega
      · simp only [e4] at h'; simp at h h'; rw [he]; simp [asc, h, h']
  · have hr' : rightK k = false := by
      cases h : rightK k with
      | false => rfl
      | true => simp [rightK] at h; exact absurd ⟨h.1.1.1, h.1.1.2, h.1.2⟩ hr
    rw [hr']
    refine Lo_drop k.l (fun i r v => v = ((i : Int), (), ())) ?_ ?_ rfl
    · rintro L _ rfl
      refine Fk_f (by simp) (Fk_of (fun h1 => Fk_of (fun h2 => ?_) fun _ => rfl) fun _ => rfl)
      simp at h1 h2 ⊢; omega
    · rintro L i a r _ hi ha _ rfl hL
      exact Fk_t (by simpa using hi) (Ix_nat ha ⟨_, c92 _, Fk_of (fun h => rfl) (fun h => Fk_of (fun h' => rfl) (fun h' => hL _ (by simp only [w64_succ hi hl])))⟩))
def roomK (k : Keep) (b s : Int) : Int := if b < 0 ∨ 64 < b ∨ s < 0 ∨ b < s ∨ 4611686018427387904 < k.next then 0 else max 0 (b - s - k.l.length)
theorem c109 (k : Keep) (b s : Int) : Cl 109 [eKeep k, I b, I s] [.pv (I (roomK k b s))] := t109 _ _ _ (by
  simp only [P109, Ln, List.length_map, rvI, roomK, imax_eq]
  refine Fk_of (fun h => ?_) fun h1 => Fk_of (fun h => ?_) fun h2 => Fk_of (fun h => ?_) fun h3 => Fk_of (fun h => ?_) fun h4 => Fk_of (fun h => ?_) fun h5 hl => ?_
  all_goals simp only [decide_eq_true_eq, decide_eq_false_iff_not] at *
  iterate 5 (· rw [if_pos (by omega)])
  rw [w64_id (n := b - s) (by omega) (by omega), w64_id (by omega) (by omega), if_neg (by omega)])
def zI : Item := ⟨0, 0, 0, 0, 0, 0, [], []⟩
def numb (k : Keep) (x : Item) : Item := { x with seq := if 4611686018427387904 < k.next then 1 else k.next }
def pushK (k : Keep) (x : Item) (b s : Int) : Keep × Item × Int :=
  if mayI (numb k x) = false then (k, zI, 1) else if roomK k b s = 0 then (k, zI, 4) else (⟨k.next + 1, k.l ++ [numb k x]⟩, numb k x, 0)
theorem room_len {k : Keep} {b s : Int} (h : roomK k b s ≠ 0) : (k.l.length : Int) ≤ 64 ∧ k.next ≤ 4611686018427387904 := by
  unfold roomK at h; split at h <;> omega
theorem may_seq {x : Item} (h : mayI x = true) : 1 ≤ x.seq ∧ x.seq ≤ 4611686018427387904 := by
  simp [mayI, within] at h; omega
theorem push_no {k : Keep} {x : Item} {b s : Int} (h : mayI (numb k x) = false) : pushK k x b s = (k, zI, 1) := if_pos h
theorem push_full {k : Keep} {x : Item} {b s : Int} (h : mayI (numb k x) = true) (hr : roomK k b s = 0) : pushK k x b s = (k, zI, 4) := by simp [pushK, h, hr]
theorem push_ok {k : Keep} {x : Item} {b s : Int} (h : mayI (numb k x) = true) (hr : roomK k b s ≠ 0) : pushK k x b s = (⟨k.next + 1, k.l ++ [numb k x]⟩, numb k x, 0) := by simp [pushK, h, hr]
theorem c66 (k : Keep) (x : Item) (b s : Int) : Cl 66 [eKeep k, eItem x, I b, I s] [.pv (eKeep (pushK k x b s).1), .pv (eItem (pushK k x b s).2.1), .pv (I (pushK k x b s).2.2)] := t66 _ _ _ _ (by
  simp only [P66, SmA_true, true_and, Jn, Ln, List.length_map]
  refine Fk_of (fun h => ?_) (fun h => ?_)
  all_goals
    simp only [decide_eq_true_eq, decide_eq_false_iff_not] at h
    first
    | (have e : numb k x = { x with seq := 1 } := by simp [numb, h]
       have c := c92 { x with seq := 1 })
    | (have e : numb k x = { x with seq := k.next } := by simp [numb, h]
       have c := c92 { x with seq := k.next })
    refine ⟨_, c, Fk_of (fun h1 => ?_) fun h1 => ⟨_, c109 _ _ _, Fk_of (fun h2 => ?_) fun h2 hl => ?_⟩⟩
    · rw [← e] at h1; simp at h1; rw [push_no h1]; exact .dull rfl
    · rw [← e] at h1; simp at h1 h2; rw [push_full h1 h2]; exact .dull rfl
    · rw [← e] at h1; simp at h1 h2
      have hm := may_seq h1
      obtain ⟨g1, g2⟩ := room_len h2
      have hw : w64 (k.next + 1) = k.next + 1 := by
        simp [numb] at hm; exact w64_id (by split at hm <;> omega) (by omega)
      have ht : List.take ((k.l.length : Int).toNat) (List.map eItem k.l) = List.map eItem k.l := List.take_of_length_le (by simp)
      rw [push_ok h1 h2, ht, hw, e]
      refine ⟨by omega, rfl, by simp, Ok_of (okOld_map (e := eItem) (n := 8) (fun _ => rfl) _ _ _) (Sz_of (by simp; omega) (.dull ?_))⟩
      simp [RV.dull, PV.dull, PV.dull1])
theorem c106 (q u : Int) : Cl 106 [I q, .ip [I u] 0] [.pv (B (decide (u < q)))] := t106a _ _ (.refl _)
theorem c101 (q u : Int) : Cl 101 [I q, .ip [I u] 0] [.pv (B (q == u))] := t101a _ _ (.refl _)
theorem c126a (x : Item) (u : Int) : Cl 126 [eItem x, .ip [.fn (.func 106) [] [.ip [I u] 0]] 0] [.pv (B (decide (u < x.seq)))] := t126b _ _ ⟨_, c106 _ _, .refl _⟩
theorem c126b (x : Item) (u : Int) : Cl 126 [eItem x, .ip [.fn (.func 101) [] [.ip [I u] 0]] 0] [.pv (B (x.seq == u))] := t126a _ _ ⟨_, c101 _ _, .refl _⟩
/-- The first place, or none. -/
def place (f : Item → Bool) : Nat → List Item → Int
  | _, [] => -1
  | i, x :: r => if f x then i else place f (i + 1) r
theorem c125a (l : List Item) (u : Int) : Cl 125 [lItem l, .fn (.func 126) [] [.ip [.fn (.func 106) [] [.ip [I u] 0]] 0]] [.pv (I (place (fun x => decide (u < x.seq)) 0 l))] := t125b _ _ (by
  unfold P125b
  simp only [Ln, SmA_true, true_and, List.length_map, rvI]
  intro hl
  refine Lo_drop l (fun i r v => v = ((i : Int), ()) ∧ place (fun x => decide (u < x.seq)) 0 l = place (fun x => decide (u < x.seq)) i r) ?_ ?_ ⟨rfl, rfl⟩
  · rintro L _ ⟨rfl, he⟩
    exact Fk_f (by simp) (by rw [he]; rfl)
  · rintro L i a r _ hi ha _ ⟨rfl, he⟩ hL
    refine Fk_t (by simpa using hi) (Ix_nat ha ⟨_, c126a _ _, Fk_of (fun h => ?_) (fun h => hL _ ⟨?_, ?_⟩)⟩)
    · rw [he]; simp [place, h]
    · simp only [w64_succ hi hl]
    · rw [he]; simp [place, h])
theorem c125b (l : List Item) (u : Int) : Cl 125 [lItem l, .fn (.func 126) [] [.ip [.fn (.func 101) [] [.ip [I u] 0]] 0]] [.pv (I (place (fun x => x.seq == u) 0 l))] := t125a _ _ (by
  unfold P125a
  simp only [Ln, SmA_true, true_and, List.length_map, rvI]
  intro hl
  refine Lo_drop l (fun i r v => v = ((i : Int), ()) ∧ place (fun x => x.seq == u) 0 l = place (fun x => x.seq == u) i r) ?_ ?_ ⟨rfl, rfl⟩
  · rintro L _ ⟨rfl, he⟩
    exact Fk_f (by simp) (by rw [he]; rfl)
  · rintro L i a r _ hi ha _ ⟨rfl, he⟩ hL
    refine Fk_t (by simpa using hi) (Ix_nat ha ⟨_, c126b _ _, Fk_of (fun h => ?_) (fun h => hL _ ⟨?_, ?_⟩)⟩)
    · rw [he]; simp [place, h]
    · simp only [w64_succ hi hl]
    · rw [he]; simp [place, h])
theorem place_spec (f : Item → Bool) : ∀ (l : List Item) (i : Nat), (place f i l = -1 ∧ ∀ x ∈ l, f x = false) ∨ ∃ j x, place f i l = ((i + j : Nat) : Int) ∧ l[j]? = some x ∧ f x = true ∧ ∀ y ∈ l.take j, f y = false
  | [], i => .inl ⟨rfl, fun x h => by simp at h⟩
  | a :: r, i => by
    unfold place
    by_cases h : f a = true
    · rw [if_pos h]; exact .inr ⟨0, a, rfl, rfl, h, fun y hy => by simp at hy⟩
    · rw [if_neg h]
      rcases place_spec f r (i + 1) with ⟨h1, h2⟩ | ⟨j, x, h1, h2, h3, h4⟩
      · exact .inl ⟨h1, fun x hx => by rcases List.mem_cons.1 hx with rfl | hx; simpa using h; exact h2 x hx⟩
      · refine .inr ⟨j + 1, x, by rw [h1]; omega, by simpa using h2, h3, fun y hy => ?_⟩
        rw [List.take_succ_cons] at hy
        rcases List.mem_cons.1 hy with rfl | hy
        · simpa using h
        · exact h4 y hy
theorem c100a (k : Keep) (u : Int) : Cl 100 [eKeep k, .fn (.func 106) [] [.ip [I u] 0]] [.pv (I (place (fun x => decide (u < x.seq)) 0 k.l))] := t100b _ _ ⟨_, c125a _ _, .refl _⟩
theorem c100b (k : Keep) (u : Int) : Cl 100 [eKeep k, .fn (.func 101) [] [.ip [I u] 0]] [.pv (I (place (fun x => x.seq == u) 0 k.l))] := t100a _ _ ⟨_, c125b _ _, .refl _⟩
def freeL (u : Int) : List Item → List Item
  | [] => []
  | x :: r => if u < x.seq then x :: r else freeL u r
theorem free_drop (u : Int) (l : List Item) : freeL u l = l.drop (if place (fun x => decide (u < x.seq)) 0 l < 0 then l.length else (place (fun x => decide (u < x.seq)) 0 l).toNat) := by
  have key : ∀ (l : List Item) (i : Nat), freeL u l = l.drop (if place (fun x => decide (u < x.seq)) i l < 0 then l.length else (place (fun x => decide (u < x.seq)) i l).toNat - i) := by
    intro l
    induction l with
    | nil => intro i; simp [freeL]
    | cons a r ih =>
      intro i
      unfold freeL place
      by_cases h : u < a.seq
      · simp only [h, if_true, decide_true]
        rw [if_neg (by omega)]; simp
      · simp only [h, if_false, decide_false, Bool.false_eq_true]
        rw [ih (i + 1)]
        rcases place_spec (fun x => decide (u < x.seq)) r (i + 1) with ⟨h1, _⟩ | ⟨j, x, h1, _⟩
        · rw [h1]; simp
        · rw [h1, if_neg (by omega), if_neg (by omega)]
          have : ((((i + 1 + j : Nat) : Int).toNat - i)) = (((i + 1 + j : Nat) : Int).toNat - (i + 1)) + 1 := by omega
          rw [this, List.drop_succ_cons]
  simpa using key l 0
theorem c58 (k : Keep) (u : Int) : Cl 58 [eKeep k, I u] [.pv (eKeep ⟨k.next, freeL u k.l⟩)] := t58 _ _ (by
  simp only [P58, SmA_true, true_and, Jn, Ln, List.length_map]
  refine ⟨_, c100a _ _, ?_⟩
  rw [free_drop]
  rcases place_spec (fun x => decide (u < x.seq)) k.l 0 with ⟨h1, _⟩ | ⟨j, x, h1, h2, _⟩
  · rw [h1]
    refine Fk_t (by simp) fun hl hl' => ?_
    refine ⟨by omega, by omega, rfl, by simp, allN_map (e := eItem) (n := 8) (fun _ => rfl) _, .dull ?_⟩
    simp [RV.dull, PV.dull, PV.dull1]
  · rw [h1]
    have hj := (List.getElem?_eq_some_iff.1 h2).1
    refine Fk_f (by simp) fun hl => ?_
    rw [if_neg (by omega)]
    refine ⟨by omega, by omega, rfl, by simp, allN_map (e := eItem) (n := 8) (fun _ => rfl) _, .dull ?_⟩
    simp [RV.dull, PV.dull, PV.dull1, List.map_drop]
    rw [List.take_of_length_le (by simp)])
def getL (u : Int) : List Item → Item × Bool
  | [] => (zI, false)
  | x :: r => if x.seq == u then (x, true) else getL u r
theorem get_none {u : Int} : ∀ {l : List Item}, (∀ x ∈ l, (x.seq == u) = false) → getL u l = (zI, false)
  | [], _ => rfl
  | a :: r, h => by
    unfold getL
    rw [if_neg (by rw [h a List.mem_cons_self]; simp)]
    exact get_none fun x hx => h x (List.mem_cons_of_mem _ hx)
theorem get_at {u : Int} {x : Item} : ∀ {l : List Item} {j : Nat}, l[j]? = some x → (x.seq == u) = true → (∀ y ∈ l.take j, (y.seq == u) = false) → getL u l = (x, true)
  | [], j, h, _, _ => by simp at h
  | a :: r, 0, h, hx, _ => by simp at h; subst h; simp [getL, hx]
  | a :: r, j + 1, h, hx, hn => by
    unfold getL
    rw [if_neg (by rw [hn a (by simp)]; simp)]
    exact get_at (by simpa using h) hx fun y hy => hn y (by simp [hy])
theorem c46 (k : Keep) (u : Int) : Cl 46 [eKeep k, I u] [.pv (eItem (getL u k.l).1), .pv (B (getL u k.l).2)] := t46 _ _ (by
  refine ⟨_, c100b _ _, ?_⟩
  rcases place_spec (fun x => x.seq == u) k.l 0 with ⟨h1, h2⟩ | ⟨j, x, h1, h2, h3, h4⟩
  · rw [h1, get_none h2]
    exact Fk_t (by simp) (.dull rfl)
  · rw [h1, get_at h2 h3 h4]
    refine Fk_f (by simp) ?_
    rw [Nat.zero_add]
    exact Ix_nat h2 (.dull rfl))
theorem c52 (k : Keep) (u : Int) : Cl 52 [eKeep k, I u] [.pv (eItem (getL u k.l).1), .pv (B (getL u k.l).2)] := t52 _ _ (by
  simp only [P52, SmA_true, true_and, Ln, List.length_map]
  refine Lo_drop k.l (fun i r v => v = ((i : Int), (), (), ()) ∧ getL u k.l = getL u r) ?_ ?_ ⟨rfl, rfl⟩
  · rintro L _ ⟨rfl, he⟩ hl
    exact Fk_f (by simp) (by rw [he]; exact .dull rfl)
  · rintro L i a r _ hi ha _ ⟨rfl, he⟩ hL hl
    refine Fk_t (by simpa using hi) (Ix_nat ha (Fk_of (fun h => Ix_nat ha ?_) (fun h => hL _ ⟨?_, ?_⟩)))
    · rw [he]; unfold getL; rw [if_pos h]; exact .dull rfl
    · simp only [w64_succ hi hl]
    · rw [he]; simp [getL, h])
theorem c62 (k : Keep) (u : Int) (hk : k.l.length ≤ 1000) : Cl 62 [eKeep k, I u] [.pv (eKeep ⟨k.next, k.l.filter fun x => decide (u < x.seq)⟩)] := t62 _ _ (by
  simp only [P62, SmA_true, true_and, Ln, List.length_map, Jn]
  refine Lo_drop k.l (fun i r v => ∃ acc : List Item, v = (acc.map eItem, (i : Int), (), (), ()) ∧ acc.length ≤ i ∧ k.l.filter (fun x => decide (u < x.seq)) = acc ++ r.filter fun x => decide (u < x.seq)) ?_ ?_ ⟨[], rfl, by simp, rfl⟩
  · rintro L _ ⟨acc, rfl, _, he⟩ hl
    refine Fk_f (by simp) ?_
    rw [he]; simp only [List.filter_nil, List.append_nil]; exact .dull rfl
  · rintro L i a r _ hi ha _ ⟨acc, rfl, hn, he⟩ hL hl
    refine Fk_t (by simpa using hi) (Ix_nat ha (Fk_of (fun h => Ix_nat ha (Sz_of ?_ (hL _ ⟨acc ++ [a], ?_, ?_, ?_⟩))) (fun h => hL _ ⟨acc, ?_, ?_, ?_⟩)))
    · simp; omega
    · simp only [w64_succ hi hl, List.map_append, List.map_cons, List.map_nil]
    · simp; omega
    · rw [he]; simp at h; simp [h]
    · simp only [w64_succ hi hl]
    · omega
    · rw [he]; simp at h; simp [h])
theorem c64 : Cl 64 [] [.pv (eKeep ⟨1, []⟩)] := t64 (.dull rfl)
def tokI : Item := ⟨3, 0, 0, 0, 0, 0, [], []⟩
theorem free_filter {n u : Int} : ∀ {l : List Item}, asc n l = true → freeL u l = l.filter fun x => decide (u < x.seq)
  | [], _ => rfl
  | a :: r, h => by
    simp only [asc, Bool.and_eq_true, beq_iff_eq] at h
    unfold freeL
    have all : ∀ {r : List Item} {m : Int}, asc n r = true → m < n - (r.length : Int) → ∀ x ∈ r, m < x.seq := by
      intro r
      induction r with
      | nil => intro m _ _ x hx; simp at hx
      | cons b t ih =>
        intro m hr hm x hx
        simp only [asc, Bool.and_eq_true, beq_iff_eq, List.length_cons] at hr hm
        rcases List.mem_cons.1 hx with rfl | hx
        · rw [hr.1.2]; omega
        · exact ih hr.2 (by omega) x hx
    by_cases hu : u < a.seq
    · rw [if_pos hu, List.filter_cons_of_pos (by simpa using hu)]
      congr 1
      refine (List.filter_eq_self.2 fun x hx => ?_).symm
      have := all h.2 (m := a.seq) (by rw [h.1.2]; omega) x hx
      simp; omega
    · rw [if_neg hu, List.filter_cons_of_neg (by simpa using hu)]
      exact free_filter h.2
theorem asc_free {n u : Int} : ∀ {l : List Item}, asc n l = true → asc n (freeL u l) = true
  | [], h => h
  | a :: r, h => by
    unfold freeL
    split
    · exact h
    · simp only [asc, Bool.and_eq_true] at h; exact asc_free h.2
theorem free_len (u : Int) : ∀ l : List Item, (freeL u l).length ≤ l.length
  | [] => Nat.le_refl _
  | a :: r => by
    unfold freeL
    split
    · exact Nat.le_refl _
    · exact Nat.le_trans (free_len u r) (by simp)
theorem asc_push {n : Int} {x : Item} (hm : mayI x = true) (hx : x.seq = n) : ∀ {l : List Item}, asc n l = true → asc (n + 1) (l ++ [x]) = true
  | [], _ => by simp [asc, hm, hx]
  | a :: r, h => by
    simp only [asc, Bool.and_eq_true, beq_iff_eq] at h
    simp only [List.cons_append, asc, Bool.and_eq_true, beq_iff_eq, List.length_append, List.length_cons, List.length_nil]
    exact ⟨⟨h.1.1, by rw [h.1.2]; omega⟩, asc_push hm hx h.2⟩
theorem asc_lt {n : Int} : ∀ {l : List Item}, asc n l = true → ∀ x ∈ l, n - (l.length : Int) ≤ x.seq ∧ x.seq < n
  | [], _, x, hx => by simp at hx
  | a :: r, h, x, hx => by
    simp only [asc, Bool.and_eq_true, beq_iff_eq] at h
    simp only [List.length_cons]
    rcases List.mem_cons.1 hx with rfl | hx
    · rw [h.1.2]; omega
    · have := asc_lt h.2 x hx; omega
theorem get_mem {n : Int} : ∀ {l : List Item}, asc n l = true → ∀ x ∈ l, getL x.seq l = (x, true)
  | [], _, x, hx => by simp at hx
  | a :: r, h, x, hx => by
    simp only [asc, Bool.and_eq_true, beq_iff_eq] at h
    unfold getL
    rcases List.mem_cons.1 hx with rfl | hx
    · simp
    · have := asc_lt h.2 x hx
      have hne : (a.seq == x.seq) = false := by simp; rw [h.1.2]; omega
      rw [hne]; simpa using get_mem h.2 x hx
theorem get_not {u : Int} {l : List Item} (h : ∀ x ∈ l, x.seq ≠ u) : getL u l = (zI, false) := get_none fun x hx => by simpa using h x hx
theorem right_parts {k : Keep} (h : rightK k = true) : (k.l.length : Int) ≤ 64 ∧ 1 ≤ k.next ∧ k.next ≤ 4611686018427387905 ∧ asc k.next k.l = true := by
  simp only [rightK, Bool.and_eq_true, decide_eq_true_eq] at h
  exact ⟨h.1.1.1, h.1.1.2, h.1.2, h.2⟩
theorem right_mk {k : Keep} (h1 : (k.l.length : Int) ≤ 64) (h2 : 1 ≤ k.next) (h3 : k.next ≤ 4611686018427387905) (h4 : asc k.next k.l = true) : rightK k = true := by simp [rightK, h1, h2, h3, h4]
theorem right_free {k : Keep} (h : rightK k = true) (u : Int) : rightK ⟨k.next, freeL u k.l⟩ = true := by
  obtain ⟨h1, h2, h3, h4⟩ := right_parts h
  exact right_mk (by have := free_len u k.l; simp; omega) h2 h3 (asc_free h4)
theorem numb_seq {k : Keep} {x : Item} (h : k.next ≤ 4611686018427387904) : (numb k x).seq = k.next := by simp [numb]; omega
theorem push_cases (k : Keep) (x : Item) (b s : Int) : (pushK k x b s = (k, zI, 1)) ∨ (roomK k b s = 0 ∧ pushK k x b s = (k, zI, 4)) ∨ (mayI (numb k x) = true ∧ roomK k b s ≠ 0 ∧ pushK k x b s = (⟨k.next + 1, k.l ++ [numb k x]⟩, numb k x, 0)) := by
  by_cases h1 : mayI (numb k x) = true
  · by_cases h2 : roomK k b s = 0
    · exact .inr (.inl ⟨h2, push_full h1 h2⟩)
    · exact .inr (.inr ⟨h1, h2, push_ok h1 h2⟩)
  · exact .inl (push_no (by simpa using h1))
theorem room_lt {k : Keep} {b s : Int} (h : roomK k b s ≠ 0) : (k.l.length : Int) < 64 := by
  unfold roomK at h; split at h <;> omega
theorem right_push {k : Keep} {x : Item} {b s : Int} (h : rightK k = true) : rightK (pushK k x b s).1 = true := by
  obtain ⟨h1, h2, h3, h4⟩ := right_parts h
  rcases push_cases k x b s with e | ⟨_, e⟩ | ⟨hm, hr, e⟩
  · rw [e]; exact h
  · rw [e]; exact h
  · rw [e]
    obtain ⟨g1, g2⟩ := room_len hr
    have := room_lt hr
    exact right_mk (by simp; omega) (by show 1 ≤ k.next + 1; omega) (by show k.next + 1 ≤ _; omega) (asc_push hm (numb_seq g2) h4)
theorem get_free {k : Keep} (h : rightK k = true) (u : Int) {x : Item} (hx : x ∈ k.l) : getL x.seq (freeL u k.l) = if u < x.seq then (x, true) else (zI, false) := by
  obtain ⟨_, _, _, h4⟩ := right_parts h
  split
  · rename_i hu
    refine get_mem (asc_free h4) x ?_
    rw [free_filter h4]
    exact List.mem_filter.2 ⟨hx, by simpa using hu⟩
  · rename_i hu
    refine get_not fun y hy => ?_
    rw [free_filter h4] at hy
    have := (List.mem_filter.1 hy).2
    simp at this; omega
end K8
end Go.Proofs.YtnhaofaeaokgdaaGreat.M
