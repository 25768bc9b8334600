import Derived.Test.YtnekeanhkkfpnaaA19b
set_option linter.all false
set_option linter.unusedVariables false
set_option linter.unusedSimpArgs false
set_option linter.unnecessarySimpa false
namespace Go.Proofs.Ytnekeanhkkfpnaa.M
open Go Go.Mir Go.Proofs

/-! ### What is said -/
def zI : Item := ⟨0, 0, 0, 0, 0, 0, [], []⟩
def ackI (n : Int) : Item := ⟨5, 0, 0, 0, 0, n, [], []⟩
def instI (l : List Int) : Item := ⟨6, 0, 0, 0, 0, 0, l, []⟩
def sayB (b : Barrier) (i : Nat) (n : Int) : Item × Bool :=
  if b.on = true ∧ b.acked[i]? = some false then (ackI n, true) else if i = 0 ∧ b.on = true ∧ b.done = false ∧ whole b = true then (instI b.count, true) else (zI, false)
theorem say_off {b : Barrier} {i : Nat} {n : Int} (h : b.on = false) : sayB b i n = (zI, false) := by simp [sayB, h]
theorem say_ack {b : Barrier} {i : Nat} {n : Int} (h : b.on = true) (h' : b.acked[i]? = some false) : sayB b i n = (ackI n, true) := by simp [sayB, h, h']
theorem say_rest {b : Barrier} {i : Nat} {n : Int} (h' : b.acked[i]? = some true) : sayB b i n = if i = 0 ∧ b.on = true ∧ b.done = false ∧ whole b = true then (instI b.count, true) else (zI, false) := by simp [sayB, h']
theorem c17 (b : Barrier) (i : Nat) (n : Int) (hi : i < b.acked.length) (hc : b.count.length ≤ 1000) : Cl 17 [eBarrier b, I i, I n] [.pv (eItem (sayB b i n).1), .pv (B (sayB b i n).2)] := t17 _ _ _ (by
  have ha := List.getElem?_eq_getElem hi
  simp only [P17, SmA_true, true_and, Jn]
  refine Fk_of (fun h => Ix_nat ha (Fk_of (fun h1 => ?_) fun h1 => ?_)) fun h => ?_
  · rw [say_ack h (by rw [ha]; simpa using h1)]; exact .dull (by simp [RV.dull, PV.dull, PV.dull1, ackI])
  · rw [say_rest (by rw [ha]; simpa using h1)]
    refine Fk_of (fun h2 => Fk_of (fun h3 => Fk_of (fun h4 => ⟨_, c21 b, Fk_of (fun h5 => ⟨_, c36 _ hc, ?_⟩) fun h5 => ?_⟩) fun h4 => ?_) fun h3 => ?_) fun h2 => ?_ <;> simp at h2 <;> simp_all <;> exact .dull (by simp [RV.dull, PV.dull, PV.dull1, zI, instI])
  · rw [say_off h]
    refine Fk_of (fun h2 => Fk_of (fun h3 => ?_) fun h3 => ?_) fun h2 => ?_
    · rw [h] at h3; cases h3
    all_goals exact .dull (by simp [RV.dull, PV.dull, PV.dull1, zI]))
theorem c18 (b : Barrier) (i : Nat) (n : Int) (hi : i < b.acked.length) (hc : b.count.length ≤ 1000) : Cl 18 [eBarrier b, I i, I n] [.pv (eItem (sayB b i n).1), .pv (B (sayB b i n).2)] := t18 _ _ _ (by
  have ha := List.getElem?_eq_getElem hi
  simp only [P18, SmA_true, true_and, Jn, List.length_map]
  refine Fk_of (fun h => ?_) fun h => Ix_nat ha (Fk_of (fun h1 => ?_) fun h1 => ⟨_, c22 b, ?_⟩)
  · rw [say_off (by simpa using h)]; exact .dull (by simp [RV.dull, PV.dull, PV.dull1, zI])
  · rw [say_ack (by simpa using h) (by rw [ha]; simpa using h1)]; exact .dull (by simp [RV.dull, PV.dull, PV.dull1, ackI])
  · rw [say_rest (by rw [ha]; simpa using h1)]
    refine Fk_of (fun h2 => Fk_of (fun h3 => Fk_of (fun h4 => Ok_of (okI _) (Sz_of (by omega) ?_)) fun h4 => ?_) fun h3 => ?_) fun h2 => ?_ <;> simp at h2 <;> simp_all <;> exact .dull (by simp [RV.dull, PV.dull, PV.dull1, zI, instI]))
/-! ### Which are right -/
def few (b : Barrier) : Bool := decide ((b.acked.length : Int) ≤ 80) && decide ((b.count.length : Int) ≤ 80) && decide ((b.l.length : Int) ≤ 80)
theorem c9 (b : Barrier) : Cl 9 [eBarrier b] [.pv (B (few b))] := t9 _ (by
  simp only [P9, Ln, Fk, rvB, few, List.length_map]
  grind)
theorem c27 (l : List Int) : Cl 27 [lI l] [.pv (B (each l 4611686018427387904))] := t27 _ (by
  unfold P27
  simp only [Ln, SmA_true, true_and, List.length_map, rvB]
  refine Lo_drop l (fun i r v => v = ((i : Int), ()) ∧ each l 4611686018427387904 = each r 4611686018427387904) ?_ ?_ ⟨rfl, rfl⟩
  · rintro L _ ⟨rfl, he⟩ hl
    exact Fk_f (by simp) (by rw [he]; rfl)
  · rintro L i a r _ hi ha _ ⟨rfl, he⟩ hL hl
    rw [he, each_cons]
    refine Fk_t (by simpa using hi) (Ix_nat ha (Fk_of (fun h => ?_) fun h => Ix_nat ha (Fk_of (fun h' => ?_) (fun h' => hL _ ⟨?_, ?_⟩))))
    · simp [within] at h ⊢; grind
    · simp [within] at h' ⊢; grind
    · simp only [w64_succ hi hl]
    · rw [he, each_cons]; simp [within] at h h' ⊢; grind)
theorem c46 (l : List Int) (i : Nat) (a : Int) (h : l[i]? = some a) : Cl 46 [lI l, I i] [.pv (I a)] := t46 _ _ (by
  simp only [P46, Ln, List.length_map]
  have := (List.getElem?_eq_some_iff.1 h).1
  intro _
  exact Fk_f (by simp) (Fk_f (by simp; omega) (Ix_nat h (.refl _))))
theorem c44 (a b : Int) : Cl 44 [I a, I b] [.pv (B (decide (a ≤ b)))] := t44 _ _ (.refl _)
def zipLe (a b : List Int) : List Bool := List.zipWith (fun x y => decide (x ≤ y)) a b
theorem c43 (a b : List Int) (h : a.length = b.length) (hn : a.length ≤ 1000) : Cl 43 [lI a, lI b, .fn (.func 44) [] []] [.pv (lB (zipLe a b))] := t43a _ _ (by
  have em : imax (a.length : Int) (b.length : Int) = a.length := by rw [imax_eq]; omega
  have hz : (zipLe a b).length = a.length := by simp [zipLe, ← h]
  simp only [P43a, Ln, SmA_true, true_and, List.length_map, em, Int.toNat_natCast, List.length_replicate]
  intro _ _
  refine ⟨by omega, by omega, by omega, by omega, fun _ => ?_⟩
  refine Lo_up a.length (fun i v => v = (((zipLe a b).take i ++ List.replicate (a.length - i) false).map B, (i : Int), ())) ?_ (Nat.zero_le _) (by simp)
  rintro L i _ hi rfl hL
  simp only
  by_cases hlt : i < a.length
  · have ha := List.getElem?_eq_getElem hlt
    have hb := List.getElem?_eq_getElem (h ▸ hlt : i < b.length)
    have hg : (zipLe a b)[i]? = some (decide (a[i] ≤ b[i]'(h ▸ hlt))) := by simp [zipLe, List.getElem?_zipWith, ha, hb]
    refine Fk_t (by simpa using hlt) ⟨_, c46 _ _ _ ha, _, c46 _ _ _ hb, _, c44 _ _, Rx_nat (by simp [hz]; omega) ?_⟩
    rw [Nat.zero_add, Int.toNat_natCast]
    have hf := fill_get (z := zipLe a b) (d := false) (i := i) (by omega)
    rw [hz] at hf
    refine Ld_map hf ?_
    rw [w64_succ hlt (by omega), ← List.map_set]
    have := fill_set (z := zipLe a b) (d := false) hg
    rw [hz] at this
    rw [this]
    exact hL _ hlt rfl
  · obtain rfl : i = a.length := by omega
    refine Fk_f (by simp) (.cons ?_ .nil)
    rw [Nat.sub_self, List.take_of_length_le (by omega)]
    simp only [List.replicate_zero, List.append_nil]
    exact .toRow _ _ _)
theorem c38 (a b : List Int) (h : a.length = b.length) (hn : a.length ≤ 1000) : Cl 38 [lI a, lI b] [.pv (B ((zipLe a b).all id))] := t38 _ _ ⟨_, c43 a b h hn, _, c37 _ _, rvB.2 (any_not _)⟩
theorem c40 (a : Int) : Cl 40 [I a] [.pv (B (decide (4611686018427387904 < a)))] := t40 _ (.refl _)
theorem c45 (l : List Int) : Cl 45 [lI l, .fn (.func 40) [] []] [.pv (I (place (fun x => decide (4611686018427387904 < x)) 0 l))] := t45a _ (by
  unfold P45a
  simp only [Ln, SmA_true, true_and, List.length_map, rvI]
  intro hl
  refine Lo_drop l (fun i r v => v = ((i : Int), ()) ∧ place (fun x => decide (4611686018427387904 < x)) 0 l = place (fun x => decide (4611686018427387904 < x)) i r) ?_ ?_ ⟨rfl, rfl⟩
  · rintro L _ ⟨rfl, he⟩
    exact Fk_f (by simp) (by rw [he]; rfl)
  · rintro L i x r _ hi ha _ ⟨rfl, he⟩ hL
    refine Fk_t (by simpa using hi) (Ix_nat ha ⟨_, c40 _, Fk_of (fun h => ?_) (fun h => hL _ ⟨?_, ?_⟩)⟩)
    · rw [he]; simp only [place, h, if_true]
    · simp only [w64_succ hi hl]
    · rw [he]; simp only [place, h, Bool.false_eq_true, if_false])
theorem c39 (l : List Int) : Cl 39 [lI l, .fn (.func 40) [] []] [.pv (B (l.any fun x => decide (4611686018427387904 < x)))] := t39a _ ⟨_, c45 _, rvB.2 (place_any _ _ _)⟩
theorem zip_zero : ∀ l : List Int, (zipLe (List.replicate l.length 0) l).all id = l.all (fun x => decide (0 ≤ x))
  | [] => rfl
  | a :: r => by
    have := zip_zero r
    simp only [zipLe] at this ⊢
    simp only [List.length_cons, List.replicate_succ, List.zipWith_cons_cons, List.all_cons, this, id]
theorem each_parts : ∀ l : List Int, (l.all (fun x => decide (0 ≤ x)) && !(l.any fun x => decide (4611686018427387904 < x))) = each l 4611686018427387904
  | [] => rfl
  | a :: r => by
    rw [each_cons, ← each_parts r]
    simp only [List.all_cons, List.any_cons, within]
    have : decide (a ≤ 4611686018427387904) = !decide (4611686018427387904 < a) := by
      by_cases h : a ≤ 4611686018427387904
      · have : ¬ 4611686018427387904 < a := by omega
        simp [h, this]
      · have : 4611686018427387904 < a := by omega
        simp [h, this]
    rw [this]
    cases decide (0 ≤ a) <;> cases decide (4611686018427387904 < a) <;> cases r.all (fun x => decide (0 ≤ x)) <;> simp
theorem c28 (l : List Int) (h : l.length ≤ 1000) : Cl 28 [lI l] [.pv (B (each l 4611686018427387904))] := t28 _ (by
  simp only [P28, Ln, List.length_map]
  intro _
  have c := c38 (List.replicate l.length 0) l (by simp) (by simpa using h)
  rw [show lI (List.replicate l.length 0) = .sl false (List.replicate (l.length : Int).toNat (I 0)) from by simp] at c
  refine ⟨by omega, by omega, by omega, by omega, _, c, ?_⟩
  rw [zip_zero]
  refine Fk_of (fun h1 => ⟨_, c39 _, ?_⟩) fun h1 => ?_
  · rw [← each_parts, h1]; exact .refl _
  · rw [← each_parts, h1]; exact .refl _)
def ackOk (b : Barrier) : Bool := rowEq (fun a c => a || c == (0 : Int)) b.acked b.count
def rightB (b : Barrier) (n : Int) : Bool :=
  decide (2 ≤ n) && decide (n ≤ 64) && (b.acked.length : Int) == n && (b.count.length : Int) == n && ackOk b && (b.next == 0 || (b.on && b.next == 1)) && (if b.done then (b.l.length : Int) == n else (b.l.length : Int) == 0) && each b.count 4611686018427387904 && each b.l 4611686018427387904
structure Rt (b : Barrier) (n : Nat) : Prop where
  lo : 2 ≤ n
  hi : n ≤ 64
  la : b.acked.length = n
  lc : b.count.length = n
  ack : ackOk b = true
  nx : b.next = 0 ∨ b.on = true ∧ b.next = 1
  ln : if b.done then b.l.length = n else b.l = []
  ec : each b.count 4611686018427387904 = true
  el : each b.l 4611686018427387904 = true
theorem rt_iff (b : Barrier) (n : Int) : rightB b n = true ↔ ∃ m : Nat, n = m ∧ Rt b m := by
  constructor
  · intro h
    simp only [rightB, Bool.and_eq_true, Bool.or_eq_true, beq_iff_eq, decide_eq_true_eq] at h
    obtain ⟨⟨⟨⟨⟨⟨⟨⟨h1, h2⟩, h3⟩, h4⟩, h5⟩, h6⟩, h7⟩, h8⟩, h9⟩ := h
    refine ⟨n.toNat, by omega, ⟨by omega, by omega, by omega, by omega, h5, h6, ?_, h8, h9⟩⟩
    cases hd : b.done with
    | true => rw [hd] at h7; simp at h7 ⊢; omega
    | false => rw [hd] at h7; simp at h7 ⊢; exact h7
  · rintro ⟨m, rfl, ⟨h1, h2, h3, h4, h5, h6, h7, h8, h9⟩⟩
    simp only [rightB, Bool.and_eq_true, Bool.or_eq_true, beq_iff_eq, decide_eq_true_eq]
    refine ⟨⟨⟨⟨⟨⟨⟨⟨by omega, by omega⟩, by omega⟩, by omega⟩, h5⟩, h6⟩, ?_⟩, h8⟩, h9⟩
    cases hd : b.done with
    | true => rw [hd] at h7; simp at h7 ⊢; omega
    | false => rw [hd] at h7; simp at h7 ⊢; exact h7
end Go.Proofs.Ytnekeanhkkfpnaa.M
