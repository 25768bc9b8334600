/- VecOrder, plainly: below is an order; Max and Min are the same in whichever order, and together; both together have the same sum. (Condition: none but the lengths that memory allows.) -/
import Derived.Test.YtemaikelagchcaaPCx9
import Derived.Test.YtemaikelagchcaaLib07
namespace Go.Proofs.Ytemaikelagchcaa.Pure
open Go.RowKit Go.Proofs.Ytemaikelagchcaa.PC Go.Proofs.YtemaikelagchcaaW.PrintWords Go.Proofs.YtemaikelagchcaaW.PrintLast Go.Proofs.YtemaikelagchcaaW.PrintMore Go.Proofs.Ytemaikelagchcaa.Vec

theorem join_comm {f : Int → Int → Int} (h : ∀ x y, f x y = f y x) (a b : List Int) : join f a b = join f b a :=
  join_congr (Nat.max_comm _ _) fun _ => h _ _
theorem join_assoc {f : Int → Int → Int} (h0 : f 0 0 = 0) (h : ∀ x y z, f (f x y) z = f x (f y z)) (a b c : List Int) : join f (join f a b) c = join f a (join f b c) := by
  refine join_congr ?_ fun j => ?_
  · rw [join_length, join_length]; omega
  · rw [join_getD f a b j 0 h0, join_getD f b c j 0 h0, h]
theorem mx_comm (x y : Int) : mx x y = mx y x := by unfold mx; split <;> split <;> omega
theorem mn_comm (x y : Int) : mn x y = mn y x := by unfold mn; split <;> split <;> omega
theorem mx_assoc (x y z : Int) : mx (mx x y) z = mx x (mx y z) := by unfold mx; (repeat' split) <;> omega
theorem mn_assoc (x y z : Int) : mn (mn x y) z = mn x (mn y z) := by unfold mn; (repeat' split) <;> omega
theorem bel_self (a : List Int) : below a a = true := (below_iff a a).2 fun _ => Int.le_refl _
theorem bel_trans {a b c : List Int} (h : below a b = true) (k : below b c = true) : below a c = true :=
  (below_iff a c).2 fun j => Int.le_trans ((below_iff a b).1 h j) ((below_iff b c).1 k j)
theorem bel_both {a b : List Int} (h : below a b = true) (k : below b a = true) : join mx a b = join mn a b :=
  join_congr rfl fun j => by
    have := (below_iff a b).1 h j; have := (below_iff b a).1 k j
    unfold mx mn; split <;> split <;> omega
theorem sum_range (a : List Int) (n : Nat) (h : a.length ≤ n) : ((List.range n).map fun j => a.getD j 0).sum = a.sum := by
  obtain ⟨d, rfl⟩ := Nat.exists_eq_add_of_le h
  induction d with
  | zero => rw [Nat.add_zero, map_range_getD]
  | succ d ih =>
    rw [← Nat.add_assoc, List.range_succ, List.map_append, List.sum_append, ih (by omega)]
    simp
theorem sum_two (l : List Nat) (f g : Nat → Int) : (l.map f).sum + (l.map g).sum = (l.map fun j => f j + g j).sum := by
  induction l with
  | nil => rfl
  | cons x xs ih => simp only [List.map_cons, List.sum_cons]; omega
theorem sum_both (a b : List Int) : (join mx a b).sum + (join mn a b).sum = a.sum + b.sum := by
  rw [← sum_range a (max a.length b.length) (by omega), ← sum_range b (max a.length b.length) (by omega)]
  unfold join
  rw [sum_two, sum_two]
  congr 1
  refine List.map_congr_left fun j _ => ?_
  unfold mx mn; split <;> split <;> omega
theorem wrap_two (s t : Int) : wrap64 (wrap64 s + wrap64 t) = wrap64 (s + t) := by unfold wrap64; omega
theorem VecOrder : precentorlaw07_VecOrder.Pure := by
  intro a b c _ _ _
  refine ⟨995 + 4, ?_⟩
  unfold precentorlaw07_VecOrder.f
  rw [shown_f _ (by omega)]
  simp only [Option.bind_some]
  by_cases ha : (a.length : Int) > 100
  · rw [if_pos ha]; rfl
  · rw [if_neg ha]
    by_cases hb : (b.length : Int) > 100
    · rw [if_pos hb]; rfl
    · rw [if_neg hb]
      by_cases hc : (c.length : Int) > 100
      · rw [decide_eq_true hc]; rfl
      · rw [decide_eq_false hc]
        have l1 := join_length mx a b
        have l2 := join_length mn a b
        have l3 := join_length mx b c
        have l4 := join_length mn b c
        have l5 := join_length mx (join mx a b) c
        have l6 := join_length mn (join mn a b) c
        simp only [precentorlaw07_VecOrder.j0, Bool.false_eq_true, if_false, vec_Max_f a b 998 (by omega) (by omega), vec_Max_f b a 998 (by omega) (by omega), vec_Min_f a b 998 (by omega) (by omega), vec_Min_f b a 998 (by omega) (by omega), vec_Max_f b c 998 (by omega) (by omega), vec_Min_f b c 998 (by omega) (by omega), Option.bind_some,
          vec_Max_f (join mx a b) c 998 (by omega) (by omega), vec_Min_f (join mn a b) c 998 (by omega) (by omega), vec_Max_f a (join mx b c) 998 (by omega) (by omega), vec_Min_f a (join mn b c) 998 (by omega) (by omega),
          same_f (join mx a b) (join mx b a) 998 (by omega) (by omega), same_f (join mn a b) (join mn b a) 998 (by omega) (by omega), same_f (join mx (join mx a b) c) (join mx a (join mx b c)) 998 (by omega) (by omega), same_f (join mn (join mn a b) c) (join mn a (join mn b c)) 998 (by omega) (by omega)]
        rw [decide_eq_true (join_comm mx_comm a b), decide_eq_true (join_comm mn_comm a b), decide_eq_true (join_assoc rfl mx_assoc a b c), decide_eq_true (join_assoc rfl mn_assoc a b c)]
        simp only [if_true, precentorlaw07_VecOrder.j1]
        simp only [below_f a a 997 (by omega) (by omega), below_f a b 997 (by omega) (by omega), below_f b c 997 (by omega) (by omega), below_f a c 997 (by omega) (by omega), Option.bind_some, bel_self, if_true]
        have hj3 : ∀ x : Bool, (x = true → below a b = true ∧ below b a = true) → precentorlaw07_VecOrder.j3 996 a b true x = some true := by
          intro x hx
          simp only [precentorlaw07_VecOrder.j3, if_true, vec_Max_f a b 995 (by omega) (by omega), vec_Min_f a b 995 (by omega) (by omega), Option.bind_some, sum_f (join mx a b) 995 (by omega) (by omega), sum_f (join mn a b) 995 (by omega) (by omega), sum_f a 995 (by omega) (by omega), sum_f b 995 (by omega) (by omega), same_f (join mx a b) (join mn a b) 995 (by omega) (by omega), wrap_two, sum_both, beq_self_eq_true]
          cases x with
          | false => rfl
          | true =>
            obtain ⟨h1, h2⟩ := hx rfl
            rw [decide_eq_true (bel_both h1 h2)]; rfl
        have hj2 : ∀ x : Bool, x = false → precentorlaw07_VecOrder.j2 997 a b true x = some true := by
          rintro x rfl
          simp only [precentorlaw07_VecOrder.j2, Bool.false_eq_true, if_false, below_f a b 996 (by omega) (by omega), below_f b a 996 (by omega) (by omega), Option.bind_some]
          cases h1 : below a b with
          | false => simpa using hj3 false (by simp)
          | true => simpa using hj3 (below b a) (fun h => ⟨h1, h⟩)
        cases h1 : below a b with
        | false => simpa using hj2 false rfl
        | true =>
          cases h2 : below b c with
          | false => simpa using hj2 false rfl
          | true => rw [bel_trans h1 h2]; simpa using hj2 false rfl
end Go.Proofs.Ytemaikelagchcaa.Pure
