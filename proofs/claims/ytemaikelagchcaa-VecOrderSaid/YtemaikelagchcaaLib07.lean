/- What the printed functions of package vec and of its reference answer, as plain lists (conditions: the rows' lengths, and enough rounds). -/
import Derived.Test.YtemaikelagchcaaPCx6
import Derived.Test.YtemaikelagchcaaPCx4
namespace Go.Proofs.Ytemaikelagchcaa.Vec
open Go.RowKit Go.Proofs.Ytemaikelagchcaa.PC Go.Proofs.YtemaikelagchcaaW.PrintWords Go.Proofs.YtemaikelagchcaaW.PrintLast Go.Proofs.YtemaikelagchcaaW.PrintMore

theorem wrap_step {i n : Nat} (h : i < n) (hn : n ≤ 1099511627776) : wrap64 ((i : Int) + 1) = ((i + 1 : Nat) : Int) := by
  unfold wrap64; omega
theorem wrap_zero : wrap64 0 = 0 := by unfold wrap64; omega
theorem wrap_one : wrap64 (0 + 1) = ((0 + 1 : Nat) : Int) := by unfold wrap64; omega
theorem rd_nat (l : List Int) (i : Nat) : rd l (i : Int) = l.getD i 0 := by simp [rd]
/-- A row's place. -/
def atI (l : List Int) (i : Int) : Int := if i < 0 then 0 else l.getD i.toNat 0
theorem atI_nat (l : List Int) (i : Nat) : atI l (i : Int) = l.getD i 0 := by
  unfold atI; rw [if_neg (by omega)]; simp
theorem getD_out {l : List Int} {i : Nat} (h : l.length ≤ i) : l.getD i 0 = 0 := by
  rw [List.getD_eq_getElem?_getD, List.getElem?_eq_none h]; rfl
theorem at_f (l : List Int) (i : Int) : vec_at.f l i = some (atI l i) := by
  unfold vec_at.f atI
  by_cases h0 : i < 0
  · rw [if_pos h0, if_pos h0]
  · rw [if_neg h0, if_neg h0]
    by_cases h1 : i ≥ (l.length : Int)
    · rw [if_pos h1, getD_out (by omega)]
    · rw [if_neg h1, if_pos (by omega), if_pos (by omega)]; rfl
theorem refat_f (l : List Int) (i : Int) : precentorref07_At.f l i = some (atI l i) := by
  unfold precentorref07_At.f atI
  by_cases h0 : i < 0
  · rw [if_neg (by omega), if_pos h0]
  · rw [if_pos (by omega), if_neg h0]
    by_cases h1 : i < (l.length : Int)
    · rw [if_pos h1, if_pos (by omega)]; rfl
    · rw [if_neg h1, getD_out (by omega)]

/-- Two rows, place by place, joined. -/
def join {α : Type} (f : Int → Int → α) (a b : List Int) : List α := (List.range (max a.length b.length)).map fun j => f (a.getD j 0) (b.getD j 0)
theorem join_length {α : Type} (f : Int → Int → α) (a b : List Int) : (join f a b).length = max a.length b.length := by simp [join]
theorem join_getD {α : Type} (f : Int → Int → α) (a b : List Int) (j : Nat) (z : α) (hz : f 0 0 = z) : (join f a b).getD j z = f (a.getD j 0) (b.getD j 0) := by
  unfold join
  rw [List.getD_eq_getElem?_getD, List.getElem?_map]
  by_cases h : j < max a.length b.length
  · rw [List.getElem?_range h]; rfl
  · rw [List.getElem?_eq_none (by simpa using h), getD_out (show a.length ≤ j by omega), getD_out (show b.length ≤ j by omega), hz]; rfl
theorem join_congr {α : Type} {f g : Int → Int → α} {a b c d : List Int} (hl : max a.length b.length = max c.length d.length) (h : ∀ j, f (a.getD j 0) (b.getD j 0) = g (c.getD j 0) (d.getD j 0)) : join f a b = join g c d := by
  unfold join; rw [hl]; exact List.map_congr_left fun j _ => h j
theorem map_range_getD {α : Type} (l : List α) (z : α) : ((List.range l.length).map fun j => l.getD j z) = l := by
  apply List.ext_getElem
  · simp
  · intro i h1 h2
    simp [List.getD_eq_getElem?_getD, List.getElem?_eq_getElem h2]
theorem getD_set_same {α : Type} (l : List α) (i : Nat) (v z : α) (h : i < l.length) : (l.set i v).getD i z = v := by
  simp [List.getD_eq_getElem?_getD, List.getElem?_set_self h]
theorem getD_set_other {α : Type} (l : List α) (i j : Nat) (v z : α) (h : i ≠ j) : (l.set i v).getD j z = l.getD j z := by
  simp [List.getD_eq_getElem?_getD, List.getElem?_set_ne h]
theorem at_join_step {α : Type} (f : Nat → α) (z : α) (x : List α) (i n : Nat) (hx : x.length = n) (hi : i < n) :
    ((List.range n).map fun j => if j < i + 1 then (x.set i (f i)).getD j z else f j) = ((List.range n).map fun j => if j < i then x.getD j z else f j) := by
  refine List.map_congr_left fun j hj => ?_
  by_cases h : j < i
  · rw [if_pos (by omega), if_pos h, getD_set_other _ _ _ _ _ (by omega)]
  · rw [if_neg h]
    by_cases e : j = i
    · subst e; rw [if_pos (by omega), getD_set_same _ _ _ _ (by omega)]
    · rw [if_neg (by omega)]
theorem mx_len (a b : List Int) : mx (a.length : Int) (b.length : Int) = ((max a.length b.length : Nat) : Int) := by
  unfold mx; split <;> omega

theorem vec_join_int_at_vec_Max_1_l0 (a b : List Int) (n : Nat) (hn : n ≤ 1099511627776) : ∀ (d k i : Nat) (x : List Int), i + d = n → x.length = n → d < k →
    vec_join_int_at_vec_Max_1.l0 k a b x (n : Int) (i : Int) = some ((List.range n).map fun j => if j < i then x.getD j 0 else mx (a.getD j 0) (b.getD j 0)) := by
  intro d
  induction d with
  | zero =>
    intro k i x h hx hk
    obtain ⟨k, rfl⟩ : ∃ m, k = m + 1 := ⟨k - 1, by omega⟩
    simp only [vec_join_int_at_vec_Max_1.l0]
    rw [if_neg (by omega)]
    subst hx
    congr 1
    conv => lhs; rw [← map_range_getD x 0]
    refine List.map_congr_left fun j hj => ?_
    rw [if_pos (by have := List.mem_range.1 hj; omega)]
  | succ d ih =>
    intro k i x h hx hk
    obtain ⟨k, rfl⟩ : ∃ m, k = m + 1 := ⟨k - 1, by omega⟩
    simp only [vec_join_int_at_vec_Max_1.l0]
    rw [if_pos (by omega), at_f, at_f, atI_nat, atI_nat]
    simp only [Option.bind_some, vec_Max_1.f]
    rw [if_pos (by omega), if_pos (by omega), wrap_step (n := n) (by omega) hn, Int.toNat_natCast, ih k (i + 1) _ (by omega) (by simpa using hx) (by omega)]
    rw [at_join_step (fun j => mx (a.getD j 0) (b.getD j 0)) 0 x i n hx (by omega)]
theorem vec_join_int_at_vec_Max_1_f (a b : List Int) (k : Nat) (hn : max a.length b.length ≤ 1099511627776) (hk : max a.length b.length < k) : vec_join_int_at_vec_Max_1.f k a b = some (join mx a b) := by
  unfold vec_join_int_at_vec_Max_1.f
  simp only [mx_len, Int.toNat_natCast]
  rw [if_pos (by omega), if_pos (by omega)]
  simp only [Option.bind_some, List.length_replicate]
  have := vec_join_int_at_vec_Max_1_l0 a b _ hn (max a.length b.length) k 0 (List.replicate (max a.length b.length) 0) (by omega) (by simp) hk
  rw [Int.natCast_zero] at this
  rw [this]
  simp [join]
theorem vec_Max_f (a b : List Int) (k : Nat) (hn : max a.length b.length ≤ 1099511627776) (hk : max a.length b.length < k) : vec_Max.f k a b = some (join mx a b) := by
  unfold vec_Max.f; rw [vec_join_int_at_vec_Max_1_f a b k hn hk]; rfl

theorem vec_join_int_at_vec_Min_1_l0 (a b : List Int) (n : Nat) (hn : n ≤ 1099511627776) : ∀ (d k i : Nat) (x : List Int), i + d = n → x.length = n → d < k →
    vec_join_int_at_vec_Min_1.l0 k a b x (n : Int) (i : Int) = some ((List.range n).map fun j => if j < i then x.getD j 0 else mn (a.getD j 0) (b.getD j 0)) := by
  intro d
  induction d with
  | zero =>
    intro k i x h hx hk
    obtain ⟨k, rfl⟩ : ∃ m, k = m + 1 := ⟨k - 1, by omega⟩
    simp only [vec_join_int_at_vec_Min_1.l0]
    rw [if_neg (by omega)]
    subst hx
    congr 1
    conv => lhs; rw [← map_range_getD x 0]
    refine List.map_congr_left fun j hj => ?_
    rw [if_pos (by have := List.mem_range.1 hj; omega)]
  | succ d ih =>
    intro k i x h hx hk
    obtain ⟨k, rfl⟩ : ∃ m, k = m + 1 := ⟨k - 1, by omega⟩
    simp only [vec_join_int_at_vec_Min_1.l0]
    rw [if_pos (by omega), at_f, at_f, atI_nat, atI_nat]
    simp only [Option.bind_some, vec_Min_1.f]
    rw [if_pos (by omega), if_pos (by omega), wrap_step (n := n) (by omega) hn, Int.toNat_natCast, ih k (i + 1) _ (by omega) (by simpa using hx) (by omega)]
    rw [at_join_step (fun j => mn (a.getD j 0) (b.getD j 0)) 0 x i n hx (by omega)]
theorem vec_join_int_at_vec_Min_1_f (a b : List Int) (k : Nat) (hn : max a.length b.length ≤ 1099511627776) (hk : max a.length b.length < k) : vec_join_int_at_vec_Min_1.f k a b = some (join mn a b) := by
  unfold vec_join_int_at_vec_Min_1.f
  simp only [mx_len, Int.toNat_natCast]
  rw [if_pos (by omega), if_pos (by omega)]
  simp only [Option.bind_some, List.length_replicate]
  have := vec_join_int_at_vec_Min_1_l0 a b _ hn (max a.length b.length) k 0 (List.replicate (max a.length b.length) 0) (by omega) (by simp) hk
  rw [Int.natCast_zero] at this
  rw [this]
  simp [join]
theorem vec_Min_f (a b : List Int) (k : Nat) (hn : max a.length b.length ≤ 1099511627776) (hk : max a.length b.length < k) : vec_Min.f k a b = some (join mn a b) := by
  unfold vec_Min.f; rw [vec_join_int_at_vec_Min_1_f a b k hn hk]; rfl

theorem vec_join_bool_at_vec_Below_1_l0 (a b : List Int) (n : Nat) (hn : n ≤ 1099511627776) : ∀ (d k i : Nat) (x : List Bool), i + d = n → x.length = n → d < k →
    vec_join_bool_at_vec_Below_1.l0 k a b x (n : Int) (i : Int) = some ((List.range n).map fun j => if j < i then x.getD j false else (fun x y => decide (x ≤ y)) (a.getD j 0) (b.getD j 0)) := by
  intro d
  induction d with
  | zero =>
    intro k i x h hx hk
    obtain ⟨k, rfl⟩ : ∃ m, k = m + 1 := ⟨k - 1, by omega⟩
    simp only [vec_join_bool_at_vec_Below_1.l0]
    rw [if_neg (by omega)]
    subst hx
    congr 1
    conv => lhs; rw [← map_range_getD x false]
    refine List.map_congr_left fun j hj => ?_
    rw [if_pos (by have := List.mem_range.1 hj; omega)]
  | succ d ih =>
    intro k i x h hx hk
    obtain ⟨k, rfl⟩ : ∃ m, k = m + 1 := ⟨k - 1, by omega⟩
    simp only [vec_join_bool_at_vec_Below_1.l0]
    rw [if_pos (by omega), at_f, at_f, atI_nat, atI_nat]
    simp only [Option.bind_some, vec_Below_1.f]
    rw [if_pos (by omega), if_pos (by omega), wrap_step (n := n) (by omega) hn, Int.toNat_natCast, ih k (i + 1) _ (by omega) (by simpa using hx) (by omega)]
    rw [at_join_step (fun j => (fun x y => decide (x ≤ y)) (a.getD j 0) (b.getD j 0)) false x i n hx (by omega)]
theorem vec_join_bool_at_vec_Below_1_f (a b : List Int) (k : Nat) (hn : max a.length b.length ≤ 1099511627776) (hk : max a.length b.length < k) : vec_join_bool_at_vec_Below_1.f k a b = some (join (fun x y => decide (x ≤ y)) a b) := by
  unfold vec_join_bool_at_vec_Below_1.f
  simp only [mx_len, Int.toNat_natCast]
  rw [if_pos (by omega), if_pos (by omega)]
  simp only [Option.bind_some, List.length_replicate]
  have := vec_join_bool_at_vec_Below_1_l0 a b _ hn (max a.length b.length) k 0 (List.replicate (max a.length b.length) false) (by omega) (by simp) hk
  rw [Int.natCast_zero] at this
  rw [this]
  simp [join]

theorem rdOf_nat (l : List Bool) (i : Nat) : rdOf false l (i : Int) = l.getD i false := by simp [rdOf]
theorem index_l0 (l : List Bool) (hn : l.length ≤ 1099511627776) : ∀ (d k i : Nat), i + d = l.length → d < k → (∀ j, j < i → l.getD j false = true) → (∀ x ∈ l, x = true) → slices_Index_bool_bool.l0 k l false (l.length : Int) (i : Int) = some (-1) := by
  intro d
  induction d with
  | zero =>
    intro k i h hk _ _
    obtain ⟨k, rfl⟩ : ∃ m, k = m + 1 := ⟨k - 1, by omega⟩
    simp only [slices_Index_bool_bool.l0]
    rw [if_neg (by omega)]
  | succ d ih =>
    intro k i h hk hb ha
    obtain ⟨k, rfl⟩ : ∃ m, k = m + 1 := ⟨k - 1, by omega⟩
    have hi : l.getD i false = true := by rw [List.getD_eq_getElem?_getD, List.getElem?_eq_getElem (by omega)]; exact ha _ (List.getElem_mem _)
    simp only [slices_Index_bool_bool.l0]
    rw [if_pos (by omega), if_pos (by omega), if_pos (by omega), rdOf_nat, hi, if_neg (by decide), wrap_step (n := l.length) (by omega) hn]
    refine ih k (i + 1) (by omega) (by omega) (fun j hj => ?_) ha
    by_cases e : j = i
    · rw [e]; exact hi
    · exact hb j (by omega)
theorem index_l0_found (l : List Bool) (hn : l.length ≤ 1099511627776) : ∀ (d k i : Nat), i + d = l.length → d < k → (∃ j, i ≤ j ∧ j < l.length ∧ l.getD j false = false) → ∃ r, slices_Index_bool_bool.l0 k l false (l.length : Int) (i : Int) = some r ∧ 0 ≤ r := by
  intro d
  induction d with
  | zero => intro k i h hk hx; obtain ⟨j, h1, h2, _⟩ := hx; omega
  | succ d ih =>
    intro k i h hk hx
    obtain ⟨k, rfl⟩ : ∃ m, k = m + 1 := ⟨k - 1, by omega⟩
    simp only [slices_Index_bool_bool.l0]
    rw [if_pos (by omega), if_pos (by omega), if_pos (by omega), rdOf_nat]
    by_cases e : l.getD i false = false
    · rw [e]; exact ⟨i, by simp, by omega⟩
    · rw [if_neg (by cases hh : l.getD i false <;> simp_all), wrap_step (n := l.length) (by omega) hn]
      obtain ⟨j, h1, h2, h3⟩ := hx
      have hij : i + 1 ≤ j := by
        rcases Nat.lt_or_ge i j with q | q
        · omega
        · have : j = i := by omega
          subst this; exact absurd h3 e
      exact ih k (i + 1) (by omega) (by omega) ⟨j, hij, h2, h3⟩
/-- Is no place greater? -/
def below (a b : List Int) : Bool := (join (fun x y => decide (x ≤ y)) a b).all id
theorem below_iff (a b : List Int) : below a b = true ↔ ∀ j, a.getD j 0 ≤ b.getD j 0 := by
  unfold below join
  rw [List.all_eq_true]
  constructor
  · intro h j
    by_cases hj : j < max a.length b.length
    · have := h _ (List.mem_map.2 ⟨j, List.mem_range.2 hj, rfl⟩); simpa using this
    · rw [getD_out (show a.length ≤ j by omega), getD_out (show b.length ≤ j by omega)]; exact Int.le_refl _
  · intro h x hx
    obtain ⟨j, _, rfl⟩ := List.mem_map.1 hx
    simpa using h j
theorem below_f (a b : List Int) (k : Nat) (hn : max a.length b.length ≤ 1099511627776) (hk : max a.length b.length < k) : vec_Below.f k a b = some (below a b) := by
  unfold vec_Below.f slices_Contains_bool_bool.f slices_Index_bool_bool.f
  rw [vec_join_bool_at_vec_Below_1_f a b k hn hk]
  simp only [Option.bind_some]
  have hl := join_length (fun x y : Int => decide (x ≤ y)) a b
  by_cases h : below a b = true
  · have ha : ∀ x ∈ join (fun x y : Int => decide (x ≤ y)) a b, x = true := by
      unfold below at h; rw [List.all_eq_true] at h; exact h
    have := index_l0 _ (by rw [hl]; exact hn) (join (fun x y : Int => decide (x ≤ y)) a b).length k 0 (by omega) (by omega) (fun j hj => by omega) ha
    rw [Int.natCast_zero] at this
    rw [this, h]; rfl
  · have hx : ∃ j, 0 ≤ j ∧ j < (join (fun x y : Int => decide (x ≤ y)) a b).length ∧ (join (fun x y : Int => decide (x ≤ y)) a b).getD j false = false := by
      unfold below at h
      rw [List.all_eq_true] at h
      simp only [Classical.not_forall] at h
      obtain ⟨x, hx, hf⟩ := h
      obtain ⟨j, hj, rfl⟩ := List.getElem_of_mem hx
      refine ⟨j, by omega, hj, ?_⟩
      rw [List.getD_eq_getElem?_getD, List.getElem?_eq_getElem hj]
      simpa using hf
    obtain ⟨r, hr, h0⟩ := index_l0_found _ (by rw [hl]; exact hn) (join (fun x y : Int => decide (x ≤ y)) a b).length k 0 (by omega) (by omega) hx
    rw [Int.natCast_zero] at hr
    rw [hr]
    simp only [Option.bind_some]
    rw [show below a b = false by simpa using h, decide_eq_true h0]; rfl

theorem same_l0 (a b : List Int) (hl : a.length = b.length) (hn : a.length ≤ 1099511627776) : ∀ (d k i : Nat), i + d = a.length → d < k → (∀ j, j < i → a.getD j 0 = b.getD j 0) → precentorref02_Same.l0 k a b (i : Int) = some (decide (a = b)) := by
  intro d
  induction d with
  | zero =>
    intro k i h hk he
    obtain ⟨k, rfl⟩ : ∃ m, k = m + 1 := ⟨k - 1, by omega⟩
    simp only [precentorref02_Same.l0]
    rw [if_neg (by omega)]
    have : a = b := by
      rw [← map_range_getD a 0, ← map_range_getD b 0, hl]
      exact List.map_congr_left fun j hj => he j (by have := List.mem_range.1 hj; omega)
    simp [this]
  | succ d ih =>
    intro k i h hk he
    obtain ⟨k, rfl⟩ : ∃ m, k = m + 1 := ⟨k - 1, by omega⟩
    simp only [precentorref02_Same.l0]
    rw [if_pos (by omega), if_pos (by omega), if_pos (by omega), rd_nat, rd_nat]
    by_cases e : a.getD i 0 = b.getD i 0
    · rw [if_pos e, wrap_step (n := a.length) (by omega) hn]
      refine ih k (i + 1) (by omega) (by omega) (fun j hj => ?_)
      by_cases q : j = i
      · rw [q]; exact e
      · exact he j (by omega)
    · rw [if_neg e]
      have : ¬ a = b := fun q => e (by rw [q])
      simp [this]
theorem same_f (a b : List Int) (k : Nat) (hn : a.length ≤ 1099511627776) (hk : a.length < k) : precentorref02_Same.f k a b = some (decide (a = b)) := by
  unfold precentorref02_Same.f
  by_cases h : a.length = b.length
  · rw [if_pos (by omega)]
    have := same_l0 a b h hn a.length k 0 (by omega) hk (fun j hj => by omega)
    rw [Int.natCast_zero] at this
    exact this
  · rw [if_neg (by omega)]
    have : ¬ a = b := fun q => h (by rw [q])
    simp [this]

theorem wrap_add (s x : Int) : wrap64 (wrap64 s + x) = wrap64 (s + x) := by unfold wrap64; omega
theorem drop_sum (l : List Int) (i : Nat) (h : i < l.length) : (l.drop i).sum = l.getD i 0 + (l.drop (i + 1)).sum := by
  rw [List.drop_eq_getElem_cons h, List.sum_cons, List.getD_eq_getElem?_getD, List.getElem?_eq_getElem h]; rfl
theorem sum_l0 (l : List Int) (hn : l.length ≤ 1099511627776) : ∀ (d k i : Nat) (s : Int), i + d = l.length → d < k → vec_Sum.l0 k (wrap64 s) l (l.length : Int) (i : Int) = some (wrap64 (s + (l.drop i).sum)) := by
  intro d
  induction d with
  | zero =>
    intro k i s h hk
    obtain ⟨k, rfl⟩ : ∃ m, k = m + 1 := ⟨k - 1, by omega⟩
    simp only [vec_Sum.l0]
    rw [if_neg (by omega), List.drop_of_length_le (by omega)]; simp
  | succ d ih =>
    intro k i s h hk
    obtain ⟨k, rfl⟩ : ∃ m, k = m + 1 := ⟨k - 1, by omega⟩
    simp only [vec_Sum.l0]
    rw [if_pos (by omega), if_pos (by omega), if_pos (by omega), wrap_step (n := l.length) (by omega) hn, wrap_add, ih k (i + 1) _ (by omega) (by omega), rd_nat, drop_sum l i (by omega), Int.add_assoc]
theorem sum_f (l : List Int) (k : Nat) (hn : l.length ≤ 1099511627776) (hk : l.length < k) : vec_Sum.f k l = some (wrap64 l.sum) := by
  unfold vec_Sum.f
  have := sum_l0 l hn l.length k 0 0 (by omega) hk
  rw [Int.natCast_zero, wrap_zero] at this
  rw [this]; simp
theorem refsum_l0 (l : List Int) (hn : l.length ≤ 1099511627776) : ∀ (d k i : Nat) (s : Int), i + d = l.length → d < k → precentorref07_Sum.l0 k l (wrap64 s) (i : Int) = some (wrap64 (s + (l.drop i).sum)) := by
  intro d
  induction d with
  | zero =>
    intro k i s h hk
    obtain ⟨k, rfl⟩ : ∃ m, k = m + 1 := ⟨k - 1, by omega⟩
    simp only [precentorref07_Sum.l0]
    rw [if_neg (by omega), List.drop_of_length_le (by omega)]; simp
  | succ d ih =>
    intro k i s h hk
    obtain ⟨k, rfl⟩ : ∃ m, k = m + 1 := ⟨k - 1, by omega⟩
    simp only [precentorref07_Sum.l0]
    rw [if_pos (by omega), if_pos (by omega), wrap_step (n := l.length) (by omega) hn, wrap_add, ih k (i + 1) _ (by omega) (by omega), rd_nat, drop_sum l i (by omega), Int.add_assoc]
theorem refsum_f (l : List Int) (k : Nat) (hn : l.length ≤ 1099511627776) (hk : l.length < k) : precentorref07_Sum.f k l = some (wrap64 l.sum) := by
  unfold precentorref07_Sum.f
  have := refsum_l0 l hn l.length k 0 0 (by omega) hk
  rw [Int.natCast_zero, wrap_zero] at this
  rw [this]; simp

/-- The least of what rows have at a place. -/
def leastR : List (List Int) → Int → Int
  | [], _ => 0
  | x :: xs, i => xs.foldl (fun n r => mn n (atI r i)) (atI x i)
theorem rdL_nat (l : List (List Int)) (i : Nat) : rd_L2 l (i : Int) = l.getD i [] := by simp [rd_L2]
theorem least_l0 (y : List (List Int)) (i : Int) (hn : y.length ≤ 1099511627776) : ∀ (d k j : Nat) (s : Int), j + d = y.length → d < k → vec_Least.l0 k i s y (y.length : Int) (j : Int) = some ((y.drop j).foldl (fun n r => mn n (atI r i)) s) := by
  intro d
  induction d with
  | zero =>
    intro k j s h hk
    obtain ⟨k, rfl⟩ : ∃ m, k = m + 1 := ⟨k - 1, by omega⟩
    simp only [vec_Least.l0]
    rw [if_neg (by omega), List.drop_of_length_le (by omega)]; rfl
  | succ d ih =>
    intro k j s h hk
    obtain ⟨k, rfl⟩ : ∃ m, k = m + 1 := ⟨k - 1, by omega⟩
    simp only [vec_Least.l0]
    rw [if_pos (by omega), if_pos (by omega), if_pos (by omega), at_f]
    simp only [Option.bind_some]
    rw [wrap_step (n := y.length) (by omega) hn, ih k (j + 1) _ (by omega) (by omega), rdL_nat, List.drop_eq_getElem_cons (show j < y.length by omega), List.foldl_cons, List.getD_eq_getElem?_getD, List.getElem?_eq_getElem (show j < y.length by omega)]; rfl
theorem least_f (l : List (List Int)) (i : Int) (k : Nat) (hn : l.length ≤ 1099511627776) (hk : l.length < k) : vec_Least.f k l i = some (leastR l i) := by
  unfold vec_Least.f
  cases l with
  | nil => rfl
  | cons x xs =>
    simp only [List.length_cons] at hn hk ⊢
    rw [if_neg (by omega), if_pos (by omega), at_f]
    simp only [Option.bind_some]
    rw [if_pos (by omega)]
    simp only [List.drop_succ_cons, List.drop_zero]
    have := least_l0 xs i (by omega) xs.length k 0 (atI x i) (by omega) (by omega)
    rw [Int.natCast_zero] at this
    have e : rd_L2 (x :: xs) 0 = x := rfl
    rw [e, this]; rfl
theorem refleast_l0 (x : List Int) (xs : List (List Int)) (i : Int) (hn : xs.length + 1 ≤ 1099511627776) : ∀ (d k j : Nat) (s : Int), j + d = xs.length → d < k →
    precentorref07_Least.l0 k (x :: xs) i s ((j + 1 : Nat) : Int) = some ((xs.drop j).foldl (fun n r => mn n (atI r i)) s) := by
  intro d
  induction d with
  | zero =>
    intro k j s h hk
    obtain ⟨k, rfl⟩ : ∃ m, k = m + 1 := ⟨k - 1, by omega⟩
    simp only [precentorref07_Least.l0, List.length_cons]
    rw [if_neg (by omega), List.drop_of_length_le (by omega)]; rfl
  | succ d ih =>
    intro k j s h hk
    obtain ⟨k, rfl⟩ : ∃ m, k = m + 1 := ⟨k - 1, by omega⟩
    simp only [precentorref07_Least.l0, List.length_cons]
    rw [if_pos (by omega), if_pos (by omega), refat_f]
    simp only [Option.bind_some]
    rw [if_neg (by omega), rdL_nat, wrap_step (n := xs.length + 1) (by omega) hn, List.drop_eq_getElem_cons (show j < xs.length by omega), List.foldl_cons]
    have e : (x :: xs).getD (j + 1) [] = xs[j]'(by omega) := by simp [List.getD_eq_getElem?_getD, List.getElem?_eq_getElem (show j < xs.length by omega)]
    rw [e]
    by_cases q : atI (xs[j]'(by omega)) i < s
    · rw [if_pos q, ih k (j + 1) _ (by omega) (by omega)]; simp [mn, q]
    · rw [if_neg q, ih k (j + 1) _ (by omega) (by omega)]; simp [mn, q]
theorem refleast_f (l : List (List Int)) (i : Int) (k : Nat) (hn : l.length ≤ 1099511627776) (hk : l.length < k) : precentorref07_Least.f k l i = some (leastR l i) := by
  unfold precentorref07_Least.f
  obtain ⟨k, rfl⟩ : ∃ m, k = m + 1 := ⟨k - 1, by omega⟩
  cases l with
  | nil => rfl
  | cons x xs =>
    simp only [List.length_cons] at hn hk
    simp only [precentorref07_Least.l0, List.length_cons]
    rw [if_pos (by omega), if_pos (by omega), refat_f]
    simp only [Option.bind_some]
    rw [if_pos trivial]
    have := refleast_l0 x xs i (by omega) xs.length k 0 (atI x i) (by omega) (by omega)
    rw [wrap_one]
    have e : rd_L2 (x :: xs) 0 = x := rfl
    rw [e, this]; rfl
theorem fold_le (i : Int) : ∀ (xs : List (List Int)) (s : Int), xs.foldl (fun n r => mn n (atI r i)) s ≤ s ∧ ∀ r ∈ xs, xs.foldl (fun n r => mn n (atI r i)) s ≤ atI r i
  | [], s => ⟨Int.le_refl _, fun r hr => by simp at hr⟩
  | x :: xs, s => by
    obtain ⟨h1, h2⟩ := fold_le i xs (mn s (atI x i))
    have h3 : mn s (atI x i) ≤ s ∧ mn s (atI x i) ≤ atI x i := by unfold mn; split <;> omega
    refine ⟨Int.le_trans h1 h3.1, fun r hr => ?_⟩
    rcases List.mem_cons.1 hr with rfl | hr
    · exact Int.le_trans h1 h3.2
    · exact h2 r hr
theorem fold_is (i : Int) : ∀ (xs : List (List Int)) (s : Int), xs.foldl (fun n r => mn n (atI r i)) s = s ∨ ∃ r ∈ xs, xs.foldl (fun n r => mn n (atI r i)) s = atI r i
  | [], s => .inl rfl
  | x :: xs, s => by
    rcases fold_is i xs (mn s (atI x i)) with h | ⟨r, hr, h⟩
    · rw [List.foldl_cons, h]
      by_cases q : atI x i < s
      · exact .inr ⟨x, List.mem_cons_self, by simp [mn, q]⟩
      · exact .inl (by simp [mn, q])
    · exact .inr ⟨r, List.mem_cons_of_mem _ hr, h⟩
theorem least_le {l : List (List Int)} {r : List Int} (i : Int) (hr : r ∈ l) : leastR l i ≤ atI r i := by
  cases l with
  | nil => simp at hr
  | cons x xs =>
    rcases List.mem_cons.1 hr with rfl | hr
    · exact (fold_le i xs _).1
    · exact (fold_le i xs _).2 r hr
theorem least_is {l : List (List Int)} (i : Int) (h : l ≠ []) : ∃ r ∈ l, leastR l i = atI r i := by
  cases l with
  | nil => exact absurd rfl h
  | cons x xs =>
    rcases fold_is i xs (atI x i) with q | ⟨r, hr, q⟩
    · exact ⟨x, List.mem_cons_self, q⟩
    · exact ⟨r, List.mem_cons_of_mem _ hr, q⟩
theorem le_least {l : List (List Int)} (i c : Int) (h : l ≠ []) (hc : ∀ r ∈ l, c ≤ atI r i) : c ≤ leastR l i := by
  obtain ⟨r, hr, e⟩ := least_is i h
  rw [e]; exact hc r hr

/-- Rows are few, and short. -/
def fewR (l : List (List Int)) : Bool := decide (l.length ≤ 50) && l.all fun r => decide (r.length ≤ 50)
theorem few_l0 (l : List (List Int)) (hn : l.length ≤ 50) : ∀ (d k j : Nat), j + d = l.length → d < k → precentorlaw07_few.l0 k l (j : Int) = some ((l.drop j).all fun r => decide (r.length ≤ 50)) := by
  intro d
  induction d with
  | zero =>
    intro k j h hk
    obtain ⟨k, rfl⟩ : ∃ m, k = m + 1 := ⟨k - 1, by omega⟩
    simp only [precentorlaw07_few.l0]
    rw [if_neg (by omega), List.drop_of_length_le (by omega)]; rfl
  | succ d ih =>
    intro k j h hk
    obtain ⟨k, rfl⟩ : ∃ m, k = m + 1 := ⟨k - 1, by omega⟩
    simp only [precentorlaw07_few.l0]
    rw [if_pos (by omega), if_pos (by omega), rdL_nat, List.drop_eq_getElem_cons (show j < l.length by omega), List.all_cons, List.getD_eq_getElem?_getD, List.getElem?_eq_getElem (show j < l.length by omega)]
    simp only [Option.getD_some]
    by_cases q : ((l[j]'(by omega)).length : Int) > 50
    · rw [if_pos q, decide_eq_false (by omega)]; rfl
    · rw [if_neg q, decide_eq_true (by omega), wrap_step (n := l.length) (by omega) (by omega), ih k (j + 1) (by omega) (by omega)]; rfl
theorem few_f (l : List (List Int)) (k : Nat) (hk : 50 < k) : precentorlaw07_few.f k l = some (fewR l) := by
  unfold precentorlaw07_few.f fewR
  by_cases h : (l.length : Int) > 50
  · rw [if_pos h, decide_eq_false (by omega)]; rfl
  · rw [if_neg h, decide_eq_true (by omega)]
    have := few_l0 l (by omega) l.length k 0 (by omega) (by omega)
    rw [Int.natCast_zero] at this
    rw [this]; rfl
theorem few_iff (l : List (List Int)) : fewR l = true ↔ l.length ≤ 50 ∧ ∀ r ∈ l, r.length ≤ 50 := by
  unfold fewR; rw [Bool.and_eq_true, List.all_eq_true, decide_eq_true_iff]; simp

theorem shown_f (k : Nat) (hk : 50 ≤ k) : precentorlaw07_shown.f k = some true :=
  at_rounds (fun k => precentorlaw07_shown.mono k) hk (by decide +kernel)
end Go.Proofs.Ytemaikelagchcaa.Vec
