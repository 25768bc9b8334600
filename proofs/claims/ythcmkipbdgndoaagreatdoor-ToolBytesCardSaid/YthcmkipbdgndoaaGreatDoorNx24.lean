/- Words for what is shown of functions, and how they are met (definitions and lemmas; conditions: what they say). -/
import Derived.Test.YthcmkipbdgndoaaGreatDoorNx23
set_option linter.all false
set_option linter.unusedVariables false
set_option linter.unusedSimpArgs false
set_option linter.unnecessarySimpa false
namespace Go.Mir
open Go Go.RowKit

abbrev I (n : Int) : PV := .lit (.int .i64 n)
abbrev B (b : Bool) : PV := .lit (.bool b)
abbrev U8 (n : UInt8) : PV := .lit (.int .u8 n.toNat)
abbrev U16 (n : UInt16) : PV := .lit (.int .u16 n.toNat)
abbrev lI (l : List Int) : PV := .sl false (l.map I)
abbrev lB (l : List Bool) : PV := .sl false (l.map B)
abbrev lU8 (l : List UInt8) : PV := .sl false (l.map U8)
noncomputable def w64 (n : Int) : Int := IntKind.i64.wrap n
noncomputable def imax (x y : Int) : Int := if y > x then y else x
noncomputable def imin (x y : Int) : Int := if y < x then y else x
/-- Both ways. -/
noncomputable def Fk (b : Bool) (K K' : Prop) : Prop := (b = true → K) ∧ (b = false → K')
/-- A slice that is compared with nil: if it is, it holds nothing. -/
noncomputable def Nq (es : List PV) (K K' : Prop) : Prop := ((∀ p ∈ es, p.cells = []) → K) ∧ K'
noncomputable def Nn (es : List PV) (K K' : Prop) : Prop := K ∧ ((∀ p ∈ es, p.cells = []) → K')
noncomputable def Sm {α : Type} (x : α) : Prop := x = x
noncomputable def SmA (x : AV) : Prop := x = x
/-- A place of a slice. -/
noncomputable def Ix {α : Type} (e : α → PV) (es : List PV) (i : Int) (K : α → Prop) : Prop := 0 ≤ i ∧ ∃ a : α, es[i.toNat]? = some (e a) ∧ K a
noncomputable def Ld {α : Type} (e : α → PV) (es : List PV) (i : Nat) (K : α → Prop) : Prop := ∃ a : α, es[i]? = some (e a) ∧ K a
noncomputable def Rx (i : Int) (n : Nat) (K : Prop) : Prop := 0 ≤ i ∧ i < (n : Int) ∧ K
noncomputable def Ln (es : List PV) (K : Prop) : Prop := es.length ≤ 9223372036854775807 → K
noncomputable def Sz (n m b : Nat) (K : Prop) : Prop := (n + m) * b ≤ 140737488355328 ∧ K
noncomputable def Ok (b : Bool) (K : Prop) : Prop := b = true ∧ K
noncomputable def Mk (b : Nat) (l c : Int) (K : Prop) : Prop := 0 ≤ l ∧ l ≤ c ∧ (b : Int) * c ≤ 281474976710656 ∧ c ≤ 9223372036854775807 ∧ K
noncomputable def Az (b : Nat) (i : Int) (K : Prop) : Prop := 0 < i ∧ i ≤ 140737488355328 ∧ i * b ≤ 140737488355328 ∧ K
noncomputable def Nz (b : Int) (K : Prop) : Prop := b ≠ 0 ∧ K
noncomputable def allN (n : Nat) (es : List PV) : Bool := es.all (fun p => decide (p.cells.length = n))
/-- Pieces of a slice. -/
noncomputable def Sd (n : Nat) (es : List PV) (i : Int) (K : Prop) : Prop := 0 ≤ i ∧ i ≤ es.length ∧ allN n es = true ∧ K
noncomputable def St1 (es : List PV) (j : Int) (K : Prop) : Prop := 0 ≤ j ∧ j ≤ es.length ∧ K
noncomputable def Sb (n : Nat) (es : List PV) (i j : Int) (K : Prop) : Prop := 0 ≤ i ∧ i ≤ j ∧ j ≤ es.length ∧ allN n es = true ∧ K
noncomputable def St3 (es : List PV) (j m : Int) (K : Prop) : Prop := 0 ≤ j ∧ j = m ∧ m ≤ es.length ∧ K
noncomputable def Sb3 (n : Nat) (es : List PV) (i j m : Int) (K : Prop) : Prop := 0 ≤ i ∧ i ≤ j ∧ j = m ∧ m ≤ es.length ∧ allN n es = true ∧ K
noncomputable def Pl (n : Nat) (i : Int) (K : Prop) : Prop := 0 ≤ i ∧ i ≤ n ∧ K
noncomputable def Ph (n : Nat) (j : Int) (K : Prop) : Prop := 0 ≤ j ∧ j ≤ n ∧ K
noncomputable def Pb (n : Nat) (i j : Int) (K : Prop) : Prop := 0 ≤ i ∧ i ≤ j ∧ j ≤ n ∧ K
noncomputable def Pf (Q K : Prop) : Prop := Q ∧ K
noncomputable def srt (zs : List Int) : List Int := zs.mergeSort fun x y => decide (x ≤ y)
noncomputable def Zs (es : List PV) (K : List Int → Prop) : Prop := ∃ zs : List Int, es = zs.map I ∧ zs.length < 4611686018427387904 ∧ K zs
noncomputable def By (es : List PV) (K : List UInt8 → Prop) : Prop := ∃ bs : List UInt8, es = bs.map (fun b => PV.lit (.int .u8 b.toNat)) ∧ K bs

theorem w64_id {n : Int} (h1 : -9223372036854775808 ≤ n) (h2 : n ≤ 9223372036854775807) : w64 n = n := by
  unfold w64 IntKind.wrap
  simp only [show IntKind.i64.bits = 64 from rfl, show IntKind.i64.signed = true from rfl]
  split <;> rename_i h <;> simp at h <;> omega
theorem Fk_of {b : Bool} {K K' : Prop} (h1 : b = true → K) (h2 : b = false → K') : Fk b K K' := ⟨h1, h2⟩
theorem Ix_map {α : Type} {e : α → PV} {l : List α} {i : Int} {K : α → Prop} {a : α} (h0 : 0 ≤ i) (h : l[i.toNat]? = some a) (hk : K a) : Ix e (l.map e) i K := ⟨h0, a, by rw [List.getElem?_map, h]; rfl, hk⟩
theorem Ix_nat {α : Type} {e : α → PV} {l : List α} {i : Nat} {K : α → Prop} {a : α} (h : l[i]? = some a) (hk : K a) : Ix e (l.map e) (i : Int) K := Ix_map (by omega) (by simpa using h) hk
theorem Ld_map {α : Type} {e : α → PV} {l : List α} {i : Nat} {K : α → Prop} {a : α} (h : l[i]? = some a) (hk : K a) : Ld e (l.map e) i K := ⟨a, by rw [List.getElem?_map, h]; rfl, hk⟩
theorem allN_map {α : Type} {e : α → PV} {n : Nat} (h : ∀ a, (e a).cells.length = n) (l : List α) : allN n (l.map e) = true := by
  simp [allN, List.all_map, h]
theorem okNews_map {α : Type} {e : α → PV} {n : Nat} (h : ∀ a, (e a).cells.length = n) (h' : ∀ a, (e a).cells.all PV.isCell = true) (l : List α) : okNews n (l.map e) = true := by
  unfold okNews
  rw [Bool.and_eq_true, List.all_eq_true, List.all_eq_true]
  refine ⟨fun p hp => ?_, fun p hp => ?_⟩ <;> obtain ⟨a, _, rfl⟩ := List.mem_map.1 hp
  · simp [h]
  · exact h' a
end Go.Mir
namespace Go.Mir
open Go Go.RowKit
theorem RvsLe.of_eq {a b : List RV} (h : a = b) : RvsLe a b := h ▸ RvsLe.refl a
theorem rvB {a b : Bool} : RvsLe [.pv (.lit (.bool a))] [.pv (.lit (.bool b))] ↔ a = b := ⟨fun h => by
  cases h with | cons h _ => cases h with | pv h => cases h; rfl, fun h => h ▸ RvsLe.refl _⟩
theorem rvI {a b : Int} : RvsLe [.pv (.lit (.int .i64 a))] [.pv (.lit (.int .i64 b))] ↔ a = b := ⟨fun h => by
  cases h with | cons h _ => cases h with | pv h => cases h; rfl, fun h => h ▸ RvsLe.refl _⟩
theorem SmA_true (x : AV) : SmA x ↔ True := ⟨fun _ => trivial, fun _ => rfl⟩
theorem Lo_iff {V : Type} {F : (V → Prop) → V → Prop} {v : V} : Lo F v ↔ ∃ n, itL F n v := Iff.rfl
/-- A loop that counts places: at i the rest is still to be done. -/
theorem Lo_up {V : Type} {F : (V → Prop) → V → Prop} (n : Nat) (at' : Nat → V → Prop) (h : ∀ (L : V → Prop) (i : Nat) (v : V), i ≤ n → at' i v → (∀ v', i < n → at' (i + 1) v' → L v') → F L v) {i : Nat} {v : V} (hi : i ≤ n) (hv : at' i v) : Lo F v := by
  have key : ∀ m i v, i ≤ n → at' i v → n - i < m → itL F m v := by
    intro m
    induction m with
    | zero => intro i v _ _ h; omega
    | succ m ih => intro i v hi hv hm; exact h _ i v hi hv fun v' hlt hv' => ih (i + 1) v' (by omega) hv' (by omega)
  exact ⟨n - i + 1, key _ i v hi hv (Nat.lt_succ_self _)⟩
/-- A loop over a list, place by place: r is what is left from place i on. -/
theorem Lo_drop {α V : Type} {F : (V → Prop) → V → Prop} (l : List α) (at' : Nat → List α → V → Prop) (h0 : ∀ (L : V → Prop) (v : V), at' l.length [] v → F L v)
    (hs : ∀ (L : V → Prop) (i : Nat) (a : α) (r : List α) (v : V), i < l.length → l[i]? = some a → l.drop i = a :: r → at' i (a :: r) v → (∀ v', at' (i + 1) r v' → L v') → F L v) {v : V} (hv : at' 0 l v) : Lo F v := by
  refine Lo_up l.length (fun i v => at' i (l.drop i) v) (fun L i v hi hv hL => ?_) (i := 0) (Nat.zero_le _) (by simpa using hv)
  by_cases hlt : i < l.length
  · have hd := List.drop_eq_getElem_cons hlt
    refine hs L i l[i] (l.drop (i + 1)) v hlt (List.getElem?_eq_getElem hlt) hd (hd ▸ hv) fun v' hv' => hL v' hlt hv'
  · obtain rfl : i = l.length := by omega
    exact h0 L v (by simpa using hv)
theorem Fk_t {b : Bool} {K K' : Prop} (h : b = true) (hk : K) : Fk b K K' := ⟨fun _ => hk, fun h' => (by rw [h] at h'; cases h')⟩
theorem Fk_f {b : Bool} {K K' : Prop} (h : b = false) (hk : K') : Fk b K K' := ⟨fun h' => (by rw [h] at h'; cases h'), fun _ => hk⟩
theorem w64_succ {i n : Nat} (h : i < n) (hn : n ≤ 9223372036854775807) : w64 ((i : Int) + 1) = ((i + 1 : Nat) : Int) := by rw [w64_id (by omega) (by omega)]; rfl
end Go.Mir
namespace Go.Mir
open Go Go.RowKit
noncomputable def RV.dull : RV → RV
  | .pv p => .pv p.dull
  | .fresh _ _ es => .pv (.sl false es)
theorem RvLe.dull1 (r : RV) : RvLe r r.dull := by
  cases r with
  | pv p => exact .pv p.dull_le
  | fresh e s es => exact .toRow e s es
theorem RvsLe.dulls : ∀ rs : List RV, RvsLe rs (rs.map RV.dull)
  | [] => .nil
  | r :: rs => .cons (.dull1 r) (RvsLe.dulls rs)
/-- Results, told with less. -/
theorem RvsLe.dull {rs qs : List RV} (h : rs.map RV.dull = qs) : RvsLe rs qs := h ▸ RvsLe.dulls rs
theorem PVsLe.dulls : ∀ ps : List PV, PVsLe ps (ps.map PV.dull)
  | [] => .nil
  | p :: ps => .cons p.dull_le (PVsLe.dulls ps)
/-- Arguments, told with less. -/
theorem Ct.dull {P : Program} [Globs P] {g : Nat} {ps qs : List PV} {rs : List RV} (h : Ct P g qs rs) (hp : ps.map PV.dull = qs) : Ct P g ps rs := h.args (hp ▸ PVsLe.dulls ps)
/-- Contents of boxes, told with less. -/
theorem PVssLe.dull {xs bs : List (List PV)} (h : xs.map (fun c => c.map PV.dull) = bs) : PVssLe xs bs := h ▸ ⟨by simp, fun i x y hx hy => by
  rw [List.getElem?_map, hx] at hy
  cases hy
  exact PVsLe.dulls x⟩
/-- What is not nil, or holds nothing. -/
theorem Nq_map {α : Type} {e : α → PV} {l : List α} {K K' : Prop} (he : ∀ a, (e a).cells ≠ []) (h : l = [] → K) (h' : K') : Nq (l.map e) K K' := ⟨fun hp => h (by
  cases l with
  | nil => rfl
  | cons a r => exact absurd (hp (e a) (by simp)) (he a)), h'⟩
theorem RvsLe.row {e s : Nat} {es : List PV} : RvsLe [.fresh e s es] [.fresh e s es] := .refl _
theorem RvsLe.rowNil {e s : Nat} : RvsLe [.pv (.sl true [])] [.fresh e s []] := .cons .nil .nil
theorem Rx_nat {i n : Nat} {K : Prop} (h : i < n) (hk : K) : Rx (i : Int) n K := ⟨by omega, by omega, hk⟩
/-- A row that is filled from its head on. -/
theorem fill_set {α : Type} {z : List α} {d a : α} {i : Nat} (h : z[i]? = some a) : (z.take i ++ List.replicate (z.length - i) d).set i a = z.take (i + 1) ++ List.replicate (z.length - (i + 1)) d := by
  have hi := (List.getElem?_eq_some_iff.1 h).1
  have e1 : (z.take i).length = i := by rw [List.length_take]; omega
  have e2 : z.length - i = (z.length - (i + 1)) + 1 := by omega
  rw [List.set_append, if_neg (by omega), e1, Nat.sub_self, e2, List.replicate_succ, List.set_cons_zero, List.take_add_one, h]
  simp
theorem fill_get {α : Type} {z : List α} {d : α} {i : Nat} (h : i < z.length) : (z.take i ++ List.replicate (z.length - i) d)[i]? = some d := by
  have e1 : (z.take i).length = i := by rw [List.length_take]; omega
  rw [List.getElem?_append_right (by omega), e1, Nat.sub_self, List.getElem?_replicate, if_pos (by omega)]
/-- A join: what holds there (I), is enough behind it, and is so ahead of it. -/
theorem Jn_mid {V : Type} {J : V → Prop} {T : (V → Prop) → Prop} (I : V → Prop) (h : ∀ j : V → Prop, (∀ v, I v → j v) → T j) (h' : ∀ v, I v → J v) : Jn J T := h _ h'
theorem imax_eq (x y : Int) : imax x y = max x y := by unfold imax; split <;> omega
theorem imin_eq (x y : Int) : imin x y = min x y := by unfold imin; split <;> omega
theorem Sz_of {n m b : Nat} {K : Prop} (h : (n + m) * b ≤ 140737488355328) (hk : K) : Sz n m b K := ⟨h, hk⟩
theorem Ok_of {b : Bool} {K : Prop} (h : b = true) (hk : K) : Ok b K := ⟨h, hk⟩
theorem okOld_map {α : Type} {e : α → PV} {n : Nat} (h : ∀ a, (e a).cells.length = n) (l : List α) (p : PV) (r : List PV) : okOld n (l.map e) (p :: r) = true := by
  simp [okOld, List.all_map, h]
theorem By_map {l : List UInt8} {K : List UInt8 → Prop} (h : K l) : By (l.map U8) K := ⟨l, rfl, h⟩
theorem bytes_eq (a b : List UInt8) : ((⟨a.toArray⟩ : ByteArray).toList == (⟨b.toArray⟩ : ByteArray).toList) = (a == b) := by
  have : ∀ a : List UInt8, (⟨a.toArray⟩ : ByteArray).toList = a := fun a => by
    have key : ∀ (n i : Nat) (r : List UInt8), a.length - i ≤ n → i ≤ a.length → ByteArray.toList.loop ⟨a.toArray⟩ i r = r.reverse ++ a.drop i := by
      intro n
      induction n with
      | zero =>
        intro i r h hi
        unfold ByteArray.toList.loop
        rw [if_neg (by simp [ByteArray.size]; omega), List.drop_eq_nil_of_le (by omega), List.append_nil]
      | succ n ih =>
        intro i r h hi
        unfold ByteArray.toList.loop
        by_cases hlt : i < a.length
        · rw [if_pos (by simpa [ByteArray.size] using hlt), ih (i + 1) _ (by omega) (by omega), List.drop_eq_getElem_cons hlt]
          simp [ByteArray.get!, hlt]
        · rw [if_neg (by simp [ByteArray.size]; omega), List.drop_eq_nil_of_le (by omega), List.append_nil]
    unfold ByteArray.toList
    rw [key a.length 0 [] (by omega) (by omega)]
    simp
  rw [this, this]
end Go.Mir
namespace Go.Mir
theorem Fk_true {K K' : Prop} : Fk true K K' ↔ K := ⟨fun h => h.1 rfl, fun h => ⟨fun _ => h, fun h => by cases h⟩⟩
theorem Fk_false {K K' : Prop} : Fk false K K' ↔ K' := ⟨fun h => h.2 rfl, fun h => ⟨fun h => (by cases h), fun _ => h⟩⟩
end Go.Mir
namespace Go.Mir
/-- Behind a join of two ways. -/
theorem Jn_if {V : Type} {J : V → Prop} {b : Bool} {x y : V} (h : ∀ v, (v = if b then x else y) → J v) : Jn J (fun j => Fk b (j x) (j y)) :=
  ⟨fun hb => h _ (by simp [hb]), fun hb => h _ (by simp [hb])⟩
end Go.Mir
