/- Weaker plain values; contracts of calls (definitions and lemmas; conditions: what they say). -/
import Derived.Test.YthcmkipbdgndoaaGreatDoorNx14
set_option linter.all false
set_option linter.unusedVariables false
set_option linter.unusedSimpArgs false
set_option linter.unnecessarySimpa false
namespace Go.Mir
open Go Go.RowKit
variable {P : Program} {μ μ' : Nat → Option KS} {S S' : Nat → Prop} {w w' : World} {σ σ' : Store}

/-- The same, told with less. -/
inductive PVLe : PV → PV → Prop
  | refl (p : PV) : PVLe p p
  | sl {f g : Bool} {es fs : List PV} (hg : g = true → f = true) (hl : es.length = fs.length) (h : ∀ (j : Nat) (p q : PV), es[j]? = some p → fs[j]? = some q → PVLe p q) : PVLe (.sl f es) (.sl g fs)
  | agg {as bs : List PV} (hl : as.length = bs.length) (h : ∀ (j : Nat) (p q : PV), as[j]? = some p → bs[j]? = some q → PVLe p q) : PVLe (.agg as) (.agg bs)
  | tuple {as bs : List PV} (hl : as.length = bs.length) (h : ∀ (j : Nat) (p q : PV), as[j]? = some p → bs[j]? = some q → PVLe p q) : PVLe (.tuple as) (.tuple bs)
  | ip {as bs : List PV} {o : Nat} (hl : as.length = bs.length) (h : ∀ (j : Nat) (p q : PV), as[j]? = some p → bs[j]? = some q → PVLe p q) : PVLe (.ip as o) (.ip bs o)
  | fn {f : Fn} {as bs cs ds : List PV} (hl : as.length = bs.length) (h : ∀ (j : Nat) (p q : PV), as[j]? = some p → bs[j]? = some q → PVLe p q)
      (hl' : cs.length = ds.length) (h' : ∀ (j : Nat) (p q : PV), cs[j]? = some p → ds[j]? = some q → PVLe p q) : PVLe (.fn f as cs) (.fn f bs ds)

noncomputable def PVsLe (as bs : List PV) : Prop := as.length = bs.length ∧ ∀ (j : Nat) (p q : PV), as[j]? = some p → bs[j]? = some q → PVLe p q

theorem PVLe.cells {p q : PV} (h : PVLe p q) : p.cells.length = q.cells.length ∧ ∀ (j : Nat) (x y : PV), p.cells[j]? = some x → q.cells[j]? = some y → PVLe x y := by
  have one : ∀ {a b : PV}, PVLe a b → [a].length = [b].length ∧ ∀ (j : Nat) (x y : PV), [a][j]? = some x → [b][j]? = some y → PVLe x y := fun h => ⟨rfl, fun j x y hx hy => by
    cases j with
    | zero => simp at hx hy; subst hx; subst hy; exact h
    | succ j => simp at hx⟩
  cases h with
  | refl => exact ⟨rfl, fun j x y hx hy => by rw [hx] at hy; cases hy; exact .refl _⟩
  | agg hl h => exact ⟨hl, h⟩
  | sl hg hl h => exact one (.sl hg hl h)
  | tuple hl h => exact one (.tuple hl h)
  | ip hl h => exact one (.ip hl h)
  | fn hl h hl' h' => exact one (.fn hl h hl' h')

theorem pw_get {as bs : List PV} (hl : as.length = bs.length) (h : ∀ (j : Nat) (p q : PV), as[j]? = some p → bs[j]? = some q → PVLe p q) {j : Nat} {q : PV} (hq : bs[j]? = some q) : ∃ p, as[j]? = some p ∧ PVLe p q := by
  have hj : j < as.length := by rw [hl]; exact (List.getElem?_eq_some_iff.1 hq).1
  have hp := List.getElem?_eq_getElem hj
  exact ⟨_, hp, h j _ q hp hq⟩

theorem Rep.weaken {p q : PV} (h : PVLe p q) : ∀ {v : Value}, Rep S w p v → Rep S w q v := by
  induction h with
  | refl => exact fun h => h
  | @sl f g es fs hg hl h ih =>
    intro v hr
    cases hr with
    | @sl _ _ a cap s f hn hc hf hs ha hr =>
      rw [hl]
      have at' : ∀ {i : Nat} {q : PV}, fs[i]? = some q → ∃ p, es[i]? = some p ∧ PVLe p q ∧ ∀ {v : Value}, Rep S w p v → Rep S w q v := fun {i q} hq => by
        have hi : i < es.length := by rw [hl]; exact (List.getElem?_eq_some_iff.1 hq).1
        have hp := List.getElem?_eq_getElem hi
        exact ⟨_, hp, h i _ q hp hq, ih i _ q hp hq⟩
      have cell' : ∀ {p q : PV} {j : Nat} {y : PV}, PVLe p q → q.cells[j]? = some y → ∃ x, p.cells[j]? = some x ∧ PVLe x y := fun {p q j y} hpq hy => by
        obtain ⟨c1, c2⟩ := hpq.cells
        have hj : j < p.cells.length := by rw [c1]; exact (List.getElem?_eq_some_iff.1 hy).1
        have hx := List.getElem?_eq_getElem hj
        exact ⟨_, hx, c2 j _ y hx hy⟩
      have key : ∀ (i : Nat) (q : PV) (j : Nat) (y : PV), fs[i]? = some q → q.cells[j]? = some y → Rep S w y (f i j) := by
        intro i q j y hq hy
        obtain ⟨p, hp, hpq, hw⟩ := at' hq
        -- the element's cells as one value
        cases hpq with
        | refl => exact hr i _ j y hp hy
        | @agg as bs hl2 h2 =>
          have hv : Rep S w (.agg as) (.agg ((List.range as.length).map (f i)).toArray) := .agg (by simp) fun m x v hx hv => by
            have hm : m < as.length := (List.getElem?_eq_some_iff.1 hx).1
            rw [List.getElem?_map, List.getElem?_range hm] at hv
            cases hv
            exact hr i _ m x hp hx
          cases hw hv with
          | agg hl3 h3 =>
            refine h3 j y _ hy ?_
            have hj : j < bs.length := (List.getElem?_eq_some_iff.1 hy).1
            rw [List.getElem?_map, List.getElem?_range (by omega)]
            rfl
        | sl a1 a2 a3 =>
          cases j with
          | zero => simp [PV.cells] at hy; subst hy; exact hw (hr i _ 0 _ hp rfl)
          | succ j => simp [PV.cells] at hy
        | tuple a1 a2 =>
          cases j with
          | zero => simp [PV.cells] at hy; subst hy; exact hw (hr i _ 0 _ hp rfl)
          | succ j => simp [PV.cells] at hy
        | ip a1 a2 =>
          cases j with
          | zero => simp [PV.cells] at hy; subst hy; exact hw (hr i _ 0 _ hp rfl)
          | succ j => simp [PV.cells] at hy
        | fn a1 a2 a3 a4 =>
          cases j with
          | zero => simp [PV.cells] at hy; subst hy; exact hw (hr i _ 0 _ hp rfl)
          | succ j => simp [PV.cells] at hy
      refine .sl s f (by omega) (by omega) (fun hg' => by have := hf (hg hg'); omega) (fun i q hq => ?_) (fun i q j y hq hy => ?_) key
      · obtain ⟨p, hp, hpq, _⟩ := at' hq
        rw [← hpq.cells.1]; exact hs i p hp
      · obtain ⟨p, hp, hpq, _⟩ := at' hq
        obtain ⟨x, hx, _⟩ := cell' hpq hy
        exact ha i p j x hp hx
  | @agg as bs hl h ih =>
    intro v hr
    cases hr with
    | @agg _ vs hl' hr =>
      refine .agg (by omega) fun j q v hq hv => ?_
      obtain ⟨p, hp, _⟩ := pw_get hl h hq
      exact ih j p q hp hq (hr j p v hp hv)
  | @tuple as bs hl h ih =>
    intro v hr
    cases hr with
    | @tuple _ vs hl' hr =>
      refine .tuple (by omega) fun j q v hq hv => ?_
      obtain ⟨p, hp, _⟩ := pw_get hl h hq
      exact ih j p q hp hq (hr j p v hp hv)
  | @ip as bs o hl h ih =>
    intro v hr
    cases hr with
    | ip f hS hc hr =>
      refine .ip f hS (fun j q hq => ?_) fun j q hq => ?_
      · obtain ⟨p, hp, _⟩ := pw_get hl h hq
        exact hc j p hp
      · obtain ⟨p, hp, _⟩ := pw_get hl h hq
        exact ih j p q hp hq (hr j p hp)
  | @fn f as bs cs ds hl h hl' h' ih ih' =>
    intro v hr
    cases hr with
    | @fn _ _ _ vs us k1 k2 k3 k4 =>
      refine .fn (by omega) (fun j q v hq hv => ?_) (by omega) fun j q v hq hv => ?_
      · obtain ⟨p, hp, _⟩ := pw_get hl h hq
        exact ih j p q hp hq (k2 j p v hp hv)
      · obtain ⟨p, hp, _⟩ := pw_get hl' h' hq
        exact ih' j p q hp hq (k4 j p v hp hv)

inductive AvLe : AV → AV → Prop
  | refl (x : AV) : AvLe x x
  | bot (x : AV) : AvLe x .bot
  | pv {p q : PV} (h : PVLe p q) : AvLe (.pv p) (.pv q)
  | agg {xs ys : List AV} (hl : xs.length = ys.length) (h : ∀ (j : Nat) (x y : AV), xs[j]? = some x → ys[j]? = some y → x = y ∨ ∃ p q, x = .pv p ∧ y = .pv q ∧ PVLe p q) : AvLe (.agg xs) (.agg ys)
theorem RepA.weaken {x y : AV} (h : AvLe x y) {v : Value} (hr : RepA μ S w x v) : RepA μ S w y v := by
  cases h with
  | refl => exact hr
  | bot => exact .bot v
  | pv h => cases hr with | pv hr => exact .pv (hr.weaken h)
  | @agg xs ys hl h =>
    cases hr with
    | agg hl' hr' =>
      refine .agg (by omega) fun j y v hy hv => ?_
      have hj : j < xs.length := by rw [hl]; exact (List.getElem?_eq_some_iff.1 hy).1
      have hx := List.getElem?_eq_getElem hj
      have := hr' j _ v hx hv
      rcases h j _ y hx hy with e | ⟨p, q, e1, e2, e3⟩
      · rw [← e]; exact this
      · rw [e1] at this; rw [e2]
        cases this with | pv hp => exact .pv (hp.weaken e3)

/-- Results, told with less. -/
inductive RvLe : RV → RV → Prop
  | pv {p q : PV} (h : PVLe p q) : RvLe (.pv p) (.pv q)
  | fresh {e s : Nat} {es fs : List PV} (h : PVsLe es fs) : RvLe (.fresh e s es) (.fresh e s fs)
  | row {e s : Nat} {es fs : List PV} (h : PVsLe es fs) : RvLe (.fresh e s es) (.pv (.sl false fs))
  | nil {e s : Nat} : RvLe (.pv (.sl true [])) (.fresh e s [])
inductive RvsLe : List RV → List RV → Prop
  | nil : RvsLe [] []
  | cons {r q : RV} {rs qs : List RV} (h : RvLe r q) (hs : RvsLe rs qs) : RvsLe (r :: rs) (q :: qs)

theorem RowRel.weaken {s : Nat} {es fs : List PV} {cur : List Value} (h : PVsLe es fs) (hr : RowRel S w s es cur) : RowRel S w s fs cur := by
  refine ⟨by rw [← h.1]; exact hr.1, fun i q hq => ?_⟩
  have hi : i < es.length := by rw [h.1]; exact (List.getElem?_eq_some_iff.1 hq).1
  have hp := List.getElem?_eq_getElem hi
  obtain ⟨c1, c2⟩ := (h.2 i _ q hp hq).cells
  obtain ⟨r1, r2⟩ := hr.2 i _ hp
  refine ⟨by rw [← c1]; exact r1, fun j y v hy hv => ?_⟩
  have hj : j < (es[i]).cells.length := by rw [c1]; exact (List.getElem?_eq_some_iff.1 hy).1
  have hx := List.getElem?_eq_getElem hj
  exact (r2 j _ v hx hv).weaken (c2 j _ y hx hy)

theorem FreshAt.weaken {e s b : Nat} {es fs : List PV} {v : Value} (h : PVsLe es fs) (hf : FreshAt S w e s es v b) : FreshAt S w e s fs v b := by
  obtain ⟨cap, cur, h1, h2, h3, h4, h5, h6⟩ := hf
  exact ⟨cap, cur, by rw [h1, h.1], by rw [← h.1]; exact h2, h3, h4, h5, h6.weaken h⟩

theorem PVsLe.nil_right {fs : List PV} (h : PVsLe [] fs) : fs = [] := by
  have := h.1
  cases fs with
  | nil => rfl
  | cons x r => simp at this

theorem rvs_weaken {rs qs : List RV} (h : RvsLe rs qs) : ∀ {us : List Value} {bs : List Nat}, RVs S w rs us bs → ∃ cs, (∀ c ∈ cs, c ∈ bs) ∧ ∀ S' : Nat → Prop, (∀ c, S c → S' c) → (∀ b ∈ bs, b ∉ cs → S' b) → RVs S' w qs us cs := by
  induction h with
  | nil => intro us bs hr; cases hr; exact ⟨[], fun _ h => h, fun _ _ _ => .nil⟩
  | cons h hs ih =>
    intro us bs hr
    cases hr with
    | pv hp hr =>
      obtain ⟨cs, h1, h2⟩ := ih hr
      cases h with
      | pv h => exact ⟨cs, h1, fun S' a b => .pv ((hp.weaken h).mono a (fun _ _ => rfl)) (h2 S' a b)⟩
      | nil =>
        cases hp with
        | sl s f hn hc hf =>
          obtain rfl := hf rfl
          exact ⟨cs, h1, fun S' a b => .none (h2 S' a b)⟩
    | none hr =>
      obtain ⟨cs, h1, h2⟩ := ih hr
      cases h with
      | fresh h => rw [h.nil_right]; exact ⟨cs, h1, fun S' a b => .none (h2 S' a b)⟩
      | row h => rw [h.nil_right]; exact ⟨cs, h1, fun S' a b => .pv (.sl (es := []) 0 (fun _ _ => undef) (Nat.zero_le _) (Nat.le_refl _) (fun h => by cases h) (fun i p h => by simp at h) (fun i p j q h => by simp at h) (fun i p j q h => by simp at h)) (h2 S' a b)⟩
    | @fresh _ _ b0 _ _ _ _ bs' hf hnb hr =>
      obtain ⟨cs, h1, h2⟩ := ih hr
      cases h with
      | fresh h =>
        refine ⟨b0 :: cs, fun c hc => ?_, fun S' a b => .fresh ((hf.weaken h).mono a (fun _ _ => rfl) rfl) (fun hc => hnb (h1 _ hc)) (h2 S' a fun c hc hn => b c (List.mem_cons_of_mem _ hc) fun hm => ?_)⟩
        · rcases List.mem_cons.1 hc with rfl | hc
          · simp
          · exact List.mem_cons_of_mem _ (h1 c hc)
        · rcases List.mem_cons.1 hm with rfl | hm
          · exact hnb hc
          · exact hn hm
      | row h => exact ⟨cs, fun c hc => List.mem_cons_of_mem _ (h1 c hc), fun S' a b => .pv ((hf.weaken h).rep a (b b0 (by simp) fun hc => hnb (h1 _ hc))) (h2 S' a fun c hc hn => b c (List.mem_cons_of_mem _ hc) hn)⟩
end Go.Mir
