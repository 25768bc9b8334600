/- A run whose rows are handed on as plain ones (lemmas; conditions: what they say). -/
import Derived.Test.YthcmkipbdgndoaaGreatDoorNx34
set_option linter.all false
set_option linter.unusedVariables false
set_option linter.unusedSimpArgs false
set_option linter.unnecessarySimpa false
namespace Go.Mir
open Go
variable {P : Program} [Globs P]
theorem lift_trans {as bs cs : List PV} (hl : as.length = bs.length) (ih : ∀ (j : Nat) (p q : PV), as[j]? = some p → bs[j]? = some q → ∀ {r : PV}, PVLe q r → PVLe p r) (hl' : bs.length = cs.length) (h' : ∀ (j : Nat) (p q : PV), bs[j]? = some p → cs[j]? = some q → PVLe p q) :
    as.length = cs.length ∧ ∀ (j : Nat) (p q : PV), as[j]? = some p → cs[j]? = some q → PVLe p q := by
  refine ⟨hl.trans hl', fun j p r hp hr => ?_⟩
  have hj : j < bs.length := by rw [← hl]; exact (List.getElem?_eq_some_iff.1 hp).1
  have hq := List.getElem?_eq_getElem hj
  exact ih j p _ hp hq (h' j _ r hq hr)
theorem PVLe.trans {p q : PV} (h : PVLe p q) : ∀ {r : PV}, PVLe q r → PVLe p r := by
  induction h with
  | refl p => exact fun h => h
  | @sl f g es fs hg hl h0 ih =>
    intro r h'
    cases h' with
    | refl => exact .sl hg hl h0
    | sl hg' hl' h' => obtain ⟨a, b⟩ := lift_trans hl ih hl' h'; exact .sl (fun h => hg (hg' h)) a b
  | agg hl h0 ih =>
    intro r h'
    cases h' with
    | refl => exact .agg hl h0
    | agg hl' h' => obtain ⟨a, b⟩ := lift_trans hl ih hl' h'; exact .agg a b
  | tuple hl h0 ih =>
    intro r h'
    cases h' with
    | refl => exact .tuple hl h0
    | tuple hl' h' => obtain ⟨a, b⟩ := lift_trans hl ih hl' h'; exact .tuple a b
  | ip hl h0 ih =>
    intro r h'
    cases h' with
    | refl => exact .ip hl h0
    | ip hl' h' => obtain ⟨a, b⟩ := lift_trans hl ih hl' h'; exact .ip a b
  | fn hl h0 hl2 h2 ih ih2 =>
    intro r h'
    cases h' with
    | refl => exact .fn hl h0 hl2 h2
    | fn hl' h' hl2' h2' => obtain ⟨a, b⟩ := lift_trans hl ih hl' h'; obtain ⟨c, d⟩ := lift_trans hl2 ih2 hl2' h2'; exact .fn a b c d
theorem PVsLe.trans {a b c : List PV} (h : PVsLe a b) (h' : PVsLe b c) : PVsLe a c := lift_trans h.1 (fun j p q hp hq => (h.2 j p q hp hq).trans) h'.1 h'.2
theorem rvLe_trans {p q r : RV} (h : RvLe p q) (h' : RvLe q r) : RvLe p r := by
  cases h with
  | pv h =>
    cases h' with
    | pv h' => exact .pv (h.trans h')
    | nil =>
      cases h with
      | refl => exact .nil
      | sl hg hl _ =>
        obtain rfl := List.eq_nil_of_length_eq_zero hl
        rw [hg rfl]; exact .nil
  | fresh h =>
    cases h' with
    | fresh h' => exact .fresh (h.trans h')
    | row h' => exact .row (h.trans h')
  | row h =>
    cases h' with
    | pv h' =>
      cases h' with
      | refl => exact .row h
      | @sl _ g _ _ hg hl h' =>
        cases g with
        | true => exact absurd (hg rfl) (by simp)
        | false => exact .row (h.trans ⟨hl, h'⟩)
  | nil =>
    cases h' with
    | fresh h' => rw [PVsLe.nil_right h']; exact .nil
    | row h' => rw [PVsLe.nil_right h']; exact .pv (.sl (fun h => by cases h) rfl fun j p q hp => by simp at hp)
theorem rvsLe_trans : ∀ {p q r : List RV}, RvsLe p q → RvsLe q r → RvsLe p r
  | _, _, _, .nil, .nil => .nil
  | _, _, _, .cons h hs, .cons h' hs' => .cons (rvLe_trans h h') (rvsLe_trans hs hs')
/-- A text by its bytes. -/
noncomputable def mkS (l : List Nat) : ByteArray := ⟨(l.map UInt8.ofNat).toArray⟩
noncomputable def RV.soft : RV → RV
  | .fresh _ _ es => .pv (.sl false es)
  | .pv p => .pv p
noncomputable def Res.soft : Res → Option (List RV)
  | .ret rs => some (rs.map RV.soft)
  | _ => none
theorem soft_le : ∀ rs : List RV, RvsLe rs (rs.map RV.soft)
  | [] => .nil
  | .fresh e s es :: r => .cons (.row (PVsLe.refl es)) (soft_le r)
  | .pv p :: r => .cons (.pv (PVLe.refl p)) (soft_le r)
/-- A function's contract at arguments, by a run; its rows as plain ones. -/
theorem ct_runS {tb : Tbl} (htb : tb.Ok P) (hmix : P.follows .mixedOrders = true) (l : List (Nat × List PV × List RV)) (hl : AllCt P l) (n : Nat) {f : Nat} {ps : List PV} {rs : List RV} (h : (tryC P (tb.plus l) n f ps).soft = some rs) : Ct P f ps rs := by
  cases e : tryC P (tb.plus l) n f ps with
  | ret rs' =>
    rw [e] at h
    obtain rfl := Option.some.inj h
    exact CtP.mono (ct_run htb hmix l hl n e) fun r hr => rvsLe_trans hr (soft_le rs')
  | _ => rw [e] at h; cases h
end Go.Mir
