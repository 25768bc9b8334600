/- What is shown of an operation, it does; what is told of a state is true of it (lemmas; conditions: what they say). -/
import Derived.Test.YthcmkipbdgndoaaGreatDoorNx18
set_option linter.all false
set_option linter.unusedVariables false
set_option linter.unusedSimpArgs false
set_option linter.unnecessarySimpa false
namespace Go.Mir
open Go Go.RowKit
variable {P : Program} {μ μ' : Nat → Option KS} {S S' : Nat → Prop} {w w' : World} {σ σ' : Store}
variable [Globs P]

noncomputable def did (P : Program) (q : Orc) (ev : Operand → AV) (σ : Store) (k : Nat) (o : Oper) (e : Eff) : Prop :=
  ∃ p e1 e0, prepZ P q.trn ev σ k o = some p ∧ effA q k σ p = some e1 ∧ frzE (q.frz && isSl o) σ e1 = some e0 ∧ e = ⟨q.wk e0.val, e0.mem, e0.reads⟩

noncomputable def plainOrc : Orc := ⟨fun _ _ => none, fun x => x, [], fun _ _ _ => none, false, fun _ => false, false⟩
theorem plainOrc_ok : plainOrc.Ok P := ⟨fun _ _ _ h => (by cases h), fun x => .refl x, fun _ _ _ _ _ h => (by cases h), fun _ h => (by cases h)⟩
theorem did_eff {ev : Operand → AV} {k : Nat} {o : Oper} {e : Eff} (h : prep P ev σ k o = some (.eff e)) : did P plainOrc ev σ k o e := ⟨_, e, e, h, rfl, rfl, rfl⟩
open Classical in
noncomputable def wkOrc (y : AV) : Orc := ⟨fun _ _ => none, fun x => if AvLe x y then y else x, [], fun _ _ _ => none, false, fun _ => false, false⟩
theorem wkOrc_ok (y : AV) : (wkOrc y).Ok P := by
  refine ⟨fun _ _ _ h => (by cases h), fun x => ?_, fun _ _ _ _ _ h => (by cases h), fun _ h => (by cases h)⟩
  simp only [wkOrc]
  split
  · assumption
  · exact .refl x
theorem did_wk {ev : Operand → AV} {k : Nat} {o : Oper} {e : Eff} {y : AV} (h : prep P ev σ k o = some (.eff e)) (hy : AvLe e.val y) : did P (wkOrc y) ev σ k o ⟨y, e.mem, e.reads⟩ := ⟨_, e, e, h, rfl, rfl, by
  simp only [wkOrc]
  rw [if_pos hy]⟩

theorem PVLe.flag (f : Bool) (es : List PV) : PVLe (.sl f es) (.sl false es) := by
  refine .sl (fun h => by cases h) rfl fun j p q hp hq => ?_
  rw [hp] at hq; cases hq; exact .refl p
theorem PV.dull1_le (p : PV) : PVLe p p.dull1 := by
  cases p with
  | sl f es => exact PVLe.flag f es
  | _ => exact .refl _
theorem PV.dull_le (p : PV) : PVLe p p.dull := by
  cases p with
  | agg cs =>
    refine .agg (by simp) fun j p q hp hq => ?_
    rw [List.getElem?_map, hp] at hq
    cases hq
    exact p.dull1_le
  | sl f es => exact PV.dull1_le (.sl f es)
  | _ => exact .refl _
theorem AV.dull_le (x : AV) : AvLe x x.dull := by
  cases x with
  | pv p => exact .pv p.dull_le
  | agg cs =>
    refine .agg (by simp) fun j x y hx hy => ?_
    rw [List.getElem?_map, hx] at hy
    cases hy
    cases x with
    | pv p => exact .inr ⟨p, p.dull1, rfl, rfl, p.dull1_le⟩
    | _ => exact .inl rfl
  | _ => exact .refl _
noncomputable def dullOrc : Orc := ⟨fun _ _ => none, AV.dull, [], fun _ _ _ => none, false, fun _ => false, false⟩
theorem dullOrc_ok : dullOrc.Ok P := ⟨fun _ _ _ h => (by cases h), AV.dull_le, fun _ _ _ _ _ h => (by cases h), fun _ h => (by cases h)⟩
noncomputable def frzOrc : Orc := ⟨fun _ _ => none, fun x => x, [], fun _ _ _ => none, true, fun _ => false, false⟩
theorem frzOrc_ok : frzOrc.Ok P := ⟨fun _ _ _ h => (by cases h), fun x => .refl x, fun _ _ _ _ _ h => (by cases h), fun _ h => (by cases h)⟩
noncomputable def frdOrc : Orc := ⟨fun _ _ => none, AV.dull, [], fun _ _ _ => none, true, fun _ => false, false⟩
theorem frdOrc_ok : frdOrc.Ok P := ⟨fun _ _ _ h => (by cases h), AV.dull_le, fun _ _ _ _ _ h => (by cases h), fun _ h => (by cases h)⟩
noncomputable def trnOrc : Orc := ⟨fun _ _ => none, fun x => x, [], fun _ _ _ => none, false, fun _ => false, true⟩
theorem trnOrc_ok : trnOrc.Ok P := ⟨fun _ _ _ h => (by cases h), fun x => .refl x, fun _ _ _ _ _ h => (by cases h), fun _ h => (by cases h)⟩
noncomputable def srtOrc (g : Nat) : Orc := ⟨fun _ _ => none, fun x => x, [], fun _ _ _ => none, false, fun j => Nat.beq j g, false⟩
theorem srtOrc_ok {g : Nat} (h : SrtOk P g) : (srtOrc g).Ok P := ⟨fun _ _ _ h => (by cases h), fun x => .refl x, fun _ _ _ _ _ h => (by cases h), fun j hj => (by rw [Nat.eq_of_beq_eq_true hj]; exact h)⟩
open Classical in
noncomputable def callOrc (g : Nat) (ps : List PV) (rs : List RV) : Orc := ⟨fun g' ps' => if g' = g ∧ ps' = ps then some rs else none, fun x => x, [], fun _ _ _ => none, false, fun _ => false, false⟩
theorem callOrc_ok {g : Nat} {ps : List PV} {rs : List RV} (h : Ct P g ps rs) : (callOrc g ps rs).Ok P := by
  refine ⟨fun g' ps' rs' h' => ?_, fun x => .refl x, fun _ _ _ _ _ h => (by cases h), fun _ h => (by cases h)⟩
  simp only [callOrc] at h'
  split at h'
  · rename_i e; obtain ⟨rfl, rfl⟩ := e; cases h'; exact h
  · cases h'
open Classical in
noncomputable def lendOrc (g : Nat) (bset : List Nat) (as : List BA) (bs : List (List PV)) (rs : List RV) (cs : List (List PV)) : Orc := ⟨fun _ _ => none, fun x => x, bset, fun g' as' bs' => if g' = g ∧ as' = as ∧ bs' = bs then some (rs, cs) else none, false, fun _ => false, false⟩
theorem lendOrc_ok {g : Nat} {bset : List Nat} {as : List BA} {bs : List (List PV)} {rs : List RV} {cs : List (List PV)} (h : Cb P g as bs rs cs) : (lendOrc g bset as bs rs cs).Ok P := by
  refine ⟨fun _ _ _ h => (by cases h), fun x => .refl x, fun g' as' bs' rs' cs' h' => ?_, fun _ h => (by cases h)⟩
  simp only [lendOrc] at h'
  split at h'
  · rename_i e; obtain ⟨rfl, rfl, rfl⟩ := e; cases h'; exact h
  · cases h'
theorem pieceX_spec {len : Nat} {lo hi mx : Option AV} {K : Nat → Nat → Prop} (h : pieceX len lo hi mx K) : ∃ l r, bndE 0 lo = some l ∧ bndE len hi = some r ∧ mx = none ∧ l ≤ r ∧ r ≤ len ∧ K l r := by
  unfold pieceX at h
  split at h
  · exact ⟨_, _, rfl, rfl, rfl, Nat.zero_le _, Nat.le_refl _, h⟩
  · split at h
    · rename_i i hi
      obtain ⟨h1, h2, h3⟩ := h
      exact ⟨_, _, by simp only [bndE, hi, h1, if_true], rfl, rfl, by omega, Nat.le_refl _, h3⟩
    · exact h.elim
  · split at h
    · rename_i j hj
      obtain ⟨h1, h2, h3⟩ := h
      exact ⟨_, _, rfl, by simp only [bndE, hj, h1, if_true], rfl, Nat.zero_le _, by omega, h3⟩
    · exact h.elim
  · split at h
    · rename_i i j hi hj
      obtain ⟨h1, h2, h3, h4⟩ := h
      have h0 : 0 ≤ j := by omega
      exact ⟨_, _, by simp only [bndE, hi, h1, if_true], by simp only [bndE, hj, h0, if_true], rfl, by omega, by omega, h4⟩
    · exact h.elim
  · exact h.elim
theorem exBs_spec : ∀ {bps : List BQ} {K : List (List PV) → Prop}, exBs bps K → ∃ cs, K cs
  | [], K, h => ⟨[], h⟩
  | .ty α e :: r, K, h => by
    obtain ⟨a, h⟩ := h
    obtain ⟨cs, h⟩ := exBs_spec h
    exact ⟨_, h⟩
theorem Pt.ex_spec {p : Pt} {K : PV → Prop} (h : p.ex K) : ∃ x, K x := by
  cases p with
  | cst p => exact ⟨_, h⟩
  | _ => obtain ⟨a, h⟩ := h; exact ⟨_, h⟩
theorem exRs_spec : ∀ {rps : List RP} {K : List RV → Prop}, exRs rps K → ∃ rs, K rs
  | [], K, h => ⟨[], h⟩
  | .pv p :: r, K, h => by
    obtain ⟨x, h⟩ := Pt.ex_spec h
    obtain ⟨rs, h⟩ := exRs_spec h
    exact ⟨_, h⟩
  | .row e sz :: r, K, h => by
    obtain ⟨es, h⟩ := h
    obtain ⟨rs, h⟩ := exRs_spec h
    exact ⟨_, h⟩
theorem ask_spec {c b : Bool} {K : Prop} (h : ask c b K) : b = true ∧ K := by
  unfold ask at h
  split at h
  · exact h
  · split at h
    · rename_i hb; exact ⟨hb, h⟩
    · exact h.elim
theorem lookC_spec {key : Value} {K : Option PV → List (Nat × Q) → Prop} : ∀ {ovs : List (List (Nat × Q))} {es : List (Value × PV)}, lookC key K ovs es → ∃ r ov, findM key es = some r ∧ K r ov
  | ovs, [], h => ⟨none, _, rfl, h⟩
  | ovs, (j, p) :: r, h => by
    unfold lookC at h
    split at h
    · rename_i b hb
      simp only [findM, hb]
      cases b with
      | true => exact ⟨_, _, rfl, h.1 rfl⟩
      | false => exact lookC_spec (h.2 rfl)
    · exact h.elim
theorem drop_take_all {α : Type} (l : List α) (n : Nat) : (l.drop n).take (l.length - n) = l.drop n := by
  rw [List.take_of_length_le]; simp
theorem sliceX_spec {n : Nat} {full : Bool} {es : List PV} {lo hi mx : Option AV} {K : AV → Prop} (h : sliceX n full es lo hi mx K) : ∃ y' y, sliceE n σ (.pv (.sl full es)) lo hi mx = some ⟨y', [], []⟩ ∧ AvLe y' y ∧ K y := by
  unfold sliceX at h
  split at h
  · refine ⟨_, _, ?_, .refl _, h⟩
    simp [sliceE, bndE, valE]
  · split at h
    · rename_i x i hi
      obtain ⟨h1, h2, h3, h4⟩ := h
      refine ⟨_, _, ?_, .refl _, h4⟩
      have hle : i.toNat ≤ es.length := by omega
      simp only [sliceE, bndE, hi, h1, if_true, h3, or_true, hle, Nat.le_refl, and_self, valE, decide_true, Bool.and_true, drop_take_all]
    · exact h.elim
  · split at h
    · rename_i y j hj
      obtain ⟨h1, h2, h3⟩ := h
      have hle : j.toNat ≤ es.length := by omega
      refine ⟨_, _, ?_, .pv (PVLe.flag (full && decide (j.toNat = es.length)) _), h3⟩
      simp only [sliceE, bndE, hj, h1, if_true, true_or, Nat.zero_le, hle, and_self, valE, List.drop_zero, Nat.sub_zero]
    · exact h.elim
  · split at h
    · rename_i x y _ _ i j hi hj
      obtain ⟨h1, h2, h3, h4, h5⟩ := h
      have hle : i.toNat ≤ j.toNat := by omega
      have hle2 : j.toNat ≤ es.length := by omega
      have h0 : 0 ≤ j := by omega
      refine ⟨_, _, ?_, .pv (PVLe.flag (full && decide (j.toNat = es.length)) _), h5⟩
      simp only [sliceE, bndE, hi, hj, h1, h0, if_true, h4, or_true, hle, hle2, and_self, valE]
    · exact h.elim
  · split at h
    · rename_i y z _ _ j m hj hm
      obtain ⟨h1, rfl, h3, h4⟩ := h
      have hle : j.toNat ≤ es.length := by omega
      refine ⟨_, _, ?_, .refl _, h4⟩
      simp only [sliceE, bndE, hj, hm, h1, if_true, true_or, Nat.zero_le, hle, Nat.le_refl, and_self, valE, List.drop_zero, Nat.sub_zero, decide_true]
    · exact h.elim
  · split at h
    · rename_i x y z _ _ _ i j m hi hj hm
      obtain ⟨h1, h2, rfl, h3, h4, h5⟩ := h
      have hle : i.toNat ≤ j.toNat := by omega
      have hle2 : j.toNat ≤ es.length := by omega
      have h0 : 0 ≤ j := by omega
      refine ⟨_, _, ?_, .refl _, h5⟩
      simp only [sliceE, bndE, hi, hj, hm, h1, h0, if_true, h4, or_true, hle, hle2, Nat.le_refl, and_self, valE, decide_true]
    · exact h.elim
  · exact h.elim
end Go.Mir
