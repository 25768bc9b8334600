/- A package variable that is listed, as the machine knows it (lemmas; conditions: what they say). -/
import Derived.Test.YthcmkipbdgndoaaGreatDoorNx25
import Derived.OpenShut
import Derived.LaidLaws
set_option linter.all false
set_option linter.unusedVariables false
set_option linter.unusedSimpArgs false
set_option linter.unnecessarySimpa false
namespace Go.Mir
open Go Go.RowKit Go.ChangeShapes Go.WideShapes

/-- An array of numbers, read as listed: its cells. -/
theorem glob_arr {H : Type} {enc : TypeId × Value → H} {P : Program} {W : World} {g : Nat} {t e : TypeId} {n base fuel : Nat} {sp : Nat → Bool} {held : Bool} {nm : String} {ns : List Int} {cs0 : Array Value} {p : List MemPlace} (hg : P.globalNamed nm = some g) (hv : W.var? P nm = some cs0)
    (ht : P.underlying t = some (.array n e)) (c1 : P.cellsOf e = 1) (hu : P.underlying e = some (.int .i64)) (hl : ns.length = n) (h0 : 0 < n)
    (hd : DataW.trod enc P W base sp held fuel t cs0.toList = some (.agg (ns.map fun n => .lit (.int .i64 n)), p)) : Rep (fun b => b < W.heap.size) W (.ip (ns.map I) 0) (.pointer (some ⟨g, 0, none⟩)) := by
  obtain ⟨xs, m1, rfl, hx1, hlen, hn, hel⟩ := DataW.trod_array ht hd
  simp only [Prod.mk.injEq, DataW.agg.injEq] at hx1
  have cell : ∀ j, j < n → W.cell? ⟨g, j, none⟩ = some (.int .i64 (ns.getD j 0)) := by
    intro j hj
    have h1 := hel j hj
    rw [c1, Nat.mul_one, List.getElem?_eq_getElem (show j < xs.length by omega)] at h1
    obtain ⟨k, e1, e2, _⟩ := DataW.trod_int hu h1
    have h2 := congrArg (fun l : List (DataW H) => l[j]?) hx1.1
    simp only [List.getElem?_map, List.getElem?_eq_getElem (show j < xs.length by omega), List.getElem?_eq_getElem (show j < ns.length by omega), Option.map_some, Option.some.injEq] at h2
    rw [e2] at h2
    simp only [DataW.lit.injEq, Lit.int.injEq, true_and] at h2
    rw [World.var?_cell hg hv j, List.getD_eq_getElem?_getD, List.getElem?_eq_getElem (show j < ns.length by omega), Option.getD_some, h2]
    have h3 := congrArg (fun l : List Value => l[0]?) e1
    simp at h3
    simpa using h3
  have hb : g < W.heap.size := by
    have := cell 0 h0
    unfold World.cell? at this
    by_cases h : g < W.heap.size
    · exact h
    · rw [show W.heap[(⟨g, 0, none⟩ : Addr).block]? = none from Array.getElem?_eq_none (Nat.le_of_not_lt h)] at this; simp at this
  refine Rep.ip (b := g) (o := 0) (off := 0) (fun j => .int .i64 (ns.getD j 0)) hb (fun j q hq => ?_) fun j q hq => ?_
  · rw [Nat.zero_add]
    refine cell j ?_
    have := (List.getElem?_eq_some_iff.1 hq).1
    rw [List.length_map, hl] at this; exact this
  · rw [List.getElem?_map] at hq
    rw [List.getD_eq_getElem?_getD]
    cases hn' : ns[j]? with
    | none => rw [hn'] at hq; cases hq
    | some a => rw [hn'] at hq; cases hq; exact .lit rfl
theorem wf_le {n : Int} (h : (Lit.int .i64 n).wf = true) : n ≤ 9223372036854775807 := by
  simp only [Lit.wf, Bool.and_eq_true, decide_eq_true_eq] at h
  have : IntKind.i64.max = 9223372036854775807 := by rfl
  omega
theorem wf_ge {n : Int} (h : (Lit.int .i64 n).wf = true) : -9223372036854775808 ≤ n := by
  simp only [Lit.wf, Bool.and_eq_true, decide_eq_true_eq] at h
  have : IntKind.i64.min = -9223372036854775808 := by rfl
  omega
abbrev U32 (n : UInt32) : PV := .lit (.int .u32 n.toNat)
theorem readsM_u32 {P : Program} {t : TypeId} (ht : P.underlying t = some (.int .u32)) : ReadsM P t (fun n : UInt32 => [U32 n]) (fun _ => True) :=
  readsM_map (readsM_int ht) (fun n : UInt32 => [U32 n]) (fun n : Int => UInt32.ofNat n.toNat) (fun a h => by
    have h' : IntKind.u32.min ≤ a ∧ a ≤ IntKind.u32.max := by simpa [Lit.wf] using h
    have h1 : IntKind.u32.min = 0 := by decide
    have h2 : IntKind.u32.max = 4294967295 := by decide
    have e : ((UInt32.ofNat a.toNat).toNat : Int) = a := by
      rw [UInt32.toNat_ofNat']; omega
    show [U32 _] = _
    rw [show U32 (UInt32.ofNat a.toNat) = PV.lit (.int .u32 ((UInt32.ofNat a.toNat).toNat : Int)) from rfl, e]) (fun _ _ => trivial)
end Go.Mir
