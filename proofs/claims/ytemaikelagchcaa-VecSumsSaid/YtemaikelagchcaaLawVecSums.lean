/- The law precentorlaw07_VecSums returns true for every input of its row (condition: none but what the row itself says); out of the walk and of the plain statement. -/
import Derived.Test.YtemaikelagchcaaRows
import Derived.Test.YtemaikelagchcaaRd
import Derived.Test.YtemaikelagchcaaPCx11
import Derived.Test.YtemaikelagchcaaPureVecSums
import Derived.WalkKit
import Derived.ProofKit
import Derived.OpenShut
import Derived.ShutString
import Derived.ChangeOld
import Derived.Below
import Derived.SizedLaws
namespace Go.Proofs.Ytemaikelagchcaa.vecSums
open Go.ChangeShapes Go.WideShapes Go.ChangeAt Go.RowKit Go.Proofs.YtemaikelagchcaaR Go.Proofs.Ytemaikelagchcaa.PC Go.Proofs.YtemaikelagchcaaW.PrintWords Go.Proofs.YtemaikelagchcaaW.PrintLast
set_option linter.unusedVariables false
theorem own : ownKnob Try.prog.godebug = none := by kernel_rfl
theorem laidOut : laidOutB Try.prog = true := by kernel_rfl
theorem rdk3 : Reads Try.prog 3 (Kd.int .i64) (fun x_ => (Lit.int .i64 x_).wf = true) := reads_int Try.underlying3
theorem rdk22 : Reads Try.prog 22 (Kd.slice 3 (Kd.int .i64)) (fun x_ => (x_.length * 8 ≤ 140737488351232 ∧ ∀ z_0 ∈ x_, (Lit.int .i64 z_0).wf = true)) := reads_slice Try.underlying22 rdk3 (by kernel_rfl) (by kernel_rfl)
theorem rdk23 : Reads Try.prog 23 (Kd.slice 22 (Kd.slice 3 (Kd.int .i64))) (fun x_ => (x_.length * 24 ≤ 140737488351232 ∧ ∀ z_0 ∈ x_, (z_0.length * 8 ≤ 140737488351232 ∧ ∀ z_0_ ∈ z_0, (Lit.int .i64 z_0_).wf = true))) := reads_slice Try.underlying23 rdk22 (by kernel_rfl) (by kernel_rfl)
theorem rdk5 : Reads Try.prog 5 (Kd.int .u8) (fun x_ => (Lit.int .u8 x_).wf = true) := reads_int Try.underlying5
theorem rdp38 : Reads Try.prog 38 (Kd.pair (Kd.slice 3 (Kd.int .i64)) (Kd.pair (Kd.slice 3 (Kd.int .i64)) (Kd.pair (Kd.slice 22 (Kd.slice 3 (Kd.int .i64))) (Kd.int .u8)))) (fun x_ => ((x_.1.length * 8 ≤ 140737488351232 ∧ ∀ z_0 ∈ x_.1, (Lit.int .i64 z_0).wf = true)) ∧ ((x_.2.1.length * 8 ≤ 140737488351232 ∧ ∀ z_0 ∈ x_.2.1, (Lit.int .i64 z_0).wf = true)) ∧ ((x_.2.2.1.length * 24 ≤ 140737488351232 ∧ ∀ z_0 ∈ x_.2.2.1, (z_0.length * 8 ≤ 140737488351232 ∧ ∀ z_0_ ∈ z_0, (Lit.int .i64 z_0_).wf = true))) ∧ ((Lit.int .u8 x_.2.2.2).wf = true)) := Reads.weaken (reads_struct Try.underlying38 (ReadsF.cons rdk22 rfl (ReadsF.cons rdk22 rfl (ReadsF.cons rdk23 rfl (ReadsF.one rdk5 rfl (by kernel_rfl)))))) (fun _ h => h)
set_option maxRecDepth 100000 in
theorem lifted (os : Os) (started : os.Started) (H : Type) (enc : TypeId × Value → H) :
    ReturnsInHanded {} Try.checked os 7 .any (Rows.vecSumsSpec.pre6 enc Try.prog Try.f7 Rows.vecSumsRow.domain false) (Rows.vecSumsSpec.post enc Try.prog Try.f7 false true false false) := by
  refine returnsInHanded_of_change_sized (C := Try.checked) own started (by kernel_rfl) Try.func7
    (ChangeSpec.witness6 (enc := enc) (C := Try.checked) false ⟨#[], #[.agg #[.slice none 0 0, .slice none 0 0, .slice none 0 0, .int .u8 0]], []⟩ 8 (by kernel_rfl) (by kernel_rfl) (by kernel_rfl) (by kernel_rfl)) ?_
  intro W base args ds gs before hval0 hW hcnd hsz0 _
  have hsz : (DataW.weightsEach Try.prog (Try.f7.params.toList ++ Rows.vecSumsSpec.plain.varTypes Try.prog) (ds ++ gs)).all (· ≤ reachBytes) = true := hsz0
  have hval : ∀ (j : Nat) t v, Try.f7.params[j]? = some t → args[j]? = some v → Value.okWide Try.prog W .any base t v := hval0
  have hW' := hW
  obtain ⟨p, q, hA0, hV, rfl, hfz, hnd⟩ := hW
  have hA : DataW.TrodAll enc Try.prog W 0 (fun _ => true) true Try.f7.params.toList args.toList ds p := hA0
  rw [Try.params7] at hA hval hsz
  obtain ⟨v0, vs0, d0, ds0, p0, q0, hargs, rfl, rfl, h0, r0⟩ := trodAll_cons hA
  obtain ⟨rfl, rfl, rfl⟩ := trodAll_nil r0
  obtain rfl : args = #[v0] := by cases args; simp_all
  obtain ⟨rfl, rfl⟩ := trodVars_none hV
  have k0 := h0
  have lt0 : ∀ x ∈ p0, x.block < W.heap.size := by obtain ⟨m, hm⟩ := k0; exact DataW.trod_lt m _ _ _ hm
  obtain ⟨fu0, hf0⟩ := h0
  obtain ⟨x0, hK0, ok0⟩ := rdp38 H enc W _ _ fu0 _ _ hf0 (sizes_of hsz (j := 0) rfl rfl)
  obtain ⟨ar0, rfl, hz0⟩ := okWide_struct Try.underlying38 (hval 0 38 v0 rfl rfl)
  obtain ⟨l0_0, l0_1, l0_2, a0_3⟩ := x0
  obtain ⟨c1_, c2_, e_, ⟨A0_0, c0_0, rfl, hc0_0, hr0_0⟩, ⟨_, _, rfl, ⟨A0_1, c0_1, rfl, hc0_1, hr0_1⟩, ⟨_, _, rfl, ⟨A0_2, c0_2, rfl, hc0_2, hr0_2⟩, rfl⟩⟩⟩ := hK0
  obtain rfl : ar0 = #[.slice A0_0 l0_0.length c0_0, .slice A0_1 l0_1.length c0_1, .slice A0_2 l0_2.length c0_2, .int .u8 a0_3] := Array.toList_inj.1 (show ar0.toList = (#[.slice A0_0 l0_0.length c0_0, .slice A0_1 l0_1.length c0_1, .slice A0_2 l0_2.length c0_2, .int .u8 a0_3] : Array Value).toList from e_)
  obtain ⟨ol0_0, ol0_1, ol0_2, oa0_3⟩ := ok0
  clear hA0 hval0 hsz0 hsz
  obtain ⟨k, h⟩ := Pure.VecSums l0_0 l0_1 l0_2 a0_3 ol0_0 ol0_1 ol0_2 oa0_3
  refine (precentorlaw07_VecSums.calls k _ _ l0_0 _ _ l0_1 _ _ l0_2 a0_3 true W hr0_0 hc0_0 hr0_1 hc0_1 hr0_2 hc0_2 h).mono fun e W' ⟨he, hd⟩ => ?_
  have bel := hd
  subst he
  exact ⟨_, rfl, _, _, _, [], _, [], hW', trodAll_mk1 (shut_bool Try.underlying4 _), (trodAll_cons_mk (Below.trod laidOut (by kernel_rfl) (of_decide_eq_true (by kernel_rfl)) k0 bel lt0) trodAll_mk0), rfl, bel.frame _, fun h => by cases h⟩
theorem over : Rows.vecSumsRow.holds Try.pinned (OpenSpec.ofChange Rows.vecSumsSpec) :=
  OpenClaim.holds_of_wide 7 Try.f7 rfl rfl rfl rfl rfl rfl rfl ⟨rfl, rfl, rfl, rfl, rfl⟩ rfl rfl rfl rfl rfl (by kernel_rfl) Try.func7 (by kernel_rfl)
    (of_decide_eq_true (by kernel_rfl)) (by unfold Func.isWrapper; first | (rw [if_pos (by decide +kernel)]; kernel_rfl) | (rw [if_neg (by decide +kernel)]; exact ⟨rfl, rfl⟩))
    (fun os started H enc _ => lifted os started H enc)
theorem proved : Rows.VecSumsSaid := over
#print axioms proved
end Go.Proofs.Ytemaikelagchcaa.vecSums
namespace Go.Proofs.Ytemaikelagchcaa
/-- The row, under a short name, for the claim. -/
theorem vecSums_holds : Rows.VecSumsSaid := vecSums.proved
end Go.Proofs.Ytemaikelagchcaa
