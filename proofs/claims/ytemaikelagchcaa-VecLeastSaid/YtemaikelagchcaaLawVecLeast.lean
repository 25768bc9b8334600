/- The law precentorlaw07.VecLeast returns true for every input of its row (condition: none but what the row itself says). -/
import Derived.Test.YtemaikelagchcaaRows
import Derived.Test.YtemaikelagchcaaL07
import Derived.Test.YtemaikelagchcaaMx25
import Derived.WalkKit
import Derived.ProofKit
import Derived.OpenShut
import Derived.ShutString
import Derived.ChangeOld
import Derived.Below
import Derived.SizedLaws
set_option linter.all false
set_option linter.unusedVariables false
set_option linter.unusedSimpArgs false
set_option linter.unnecessarySimpa false
namespace Go.Proofs.Ytemaikelagchcaa.vecLeast
open Go Go.Mir Go.Proofs Go.RowKit Go.ChangeShapes Go.WideShapes Go.ChangeAt Go.Proofs.Ytemaikelagchcaa.M
set_option linter.unusedVariables false
theorem own : ownKnob Try.prog.godebug = none := by kernel_rfl
theorem laidOut : laidOutB Try.prog = true := by kernel_rfl
theorem r3 : ReadsM Try.prog 3 (fun n : Int => [.lit (.int .i64 n)]) (fun _ => True) := readsM_num Try.underlying3
theorem r22 : ReadsM Try.prog 22 (fun x : List Int => [.sl false (x.map I)]) (fun _ => True) := readsM_list I false Try.underlying22 r3 (B := 8) (by kernel_rfl) (by decide) (fun _ => rfl) (fun _ => rfl)
theorem r23 : ReadsM Try.prog 23 (fun x : List (List Int) => [.sl false (x.map lI)]) (fun _ => True) := readsM_list lI false Try.underlying23 r22 (B := 24) (by kernel_rfl) (by decide) (fun _ => rfl) (fun _ => rfl)
theorem r5 : ReadsM Try.prog 5 (fun n : UInt8 => [U8 n]) (fun _ => True) := readsM_u8 Try.underlying5
theorem r35 : ReadsM Try.prog 35 (fun x : M.VecLeastIn => (eVecLeastIn x).cells) (fun _ => True) := readsM_map (readsM_struct Try.underlying35 (ReadsMF.cons r23 rfl (ReadsMF.cons r22 rfl (ReadsMF.cons r5 rfl (ReadsMF.one r5 rfl (by kernel_rfl)))))) _ (fun x => M.VecLeastIn.mk x.1 x.2.1 x.2.2.1 x.2.2.2) (fun _ _ => rfl) (fun _ _ => trivial)
set_option maxRecDepth 100000 in
theorem lifted (os : Os) (started : os.Started) (H : Type) (enc : TypeId × Value → H) :
    ReturnsInHanded {} Try.checked os 6 .any (Rows.vecLeastSpec.pre6 enc Try.prog Try.f6 Rows.vecLeastRow.domain false) (Rows.vecLeastSpec.post enc Try.prog Try.f6 false true false false) := by
  refine returnsInHanded_of_change_sized (C := Try.checked) own started (by kernel_rfl) Try.func6
    (ChangeSpec.witness6 (enc := enc) (C := Try.checked) false ⟨#[], #[.agg #[.slice none 0 0, .slice none 0 0, .int .u8 0, .int .u8 0]], []⟩ 8 (by kernel_rfl) (by kernel_rfl) (by kernel_rfl) (by kernel_rfl)) ?_
  intro W base args ds gs before hval0 hW hcnd hsz0 _
  have hsz : (DataW.weightsEach Try.prog (Try.f6.params.toList ++ Rows.vecLeastSpec.plain.varTypes Try.prog) (ds ++ gs)).all (· ≤ reachBytes) = true := hsz0
  have hval : ∀ (j : Nat) t v, Try.f6.params[j]? = some t → args[j]? = some v → Value.okWide Try.prog W .any base t v := hval0
  have hW' := hW
  obtain ⟨p, q, hA0, hV, rfl, hfz, hnd⟩ := hW
  have hA : DataW.TrodAll enc Try.prog W 0 (fun _ => true) true Try.f6.params.toList args.toList ds p := hA0
  rw [Try.params6] at hA hval hsz
  obtain ⟨v0, vs0, d0, ds0, p0, q0, hargs, rfl, rfl, h0, r0⟩ := trodAll_cons hA
  obtain ⟨rfl, rfl, rfl⟩ := trodAll_nil r0
  obtain rfl : args = #[v0] := by cases args; simp_all
  obtain ⟨rfl, rfl⟩ := trodVars_none hV
  have k0 := h0
  have lt0 : ∀ x ∈ p0, x.block < W.heap.size := by obtain ⟨m, hm⟩ := k0; exact DataW.trod_lt m _ _ _ hm
  obtain ⟨fu0, hf0⟩ := h0
  obtain ⟨x0, hK0, _⟩ := Go.Proofs.Ytemaikelagchcaa.vecLeast.r35 H enc W _ _ fu0 _ _ hf0 (sizes_of hsz (j := 0) rfl rfl)
  obtain ⟨ar0, rfl, hz0⟩ := okWide_struct Try.underlying35 (hval 0 35 v0 rfl rfl)
  clear hA0 hval0 hsz0 hsz
  refine (ct_true (M.vecLeast x0) (PW.consM (Rep.aggOf hK0) PW.nil)).mono fun e W' ⟨he, hd⟩ => ?_
  have bel := hd
  subst he
  exact ⟨_, rfl, _, _, _, [], _, [], hW', trodAll_mk1 (shut_bool Try.underlying4 _), (trodAll_cons_mk (Below.trod laidOut (by kernel_rfl) (of_decide_eq_true (by kernel_rfl)) k0 bel lt0) trodAll_mk0), rfl, bel.frame _, fun h => by cases h⟩
theorem over : Rows.vecLeastRow.holds Try.pinned (OpenSpec.ofChange Rows.vecLeastSpec) :=
  OpenClaim.holds_of_wide 6 Try.f6 rfl rfl rfl rfl rfl rfl rfl ⟨rfl, rfl, rfl, rfl, rfl⟩ rfl rfl rfl rfl rfl (by kernel_rfl) Try.func6 (by kernel_rfl)
    (of_decide_eq_true (by kernel_rfl)) (by unfold Func.isWrapper; first | (rw [if_pos (by decide +kernel)]; kernel_rfl) | (rw [if_neg (by decide +kernel)]; exact ⟨rfl, rfl⟩))
    (fun os started H enc _ => lifted os started H enc)
theorem proved : Rows.VecLeastSaid := over
end Go.Proofs.Ytemaikelagchcaa.vecLeast
namespace Go.Proofs.Ytemaikelagchcaa
/-- The row, under a short name, for the claim. -/
theorem vecLeast_holds : Rows.VecLeastSaid := vecLeast.proved
end Go.Proofs.Ytemaikelagchcaa
