/- The law precentorlaw19.flushStays returns true for every input of its row (condition: none but what the row itself says). -/
import Derived.Test.YtnekeanhkkfpnaaRows
import Derived.Test.YtnekeanhkkfpnaaA19e
import Derived.Test.YtnekeanhkkfpnaaMx25
import Derived.WalkKit
import Derived.ProofKit
import Derived.OpenShut
import Derived.ShutString
import Derived.ChangeOld
import Derived.Below
import Derived.SizedLaws
set_option linter.all false
set_option linter.unusedVariables false
set_option linter.unusedSimpArgs false
set_option linter.unnecessarySimpa false
namespace Go.Proofs.Ytnekeanhkkfpnaa.flushStays
open Go Go.Mir Go.Proofs Go.RowKit Go.ChangeShapes Go.WideShapes Go.ChangeAt Go.Proofs.Ytnekeanhkkfpnaa.M
set_option linter.unusedVariables false
theorem own : ownKnob Try.prog.godebug = none := by kernel_rfl
theorem laidOut : laidOutB Try.prog = true := by kernel_rfl
theorem r4 : ReadsM Try.prog 4 (fun b : Bool => [.lit (.bool b)]) (fun _ => True) := readsM_bool Try.underlying4
theorem r3 : ReadsM Try.prog 3 (fun n : Int => [.lit (.int .i64 n)]) (fun _ => True) := readsM_num Try.underlying3
theorem r22 : ReadsM Try.prog 22 (fun x : List Bool => [.sl false (x.map B)]) (fun _ => True) := readsM_list B false Try.underlying22 r4 (B := 1) (by kernel_rfl) (by decide) (fun _ => rfl) (fun _ => rfl)
theorem r23 : ReadsM Try.prog 23 (fun x : List Int => [.sl false (x.map I)]) (fun _ => True) := readsM_list I false Try.underlying23 r3 (B := 8) (by kernel_rfl) (by decide) (fun _ => rfl) (fun _ => rfl)
theorem r25 : ReadsM Try.prog 25 (fun x : M.Barrier => (eBarrier x).cells) (fun _ => True) := readsM_map (readsM_struct Try.underlying25 (ReadsMF.cons r4 rfl (ReadsMF.cons r3 rfl (ReadsMF.cons r22 rfl (ReadsMF.cons r23 rfl (ReadsMF.cons r4 rfl (ReadsMF.one r23 rfl (by kernel_rfl)))))))) _ (fun x => M.Barrier.mk x.1 x.2.1 x.2.2.1 x.2.2.2.1 x.2.2.2.2.1 x.2.2.2.2.2) (fun _ _ => rfl) (fun _ _ => trivial)
theorem r5 : ReadsM Try.prog 5 (fun n : UInt8 => [U8 n]) (fun _ => True) := readsM_u8 Try.underlying5
theorem r26 : ReadsM Try.prog 26 (fun x : List UInt8 => [.sl false (x.map U8)]) (fun _ => True) := readsM_list U8 false Try.underlying26 r5 (B := 1) (by kernel_rfl) (by decide) (fun _ => rfl) (fun _ => rfl)
theorem r28 : ReadsM Try.prog 28 (fun x : M.Item => (eItem x).cells) (fun _ => True) := readsM_map (readsM_struct Try.underlying28 (ReadsMF.cons r3 rfl (ReadsMF.cons r3 rfl (ReadsMF.cons r3 rfl (ReadsMF.cons r3 rfl (ReadsMF.cons r3 rfl (ReadsMF.cons r3 rfl (ReadsMF.cons r23 rfl (ReadsMF.one r26 rfl (by kernel_rfl)))))))))) _ (fun x => M.Item.mk x.1 x.2.1 x.2.2.1 x.2.2.2.1 x.2.2.2.2.1 x.2.2.2.2.2.1 x.2.2.2.2.2.2.1 x.2.2.2.2.2.2.2) (fun _ _ => rfl) (fun _ _ => trivial)
theorem r48 : ReadsM Try.prog 48 (fun x : M.FlushStaysIn => (eFlushStaysIn x).cells) (fun _ => True) := readsM_map (readsM_struct Try.underlying48 (ReadsMF.cons r25 rfl (ReadsMF.cons r3 rfl (ReadsMF.cons r5 rfl (ReadsMF.one r28 rfl (by kernel_rfl)))))) _ (fun x => M.FlushStaysIn.mk x.1 x.2.1 x.2.2.1 x.2.2.2) (fun _ _ => rfl) (fun _ _ => trivial)
set_option maxRecDepth 100000 in
theorem lifted (os : Os) (started : os.Started) (H : Type) (enc : TypeId × Value → H) :
    ReturnsInHanded {} Try.checked os 4 .any (Rows.flushStaysSpec.pre6 enc Try.prog Try.f4 Rows.flushStaysRow.domain false) (Rows.flushStaysSpec.post enc Try.prog Try.f4 false true false false) := by
  refine returnsInHanded_of_change_sized (C := Try.checked) own started (by kernel_rfl) Try.func4
    (ChangeSpec.witness6 (enc := enc) (C := Try.checked) false ⟨#[], #[.agg #[.bool false, .int .i64 0, .slice none 0 0, .slice none 0 0, .bool false, .slice none 0 0, .int .i64 0, .int .u8 0, .int .i64 0, .int .i64 0, .int .i64 0, .int .i64 0, .int .i64 0, .int .i64 0, .slice none 0 0, .slice none 0 0]], []⟩ 8 (by kernel_rfl) (by kernel_rfl) (by kernel_rfl) (by kernel_rfl)) ?_
  intro W base args ds gs before hval0 hW hcnd hsz0 _
  have hsz : (DataW.weightsEach Try.prog (Try.f4.params.toList ++ Rows.flushStaysSpec.plain.varTypes Try.prog) (ds ++ gs)).all (· ≤ reachBytes) = true := hsz0
  have hval : ∀ (j : Nat) t v, Try.f4.params[j]? = some t → args[j]? = some v → Value.okWide Try.prog W .any base t v := hval0
  have hW' := hW
  obtain ⟨p, q, hA0, hV, rfl, hfz, hnd⟩ := hW
  have hA : DataW.TrodAll enc Try.prog W 0 (fun _ => true) true Try.f4.params.toList args.toList ds p := hA0
  rw [Try.params4] at hA hval hsz
  obtain ⟨v0, vs0, d0, ds0, p0, q0, hargs, rfl, rfl, h0, r0⟩ := trodAll_cons hA
  obtain ⟨rfl, rfl, rfl⟩ := trodAll_nil r0
  obtain rfl : args = #[v0] := by cases args; simp_all
  obtain ⟨rfl, rfl⟩ := trodVars_none hV
  have k0 := h0
  have lt0 : ∀ x ∈ p0, x.block < W.heap.size := by obtain ⟨m, hm⟩ := k0; exact DataW.trod_lt m _ _ _ hm
  obtain ⟨fu0, hf0⟩ := h0
  obtain ⟨x0, hK0, _⟩ := Go.Proofs.Ytnekeanhkkfpnaa.flushStays.r48 H enc W _ _ fu0 _ _ hf0 (sizes_of hsz (j := 0) rfl rfl)
  obtain ⟨ar0, rfl, hz0⟩ := okWide_struct Try.underlying48 (hval 0 48 v0 rfl rfl)
  clear hA0 hval0 hsz0 hsz
  refine (ct_true (M.flushStays x0) (PW.consM (Rep.aggOf hK0) PW.nil)).mono fun e W' ⟨he, hd⟩ => ?_
  have bel := hd
  subst he
  exact ⟨_, rfl, _, _, _, [], _, [], hW', trodAll_mk1 (shut_bool Try.underlying4 _), (trodAll_cons_mk (Below.trod laidOut (by kernel_rfl) (of_decide_eq_true (by kernel_rfl)) k0 bel lt0) trodAll_mk0), rfl, bel.frame _, fun h => by cases h⟩
theorem over : Rows.flushStaysRow.holds Try.pinned (OpenSpec.ofChange Rows.flushStaysSpec) :=
  OpenClaim.holds_of_wide 4 Try.f4 rfl rfl rfl rfl rfl rfl rfl ⟨rfl, rfl, rfl, rfl, rfl⟩ rfl rfl rfl rfl rfl (by kernel_rfl) Try.func4 (by kernel_rfl)
    (of_decide_eq_true (by kernel_rfl)) (by unfold Func.isWrapper; first | (rw [if_pos (by decide +kernel)]; kernel_rfl) | (rw [if_neg (by decide +kernel)]; exact ⟨rfl, rfl⟩))
    (fun os started H enc _ => lifted os started H enc)
theorem proved : Rows.FlushStaysSaid := over
end Go.Proofs.Ytnekeanhkkfpnaa.flushStays
namespace Go.Proofs.Ytnekeanhkkfpnaa
/-- The row, under a short name, for the claim. -/
theorem flushStays_holds : Rows.FlushStaysSaid := flushStays.proved
end Go.Proofs.Ytnekeanhkkfpnaa
