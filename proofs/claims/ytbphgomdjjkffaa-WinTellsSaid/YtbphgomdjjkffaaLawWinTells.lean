/- The law precentorlaw09.WinTells returns true for every input of its row (condition: none but what the row itself says). -/
import Derived.Test.YtbphgomdjjkffaaRows
import Derived.Test.YtbphgomdjjkffaaA09m
import Derived.Test.YtbphgomdjjkffaaMx25
import Derived.WalkKit
import Derived.ProofKit
import Derived.OpenShut
import Derived.ShutString
import Derived.ChangeOld
import Derived.Below
import Derived.SizedLaws
set_option linter.all false
set_option linter.unusedVariables false
set_option linter.unusedSimpArgs false
set_option linter.unnecessarySimpa false
namespace Go.Proofs.Ytbphgomdjjkffaa.winTells
open Go Go.Mir Go.Proofs Go.RowKit Go.ChangeShapes Go.WideShapes Go.ChangeAt Go.Proofs.Ytbphgomdjjkffaa.M
set_option linter.unusedVariables false
theorem own : ownKnob Try.prog.godebug = none := by kernel_rfl
theorem laidOut : laidOutB Try.prog = true := by kernel_rfl
theorem r3 : ReadsM Try.prog 3 (fun n : Int => [.lit (.int .i64 n)]) (fun _ => True) := readsM_num Try.underlying3
theorem r25 : ReadsM Try.prog 25 (fun x : List Int => [.sl false (x.map I)]) (fun _ => True) := readsM_list I false Try.underlying25 r3 (B := 8) (by kernel_rfl) (by decide) (fun _ => rfl) (fun _ => rfl)
theorem r5 : ReadsM Try.prog 5 (fun n : UInt8 => [U8 n]) (fun _ => True) := readsM_u8 Try.underlying5
theorem r26 : ReadsM Try.prog 26 (fun x : List UInt8 => [.sl false (x.map U8)]) (fun _ => True) := readsM_list U8 false Try.underlying26 r5 (B := 1) (by kernel_rfl) (by decide) (fun _ => rfl) (fun _ => rfl)
theorem r28 : ReadsM Try.prog 28 (fun x : M.Item => (eItem x).cells) (fun _ => True) := readsM_map (readsM_struct Try.underlying28 (ReadsMF.cons r3 rfl (ReadsMF.cons r3 rfl (ReadsMF.cons r3 rfl (ReadsMF.cons r3 rfl (ReadsMF.cons r3 rfl (ReadsMF.cons r3 rfl (ReadsMF.cons r25 rfl (ReadsMF.one r26 rfl (by kernel_rfl)))))))))) _ (fun x => M.Item.mk x.1 x.2.1 x.2.2.1 x.2.2.2.1 x.2.2.2.2.1 x.2.2.2.2.2.1 x.2.2.2.2.2.2.1 x.2.2.2.2.2.2.2) (fun _ _ => rfl) (fun _ _ => trivial)
theorem r22 : ReadsM Try.prog 22 (fun x : List M.Item => [.sl false (x.map eItem)]) (fun _ => True) := readsM_list eItem true Try.underlying22 r28 (B := 96) (by kernel_rfl) (by decide) (fun _ => rfl) (fun _ => rfl)
theorem r24 : ReadsM Try.prog 24 (fun x : M.Win => (eWin x).cells) (fun _ => True) := readsM_map (readsM_struct Try.underlying24 (ReadsMF.cons r3 rfl (ReadsMF.one r22 rfl (by kernel_rfl)))) _ (fun x => M.Win.mk x.1 x.2) (fun _ _ => rfl) (fun _ _ => trivial)
theorem r30 : ReadsM Try.prog 30 (fun x : M.WinTellsIn => (eWinTellsIn x).cells) (fun _ => True) := readsM_map (readsM_struct Try.underlying30 (ReadsMF.cons r24 rfl (ReadsMF.cons r24 rfl (ReadsMF.cons r28 rfl (ReadsMF.one r3 rfl (by kernel_rfl)))))) _ (fun x => M.WinTellsIn.mk x.1 x.2.1 x.2.2.1 x.2.2.2) (fun _ _ => rfl) (fun _ _ => trivial)
set_option maxRecDepth 100000 in
theorem lifted (os : Os) (started : os.Started) (H : Type) (enc : TypeId × Value → H) :
    ReturnsInHanded {} Try.checked os 3 .any (Rows.winTellsSpec.pre6 enc Try.prog Try.f3 Rows.winTellsRow.domain false) (Rows.winTellsSpec.post enc Try.prog Try.f3 false true false false) := by
  refine returnsInHanded_of_change_sized (C := Try.checked) own started (by kernel_rfl) Try.func3
    (ChangeSpec.witness6 (enc := enc) (C := Try.checked) false ⟨#[], #[.agg #[.int .i64 0, .slice none 0 0, .int .i64 0, .slice none 0 0, .int .i64 0, .int .i64 0, .int .i64 0, .int .i64 0, .int .i64 0, .int .i64 0, .slice none 0 0, .slice none 0 0, .int .i64 0]], []⟩ 8 (by kernel_rfl) (by kernel_rfl) (by kernel_rfl) (by kernel_rfl)) ?_
  intro W base args ds gs before hval0 hW hcnd hsz0 _
  have hsz : (DataW.weightsEach Try.prog (Try.f3.params.toList ++ Rows.winTellsSpec.plain.varTypes Try.prog) (ds ++ gs)).all (· ≤ reachBytes) = true := hsz0
  have hval : ∀ (j : Nat) t v, Try.f3.params[j]? = some t → args[j]? = some v → Value.okWide Try.prog W .any base t v := hval0
  have hW' := hW
  obtain ⟨p, q, hA0, hV, rfl, hfz, hnd⟩ := hW
  have hA : DataW.TrodAll enc Try.prog W 0 (fun _ => true) true Try.f3.params.toList args.toList ds p := hA0
  rw [Try.params3] at hA hval hsz
  obtain ⟨v0, vs0, d0, ds0, p0, q0, hargs, rfl, rfl, h0, r0⟩ := trodAll_cons hA
  obtain ⟨rfl, rfl, rfl⟩ := trodAll_nil r0
  obtain rfl : args = #[v0] := by cases args; simp_all
  obtain ⟨rfl, rfl⟩ := trodVars_none hV
  have k0 := h0
  have lt0 : ∀ x ∈ p0, x.block < W.heap.size := by obtain ⟨m, hm⟩ := k0; exact DataW.trod_lt m _ _ _ hm
  obtain ⟨fu0, hf0⟩ := h0
  obtain ⟨x0, hK0, _⟩ := Go.Proofs.Ytbphgomdjjkffaa.winTells.r30 H enc W _ _ fu0 _ _ hf0 (sizes_of hsz (j := 0) rfl rfl)
  obtain ⟨ar0, rfl, hz0⟩ := okWide_struct Try.underlying30 (hval 0 30 v0 rfl rfl)
  clear hA0 hval0 hsz0 hsz
  refine (ct_true (M.winTells x0) (PW.consM (Rep.aggOf hK0) PW.nil)).mono fun e W' ⟨he, hd⟩ => ?_
  have bel := hd
  subst he
  exact ⟨_, rfl, _, _, _, [], _, [], hW', trodAll_mk1 (shut_bool Try.underlying4 _), (trodAll_cons_mk (Below.trod laidOut (by kernel_rfl) (of_decide_eq_true (by kernel_rfl)) k0 bel lt0) trodAll_mk0), rfl, bel.frame _, fun h => by cases h⟩
theorem over : Rows.winTellsRow.holds Try.pinned (OpenSpec.ofChange Rows.winTellsSpec) :=
  OpenClaim.holds_of_wide 3 Try.f3 rfl rfl rfl rfl rfl rfl rfl ⟨rfl, rfl, rfl, rfl, rfl⟩ rfl rfl rfl rfl rfl (by kernel_rfl) Try.func3 (by kernel_rfl)
    (of_decide_eq_true (by kernel_rfl)) (by unfold Func.isWrapper; first | (rw [if_pos (by decide +kernel)]; kernel_rfl) | (rw [if_neg (by decide +kernel)]; exact ⟨rfl, rfl⟩))
    (fun os started H enc _ => lifted os started H enc)
theorem proved : Rows.WinTellsSaid := over
end Go.Proofs.Ytbphgomdjjkffaa.winTells
namespace Go.Proofs.Ytbphgomdjjkffaa
/-- The row, under a short name, for the claim. -/
theorem winTells_holds : Rows.WinTellsSaid := winTells.proved
end Go.Proofs.Ytbphgomdjjkffaa
