/- The law precentorlaw09.WinOrder returns true for every input of its row (condition: none but what the row itself says). -/
import Derived.Test.YtbphgomdjjkffaaRows
import Derived.Test.YtbphgomdjjkffaaW9o
import Derived.Test.YtbphgomdjjkffaaNx25
import Derived.WalkKit
import Derived.ProofKit
import Derived.OpenShut
import Derived.ShutString
import Derived.ChangeOld
import Derived.Below
import Derived.SizedLaws
set_option linter.all false
set_option linter.unusedVariables false
set_option linter.unusedSimpArgs false
set_option linter.unnecessarySimpa false
namespace Go.Proofs.Ytbphgomdjjkffaa.winOrder
open Go Go.Mir Go.Proofs Go.RowKit Go.ChangeShapes Go.WideShapes Go.ChangeAt Go.Proofs.Ytbphgomdjjkffaa.M
set_option linter.unusedVariables false
set_option maxRecDepth 100000
theorem own : ownKnob Try.prog.godebug = none := by kernel_rfl
theorem laidOut : laidOutB Try.prog = true := by kernel_rfl
theorem r5 : ReadsM Try.prog 5 (fun n : UInt8 => [U8 n]) (fun _ => True) := readsM_u8 Try.underlying5
theorem r26 : ReadsM Try.prog 26 (fun x : List UInt8 => [.sl false (x.map U8)]) (fun _ => True) := readsM_list U8 false Try.underlying26 r5 (B := 1) (by kernel_rfl) (by decide) (fun _ => rfl) (fun _ => rfl)
set_option maxRecDepth 100000 in
theorem lifted (os : Os) (started : os.Started) (H : Type) (enc : TypeId × Value → H) :
    ReturnsInHanded {} Try.checked os 5 .any (Rows.winOrderSpec.pre6 enc Try.prog Try.f5 Rows.winOrderRow.domain false) (Rows.winOrderSpec.post enc Try.prog Try.f5 false true false false) := by
  refine returnsInHanded_of_change_sized (C := Try.checked) own started (by kernel_rfl) Try.func5
    (ChangeSpec.witness6 (enc := enc) (C := Try.checked) false ⟨#[], #[.slice none 0 0, .int .u8 0], []⟩ 8 (by kernel_rfl) (by kernel_rfl) (by kernel_rfl) (by kernel_rfl)) ?_
  intro W base args ds gs before hval0 hW hcnd hsz0 _
  have hsz : (DataW.weightsEach Try.prog (Try.f5.params.toList ++ Rows.winOrderSpec.plain.varTypes Try.prog) (ds ++ gs)).all (· ≤ reachBytes) = true := hsz0
  have hval : ∀ (j : Nat) t v, Try.f5.params[j]? = some t → args[j]? = some v → Value.okWide Try.prog W .any base t v := hval0
  have hW' := hW
  obtain ⟨p, q, hA0, hV, rfl, hfz, hnd⟩ := hW
  have hA : DataW.TrodAll enc Try.prog W 0 (fun _ => true) true Try.f5.params.toList args.toList ds p := hA0
  rw [Try.params5] at hA hval hsz
  obtain ⟨v0, vs0, d0, ds0, p0, q0, hargs, rfl, rfl, h0, r0⟩ := trodAll_cons hA
  obtain ⟨v1, vs1, d1, ds1, p1, q1, rfl, rfl, rfl, h1, r1⟩ := trodAll_cons r0
  obtain ⟨rfl, rfl, rfl⟩ := trodAll_nil r1
  obtain rfl : args = #[v0, v1] := by cases args; simp_all
  obtain ⟨rfl, rfl⟩ := trodVars_none hV
  have k0 := h0
  have k1 := h1
  have lt0 : ∀ x ∈ p0, x.block < W.heap.size := by obtain ⟨m, hm⟩ := k0; exact DataW.trod_lt m _ _ _ hm
  have lt1 : ∀ x ∈ p1, x.block < W.heap.size := by obtain ⟨m, hm⟩ := k1; exact DataW.trod_lt m _ _ _ hm
  obtain ⟨fu0, hf0⟩ := h0
  obtain ⟨fu1, hf1⟩ := h1
  obtain ⟨x0, hK0, _⟩ := Go.Proofs.Ytbphgomdjjkffaa.winOrder.r26 H enc W _ _ fu0 _ _ hf0 (sizes_of hsz (j := 0) rfl rfl)
  obtain ⟨x1, hK1, _⟩ := Go.Proofs.Ytbphgomdjjkffaa.winOrder.r5 H enc W _ _ fu1 _ _ hf1 (sizes_of hsz (j := 1) rfl rfl)
  obtain ⟨sa0, sl0, sc0, rfl⟩ := okWide_slice Try.underlying26 (hval 0 26 v0 rfl rfl)
  obtain ⟨n1, rfl⟩ : ∃ n, v1 = .int .u8 n := okWide_int Try.underlying5 (hval 1 5 v1 rfl rfl)
  clear hA0 hval0 hsz0 hsz
  refine (ct_true (M.winOrder x0 x1) (PW.consM (PW.head hK0) (PW.consM (PW.head hK1) PW.nil))).mono fun e W' ⟨he, hd⟩ => ?_
  have bel := hd
  subst he
  exact ⟨_, rfl, _, _, _, [], _, [], hW', trodAll_mk1 (shut_bool Try.underlying4 _), (trodAll_cons_mk (Below.trod laidOut (by kernel_rfl) (of_decide_eq_true (by kernel_rfl)) k0 bel lt0) (trodAll_cons_mk (Below.trod laidOut (by kernel_rfl) (of_decide_eq_true (by kernel_rfl)) k1 bel lt1) trodAll_mk0)), rfl, bel.frame _, fun h => by cases h⟩
theorem over : Rows.winOrderRow.holds Try.pinned (OpenSpec.ofChange Rows.winOrderSpec) :=
  OpenClaim.holds_of_wide 5 Try.f5 rfl rfl rfl rfl rfl rfl rfl ⟨rfl, rfl, rfl, rfl, rfl⟩ rfl rfl rfl rfl rfl (by kernel_rfl) Try.func5 (by kernel_rfl)
    (of_decide_eq_true (by kernel_rfl)) (by unfold Func.isWrapper; first | (rw [if_pos (by decide +kernel)]; kernel_rfl) | (rw [if_neg (by decide +kernel)]; exact ⟨rfl, rfl⟩))
    (fun os started H enc _ => lifted os started H enc)
theorem proved : Rows.WinOrderSaid := over
end Go.Proofs.Ytbphgomdjjkffaa.winOrder
namespace Go.Proofs.Ytbphgomdjjkffaa
/-- The row, under a short name, for the claim. -/
theorem winOrder_holds : Rows.WinOrderSaid := winOrder.proved
end Go.Proofs.Ytbphgomdjjkffaa
