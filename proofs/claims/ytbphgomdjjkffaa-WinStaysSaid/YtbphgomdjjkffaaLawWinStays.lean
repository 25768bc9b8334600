/- The law precentorlaw09.WinStays returns true for every input of its row (condition: none but what the row itself says). -/
import Derived.Test.YtbphgomdjjkffaaRows
import Derived.Test.YtbphgomdjjkffaaA09m
import Derived.Test.YtbphgomdjjkffaaMx25
import Derived.WalkKit
import Derived.ProofKit
import Derived.OpenShut
import Derived.ShutString
import Derived.ChangeOld
import Derived.Below
import Derived.SizedLaws
set_option linter.all false
set_option linter.unusedVariables false
set_option linter.unusedSimpArgs false
set_option linter.unnecessarySimpa false
namespace Go.Proofs.Ytbphgomdjjkffaa.winStays
open Go Go.Mir Go.Proofs Go.RowKit Go.ChangeShapes Go.WideShapes Go.ChangeAt Go.Proofs.Ytbphgomdjjkffaa.M
set_option linter.unusedVariables false
theorem own : ownKnob Try.prog.godebug = none := by kernel_rfl
theorem laidOut : laidOutB Try.prog = true := by kernel_rfl
theorem r3 : ReadsM Try.prog 3 (fun n : Int => [.lit (.int .i64 n)]) (fun _ => True) := readsM_num Try.underlying3
theorem r25 : ReadsM Try.prog 25 (fun x : List Int => [.sl false (x.map I)]) (fun _ => True) := readsM_list I false Try.underlying25 r3 (B := 8) (by kernel_rfl) (by decide) (fun _ => rfl) (fun _ => rfl)
theorem r5 : ReadsM Try.prog 5 (fun n : UInt8 => [U8 n]) (fun _ => True) := readsM_u8 Try.underlying5
theorem r26 : ReadsM Try.prog 26 (fun x : List UInt8 => [.sl false (x.map U8)]) (fun _ => True) := readsM_list U8 false Try.underlying26 r5 (B := 1) (by kernel_rfl) (by decide) (fun _ => rfl) (fun _ => rfl)
theorem r28 : ReadsM Try.prog 28 (fun x : M.Item => (eItem x).cells) (fun _ => True) := readsM_map (readsM_struct Try.underlying28 (ReadsMF.cons r3 rfl (ReadsMF.cons r3 rfl (ReadsMF.cons r3 rfl (ReadsMF.cons r3 rfl (ReadsMF.cons r3 rfl (ReadsMF.cons r3 rfl (ReadsMF.cons r25 rfl (ReadsMF.one r26 rfl (by kernel_rfl)))))))))) _ (fun x => M.Item.mk x.1 x.2.1 x.2.2.1 x.2.2.2.1 x.2.2.2.2.1 x.2.2.2.2.2.1 x.2.2.2.2.2.2.1 x.2.2.2.2.2.2.2) (fun _ _ => rfl) (fun _ _ => trivial)
theorem r22 : ReadsM Try.prog 22 (fun x : List M.Item => [.sl false (x.map eItem)]) (fun _ => True) := readsM_list eItem true Try.underlying22 r28 (B := 96) (by kernel_rfl) (by decide) (fun _ => rfl) (fun _ => rfl)
theorem r24 : ReadsM Try.prog 24 (fun x : M.Win => (eWin x).cells) (fun _ => True) := readsM_map (readsM_struct Try.underlying24 (ReadsMF.cons r3 rfl (ReadsMF.one r22 rfl (by kernel_rfl)))) _ (fun x => M.Win.mk x.1 x.2) (fun _ _ => rfl) (fun _ _ => trivial)
set_option maxRecDepth 100000 in
theorem lifted (os : Os) (started : os.Started) (H : Type) (enc : TypeId × Value → H) :
    ReturnsInHanded {} Try.checked os 4 .any (Rows.winStaysSpec.pre6 enc Try.prog Try.f4 Rows.winStaysRow.domain false) (Rows.winStaysSpec.post enc Try.prog Try.f4 false true false false) := by
  refine returnsInHanded_of_change_sized (C := Try.checked) own started (by kernel_rfl) Try.func4
    (ChangeSpec.witness6 (enc := enc) (C := Try.checked) false ⟨#[], #[.agg #[.int .i64 0, .slice none 0 0], .agg #[.int .i64 0, .int .i64 0, .int .i64 0, .int .i64 0, .int .i64 0, .int .i64 0, .slice none 0 0, .slice none 0 0], .int .i64 0], []⟩ 8 (by kernel_rfl) (by kernel_rfl) (by kernel_rfl) (by kernel_rfl)) ?_
  intro W base args ds gs before hval0 hW hcnd hsz0 _
  have hsz : (DataW.weightsEach Try.prog (Try.f4.params.toList ++ Rows.winStaysSpec.plain.varTypes Try.prog) (ds ++ gs)).all (· ≤ reachBytes) = true := hsz0
  have hval : ∀ (j : Nat) t v, Try.f4.params[j]? = some t → args[j]? = some v → Value.okWide Try.prog W .any base t v := hval0
  have hW' := hW
  obtain ⟨p, q, hA0, hV, rfl, hfz, hnd⟩ := hW
  have hA : DataW.TrodAll enc Try.prog W 0 (fun _ => true) true Try.f4.params.toList args.toList ds p := hA0
  rw [Try.params4] at hA hval hsz
  obtain ⟨v0, vs0, d0, ds0, p0, q0, hargs, rfl, rfl, h0, r0⟩ := trodAll_cons hA
  obtain ⟨v1, vs1, d1, ds1, p1, q1, rfl, rfl, rfl, h1, r1⟩ := trodAll_cons r0
  obtain ⟨v2, vs2, d2, ds2, p2, q2, rfl, rfl, rfl, h2, r2⟩ := trodAll_cons r1
  obtain ⟨rfl, rfl, rfl⟩ := trodAll_nil r2
  obtain rfl : args = #[v0, v1, v2] := by cases args; simp_all
  obtain ⟨rfl, rfl⟩ := trodVars_none hV
  have k0 := h0
  have k1 := h1
  have k2 := h2
  have lt0 : ∀ x ∈ p0, x.block < W.heap.size := by obtain ⟨m, hm⟩ := k0; exact DataW.trod_lt m _ _ _ hm
  have lt1 : ∀ x ∈ p1, x.block < W.heap.size := by obtain ⟨m, hm⟩ := k1; exact DataW.trod_lt m _ _ _ hm
  have lt2 : ∀ x ∈ p2, x.block < W.heap.size := by obtain ⟨m, hm⟩ := k2; exact DataW.trod_lt m _ _ _ hm
  obtain ⟨fu0, hf0⟩ := h0
  obtain ⟨fu1, hf1⟩ := h1
  obtain ⟨fu2, hf2⟩ := h2
  obtain ⟨x0, hK0, _⟩ := Go.Proofs.Ytbphgomdjjkffaa.winStays.r24 H enc W _ _ fu0 _ _ hf0 (sizes_of hsz (j := 0) rfl rfl)
  obtain ⟨x1, hK1, _⟩ := Go.Proofs.Ytbphgomdjjkffaa.winStays.r28 H enc W _ _ fu1 _ _ hf1 (sizes_of hsz (j := 1) rfl rfl)
  obtain ⟨x2, hK2, _⟩ := Go.Proofs.Ytbphgomdjjkffaa.winStays.r3 H enc W _ _ fu2 _ _ hf2 (sizes_of hsz (j := 2) rfl rfl)
  obtain ⟨ar0, rfl, hz0⟩ := okWide_struct Try.underlying24 (hval 0 24 v0 rfl rfl)
  obtain ⟨ar1, rfl, hz1⟩ := okWide_struct Try.underlying28 (hval 1 28 v1 rfl rfl)
  obtain ⟨n2, rfl⟩ : ∃ n, v2 = .int .i64 n := okWide_int Try.underlying3 (hval 2 3 v2 rfl rfl)
  clear hA0 hval0 hsz0 hsz
  refine (ct_true (M.winStays x0 x1 x2) (PW.consM (Rep.aggOf hK0) (PW.consM (Rep.aggOf hK1) (PW.consM (PW.head hK2) PW.nil)))).mono fun e W' ⟨he, hd⟩ => ?_
  have bel := hd
  subst he
  exact ⟨_, rfl, _, _, _, [], _, [], hW', trodAll_mk1 (shut_bool Try.underlying4 _), (trodAll_cons_mk (Below.trod laidOut (by kernel_rfl) (of_decide_eq_true (by kernel_rfl)) k0 bel lt0) (trodAll_cons_mk (Below.trod laidOut (by kernel_rfl) (of_decide_eq_true (by kernel_rfl)) k1 bel lt1) (trodAll_cons_mk (Below.trod laidOut (by kernel_rfl) (of_decide_eq_true (by kernel_rfl)) k2 bel lt2) trodAll_mk0))), rfl, bel.frame _, fun h => by cases h⟩
theorem over : Rows.winStaysRow.holds Try.pinned (OpenSpec.ofChange Rows.winStaysSpec) :=
  OpenClaim.holds_of_wide 4 Try.f4 rfl rfl rfl rfl rfl rfl rfl ⟨rfl, rfl, rfl, rfl, rfl⟩ rfl rfl rfl rfl rfl (by kernel_rfl) Try.func4 (by kernel_rfl)
    (of_decide_eq_true (by kernel_rfl)) (by unfold Func.isWrapper; first | (rw [if_pos (by decide +kernel)]; kernel_rfl) | (rw [if_neg (by decide +kernel)]; exact ⟨rfl, rfl⟩))
    (fun os started H enc _ => lifted os started H enc)
theorem proved : Rows.WinStaysSaid := over
end Go.Proofs.Ytbphgomdjjkffaa.winStays
namespace Go.Proofs.Ytbphgomdjjkffaa
/-- The row, under a short name, for the claim. -/
theorem winStays_holds : Rows.WinStaysSaid := winStays.proved
end Go.Proofs.Ytbphgomdjjkffaa
