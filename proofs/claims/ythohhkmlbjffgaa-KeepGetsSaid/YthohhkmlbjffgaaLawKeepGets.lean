/- The law precentorlaw08.KeepGets returns true for every input of its row (condition: none but what the row itself says). -/
import Derived.Test.YthohhkmlbjffgaaRows
import Derived.Test.YthohhkmlbjffgaaC08j
import Derived.Test.YthohhkmlbjffgaaC08m
import Derived.Test.YthohhkmlbjffgaaMir22
import Derived.WalkKit
import Derived.ProofKit
import Derived.OpenShut
import Derived.ShutString
import Derived.ChangeOld
import Derived.Below
import Derived.SizedLaws
namespace Go.Proofs.Ythohhkmlbjffgaa.keepGets
open Go Go.Mir Go.Proofs Go.RowKit Go.ChangeShapes Go.WideShapes Go.ChangeAt Go.Proofs.Ythohhkmlbjffgaa.M
set_option linter.unusedVariables false
theorem own : ownKnob Try.prog.godebug = none := by kernel_rfl
theorem laidOut : laidOutB Try.prog = true := by kernel_rfl
theorem r3 : ReadsM Try.prog 3 (fun n : Int => [I n]) (fun n => (Lit.int .i64 n).wf = true) := readsM_int Try.underlying3
theorem r5 : ReadsM Try.prog 5 (fun n : UInt8 => [U8 n]) (fun _ => True) :=
  readsM_map (readsM_int Try.underlying5) (fun n : UInt8 => [U8 n]) (fun n : Int => UInt8.ofNat n.toNat) (fun a h => by
    have h' : IntKind.u8.min ≤ a ∧ a ≤ IntKind.u8.max := by simpa [Lit.wf] using h
    have h1 : IntKind.u8.min = 0 := by decide
    have h2 : IntKind.u8.max = 255 := by decide
    have e : ((UInt8.ofNat a.toNat).toNat : Int) = a := by
      rw [UInt8.toNat_ofNat']; omega
    show [U8 _] = _
    rw [show U8 (UInt8.ofNat a.toNat) = PV.lit (.int .u8 ((UInt8.ofNat a.toNat).toNat : Int)) from rfl, e]) (fun _ _ => trivial)
theorem r25 : ReadsM Try.prog 25 (fun x : List Int => [PV.sl false (x.map I)]) (fun xs => xs.length < 4611686018427387904) :=
  ReadsM.weaken (readsM_slice (ag := false) (s := 1) (B := 8) Try.underlying25 r3 (by kernel_rfl) (by kernel_rfl) (fun _ => rfl)) (fun _ h => by have := h.1; omega)
theorem r26 : ReadsM Try.prog 26 (fun x : List UInt8 => [PV.sl false (x.map U8)]) (fun _ => True) :=
  ReadsM.weaken (readsM_slice (ag := false) (s := 1) (B := 1) Try.underlying26 r5 (by kernel_rfl) (by kernel_rfl) (fun _ => rfl)) (fun _ _ => trivial)
theorem r28 : ReadsM Try.prog 28 (fun x : M.Item => (eI x).cells) (fun x => x.l.length < 4611686018427387904) :=
  readsM_map (readsM_struct Try.underlying28 (ReadsMF.cons r3 rfl (ReadsMF.cons r3 rfl (ReadsMF.cons r3 rfl (ReadsMF.cons r3 rfl (ReadsMF.cons r3 rfl (ReadsMF.cons r3 rfl (ReadsMF.cons r25 rfl (ReadsMF.one r26 rfl (by kernel_rfl)))))))))) _ (fun x => M.Item.mk x.1 x.2.1 x.2.2.1 x.2.2.2.1 x.2.2.2.2.1 x.2.2.2.2.2.1 false false x.2.2.2.2.2.2.1 x.2.2.2.2.2.2.2) (fun _ _ => rfl) (fun _ h => h.2.2.2.2.2.2.1)
theorem r22 : ReadsM Try.prog 22 (fun x : List M.Item => [PV.sl false (x.map eI)]) (fun xs => xs.length < 4611686018427387904 ∧ ∀ x ∈ xs, x.l.length < 4611686018427387904) :=
  ReadsM.weaken (readsM_slice (ag := true) (s := 8) (B := 96) Try.underlying22 r28 (by kernel_rfl) (by kernel_rfl) (fun _ => rfl)) (fun _ h => ⟨by have := h.1; omega, h.2⟩)
theorem r24 : ReadsM Try.prog 24 (fun x : Int × List M.Item => [I x.1, PV.sl false (x.2.map eI)]) (fun x => x.2.length < 4611686018427387904 ∧ ∀ a ∈ x.2, a.l.length < 4611686018427387904) :=
  readsM_map (readsM_struct Try.underlying24 (ReadsMF.cons r3 rfl (ReadsMF.one r22 rfl (by kernel_rfl)))) _ (fun x => x) (fun _ _ => rfl) (fun _ h => h.2)
theorem mayI (a : M.Item) (h : mayR a.kind a.seq a.epoch a.index a.total a.count a.l a.body = true) : 1 ≤ a.seq := by
  unfold mayR at h
  by_cases h1 : a.seq < 1
  · simp [h1] at h
  · omega
set_option maxRecDepth 100000 in
theorem lifted (os : Os) (started : os.Started) (H : Type) (enc : TypeId × Value → H) :
    ReturnsInHanded {} Try.checked os 7 .any (Rows.keepGetsSpec.pre6 enc Try.prog Try.f7 Rows.keepGetsRow.domain false) (Rows.keepGetsSpec.post enc Try.prog Try.f7 false true false false) := by
  refine returnsInHanded_of_change_sized (C := Try.checked) own started (by kernel_rfl) Try.func7
    (ChangeSpec.witness6 (enc := enc) (C := Try.checked) false ⟨#[], #[.agg #[.int .i64 0, .slice none 0 0], .int .i64 0], []⟩ 8 (by kernel_rfl) (by kernel_rfl) (by kernel_rfl) (by kernel_rfl)) ?_
  intro W base args ds gs before hval0 hW hcnd hsz0 _
  have hsz : (DataW.weightsEach Try.prog (Try.f7.params.toList ++ Rows.keepGetsSpec.plain.varTypes Try.prog) (ds ++ gs)).all (· ≤ reachBytes) = true := hsz0
  have hval : ∀ (j : Nat) t v, Try.f7.params[j]? = some t → args[j]? = some v → Value.okWide Try.prog W .any base t v := hval0
  have hW' := hW
  obtain ⟨p, q, hA0, hV, rfl, hfz, hnd⟩ := hW
  have hA : DataW.TrodAll enc Try.prog W 0 (fun _ => true) true Try.f7.params.toList args.toList ds p := hA0
  rw [Try.params7] at hA hval hsz
  obtain ⟨v0, vs0, d0, ds0, p0, q0, hargs, rfl, rfl, h0, r0⟩ := trodAll_cons hA
  obtain ⟨v1, vs1, d1, ds1, p1, q1, rfl, rfl, rfl, h1, r1⟩ := trodAll_cons r0
  obtain ⟨rfl, rfl, rfl⟩ := trodAll_nil r1
  obtain rfl : args = #[v0, v1] := by cases args; simp_all
  obtain ⟨rfl, rfl⟩ := trodVars_none hV
  have k0 := h0
  have k1 := h1
  have lt0 : ∀ x ∈ p0, x.block < W.heap.size := by obtain ⟨m, hm⟩ := k0; exact DataW.trod_lt m _ _ _ hm
  have lt1 : ∀ x ∈ p1, x.block < W.heap.size := by obtain ⟨m, hm⟩ := k1; exact DataW.trod_lt m _ _ _ hm
  obtain ⟨fu0, hf0⟩ := h0
  obtain ⟨fu1, hf1⟩ := h1
  obtain ⟨x0, hK0, ok0⟩ := r24 H enc W _ _ fu0 _ _ hf0 (sizes_of hsz (j := 0) rfl rfl)
  obtain ⟨x1, hK1, ok1⟩ := r3 H enc W _ _ fu1 _ _ hf1 (sizes_of hsz (j := 1) rfl rfl)
  obtain ⟨ar0, rfl, hz0⟩ := okWide_struct Try.underlying24 (hval 0 24 v0 rfl rfl)
  obtain ⟨n1, rfl⟩ : ∃ n, v1 = .int .i64 n := okWide_int Try.underlying3 (hval 1 3 v1 rfl rfl)
  clear hA0 hval0 hsz0 hsz
  have hc := keepGets7 (fun a => mayR a.kind a.seq a.epoch a.index a.total a.count a.l a.body) false x0.1 x1 x0.2 ok0.1 (fun a ha => may27 _ _ _ _ _ _ _ _ _ _ (ok0.2 a ha))
  have hp : PW (Rep (fun b => b < W.heap.size) W) [.agg [I x0.1, .sl false (x0.2.map eI)], I x1] [.agg ar0, .int .i64 n1] :=
    PW.consM (Rep.aggOf hK0) (PW.consM (PW.head hK1) PW.nil)
  refine (call_true E_ok hc hp).mono fun e W' ⟨he, hd⟩ => ?_
  have bel := hd
  subst he
  exact ⟨_, rfl, _, _, _, [], _, [], hW', trodAll_mk1 (shut_bool Try.underlying4 _), (trodAll_cons_mk (Below.trod laidOut (by kernel_rfl) (of_decide_eq_true (by kernel_rfl)) k0 bel lt0) (trodAll_cons_mk (Below.trod laidOut (by kernel_rfl) (of_decide_eq_true (by kernel_rfl)) k1 bel lt1) trodAll_mk0)), rfl, bel.frame _, fun h => by cases h⟩
theorem over : Rows.keepGetsRow.holds Try.pinned (OpenSpec.ofChange Rows.keepGetsSpec) :=
  OpenClaim.holds_of_wide 7 Try.f7 rfl rfl rfl rfl rfl rfl rfl ⟨rfl, rfl, rfl, rfl, rfl⟩ rfl rfl rfl rfl rfl (by kernel_rfl) Try.func7 (by kernel_rfl)
    (of_decide_eq_true (by kernel_rfl)) (by unfold Func.isWrapper; first | (rw [if_pos (by decide +kernel)]; kernel_rfl) | (rw [if_neg (by decide +kernel)]; exact ⟨rfl, rfl⟩))
    (fun os started H enc _ => lifted os started H enc)
theorem proved : Rows.KeepGetsSaid := over
#print axioms proved
end Go.Proofs.Ythohhkmlbjffgaa.keepGets
namespace Go.Proofs.Ythohhkmlbjffgaa
/-- The row, under a short name, for the claim. -/
theorem keepGets_holds : Rows.KeepGetsSaid := keepGets.proved
end Go.Proofs.Ythohhkmlbjffgaa
