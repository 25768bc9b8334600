/- The law precentorlaw20.RelHears returns true for every input of its row (condition: none but what the row itself says). -/
import Derived.Test.YtnhaofaeaokgdaaGreatRows
import Derived.Test.YtnhaofaeaokgdaaGreatR20n
import Derived.Test.YtnhaofaeaokgdaaGreatNx25
import Derived.WalkKit
import Derived.ProofKit
import Derived.OpenShut
import Derived.ShutString
import Derived.ChangeOld
import Derived.Below
import Derived.SizedLaws
set_option linter.all false
set_option linter.unusedVariables false
set_option linter.unusedSimpArgs false
set_option linter.unnecessarySimpa false
namespace Go.Proofs.YtnhaofaeaokgdaaGreat.relHears
open Go Go.Mir Go.Proofs Go.RowKit Go.ChangeShapes Go.WideShapes Go.ChangeAt Go.Proofs.YtnhaofaeaokgdaaGreat.M
set_option linter.unusedVariables false
set_option maxRecDepth 100000
theorem own : ownKnob Tryz.prog.godebug = none := by kernel_rfl
theorem laidOut : laidOutB Tryz.prog = true := by kernel_rfl
theorem r3 : ReadsM Tryz.prog 3 (fun n : Int => [.lit (.int .i64 n)]) (fun _ => True) := readsM_num Tryz.underlying3
theorem r26 : ReadsM Tryz.prog 26 (fun x : List Int => [.sl false (x.map I)]) (fun _ => True) := readsM_list I false Tryz.underlying26 r3 (B := 8) (by kernel_rfl) (by decide) (fun _ => rfl) (fun _ => rfl)
theorem r5 : ReadsM Tryz.prog 5 (fun n : UInt8 => [U8 n]) (fun _ => True) := readsM_u8 Tryz.underlying5
theorem r31 : ReadsM Tryz.prog 31 (fun x : List UInt8 => [.sl false (x.map U8)]) (fun _ => True) := readsM_list U8 false Tryz.underlying31 r5 (B := 1) (by kernel_rfl) (by decide) (fun _ => rfl) (fun _ => rfl)
theorem r33 : ReadsM Tryz.prog 33 (fun x : M.Item => (eItem x).cells) (fun _ => True) := readsM_map (readsM_struct Tryz.underlying33 (ReadsMF.cons r3 rfl (ReadsMF.cons r3 rfl (ReadsMF.cons r3 rfl (ReadsMF.cons r3 rfl (ReadsMF.cons r3 rfl (ReadsMF.cons r3 rfl (ReadsMF.cons r26 rfl (ReadsMF.one r31 rfl (by kernel_rfl)))))))))) _ (fun x => M.Item.mk x.1 x.2.1 x.2.2.1 x.2.2.2.1 x.2.2.2.2.1 x.2.2.2.2.2.1 x.2.2.2.2.2.2.1 x.2.2.2.2.2.2.2) (fun _ _ => rfl) (fun _ _ => trivial)
theorem r22 : ReadsM Tryz.prog 22 (fun x : List M.Item => [.sl false (x.map eItem)]) (fun _ => True) := readsM_list eItem true Tryz.underlying22 r33 (B := 96) (by kernel_rfl) (by decide) (fun _ => rfl) (fun _ => rfl)
theorem r24 : ReadsM Tryz.prog 24 (fun x : M.Keep => (eKeep x).cells) (fun _ => True) := readsM_map (readsM_struct Tryz.underlying24 (ReadsMF.cons r3 rfl (ReadsMF.one r22 rfl (by kernel_rfl)))) _ (fun x => M.Keep.mk x.1 x.2) (fun _ _ => rfl) (fun _ _ => trivial)
theorem r62 : ReadsM Tryz.prog 62 (fun x : M.Win => (eWin x).cells) (fun _ => True) := readsM_map (readsM_struct Tryz.underlying62 (ReadsMF.cons r3 rfl (ReadsMF.one r22 rfl (by kernel_rfl)))) _ (fun x => M.Win.mk x.1 x.2) (fun _ _ => rfl) (fun _ _ => trivial)
theorem r25 : ReadsM Tryz.prog 25 (fun x : List M.Win => [.sl false (x.map eWin)]) (fun _ => True) := readsM_list eWin true Tryz.underlying25 r62 (B := 32) (by kernel_rfl) (by decide) (fun _ => rfl) (fun _ => rfl)
theorem r67 : ReadsM Tryz.prog 67 (fun x : M.Ask => (eAsk x).cells) (fun _ => True) := readsM_map (readsM_struct Tryz.underlying67 (ReadsMF.one r3 rfl (by kernel_rfl))) _ (fun x => M.Ask.mk x) (fun _ _ => rfl) (fun _ _ => trivial)
theorem r27 : ReadsM Tryz.prog 27 (fun x : List M.Ask => [.sl false (x.map eAsk)]) (fun _ => True) := readsM_list eAsk true Tryz.underlying27 r67 (B := 8) (by kernel_rfl) (by decide) (fun _ => rfl) (fun _ => rfl)
theorem r28 : ReadsM Tryz.prog 28 (fun x : List (List Int) => [.sl false (x.map lI)]) (fun _ => True) := readsM_list lI false Tryz.underlying28 r26 (B := 24) (by kernel_rfl) (by decide) (fun _ => rfl) (fun _ => rfl)
theorem r30 : ReadsM Tryz.prog 30 (fun x : M.Rel => (eRel x).cells) (fun _ => True) := readsM_map (readsM_struct Tryz.underlying30 (ReadsMF.cons r3 rfl (ReadsMF.cons r3 rfl (ReadsMF.cons r24 rfl (ReadsMF.cons r25 rfl (ReadsMF.cons r26 rfl (ReadsMF.cons r27 rfl (ReadsMF.cons r28 rfl (ReadsMF.cons r26 rfl (ReadsMF.one r3 rfl (by kernel_rfl))))))))))) _ (fun x => M.Rel.mk x.1 x.2.1 x.2.2.1 x.2.2.2.1 x.2.2.2.2.1 x.2.2.2.2.2.1 x.2.2.2.2.2.2.1 x.2.2.2.2.2.2.2.1 x.2.2.2.2.2.2.2.2) (fun _ _ => rfl) (fun _ _ => trivial)
theorem r35 : ReadsM Tryz.prog 35 (fun x : M.Packet => (ePacket x).cells) (fun _ => True) := readsM_map (readsM_struct Tryz.underlying35 (ReadsMF.cons r3 rfl (ReadsMF.cons r3 rfl (ReadsMF.cons r33 rfl (ReadsMF.cons r3 rfl (ReadsMF.cons r3 rfl (ReadsMF.cons r3 rfl (ReadsMF.cons r3 rfl (ReadsMF.one r26 rfl (by kernel_rfl)))))))))) _ (fun x => M.Packet.mk x.1 x.2.1 x.2.2.1 x.2.2.2.1 x.2.2.2.2.1 x.2.2.2.2.2.1 x.2.2.2.2.2.2.1 x.2.2.2.2.2.2.2) (fun _ _ => rfl) (fun _ _ => trivial)
theorem r36 : ReadsM Tryz.prog 36 (fun n : UInt16 => [U16 n]) (fun _ => True) := readsM_u16 Tryz.underlying36
theorem r38 : ReadsM Tryz.prog 38 (fun x : M.RelHearsIn => (eRelHearsIn x).cells) (fun _ => True) := readsM_map (readsM_struct Tryz.underlying38 (ReadsMF.cons r30 rfl (ReadsMF.cons r3 rfl (ReadsMF.cons r35 rfl (ReadsMF.cons r26 rfl (ReadsMF.cons r5 rfl (ReadsMF.cons r36 rfl (ReadsMF.one r36 rfl (by kernel_rfl))))))))) _ (fun x => M.RelHearsIn.mk x.1 x.2.1 x.2.2.1 x.2.2.2.1 x.2.2.2.2.1 x.2.2.2.2.2.1 x.2.2.2.2.2.2) (fun _ _ => rfl) (fun _ _ => trivial)
set_option maxRecDepth 100000 in
theorem lifted (os : Os) (started : os.Started) (H : Type) (enc : TypeId × Value → H) :
    ReturnsInHanded {} Tryz.checked os 3 .any (Rows.relHearsSpec.pre6 enc Tryz.prog Tryz.f3 Rows.relHearsRow.domain false) (Rows.relHearsSpec.post enc Tryz.prog Tryz.f3 false true false false) := by
  refine returnsInHanded_of_change_sized (C := Tryz.checked) own started (by kernel_rfl) Tryz.func3
    (ChangeSpec.witness6 (enc := enc) (C := Tryz.checked) false ⟨#[], #[.agg #[.int .i64 0, .int .i64 0, .int .i64 0, .slice none 0 0, .slice none 0 0, .slice none 0 0, .slice none 0 0, .slice none 0 0, .slice none 0 0, .int .i64 0, .int .i64 0, .int .i64 0, .int .i64 0, .int .i64 0, .int .i64 0, .int .i64 0, .int .i64 0, .int .i64 0, .int .i64 0, .slice none 0 0, .slice none 0 0, .int .i64 0, .int .i64 0, .int .i64 0, .int .i64 0, .slice none 0 0, .slice none 0 0, .int .u8 0, .int .u16 0, .int .u16 0]], []⟩ 8 (by kernel_rfl) (by kernel_rfl) (by kernel_rfl) (by kernel_rfl)) ?_
  intro W base args ds gs before hval0 hW hcnd hsz0 _
  have hsz : (DataW.weightsEach Tryz.prog (Tryz.f3.params.toList ++ Rows.relHearsSpec.plain.varTypes Tryz.prog) (ds ++ gs)).all (· ≤ reachBytes) = true := hsz0
  have hval : ∀ (j : Nat) t v, Tryz.f3.params[j]? = some t → args[j]? = some v → Value.okWide Tryz.prog W .any base t v := hval0
  have hW' := hW
  obtain ⟨p, q, hA0, hV, rfl, hfz, hnd⟩ := hW
  have hA : DataW.TrodAll enc Tryz.prog W 0 (fun _ => true) true Tryz.f3.params.toList args.toList ds p := hA0
  rw [Tryz.params3] at hA hval hsz
  obtain ⟨v0, vs0, d0, ds0, p0, q0, hargs, rfl, rfl, h0, r0⟩ := trodAll_cons hA
  obtain ⟨rfl, rfl, rfl⟩ := trodAll_nil r0
  obtain rfl : args = #[v0] := by cases args; simp_all
  obtain ⟨rfl, rfl⟩ := trodVars_none hV
  have k0 := h0
  have lt0 : ∀ x ∈ p0, x.block < W.heap.size := by obtain ⟨m, hm⟩ := k0; exact DataW.trod_lt m _ _ _ hm
  obtain ⟨fu0, hf0⟩ := h0
  obtain ⟨x0, hK0, _⟩ := Go.Proofs.YtnhaofaeaokgdaaGreat.relHears.r38 H enc W _ _ fu0 _ _ hf0 (sizes_of hsz (j := 0) rfl rfl)
  obtain ⟨ar0, rfl, hz0⟩ := okWide_struct Tryz.underlying38 (hval 0 38 v0 rfl rfl)
  clear hA0 hval0 hsz0 hsz
  refine (ct_true (M.relHears x0) (PW.consM (Rep.aggOf hK0) PW.nil)).mono fun e W' ⟨he, hd⟩ => ?_
  have bel := hd
  subst he
  exact ⟨_, rfl, _, _, _, [], _, [], hW', trodAll_mk1 (shut_bool Tryz.underlying4 _), (trodAll_cons_mk (Below.trod laidOut (by kernel_rfl) (of_decide_eq_true (by kernel_rfl)) k0 bel lt0) trodAll_mk0), rfl, bel.frame _, fun h => by cases h⟩
theorem over : Rows.relHearsRow.holds Tryz.pinned (OpenSpec.ofChange Rows.relHearsSpec) :=
  OpenClaim.holds_of_wide 3 Tryz.f3 rfl rfl rfl rfl rfl rfl rfl ⟨rfl, rfl, rfl, rfl, rfl⟩ rfl rfl rfl rfl rfl (by kernel_rfl) Tryz.func3 (by kernel_rfl)
    (of_decide_eq_true (by kernel_rfl)) (by unfold Func.isWrapper; first | (rw [if_pos (by decide +kernel)]; kernel_rfl) | (rw [if_neg (by decide +kernel)]; exact ⟨rfl, rfl⟩))
    (fun os started H enc _ => lifted os started H enc)
theorem proved : Rows.RelHearsSaid := over
end Go.Proofs.YtnhaofaeaokgdaaGreat.relHears
namespace Go.Proofs.YtnhaofaeaokgdaaGreat
/-- The row, under a short name, for the claim. -/
theorem relHears_holds : Rows.RelHearsSaid := relHears.proved
end Go.Proofs.YtnhaofaeaokgdaaGreat
