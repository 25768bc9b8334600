/- The law precentorlaw21.MembFits returns true for every input of its row; its tied card (condition: none but what the row itself says). -/
import Derived.Test.YtndomnacflndmaaGreatDoorRows
import Derived.Test.YtndomnacflndmaaGreatDoorTie
import Derived.Test.YtndomnacflndmaaGreatDoorCards
import Derived.Test.YtndomnacflndmaaGreatDoorM21d
import Derived.Test.YtndomnacflndmaaGreatDoorS21
import Derived.Test.YtndomnacflndmaaGreatDoorNx35
import Derived.Test.YtndomnacflndmaaGreatDoorNx36
import Derived.LaidMore
import Derived.Stop.Joined
import Derived.SevenTiedAt
import Derived.WalkKit
import Derived.ProofKit
import Derived.OpenShut
import Derived.ShutString
import Derived.ChangeOld
import Derived.Below
import Derived.SizedLaws
set_option linter.all false
set_option linter.unusedVariables false
set_option linter.unusedSimpArgs false
set_option linter.unnecessarySimpa false
namespace Go.Proofs.YtndomnacflndmaaGreatDoor.membFits
open Go Go.Mir Go.Proofs Go.RowKit Go.ChangeShapes Go.WideShapes Go.ChangeAt Go.Proofs.YtndomnacflndmaaGreatDoor.M
set_option linter.unusedVariables false
set_option maxRecDepth 100000
theorem own : ownKnob Tryz.prog.godebug = none := by kernel_rfl
theorem laidOut : laidOutB Tryz.prog = true := by kernel_rfl
theorem r3 : ReadsM Tryz.prog 3 (fun n : Int => [.lit (.int .i64 n)]) (fun _ => True) := readsM_num Tryz.underlying3
theorem r3w : ReadsM Tryz.prog 3 (fun n : Int => [.lit (.int .i64 n)]) (fun n => (Lit.int .i64 n).wf = true) := readsM_int Tryz.underlying3
theorem r4 : ReadsM Tryz.prog 4 (fun b : Bool => [.lit (.bool b)]) (fun _ => True) := readsM_bool Tryz.underlying4
theorem r23 : ReadsM Tryz.prog 23 (fun x : M.Conf => (eConf x).cells) (fun x => x.msg ≤ 9223372036854775807) := readsM_map (readsM_struct Tryz.underlying23 (ReadsMF.cons r3 rfl (ReadsMF.cons r3 rfl (ReadsMF.cons r3w rfl (ReadsMF.cons r3 rfl (ReadsMF.cons r3 rfl (ReadsMF.cons r3 rfl (ReadsMF.cons r3 rfl (ReadsMF.cons r3 rfl (ReadsMF.cons r3 rfl (ReadsMF.cons r3 rfl (ReadsMF.cons r3 rfl (ReadsMF.cons r3 rfl (ReadsMF.cons r3 rfl (ReadsMF.cons r3 rfl (ReadsMF.cons r3 rfl (ReadsMF.cons r4 rfl (ReadsMF.one r3 rfl (by kernel_rfl))))))))))))))))))) _ (fun x => M.Conf.mk x.1 x.2.1 x.2.2.1 x.2.2.2.1 x.2.2.2.2.1 x.2.2.2.2.2.1 x.2.2.2.2.2.2.1 x.2.2.2.2.2.2.2.1 x.2.2.2.2.2.2.2.2.1 x.2.2.2.2.2.2.2.2.2.1 x.2.2.2.2.2.2.2.2.2.2.1 x.2.2.2.2.2.2.2.2.2.2.2.1 x.2.2.2.2.2.2.2.2.2.2.2.2.1 x.2.2.2.2.2.2.2.2.2.2.2.2.2.1 x.2.2.2.2.2.2.2.2.2.2.2.2.2.2.1 x.2.2.2.2.2.2.2.2.2.2.2.2.2.2.2.1 x.2.2.2.2.2.2.2.2.2.2.2.2.2.2.2.2) (fun _ _ => rfl) (fun _ h => wf_le h.2.2.1)
abbrev laidL : List (String × DataW Unit) := [("precentor/num.bounds", Rows.laid_precentor_num_bounds)]
theorem gB : Tryz.prog.globalNamed "precentor/num.bounds" = some 0 := by kernel_rfl
theorem tB : (Tryz.prog.globals[0]?).map (·.type) = some 266 := by kernel_rfl
theorem door_met (os : Os) (args : Array Value) : laidMetH Tryz.prog laidL ((World.doorLaid Tryz.prog 40 os).forCall (fun _ _ => 0) ⟨#[], args, []⟩).memory :=
  laidMetH_of_parts3 (fuel := 8) (laidMet_of_run' 8 (by kernel_rfl) (by kernel_rfl)) (by kernel_rfl) (by kernel_rfl)
theorem globOk {W : World} (h : laidMetH Tryz.prog laidL W) : GlobOk Tryz.prog (fun b => b < W.heap.size) W := by
  rw [MakeChecks.laidMetH_plain _ _ _ (by kernel_rfl)] at h
  obtain ⟨ps, ⟨g0, t0, cs0, f0, p0, q0, hg0, ht0, hv0, hd0, _⟩, _, _⟩ := h
  obtain rfl := Option.some.inj (gB.symm.trans hg0)
  obtain rfl := Option.some.inj (tB.symm.trans ht0)
  intro x hx
  have hx : x ∈ [((0 : Nat), ([0, 255, 65535, 0, 0, 0, 0, 0, 4611686018427387904].map I))] := hx
  rw [List.mem_singleton.1 hx]
  exact glob_arr hg0 hv0 Tryz.underlying266 (by kernel_rfl) Tryz.underlying3 (by decide) (by decide) hd0
set_option maxRecDepth 100000 in
theorem lifted (os : Os) (started : os.Started) (H : Type) (enc : TypeId × Value → H) :
    ReturnsInHanded {} Tryz.checked os 3 .any (fun w args => (Rows.membFitsSpec.pre enc Tryz.prog Tryz.f3 [] false w args ∧ laidMetH Tryz.prog laidL w) ∧ sizedMet enc Tryz.prog Tryz.f3 (OpenSpec.ofChange Rows.membFitsSpec) false w args) (Rows.membFitsSpec.post enc Tryz.prog Tryz.f3 false true false false) := by
  refine returnsInHanded_of_change_and (C := Tryz.checked) (X := fun w _ => laidMetH Tryz.prog laidL w) (fun _ _ _ hh h => h.of_heap hh) own started (by kernel_rfl) Tryz.func3
    (ChangeSpec.witness_shaped (enc := enc) (C := Tryz.checked) (os := os) (X := fun w _ => laidMetH Tryz.prog laidL w) false (World.doorLaid Tryz.prog 40 os) #[.agg #[.int .i64 0, .int .i64 0, .int .i64 0, .int .i64 0, .int .i64 0, .int .i64 0, .int .i64 0, .int .i64 0, .int .i64 0, .int .i64 0, .int .i64 0, .int .i64 0, .int .i64 0, .int .i64 0, .int .i64 0, .bool false, .int .i64 0], .int .i64 0] 8 rfl (World.shaped_of_RefB (by kernel_rfl) (by kernel_rfl)) (by kernel_rfl) (by kernel_rfl) (by kernel_rfl) (door_met os _)) ?_
  intro W base args ds gs before hval0 hW hcnd hsz0 hL _
  have hsz : (DataW.weightsEach Tryz.prog (Tryz.f3.params.toList ++ Rows.membFitsSpec.plain.varTypes Tryz.prog) (ds ++ gs)).all (· ≤ reachBytes) = true := hsz0
  have hval : ∀ (j : Nat) t v, Tryz.f3.params[j]? = some t → args[j]? = some v → Value.okWide Tryz.prog W .any base t v := hval0
  have hW' := hW
  obtain ⟨p, q, hA0, hV, rfl, hfz, hnd⟩ := hW
  have hA : DataW.TrodAll enc Tryz.prog W 0 (fun _ => true) true Tryz.f3.params.toList args.toList ds p := hA0
  rw [Tryz.params3] at hA hval hsz
  obtain ⟨v0, vs0, d0, ds0, p0, q0, hargs, rfl, rfl, h0, r0⟩ := trodAll_cons hA
  obtain ⟨v1, vs1, d1, ds1, p1, q1, rfl, rfl, rfl, h1, r1⟩ := trodAll_cons r0
  obtain ⟨rfl, rfl, rfl⟩ := trodAll_nil r1
  obtain rfl : args = #[v0, v1] := by cases args; simp_all
  obtain ⟨rfl, rfl⟩ := trodVars_none hV
  have k0 := h0
  have k1 := h1
  have lt0 : ∀ x ∈ p0, x.block < W.heap.size := by obtain ⟨m, hm⟩ := k0; exact DataW.trod_lt m _ _ _ hm
  have lt1 : ∀ x ∈ p1, x.block < W.heap.size := by obtain ⟨m, hm⟩ := k1; exact DataW.trod_lt m _ _ _ hm
  obtain ⟨fu0, hf0⟩ := h0
  obtain ⟨fu1, hf1⟩ := h1
  obtain ⟨x0, hK0, hw0⟩ := Go.Proofs.YtndomnacflndmaaGreatDoor.membFits.r23 H enc W _ _ fu0 _ _ hf0 (sizes_of hsz (j := 0) rfl rfl)
  obtain ⟨x1, hK1, _⟩ := Go.Proofs.YtndomnacflndmaaGreatDoor.membFits.r3 H enc W _ _ fu1 _ _ hf1 (sizes_of hsz (j := 1) rfl rfl)
  obtain ⟨ar0, rfl, hz0⟩ := okWide_struct Tryz.underlying23 (hval 0 23 v0 rfl rfl)
  obtain ⟨n1, rfl⟩ : ∃ n, v1 = .int .i64 n := okWide_int Tryz.underlying3 (hval 1 3 v1 rfl rfl)
  clear hA0 hval0 hsz0 hsz
  refine (ct_trueG (globOk hL) (M.law_fits M.run_precentorlaw21_shown x0 x1 hw0) (PW.consM (Rep.aggOf hK0) (PW.consM (PW.head hK1) PW.nil))).mono fun e W' ⟨he, hd⟩ => ?_
  have bel := hd
  subst he
  exact ⟨_, rfl, _, _, _, [], _, [], hW', trodAll_mk1 (shut_bool Tryz.underlying4 _), (trodAll_cons_mk (Below.trod laidOut (by kernel_rfl) (of_decide_eq_true (by kernel_rfl)) k0 bel lt0) (trodAll_cons_mk (Below.trod laidOut (by kernel_rfl) (of_decide_eq_true (by kernel_rfl)) k1 bel lt1) trodAll_mk0)), rfl, bel.frame _, fun h => by cases h⟩
noncomputable def clos : List Nat := [3, 4, 10, 5, 7, 20, 27, 22, 28, 21, 59, 60, 23, 11, 37, 69, 70, 71, 12, 38, 72, 120, 121, 170, 202, 203, 236, 237, 252, 262, 261, 238, 253, 263, 264, 254, 122, 39, 19, 58, 116, 167, 168, 73, 123, 125, 177, 172, 196, 171, 204, 175, 207, 206, 129, 174, 124, 176, 173, 205, 126, 127, 178, 128, 179, 40, 74, 131, 130, 180, 75, 132, 181, 182, 41, 77, 76, 133, 183, 141, 189, 215, 216, 190, 217, 218, 219, 220, 221, 222, 223, 224, 225, 81, 134, 184, 185, 208, 209, 87, 143, 210, 186, 211, 212, 239, 213, 49, 100, 160, 198, 161, 199, 158, 197, 231, 99, 159, 101, 137, 102, 162, 163, 103, 135, 187, 214, 106, 104, 164, 200, 232, 201, 234, 235, 233, 251, 42, 78, 43, 79, 136, 80, 82, 83, 138, 84, 139, 188, 44, 85, 45, 86, 140, 142, 166, 57, 88, 144, 191, 89, 90, 91, 146, 192, 145, 147, 13, 14, 15, 46, 47, 92, 93, 148, 149, 150, 193, 226, 227, 48, 94, 151, 194, 228, 195, 230, 249, 250, 229, 240, 246, 260, 241, 255, 242, 256, 257, 243, 258, 259, 265, 244, 245, 247, 248, 152, 95, 153, 97, 155, 156, 96, 154, 98, 157, 16, 17, 50, 105, 165, 107, 108, 109, 110, 51, 111, 52, 53, 112, 113, 114, 54, 115, 55, 56, 18, 6, 8, 29, 30, 31, 24, 61, 62, 25, 26, 9, 32, 63, 117, 169, 64, 65, 33, 66, 34, 67, 118, 119, 35, 68, 36]
theorem clos_at : closQ Tryz.prog 781 [3] 0 [] = some clos.reverse := by kernel_rfl
theorem clos_fuel : Nat.ble 781 (1 + (Tryz.prog.funcs.toList.map fun g => (Tryz.prog.leadsTo g).length + 1).sum) = true := by kernel_rfl
theorem clos_ok : Tryz.prog.closure 3 = clos := closure_of clos_at clos_fuel (List.reverse_reverse _)
theorem c1 : (Rows.membFitsRow.wf (OpenSpec.ofChange Rows.membFitsSpec)) = true := by kernel_rfl
theorem c2 : laidOutB Tryz.prog = true := by kernel_rfl
theorem c3 : mapsRowed Tryz.prog = true := by kernel_rfl
theorem c4 : Tryz.f3.params.all (Tryz.prog.readableRec ·) = true := by kernel_rfl
theorem c5 : namedTie Tryz.prog Rows.membFitsRow.named Rows.membFitsSpec.vars = true := by kernel_rfl
theorem c6 : (Rows.membFitsRow.stops == []) = true := by kernel_rfl
theorem c7 : (Tryz.prog.stops == []) = true := by kernel_rfl
theorem c8 : (Rows.membFitsRow.knobs == []) = true := by kernel_rfl
theorem c9 : (Tryz.prog.stopKnobs == []) = true := by kernel_rfl
theorem c10 : Rows.membFitsRow.inPlace = Tryz.prog.inPlace 3 := inPlace_of clos_ok (by kernel_rfl)
theorem c11 : Rows.membFitsRow.unfollowed = Tryz.prog.unfollowed 3 := unfollowed_of clos_ok (by kernel_rfl)
theorem c12 : Rows.membFitsRow.recurses = Tryz.prog.recurses 3 := recurses_of (show true = _ from (show Rows.membFitsRow.unfollowed = true by kernel_rfl) ▸ c11) (by kernel_rfl)
theorem c13 : Rows.membFitsRow.named = Tryz.prog.varsNamed 3 := varsNamed_of clos_ok (by kernel_rfl)
theorem c14 : (Rows.membFitsRow.maps == (Tryz.f3.params.toList ++ Rows.membFitsSpec.plain.varTypes Tryz.prog).any (Tryz.prog.mapsRec ·)) = true := by kernel_rfl
theorem c15 : (Rows.membFitsRow.ifaces == (Tryz.f3.params.toList ++ Rows.membFitsSpec.plain.varTypes Tryz.prog).any (Tryz.prog.ifacesRec ·)) = true := by kernel_rfl
theorem c16 : (Rows.membFitsRow.mapsOut == Tryz.prog.mapsAmong Tryz.f3.resultTypes.toList) = true := by kernel_rfl
theorem c17 : (Rows.membFitsRow.loops == (Tryz.f3.params.toList ++ Rows.membFitsSpec.plain.varTypes Tryz.prog).any (Tryz.prog.loopsFrom ·)) = true := by kernel_rfl
theorem c18 : (Rows.membFitsRow.wideKeys == (Tryz.f3.params.toList ++ Rows.membFitsSpec.plain.varTypes Tryz.prog ++ Tryz.f3.resultTypes.toList).any (Tryz.prog.wideKeysFrom ·)) = true := by kernel_rfl
theorem c19 : Rows.membFitsSpec.vars.all (Tryz.prog.varReadable ·) = true := by kernel_rfl
theorem c20 : Tryz.f3.resultTypes.all (fun t => Tryz.prog.readableRec t && decide (t < Tryz.prog.types.size)) = true := by kernel_rfl
theorem c21 : (Rows.membFitsRow.ifacesOut == Tryz.f3.resultTypes.toList.any (Tryz.prog.ifacesRec ·)) = true := by kernel_rfl
theorem c22 : (Rows.membFitsRow.loopsOut == Tryz.f3.resultTypes.toList.any (Tryz.prog.loopsFrom ·)) = true := by kernel_rfl
theorem c23 : (Rows.membFitsRow.plainKeys == Tryz.prog.plainKeys) = true := by kernel_rfl
theorem c24 : (Rows.membFitsRow.shortTexts.isNone && Tryz.prog.stopsHeard && Tryz.prog.mayEnter) = true := by kernel_rfl
theorem c25 : (Rows.membFitsRow.lifted == Tryz.prog.liftsFinal) = true := by kernel_rfl
theorem c26 : (Tryz.prog.make == some Rows.membFitsRow.make) = true := by kernel_rfl
theorem c27 : (Rows.membFitsRow.kinds == (if Rows.membFitsRow.domain.isEmpty then [] else Tryz.f3.params.toList.map fun t => match Tryz.prog.underlying t with | some (.int k) => some k | _ => none)) = true := by kernel_rfl
theorem c28 : (Rows.membFitsRow.pinned == Rows.membFitsRow.pinnedBy) = true := by kernel_rfl
theorem c29 : (Rows.membFitsRow.veiled == (Tryz.f3.params.toList ++ Rows.membFitsSpec.plain.varTypes Tryz.prog ++ Tryz.f3.resultTypes.toList).any (Tryz.prog.veiledRec ·)) = true := by kernel_rfl
theorem c30 : Rows.membFitsRow.veiledFits Tryz.prog Tryz.f3.params.toList (Tryz.f3.params.toList ++ Rows.membFitsSpec.plain.varTypes Tryz.prog ++ Tryz.f3.resultTypes.toList) = true := by kernel_rfl
theorem closed : joinedFacts Tryz.prog 3 Tryz.f3 Rows.membFitsSpec Rows.membFitsRow = true := joined_of c1 c2 c3 c4 c5 c6 c7 c8 c9 c10 c11 c12 c13 c14 c15 c16 c17 c18 c19 c20 c21 c22 c23 c24 c25 c26 c27 c28 c29 c30
theorem named_at : Tryz.prog.funcNamed Rows.membFitsRow.func = some 3 := by kernel_rfl
theorem over : Rows.membFitsRow.holds Tryz.pinned (OpenSpec.ofChange Rows.membFitsSpec) :=
  OpenClaim.holds_of_wide 3 Tryz.f3 rfl rfl rfl rfl rfl rfl rfl ⟨rfl, rfl, rfl, rfl, rfl⟩ rfl rfl rfl rfl rfl named_at Tryz.func3 closed
    (of_decide_eq_true (by kernel_rfl)) (by unfold Func.isWrapper; first | (rw [if_pos (by decide +kernel)]; kernel_rfl) | (rw [if_neg (by decide +kernel)]; exact ⟨rfl, rfl⟩))
    (fun os started H enc _ => lifted os started H enc)
theorem d1 : Rows.membFitsRow.wfByText (OpenSpec.ofChange Rows.membFitsSpec) = true := by kernel_rfl
theorem d2 : Tryz.pinned.checked.prog.mainIs = some (true, "4c1154447ad009bcdc44a77e7dbf1f26441ec0b8ef3be59f58fc0fbbb8b5fa3c".toList) := by kernel_rfl
theorem d3 : true = Tryz.pinned.checked.prog.looks [] := by kernel_rfl
theorem d4 : false = Rows.membFitsRow.goesBy Tryz.pinned.checked.prog := by kernel_rfl
theorem d5 : Tryz.prog.funcNamed "precentor/precentorlaw21.MembFits" = some 3 := by kernel_rfl
theorem d6 : ([23, 3].all fun u => !Tryz.prog.wantsStandIn u) = true := by kernel_rfl
theorem card : Rows.MembFitsCardSaid :=
  Claim7.holds_tied_plain_at .later [] [.data] true (true, "4c1154447ad009bcdc44a77e7dbf1f26441ec0b8ef3be59f58fc0fbbb8b5fa3c") true
    over (fun _ h => by cases h) d1 (fun _ h => by cases h) membFits_row_tie rfl ⟨rfl, rfl⟩ d2 rfl
    (fun f fn hf hfn => by
      obtain rfl : f = 3 := Option.some.inj (d5.symm.trans hf) |>.symm
      obtain rfl : fn = Tryz.f3 := (Option.some.inj (Tryz.func3.symm.trans hfn)).symm
      exact ⟨d3, fun j t ht => by
        rw [Tryz.params3] at ht
        have hm : t ∈ [23, 3] := by simpa using Array.mem_of_getElem? ht
        exact (show Tryz.prog.wantsStandIn t = false by simpa using List.all_eq_true.1 d6 t hm)⟩)
    d4
end Go.Proofs.YtndomnacflndmaaGreatDoor.membFits
namespace Go.Proofs.YtndomnacflndmaaGreatDoor
/-- The tied card, under a short name, for the claim. -/
theorem membFits_holds : Rows.MembFitsCardSaid := membFits.card
end Go.Proofs.YtndomnacflndmaaGreatDoor
