/- The law precentorlaw24.ToolBytes returns true for every input of its row; its tied card (condition: none but what the row itself says). -/
import Derived.Test.YthcmkipbdgndoaaGreatDoorRows
import Derived.Test.YthcmkipbdgndoaaGreatDoorTie
import Derived.Test.YthcmkipbdgndoaaGreatDoorCards
import Derived.Test.YthcmkipbdgndoaaGreatDoorP24z
import Derived.Test.YthcmkipbdgndoaaGreatDoorSh24
import Derived.Test.YthcmkipbdgndoaaGreatDoorNx35
import Derived.Test.YthcmkipbdgndoaaGreatDoorNx36
import Derived.LaidMore
import Derived.Stop.Joined
import Derived.SevenTiedAt
import Derived.Lay
import Derived.MakeChecks
import Derived.WalkKit
import Derived.ProofKit
import Derived.OpenShut
import Derived.ShutString
import Derived.ChangeOld
import Derived.Below
import Derived.SizedLaws
set_option linter.all false
set_option linter.unusedVariables false
set_option linter.unusedSimpArgs false
set_option linter.unnecessarySimpa false
namespace Go.Proofs.YthcmkipbdgndoaaGreatDoor.toolBytes
open Go Go.Mir Go.Proofs Go.RowKit Go.ChangeShapes Go.WideShapes Go.ChangeAt Go.Proofs.YthcmkipbdgndoaaGreatDoor.M
set_option linter.unusedVariables false
set_option maxRecDepth 100000
theorem own : ownKnob Tryz.prog.godebug = none := by kernel_rfl
theorem laidOut : laidOutB Tryz.prog = true := by kernel_rfl
theorem r5 : ReadsM Tryz.prog 5 (fun n : UInt8 => [U8 n]) (fun _ => True) := readsM_u8 Tryz.underlying5
theorem r22 : ReadsM Tryz.prog 22 (fun x : List UInt8 => [.sl false (x.map U8)]) (fun _ => True) := readsM_list U8 false Tryz.underlying22 r5 (B := 1) (by kernel_rfl) (by decide) (fun _ => rfl) (fun _ => rfl)
abbrev laidL : List (String × DataW Unit) := Rows.toolBytesRow.laid
theorem gB : Tryz.prog.globalNamed "precentor/num.bounds" = some 1 := by kernel_rfl
theorem tB : (Tryz.prog.globals[1]?).map (·.type) = some 245 := by kernel_rfl
theorem door_met (os : Os) (args : Array Value) : laidMetH Tryz.prog laidL ((World.laidAll Tryz.prog os laidL).forCall (fun _ _ => 0) ⟨#[], args, []⟩).memory :=
  laidMetH_of_parts3 (fuel := 8) (laidMet_laidAll _ (by kernel_rfl) (by kernel_rfl)) (by kernel_rfl) (by kernel_rfl)
theorem globOk {W : World} (h : laidMetH Tryz.prog laidL W) : GlobOk Tryz.prog (fun b => b < W.heap.size) W := by
  rw [MakeChecks.laidMetH_plain _ _ _ (by kernel_rfl)] at h
  obtain ⟨ps, ⟨_, _, _, _, _, _, _, _, _, _, ⟨_, _, _, _, _, _, _, _, _, _, ⟨_, _, _, _, _, _, _, _, _, _, ⟨g0, t0, cs0, f0, p0, q0, hg0, ht0, hv0, hd0, _⟩, _⟩, _⟩, _⟩, _, _⟩ := h
  obtain rfl := Option.some.inj (gB.symm.trans hg0)
  obtain rfl := Option.some.inj (tB.symm.trans ht0)
  intro x hx
  have hx : x ∈ [((1 : Nat), ([0, 255, 65535, 0, 0, 0, 0, 0, 4611686018427387904].map I))] := hx
  rw [List.mem_singleton.1 hx]
  exact glob_arr hg0 hv0 Tryz.underlying245 (by kernel_rfl) Tryz.underlying3 (by decide) (by decide) hd0
set_option maxRecDepth 100000 in
theorem lifted (os : Os) (started : os.Started) (H : Type) (enc : TypeId × Value → H) :
    ReturnsInHanded {} Tryz.checked os 3 .any (fun w args => (Rows.toolBytesSpec.pre enc Tryz.prog Tryz.f3 [] false w args ∧ laidMetH Tryz.prog laidL w) ∧ sizedMet enc Tryz.prog Tryz.f3 (OpenSpec.ofChange Rows.toolBytesSpec) false w args) (Rows.toolBytesSpec.post enc Tryz.prog Tryz.f3 false true false false) := by
  refine returnsInHanded_of_change_and (C := Tryz.checked) (X := fun w _ => laidMetH Tryz.prog laidL w) (fun _ _ _ hh h => h.of_heap hh) own started (by kernel_rfl) Tryz.func3
    (ChangeSpec.witness_shaped (enc := enc) (C := Tryz.checked) (os := os) (X := fun w _ => laidMetH Tryz.prog laidL w) false (World.laidAll Tryz.prog os laidL) #[.slice none 0 0, .int .u8 0, .int .u8 0] 8 (World.laidAll_os _ _ _) (World.shaped_of_ZipB (by kernel_rfl) (by kernel_rfl)) (by kernel_rfl) (by kernel_rfl) (by kernel_rfl) (door_met os _)) ?_
  intro W base args ds gs before hval0 hW hcnd hsz0 hL _
  have hsz : (DataW.weightsEach Tryz.prog (Tryz.f3.params.toList ++ Rows.toolBytesSpec.plain.varTypes Tryz.prog) (ds ++ gs)).all (· ≤ reachBytes) = true := hsz0
  have hval : ∀ (j : Nat) t v, Tryz.f3.params[j]? = some t → args[j]? = some v → Value.okWide Tryz.prog W .any base t v := hval0
  have hW' := hW
  obtain ⟨p, q, hA0, hV, rfl, hfz, hnd⟩ := hW
  have hA : DataW.TrodAll enc Tryz.prog W 0 (fun _ => true) true Tryz.f3.params.toList args.toList ds p := hA0
  rw [Tryz.params3] at hA hval hsz
  obtain ⟨v0, vs0, d0, ds0, p0, q0, hargs, rfl, rfl, h0, r0⟩ := trodAll_cons hA
  obtain ⟨v1, vs1, d1, ds1, p1, q1, rfl, rfl, rfl, h1, r1⟩ := trodAll_cons r0
  obtain ⟨v2, vs2, d2, ds2, p2, q2, rfl, rfl, rfl, h2, r2⟩ := trodAll_cons r1
  obtain ⟨rfl, rfl, rfl⟩ := trodAll_nil r2
  obtain rfl : args = #[v0, v1, v2] := by cases args; simp_all
  obtain ⟨rfl, rfl⟩ := trodVars_none hV
  have k0 := h0
  have k1 := h1
  have k2 := h2
  have lt0 : ∀ x ∈ p0, x.block < W.heap.size := by obtain ⟨m, hm⟩ := k0; exact DataW.trod_lt m _ _ _ hm
  have lt1 : ∀ x ∈ p1, x.block < W.heap.size := by obtain ⟨m, hm⟩ := k1; exact DataW.trod_lt m _ _ _ hm
  have lt2 : ∀ x ∈ p2, x.block < W.heap.size := by obtain ⟨m, hm⟩ := k2; exact DataW.trod_lt m _ _ _ hm
  obtain ⟨fu0, hf0⟩ := h0
  obtain ⟨fu1, hf1⟩ := h1
  obtain ⟨fu2, hf2⟩ := h2
  obtain ⟨x0, hK0, _⟩ := Go.Proofs.YthcmkipbdgndoaaGreatDoor.toolBytes.r22 H enc W _ _ fu0 _ _ hf0 (sizes_of hsz (j := 0) rfl rfl)
  obtain ⟨x1, hK1, _⟩ := Go.Proofs.YthcmkipbdgndoaaGreatDoor.toolBytes.r5 H enc W _ _ fu1 _ _ hf1 (sizes_of hsz (j := 1) rfl rfl)
  obtain ⟨x2, hK2, _⟩ := Go.Proofs.YthcmkipbdgndoaaGreatDoor.toolBytes.r5 H enc W _ _ fu2 _ _ hf2 (sizes_of hsz (j := 2) rfl rfl)
  obtain ⟨sa0, sl0, sc0, rfl⟩ := okWide_slice Tryz.underlying22 (hval 0 22 v0 rfl rfl)
  obtain ⟨n1, rfl⟩ : ∃ n, v1 = .int .u8 n := okWide_int Tryz.underlying5 (hval 1 5 v1 rfl rfl)
  obtain ⟨n2, rfl⟩ : ∃ n, v2 = .int .u8 n := okWide_int Tryz.underlying5 (hval 2 5 v2 rfl rfl)
  clear hA0 hval0 hsz0 hsz
  refine (ct_trueG (globOk hL) (M.toolBytes x0 x1 x2) (PW.consM (PW.head hK0) (PW.consM (PW.head hK1) (PW.consM (PW.head hK2) PW.nil)))).mono fun e W' ⟨he, hd⟩ => ?_
  have bel := hd
  subst he
  exact ⟨_, rfl, _, _, _, [], _, [], hW', trodAll_mk1 (shut_bool Tryz.underlying4 _), (trodAll_cons_mk (Below.trod laidOut (by kernel_rfl) (of_decide_eq_true (by kernel_rfl)) k0 bel lt0) (trodAll_cons_mk (Below.trod laidOut (by kernel_rfl) (of_decide_eq_true (by kernel_rfl)) k1 bel lt1) (trodAll_cons_mk (Below.trod laidOut (by kernel_rfl) (of_decide_eq_true (by kernel_rfl)) k2 bel lt2) trodAll_mk0))), rfl, bel.frame _, fun h => by cases h⟩
noncomputable def clos : List Nat := [3, 5, 10, 17, 55, 56, 19, 20, 21, 59, 86, 125, 174, 87, 88, 89, 9, 18, 57, 80, 81, 83, 82, 58, 84, 123, 124, 85, 8, 12, 25, 26, 62, 94, 130, 64, 32, 34, 70, 63, 27, 28, 65, 95, 131, 177, 178, 231, 260, 261, 281, 282, 296, 306, 305, 283, 297, 307, 308, 298, 179, 96, 115, 162, 222, 254, 255, 132, 180, 182, 238, 233, 252, 232, 262, 236, 265, 264, 186, 235, 181, 237, 234, 263, 183, 184, 239, 185, 240, 97, 133, 188, 187, 241, 134, 189, 242, 243, 98, 136, 135, 190, 244, 111, 153, 201, 202, 154, 203, 204, 205, 206, 207, 208, 209, 210, 211, 140, 191, 245, 246, 266, 267, 145, 197, 268, 247, 269, 270, 284, 271, 116, 163, 223, 256, 224, 257, 220, 253, 276, 161, 221, 164, 194, 165, 225, 226, 166, 192, 248, 272, 212, 167, 227, 258, 277, 259, 279, 280, 278, 295, 99, 137, 100, 138, 193, 139, 141, 142, 195, 143, 196, 249, 101, 144, 102, 69, 110, 112, 155, 117, 146, 198, 152, 147, 148, 149, 105, 150, 104, 106, 66, 103, 74, 29, 30, 67, 68, 107, 108, 109, 151, 199, 200, 31, 33, 35, 36, 37, 38, 39, 40, 41, 71, 73, 72, 113, 114, 156, 213, 250, 273, 251, 275, 294, 170, 274, 285, 291, 304, 286, 299, 287, 300, 301, 288, 302, 303, 309, 289, 290, 292, 293, 214, 157, 215, 159, 217, 218, 158, 216, 160, 219, 42, 44, 43, 45, 46, 47, 48, 75, 76, 77, 49, 50, 13, 15, 53, 79, 119, 120, 169, 171, 121, 122, 172, 173, 228, 229, 51, 14, 52, 78, 61, 93, 118, 168, 23, 24, 16, 54, 11, 22, 60, 90, 126, 127, 175, 91, 128, 92, 129, 176, 230, 6, 7]
theorem clos_at : closQ Tryz.prog 904 [3] 0 [] = some clos.reverse := by kernel_rfl
theorem clos_fuel : Nat.ble 904 (1 + (Tryz.prog.funcs.toList.map fun g => (Tryz.prog.leadsTo g).length + 1).sum) = true := by kernel_rfl
theorem clos_ok : Tryz.prog.closure 3 = clos := closure_of clos_at clos_fuel (List.reverse_reverse _)
theorem c1 : (Rows.toolBytesRow.wf (OpenSpec.ofChange Rows.toolBytesSpec)) = true := by kernel_rfl
theorem c2 : laidOutB Tryz.prog = true := by kernel_rfl
theorem c3 : mapsRowed Tryz.prog = true := by kernel_rfl
theorem c4 : Tryz.f3.params.all (Tryz.prog.readableRec ·) = true := by kernel_rfl
theorem c5 : namedTie Tryz.prog Rows.toolBytesRow.named Rows.toolBytesSpec.vars = true := by kernel_rfl
theorem c6 : (Rows.toolBytesRow.stops == []) = true := by kernel_rfl
theorem c7 : (Tryz.prog.stops == []) = true := by kernel_rfl
theorem c8 : (Rows.toolBytesRow.knobs == []) = true := by kernel_rfl
theorem c9 : (Tryz.prog.stopKnobs == []) = true := by kernel_rfl
theorem c10 : Rows.toolBytesRow.inPlace = Tryz.prog.inPlace 3 := inPlace_of clos_ok (by kernel_rfl)
theorem c11 : Rows.toolBytesRow.unfollowed = Tryz.prog.unfollowed 3 := unfollowed_of clos_ok (by kernel_rfl)
theorem c12 : Rows.toolBytesRow.recurses = Tryz.prog.recurses 3 := recurses_of (show true = _ from (show Rows.toolBytesRow.unfollowed = true by kernel_rfl) ▸ c11) (by kernel_rfl)
theorem c13 : Rows.toolBytesRow.named = Tryz.prog.varsNamed 3 := varsNamed_of clos_ok (by kernel_rfl)
theorem c14 : (Rows.toolBytesRow.maps == (Tryz.f3.params.toList ++ Rows.toolBytesSpec.plain.varTypes Tryz.prog).any (Tryz.prog.mapsRec ·)) = true := by kernel_rfl
theorem c15 : (Rows.toolBytesRow.ifaces == (Tryz.f3.params.toList ++ Rows.toolBytesSpec.plain.varTypes Tryz.prog).any (Tryz.prog.ifacesRec ·)) = true := by kernel_rfl
theorem c16 : (Rows.toolBytesRow.mapsOut == Tryz.prog.mapsAmong Tryz.f3.resultTypes.toList) = true := by kernel_rfl
theorem c17 : (Rows.toolBytesRow.loops == (Tryz.f3.params.toList ++ Rows.toolBytesSpec.plain.varTypes Tryz.prog).any (Tryz.prog.loopsFrom ·)) = true := by kernel_rfl
theorem c18 : (Rows.toolBytesRow.wideKeys == (Tryz.f3.params.toList ++ Rows.toolBytesSpec.plain.varTypes Tryz.prog ++ Tryz.f3.resultTypes.toList).any (Tryz.prog.wideKeysFrom ·)) = true := by kernel_rfl
theorem c19 : Rows.toolBytesSpec.vars.all (Tryz.prog.varReadable ·) = true := by kernel_rfl
theorem c20 : Tryz.f3.resultTypes.all (fun t => Tryz.prog.readableRec t && decide (t < Tryz.prog.types.size)) = true := by kernel_rfl
theorem c21 : (Rows.toolBytesRow.ifacesOut == Tryz.f3.resultTypes.toList.any (Tryz.prog.ifacesRec ·)) = true := by kernel_rfl
theorem c22 : (Rows.toolBytesRow.loopsOut == Tryz.f3.resultTypes.toList.any (Tryz.prog.loopsFrom ·)) = true := by kernel_rfl
theorem c23 : (Rows.toolBytesRow.plainKeys == Tryz.prog.plainKeys) = true := by kernel_rfl
theorem c24 : (Rows.toolBytesRow.shortTexts.isNone && Tryz.prog.stopsHeard && Tryz.prog.mayEnter) = true := by kernel_rfl
theorem c25 : (Rows.toolBytesRow.lifted == Tryz.prog.liftsFinal) = true := by kernel_rfl
theorem c26 : (Tryz.prog.make == some Rows.toolBytesRow.make) = true := by kernel_rfl
theorem c27 : (Rows.toolBytesRow.kinds == (if Rows.toolBytesRow.domain.isEmpty then [] else Tryz.f3.params.toList.map fun t => match Tryz.prog.underlying t with | some (.int k) => some k | _ => none)) = true := by kernel_rfl
theorem c28 : (Rows.toolBytesRow.pinned == Rows.toolBytesRow.pinnedBy) = true := by kernel_rfl
theorem c29 : (Rows.toolBytesRow.veiled == (Tryz.f3.params.toList ++ Rows.toolBytesSpec.plain.varTypes Tryz.prog ++ Tryz.f3.resultTypes.toList).any (Tryz.prog.veiledRec ·)) = true := by kernel_rfl
theorem c30 : Rows.toolBytesRow.veiledFits Tryz.prog Tryz.f3.params.toList (Tryz.f3.params.toList ++ Rows.toolBytesSpec.plain.varTypes Tryz.prog ++ Tryz.f3.resultTypes.toList) = true := by kernel_rfl
theorem closed : joinedFacts Tryz.prog 3 Tryz.f3 Rows.toolBytesSpec Rows.toolBytesRow = true := joined_of c1 c2 c3 c4 c5 c6 c7 c8 c9 c10 c11 c12 c13 c14 c15 c16 c17 c18 c19 c20 c21 c22 c23 c24 c25 c26 c27 c28 c29 c30
theorem named_at : Tryz.prog.funcNamed Rows.toolBytesRow.func = some 3 := by kernel_rfl
theorem over : Rows.toolBytesRow.holds Tryz.pinned (OpenSpec.ofChange Rows.toolBytesSpec) :=
  OpenClaim.holds_of_wide 3 Tryz.f3 rfl rfl rfl rfl rfl rfl rfl ⟨rfl, rfl, rfl, rfl, rfl⟩ rfl rfl rfl rfl rfl named_at Tryz.func3 closed
    (of_decide_eq_true (by kernel_rfl)) (by unfold Func.isWrapper; first | (rw [if_pos (by decide +kernel)]; kernel_rfl) | (rw [if_neg (by decide +kernel)]; exact ⟨rfl, rfl⟩))
    (fun os started H enc _ => lifted os started H enc)
theorem d1 : Rows.toolBytesRow.wfByText (OpenSpec.ofChange Rows.toolBytesSpec) = true := by kernel_rfl
theorem d2 : Tryz.pinned.checked.prog.mainIs = some (true, "c16df9cca5ac45bc449d3fbe7059fd90cf3eab43a757a5d7ec078c43121d5520".toList) := by kernel_rfl
theorem d3 : true = Tryz.pinned.checked.prog.looks [] := by kernel_rfl
theorem d4 : false = Rows.toolBytesRow.goesBy Tryz.pinned.checked.prog := by kernel_rfl
theorem d5 : Tryz.prog.funcNamed "precentor/precentorlaw24.ToolBytes" = some 3 := by kernel_rfl
theorem d6 : ([22, 5, 5].all fun u => !Tryz.prog.wantsStandIn u) = true := by kernel_rfl
theorem card : Rows.ToolBytesCardSaid :=
  Claim7.holds_tied_plain_at .later [] [.data, .data, .data, .data, .data, .pinned] true (true, "c16df9cca5ac45bc449d3fbe7059fd90cf3eab43a757a5d7ec078c43121d5520") true
    over (fun _ h => by cases h) d1 (fun _ h => by cases h) toolBytes_row_tie rfl ⟨rfl, rfl⟩ d2 rfl
    (fun f fn hf hfn => by
      obtain rfl : f = 3 := Option.some.inj (d5.symm.trans hf) |>.symm
      obtain rfl : fn = Tryz.f3 := (Option.some.inj (Tryz.func3.symm.trans hfn)).symm
      exact ⟨d3, fun j t ht => by
        rw [Tryz.params3] at ht
        have hm : t ∈ [22, 5, 5] := by simpa using Array.mem_of_getElem? ht
        exact (show Tryz.prog.wantsStandIn t = false by simpa using List.all_eq_true.1 d6 t hm)⟩)
    d4
end Go.Proofs.YthcmkipbdgndoaaGreatDoor.toolBytes
namespace Go.Proofs.YthcmkipbdgndoaaGreatDoor
/-- The tied card, under a short name, for the claim. -/
theorem toolBytes_holds : Rows.ToolBytesCardSaid := toolBytes.card
end Go.Proofs.YthcmkipbdgndoaaGreatDoor
