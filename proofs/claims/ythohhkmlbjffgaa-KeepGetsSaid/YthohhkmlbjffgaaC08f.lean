import Derived.Test.YthohhkmlbjffgaaC08e
namespace Go.Proofs.Ythohhkmlbjffgaa.M
open Go Go.Mir Go.Proofs Go.RowKit
set_option linter.unusedSimpArgs false
set_option linter.unusedVariables false
attribute [local go_sem] runP_nil runP_skip runP_label runP_ret runP_seq runP_cond_t runP_cond_f way runP_block runP_exit runP_region runP_blk runP_ops_nil runP_opU runP_opD stepU wantedA exitA prep_move prep_assign prep_pick prep_alloc prep_box prep_build prep_buildSlice prep_insert prep_mapUpdate prep_load prep_store prep_nilCheck prep_binOp prep_unOp prep_convert prep_makeFunc prep_makeSlice prep_slice prep_fieldAddr prep_field prep_indexAddr prep_index prep_lookup prep_extract prep_callB prep_callF effO_s effO_n bop_add bop_sub bop_mul bop_lss bop_leq bop_gtr bop_geq bop_eql bop_neq bop_eql8 bop_neq8 bop_eqlS bop_neqS uop_not isWild effC evE lk ins putE applyMem Mir.keyOf litE valE newE loadE readCells storeE addrAdd partE builtinE lenE AV.cells PV.cells AV.mkAgg AV.mkTuple allPV AV.isCell PV.isCell Value.flat PV.ofValue PV.ofCell PV.ofCells AV.aggCells asI envOf results? finRV isRow Mir.resolve deep mapR freezeE single giveBack callE keysFrom litVals fin indexAddrE elems buildE placesOf fillA buildSliceE fillS appendE sliceE bndE lookupE insertE findM keyEq kindKey AV.mkFn convE PV.ofCellsB PV.isAgg Blk.freeze RV.scalar PV.scalar norm restrict takeRows giveRows dropEnv dropSto scrub Blk.scrub AV.okRefs keepBelow canon firstRegion makeSliceE stepO okD disj keysOf
attribute [local go_sem] if_true if_false Bool.false_eq_true Option.map_some Option.map_none Option.getD_some Option.getD_none Option.bind_some Option.bind_none List.map_cons List.map_nil List.getElem?_cons_zero List.getElem?_cons_succ List.length_cons List.length_nil List.all_cons List.all_nil List.any_cons List.any_nil List.flatMap_cons List.flatMap_nil List.filter_cons List.filter_nil Bool.and_true Bool.true_and Bool.and_false Bool.false_and Bool.or_true Bool.true_or Bool.or_false Bool.false_or Bool.not_true Bool.not_false and_self and_true true_and and_false false_and or_true true_or or_false false_or List.append_nil List.nil_append List.cons_append List.append_assoc List.drop_zero List.drop_succ_cons List.drop_nil List.take_succ_cons List.take_zero List.take_nil List.set_cons_zero List.set_cons_succ List.set_nil decide_true decide_false beq_self_eq_true Nat.lt_irrefl Nat.zero_add Nat.add_zero Nat.le_refl BEq.rfl Bool.true_beq Bool.false_beq ne_eq not_true_eq_false not_false_eq_true List.size_toArray List.getElem?_toArray List.map_toArray eq_self List.replicate_succ List.replicate_zero List.isEmpty_cons List.isEmpty_nil List.contains_cons List.contains_nil Bool.true_bne Bool.false_bne Bool.not_false List.mem_cons List.not_mem_nil
attribute [local go_sem] sz0 ag0 by0 sz2 ag2 by2 zr2 sz3 ag3 by3 zr3 sz4 ag4 by4 zr4 sz5 ag5 by5 zr5 sz8 ag8 by8 zr8 sz9 ag9 by9 zr9 sz10 ag10 by10 zr10 sz11 ag11 by11 zr11 sz12 ag12 by12 zr12 sz14 ag14 by14 zr14 sz15 ag15 by15 zr15 sz16 ag16 by16 zr16 sz17 ag17 by17 zr17 sz19 ag19 by19 zr19 sz22 ag22 by22 zr22 sz24 ag24 by24 zr24 sz25 ag25 by25 zr25 sz26 ag26 by26 zr26 sz28 ag28 by28 zr28 sz30 ag30 by30 zr30 sz31 ag31 by31 zr31 sz33 ag33 by33 zr33 sz37 ag37 by37 zr37 sz38 ag38 by38 sz40 ag40 by40 sz42 ag42 by42 sz45 ag45 by45 zr45 sz49 ag49 by49 zr49 sz55 ag55 by55 zr55 sz60 ag60 by60 zr60 sz63 ag63 by63 sz64 ag64 by64 zr64 sz66 ag66 by66 zr66 sz69 ag69 by69 zr69 sz72 ag72 by72 zr72 sz73 ag73 by73 zr73 sz75 ag75 by75 zr75 sz79 ag79 by79 zr79 sz85 ag85 by85 zr85 Try.underlying0 Try.underlying2 Try.underlying3 Try.underlying4 Try.underlying5 Try.underlying8 Try.underlying9 Try.underlying10 Try.underlying11 Try.underlying12 Try.underlying14 Try.underlying15 Try.underlying16 Try.underlying17 Try.underlying19 Try.underlying22 Try.underlying24 Try.underlying25 Try.underlying26 Try.underlying28 Try.underlying30 Try.underlying31 Try.underlying33 Try.underlying37 Try.underlying38 Try.underlying40 Try.underlying42 Try.underlying45 Try.underlying49 Try.underlying55 Try.underlying60 Try.underlying63 Try.underlying64 Try.underlying66 Try.underlying69 Try.underlying72 Try.underlying73 Try.underlying75 Try.underlying79 Try.underlying85 lv4_15 lv5_10 lv5_18 lv10_4 lv12_4 lv13_2 lv21_2 lv26_3 lv29_4 lv31_4 lv34_4 lv36_2 lv39_4 lv41_2 lv46_2
attribute [local go_sem] EW
set_option maxRecDepth 100000
set_option maxHeartbeats 4000000
theorem free35 (u n : Int) : call E 35 [I n, .ip [I u] 0] = some [.pv (B (decide (u < n)))] := by
  rw [call_def' (show E.fn 35 = some Try.f35 from rfl) rfl (by simp only [List.length_cons, List.length_nil]; decide)]
  simp only [go_sem, EP, ↓reduceIte, Nat.reduceAdd, Nat.reduceMul, Nat.reduceSub, Nat.reduceEqDiff, Nat.reduceLT, Nat.reduceLeDiff, Nat.reduceBEq, Nat.reduceBNe, reduceCtorEq, Int.reduceLT, Int.reduceLE, Int.reduceEq, Int.reduceBEq, Int.reduceBNe, Int.reduceToNat, Int.reduceAdd, Int.reduceSub, Int.reduceMul, Int.reduceNeg, Try.f35]
theorem get33 (u n : Int) : call E 33 [I n, .ip [I u] 0] = some [.pv (B (n == u))] := by
  rw [call_def' (show E.fn 33 = some Try.f33 from rfl) rfl (by simp only [List.length_cons, List.length_nil]; decide)]
  simp only [go_sem, EP, ↓reduceIte, Nat.reduceAdd, Nat.reduceMul, Nat.reduceSub, Nat.reduceEqDiff, Nat.reduceLT, Nat.reduceLeDiff, Nat.reduceBEq, Nat.reduceBNe, reduceCtorEq, Int.reduceLT, Int.reduceLE, Int.reduceEq, Int.reduceBEq, Int.reduceBNe, Int.reduceToNat, Int.reduceAdd, Int.reduceSub, Int.reduceMul, Int.reduceNeg, Try.f33]
section
variable (g : Nat) (u : Int) (p : Int → Bool)
theorem place42 (hg : ∀ n, call E g [I n, .ip [I u] 0] = some [.pv (B (p n))]) (a : Item) : call E 42 [.agg [I a.kind, I a.seq, I a.epoch, I a.index, I a.total, I a.count, .sl a.lf (a.l.map I), .sl a.bf (a.body.map U8)], .ip [.fn (.func g) [] [.ip [I u] 0]] 0] = some [.pv (B (p a.seq))] := by
  rw [call_def' (show E.fn 42 = some Try.f42 from rfl) rfl (by simp only [List.length_cons, List.length_nil]; decide)]
  simp only [go_sem, EP, ↓reduceIte, Nat.reduceAdd, Nat.reduceMul, Nat.reduceSub, Nat.reduceEqDiff, Nat.reduceLT, Nat.reduceLeDiff, Nat.reduceBEq, Nat.reduceBNe, reduceCtorEq, Int.reduceLT, Int.reduceLE, Int.reduceEq, Int.reduceBEq, Int.reduceBNe, Int.reduceToNat, Int.reduceAdd, Int.reduceSub, Int.reduceMul, Int.reduceNeg, Try.f42, hg]
def idxOf (l : List Item) : Int := match l.findIdx? (fun a => p a.seq) with
  | some i => (i : Int)
  | none => -1
theorem index41 (hg : ∀ n, call E g [I n, .ip [I u] 0] = some [.pv (B (p n))]) (lf : Bool) (l : List Item) (hl : l.length < 4611686018427387904) : call E 41 [.sl lf (l.map eI), .fn (.func 42) [] [.ip [.fn (.func g) [] [.ip [I u] 0]] 0]] = some [.pv (I (idxOf p l))] := by
  rw [call_def' (show E.fn 41 = some Try.f41 from rfl) rfl (by simp only [List.length_cons, List.length_nil]; decide)]
  simp only [go_sem, EP, ↓reduceIte, Nat.reduceAdd, Nat.reduceMul, Nat.reduceSub, Nat.reduceEqDiff, Nat.reduceLT, Nat.reduceLeDiff, Nat.reduceBEq, Nat.reduceBNe, reduceCtorEq, Int.reduceLT, Int.reduceLE, Int.reduceEq, Int.reduceBEq, Int.reduceBNe, Int.reduceToNat, Int.reduceAdd, Int.reduceSub, Int.reduceMul, Int.reduceNeg, Try.f41, List.length_map]
  rw [run_loop]
  simp only [norm, restrict, takeRows, giveRows, dropEnv, dropSto, scrub, Blk.scrub, AV.okRefs, keepBelow, canon, firstRegion, lk, ins, Mir.resolve, deep, mapR, allPV, lv4_15, lv5_10, lv5_18, lv10_4, lv12_4, lv13_2, lv21_2, lv26_3, lv29_4, lv31_4, lv34_4, lv36_2, lv39_4, lv41_2, lv46_2, if_true, if_false, Bool.false_eq_true, Option.map_some, Option.map_none, Option.getD_some, Option.getD_none, Option.bind_some, Option.bind_none, List.map_cons, List.map_nil, List.getElem?_cons_zero, List.getElem?_cons_succ, List.length_cons, List.length_nil, List.all_cons, List.all_nil, List.any_cons, List.any_nil, List.flatMap_cons, List.flatMap_nil, List.filter_cons, List.filter_nil, Bool.and_true, Bool.true_and, Bool.and_false, Bool.false_and, Bool.or_true, Bool.true_or, Bool.or_false, Bool.false_or, Bool.not_true, Bool.not_false, and_self, and_true, true_and, and_false, false_and, or_true, true_or, or_false, false_or, List.append_nil, List.nil_append, List.cons_append, List.append_assoc, List.drop_zero, List.drop_succ_cons, List.drop_nil, List.take_succ_cons, List.take_zero, List.take_nil, List.set_cons_zero, List.set_cons_succ, List.set_nil, decide_true, decide_false, beq_self_eq_true, Nat.lt_irrefl, Nat.zero_add, Nat.add_zero, Nat.le_refl, BEq.rfl, Bool.true_beq, Bool.false_beq, ne_eq, not_true_eq_false, not_false_eq_true, List.size_toArray, List.getElem?_toArray, List.map_toArray, eq_self, List.replicate_succ, List.replicate_zero, List.isEmpty_cons, List.isEmpty_nil, List.contains_cons, List.contains_nil, Bool.true_bne, Bool.false_bne, Bool.not_false, List.mem_cons, List.not_mem_nil, ↓reduceIte, Nat.reduceAdd, Nat.reduceMul, Nat.reduceSub, Nat.reduceEqDiff, Nat.reduceLT, Nat.reduceLeDiff, Nat.reduceBEq, Nat.reduceBNe, reduceCtorEq, Int.reduceLT, Int.reduceLE, Int.reduceEq, Int.reduceBEq, Int.reduceBNe, Int.reduceToNat, Int.reduceAdd, Int.reduceSub, Int.reduceMul, Int.reduceNeg]
  refine loop_ind (R := List RV) (st := fun i : Nat => ⟨[(0, AV.pv (PV.sl lf (List.map eI l))), (1, AV.pv (.fn (.func 42) [] [.ip [.fn (.func g) [] [.ip [I u] 0]] 0])), (4, AV.pv (I 0)), (7, AV.pv (I l.length)), (8, AV.pv (I i))], [], 3, 19⟩) (spec := fun i => some [RV.pv (I (match (l.drop i).findIdx? (fun a => p a.seq) with | some j => ((i + j : Nat) : Int) | none => -1))]) (m := fun i => l.length - i) ?_ 0 |>.trans ?_
  · intro i ih
    by_cases hi : i < l.length
    · have hgt : l[i]? = some l[i] := List.getElem?_eq_getElem hi
      rw [List.drop_eq_getElem_cons hi, List.findIdx?_cons]
      have hw : IntKind.i64.wrap ((i : Int) + 1) = ((i + 1 : Nat) : Int) := wrapI (by omega) (by omega)
      have h0 : (i : Int) < (l.length : Int) := by omega
      have h1 : (0 : Int) ≤ (i : Int) := by omega
      have hx := place42 g u p hg l[i]
      generalize l[i] = a at hgt hx ⊢
      have ih1 := ih (i + 1) (by omega)
      cases c1 : p a.seq
      · simp only [go_sem, EP, ↓reduceIte, Nat.reduceAdd, Nat.reduceMul, Nat.reduceSub, Nat.reduceEqDiff, Nat.reduceLT, Nat.reduceLeDiff, Nat.reduceBEq, Nat.reduceBNe, reduceCtorEq, Int.reduceLT, Int.reduceLE, Int.reduceEq, Int.reduceBEq, Int.reduceBNe, Int.reduceToNat, Int.reduceAdd, Int.reduceSub, Int.reduceMul, Int.reduceNeg, List.length_map, List.getElem?_map, hgt, Int.toNat_natCast, h0, h1, hx, c1, hw]
        rw [run_inloop]
        simp only [norm, restrict, takeRows, giveRows, dropEnv, dropSto, scrub, Blk.scrub, AV.okRefs, keepBelow, canon, firstRegion, lk, ins, Mir.resolve, deep, mapR, allPV, lv4_15, lv5_10, lv5_18, lv10_4, lv12_4, lv13_2, lv21_2, lv26_3, lv29_4, lv31_4, lv34_4, lv36_2, lv39_4, lv41_2, lv46_2, if_true, if_false, Bool.false_eq_true, Option.map_some, Option.map_none, Option.getD_some, Option.getD_none, Option.bind_some, Option.bind_none, List.map_cons, List.map_nil, List.getElem?_cons_zero, List.getElem?_cons_succ, List.length_cons, List.length_nil, List.all_cons, List.all_nil, List.any_cons, List.any_nil, List.flatMap_cons, List.flatMap_nil, List.filter_cons, List.filter_nil, Bool.and_true, Bool.true_and, Bool.and_false, Bool.false_and, Bool.or_true, Bool.true_or, Bool.or_false, Bool.false_or, Bool.not_true, Bool.not_false, and_self, and_true, true_and, and_false, false_and, or_true, true_or, or_false, false_or, List.append_nil, List.nil_append, List.cons_append, List.append_assoc, List.drop_zero, List.drop_succ_cons, List.drop_nil, List.take_succ_cons, List.take_zero, List.take_nil, List.set_cons_zero, List.set_cons_succ, List.set_nil, decide_true, decide_false, beq_self_eq_true, Nat.lt_irrefl, Nat.zero_add, Nat.add_zero, Nat.le_refl, BEq.rfl, Bool.true_beq, Bool.false_beq, ne_eq, not_true_eq_false, not_false_eq_true, List.size_toArray, List.getElem?_toArray, List.map_toArray, eq_self, List.replicate_succ, List.replicate_zero, List.isEmpty_cons, List.isEmpty_nil, List.contains_cons, List.contains_nil, Bool.true_bne, Bool.false_bne, Bool.not_false, List.mem_cons, List.not_mem_nil, ↓reduceIte, Nat.reduceAdd, Nat.reduceMul, Nat.reduceSub, Nat.reduceEqDiff, Nat.reduceLT, Nat.reduceLeDiff, Nat.reduceBEq, Nat.reduceBNe, reduceCtorEq, Int.reduceLT, Int.reduceLE, Int.reduceEq, Int.reduceBEq, Int.reduceBNe, Int.reduceToNat, Int.reduceAdd, Int.reduceSub, Int.reduceMul, Int.reduceNeg]
        refine ih1.trans ?_
        cases (l.drop (i + 1)).findIdx? (fun a => p a.seq) with
        | none => rfl
        | some j => simp; omega
      · simp only [go_sem, EP, ↓reduceIte, Nat.reduceAdd, Nat.reduceMul, Nat.reduceSub, Nat.reduceEqDiff, Nat.reduceLT, Nat.reduceLeDiff, Nat.reduceBEq, Nat.reduceBNe, reduceCtorEq, Int.reduceLT, Int.reduceLE, Int.reduceEq, Int.reduceBEq, Int.reduceBNe, Int.reduceToNat, Int.reduceAdd, Int.reduceSub, Int.reduceMul, Int.reduceNeg, List.length_map, List.getElem?_map, hgt, Int.toNat_natCast, h0, h1, hx, c1, hw]
    · have hd : l.drop i = [] := List.drop_eq_nil_of_le (by omega)
      have h0 : ¬ (i : Int) < (l.length : Int) := by omega
      simp only [go_sem, EP, ↓reduceIte, Nat.reduceAdd, Nat.reduceMul, Nat.reduceSub, Nat.reduceEqDiff, Nat.reduceLT, Nat.reduceLeDiff, Nat.reduceBEq, Nat.reduceBNe, reduceCtorEq, Int.reduceLT, Int.reduceLE, Int.reduceEq, Int.reduceBEq, Int.reduceBNe, Int.reduceToNat, Int.reduceAdd, Int.reduceSub, Int.reduceMul, Int.reduceNeg, List.length_map, h0, hd, List.findIdx?_nil]
  · unfold idxOf
    simp only [List.drop_zero]
    cases l.findIdx? (fun a => p a.seq) with
    | none => rfl
    | some j => simp
theorem place32 (hg : ∀ n, call E g [I n, .ip [I u] 0] = some [.pv (B (p n))]) (lf : Bool) (n : Int) (l : List Item) (hl : l.length < 4611686018427387904) : call E 32 [.agg [I n, .sl lf (l.map eI)], .fn (.func g) [] [.ip [I u] 0]] = some [.pv (I (idxOf p l))] := by
  rw [call_def' (show E.fn 32 = some Try.f32 from rfl) rfl (by simp only [List.length_cons, List.length_nil]; decide)]
  simp only [go_sem, EP, ↓reduceIte, Nat.reduceAdd, Nat.reduceMul, Nat.reduceSub, Nat.reduceEqDiff, Nat.reduceLT, Nat.reduceLeDiff, Nat.reduceBEq, Nat.reduceBNe, reduceCtorEq, Int.reduceLT, Int.reduceLE, Int.reduceEq, Int.reduceBEq, Int.reduceBNe, Int.reduceToNat, Int.reduceAdd, Int.reduceSub, Int.reduceMul, Int.reduceNeg, Try.f32, index41 g u p hg lf l hl]
end
def freeL (u : Int) (l : List Item) : List Item := l.drop ((l.findIdx? (fun a => decide (u < a.seq))).getD l.length)
theorem free25 (lf : Bool) (n u : Int) (l : List Item) (hl : l.length < 4611686018427387904) : call E 25 [.agg [I n, .sl lf (l.map eI)], I u] = some [.pv (.agg [I n, .sl true ((freeL u l).map eI)])] := by
  unfold freeL
  have hp := place32 35 u (fun n => decide (u < n)) (fun n => free35 u n) lf n l hl
  have hc : (l.all fun _ => true) = true := by simp
  have hn : (0 : Int) ≤ (l.length : Int) := by omega
  have hdr : ∀ j, List.take (l.length - j) (List.drop j (List.map eI l)) = List.map eI (l.drop j) := by
    intro j; rw [← List.map_drop, List.take_of_length_le (by simp)]
  rw [call_def' (show E.fn 25 = some Try.f25 from rfl) rfl (by simp only [List.length_cons, List.length_nil]; decide)]
  cases hi : l.findIdx? (fun a => decide (u < a.seq)) with
  | none =>
    have e : idxOf (fun n => decide (u < n)) l = -1 := by unfold idxOf; rw [hi]
    rw [e] at hp
    simp only [go_sem, EP, ↓reduceIte, Nat.reduceAdd, Nat.reduceMul, Nat.reduceSub, Nat.reduceEqDiff, Nat.reduceLT, Nat.reduceLeDiff, Nat.reduceBEq, Nat.reduceBNe, reduceCtorEq, Int.reduceLT, Int.reduceLE, Int.reduceEq, Int.reduceBEq, Int.reduceBNe, Int.reduceToNat, Int.reduceAdd, Int.reduceSub, Int.reduceMul, Int.reduceNeg, Try.f25, hp, List.length_map, hc, hn, List.all_map, Function.comp_def, eI, Int.toNat_natCast, hdr]
  | some i =>
    have hil : i < l.length := by
      have := List.findIdx?_eq_some_iff_getElem.1 hi
      exact this.1
    have e : idxOf (fun n => decide (u < n)) l = i := by unfold idxOf; rw [hi]
    rw [e] at hp
    have h0 : ¬ (i : Int) < 0 := by omega
    have hil' : i ≤ l.length := by omega
    have hn2 : (0 : Int) ≤ (i : Int) := by omega
    simp only [go_sem, EP, ↓reduceIte, Nat.reduceAdd, Nat.reduceMul, Nat.reduceSub, Nat.reduceEqDiff, Nat.reduceLT, Nat.reduceLeDiff, Nat.reduceBEq, Nat.reduceBNe, reduceCtorEq, Int.reduceLT, Int.reduceLE, Int.reduceEq, Int.reduceBEq, Int.reduceBNe, Int.reduceToNat, Int.reduceAdd, Int.reduceSub, Int.reduceMul, Int.reduceNeg, Try.f25, hp, List.length_map, hc, hn, hn2, h0, hil', List.all_map, Function.comp_def, eI, Int.toNat_natCast, hdr]
end Go.Proofs.Ythohhkmlbjffgaa.M
