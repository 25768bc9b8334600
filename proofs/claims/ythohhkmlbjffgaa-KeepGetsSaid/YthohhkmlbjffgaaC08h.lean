import Derived.Test.YthohhkmlbjffgaaC08f
import Derived.Test.YthohhkmlbjffgaaC08g
import Derived.Test.YthohhkmlbjffgaaC08s
import Derived.Test.YthohhkmlbjffgaaMir24
import Derived.KernelRfl
namespace Go.Proofs.Ythohhkmlbjffgaa.M
open Go Go.Mir Go.Proofs Go.RowKit
set_option linter.unusedSimpArgs false
set_option linter.unusedVariables false
attribute [local go_sem] runP_nil runP_skip runP_label runP_ret runP_seq runP_cond_t runP_cond_f way runP_block runP_exit runP_region runP_blk runP_ops_nil runP_opU runP_opD stepU wantedA exitA prep_move prep_assign prep_pick prep_alloc prep_box prep_build prep_buildSlice prep_insert prep_mapUpdate prep_load prep_store prep_nilCheck prep_binOp prep_unOp prep_convert prep_makeFunc prep_makeSlice prep_slice prep_fieldAddr prep_field prep_indexAddr prep_index prep_lookup prep_extract prep_callB prep_callF effO_s effO_n bop_add bop_sub bop_mul bop_lss bop_leq bop_gtr bop_geq bop_eql bop_neq bop_eql8 bop_neq8 bop_eqlS bop_neqS uop_not isWild effC evE lk ins putE applyMem Mir.keyOf litE valE newE loadE readCells storeE addrAdd partE builtinE lenE AV.cells PV.cells AV.mkAgg AV.mkTuple allPV AV.isCell PV.isCell Value.flat PV.ofValue PV.ofCell PV.ofCells AV.aggCells asI envOf results? finRV isRow Mir.resolve deep mapR freezeE single giveBack callE keysFrom litVals fin indexAddrE elems buildE placesOf fillA buildSliceE fillS appendE sliceE bndE lookupE insertE findM keyEq kindKey AV.mkFn convE PV.ofCellsB PV.isAgg Blk.freeze RV.scalar PV.scalar norm restrict takeRows giveRows dropEnv dropSto scrub Blk.scrub AV.okRefs keepBelow canon firstRegion makeSliceE stepO okD disj keysOf
attribute [local go_sem] if_true if_false Bool.false_eq_true Option.map_some Option.map_none Option.getD_some Option.getD_none Option.bind_some Option.bind_none List.map_cons List.map_nil List.getElem?_cons_zero List.getElem?_cons_succ List.length_cons List.length_nil List.all_cons List.all_nil List.any_cons List.any_nil List.flatMap_cons List.flatMap_nil List.filter_cons List.filter_nil Bool.and_true Bool.true_and Bool.and_false Bool.false_and Bool.or_true Bool.true_or Bool.or_false Bool.false_or Bool.not_true Bool.not_false and_self and_true true_and and_false false_and or_true true_or or_false false_or List.append_nil List.nil_append List.cons_append List.append_assoc List.drop_zero List.drop_succ_cons List.drop_nil List.take_succ_cons List.take_zero List.take_nil List.set_cons_zero List.set_cons_succ List.set_nil decide_true decide_false beq_self_eq_true Nat.lt_irrefl Nat.zero_add Nat.add_zero Nat.le_refl BEq.rfl Bool.true_beq Bool.false_beq ne_eq not_true_eq_false not_false_eq_true List.size_toArray List.getElem?_toArray List.map_toArray eq_self List.replicate_succ List.replicate_zero List.isEmpty_cons List.isEmpty_nil List.contains_cons List.contains_nil Bool.true_bne Bool.false_bne Bool.not_false List.mem_cons List.not_mem_nil
attribute [local go_sem] sz0 ag0 by0 sz2 ag2 by2 zr2 sz3 ag3 by3 zr3 sz4 ag4 by4 zr4 sz5 ag5 by5 zr5 sz8 ag8 by8 zr8 sz9 ag9 by9 zr9 sz10 ag10 by10 zr10 sz11 ag11 by11 zr11 sz12 ag12 by12 zr12 sz14 ag14 by14 zr14 sz15 ag15 by15 zr15 sz16 ag16 by16 zr16 sz17 ag17 by17 zr17 sz19 ag19 by19 zr19 sz22 ag22 by22 zr22 sz24 ag24 by24 zr24 sz25 ag25 by25 zr25 sz26 ag26 by26 zr26 sz28 ag28 by28 zr28 sz30 ag30 by30 zr30 sz31 ag31 by31 zr31 sz33 ag33 by33 zr33 sz37 ag37 by37 zr37 sz38 ag38 by38 sz40 ag40 by40 sz42 ag42 by42 sz45 ag45 by45 zr45 sz49 ag49 by49 zr49 sz55 ag55 by55 zr55 sz60 ag60 by60 zr60 sz63 ag63 by63 sz64 ag64 by64 zr64 sz66 ag66 by66 zr66 sz69 ag69 by69 zr69 sz72 ag72 by72 zr72 sz73 ag73 by73 zr73 sz75 ag75 by75 zr75 sz79 ag79 by79 zr79 sz85 ag85 by85 zr85 Try.underlying0 Try.underlying2 Try.underlying3 Try.underlying4 Try.underlying5 Try.underlying8 Try.underlying9 Try.underlying10 Try.underlying11 Try.underlying12 Try.underlying14 Try.underlying15 Try.underlying16 Try.underlying17 Try.underlying19 Try.underlying22 Try.underlying24 Try.underlying25 Try.underlying26 Try.underlying28 Try.underlying30 Try.underlying31 Try.underlying33 Try.underlying37 Try.underlying38 Try.underlying40 Try.underlying42 Try.underlying45 Try.underlying49 Try.underlying55 Try.underlying60 Try.underlying63 Try.underlying64 Try.underlying66 Try.underlying69 Try.underlying72 Try.underlying73 Try.underlying75 Try.underlying79 Try.underlying85 lv4_15 lv5_10 lv5_18 lv10_4 lv12_4 lv13_2 lv21_2 lv26_3 lv29_4 lv31_4 lv34_4 lv36_2 lv39_4 lv41_2 lv46_2
attribute [local go_sem] EW
set_option maxRecDepth 100000
set_option maxHeartbeats 4000000
theorem freeL_nil (u : Int) : freeL u [] = [] := rfl
theorem freeL_cons (u : Int) (a : Item) (r : List Item) : freeL u (a :: r) = if u < a.seq then a :: r else freeL u r := by
  unfold freeL
  rw [List.findIdx?_cons]
  by_cases h : u < a.seq
  · simp [h]
  · simp only [h, decide_false, Bool.false_eq_true, if_false]
    cases r.findIdx? (fun a => decide (u < a.seq)) with
    | none => simp
    | some j => simp
theorem freeL_twice (a b : Int) (l : List Item) : freeL b (freeL a l) = freeL (if a < b then b else a) l := by
  induction l with
  | nil => rfl
  | cons x r ih =>
    rw [freeL_cons, freeL_cons]
    by_cases h1 : a < x.seq
    · rw [if_pos h1, freeL_cons]
      by_cases h2 : b < x.seq
      · have h3 : (if a < b then b else a) < x.seq := by split <;> omega
        rw [if_pos h2, if_pos h3]
      · have : a < b := by omega
        rw [if_neg h2, if_pos this, if_neg h2]
    · have h3 : ¬ (if a < b then b else a) < x.seq := by split <;> omega
      rw [if_neg h1, ih, if_neg h3]
theorem freeL_none (u : Int) (l : List Item) (h : ∀ a ∈ l, u < a.seq) : freeL u l = l := by
  cases l with
  | nil => rfl
  | cons x r => rw [freeL_cons, if_pos (h x (List.mem_cons_self ..))]
theorem freeL_all (u : Int) (l : List Item) (h : ∀ a ∈ l, a.seq ≤ u) : freeL u l = [] := by
  induction l with
  | nil => rfl
  | cons x r ih =>
    have := h x (List.mem_cons_self ..)
    rw [freeL_cons, if_neg (by omega), ih fun a ha => h a (List.mem_cons_of_mem _ ha)]
theorem freeL_mem (u : Int) (l : List Item) : ∀ a ∈ freeL u l, a ∈ l := fun a h => List.mem_of_mem_drop h
theorem freeL_len (u : Int) (l : List Item) : (freeL u l).length ≤ l.length := by unfold freeL; rw [List.length_drop]; omega
theorem sameI_refl (a : Item) : sameI a a = true := by simp [sameI]
theorem sameL_refl (l : List Item) : sameL l l = true := by
  unfold sameL
  simp only [decide_true, Bool.true_and, List.all_eq_true]
  intro x hx
  obtain ⟨a, b⟩ := x
  induction l with
  | nil => simp at hx
  | cons y r ih =>
    simp only [List.zip_cons_cons, List.mem_cons] at hx
    rcases hx with e | hx
    · cases e; exact sameI_refl _
    · exact ih hx
theorem asc_le (may : Item → Bool) (n : Int) (l : List Item) (h : asc may n l = true) : ∀ a ∈ l, a.seq ≤ n - 1 ∧ may a = true := by
  induction l with
  | nil => intro a ha; simp at ha
  | cons x r ih =>
    unfold asc at h
    simp only [Bool.and_eq_true, beq_iff_eq] at h
    intro a ha
    rcases List.mem_cons.1 ha with e | ha
    · subst e; exact ⟨by omega, h.1⟩
    · exact ih h.2.2 a ha
theorem few_len (l : List Item) (h : l.all fewI = true) : ∀ a ∈ l, a.l.length < 4611686018427387904 := by
  intro a ha
  have := List.all_eq_true.1 h a ha
  unfold fewI at this
  simp only [Bool.and_eq_true, decide_eq_true_eq] at this
  omega
theorem keepFree6 (may : Item → Bool) (hs : ∀ a, may a = true → 1 ≤ a.seq) (lf : Bool) (n a b : Int) (l : List Item) (hl : l.length < 4611686018427387904)
    (hm : ∀ a ∈ l, call E 27 [.agg [I a.kind, I a.seq, I a.epoch, I a.index, I a.total, I a.count, .sl a.lf (a.l.map I), .sl a.bf (a.body.map U8)]] = some [.pv (B (may a))]) :
    call E 6 [.agg [I n, .sl lf (l.map eI)], I a, I b] = some [.pv (B true)] := by
  have h10 := few10 lf l hl
  have h12 := right12 may lf n l hl hm
  generalize hf : (decide ((l.length : Int) ≤ 80) && l.all fewI) = few at h10
  generalize hr : rightL may n l = right at h12
  cases few
  · exact callQ (fn := Try.f6) 300 [(2, .call [.pv (B true)]), (6, .call [.pv (B false)])] (qs := [call E 9 [] = some [.pv (B true)], call E 10 [.sl lf (l.map eI)] = some [.pv (B false)]]) rfl rfl (Nat.le_of_ble_eq_true rfl) (by kernel_rfl) (Holds.cons shown9 (Holds.cons h10 Holds.nil))
  cases right
  · exact callQ (fn := Try.f6) 300 [(2, .call [.pv (B true)]), (6, .call [.pv (B true)]), (10, .call [.pv (B false)])] (qs := [call E 9 [] = some [.pv (B true)], call E 10 [.sl lf (l.map eI)] = some [.pv (B true)], call E 12 [.agg [I n, .sl lf (l.map eI)]] = some [.pv (B false)]]) rfl rfl (Nat.le_of_ble_eq_true rfl) (by kernel_rfl) (Holds.cons shown9 (Holds.cons h10 (Holds.cons h12 Holds.nil)))
  simp only [rightL, Bool.and_eq_true, decide_eq_true_eq] at hf hr
  have hL := few_len l hf.2
  have hA := asc_le may n l hr.2.2.2
  have hw : IntKind.i64.wrap (n - 1) = n - 1 := wrapI (by omega) (by omega)
  have fr : ∀ u lf (m : List Item) (hm : m.length < 4611686018427387904), call E 25 [.agg [I n, .sl lf (m.map eI)], I u] = some [.pv (.agg [I n, .sl true ((freeL u m).map eI)])] := fun u lf m hm => free25 lf n u m hm
  have l1 : ∀ u, (freeL u l).length < 4611686018427387904 := fun u => Nat.lt_of_le_of_lt (freeL_len u l) hl
  have f1 := fun u => fr u lf l hl
  have f2 := fr b true (freeL a l) (l1 a)
  rw [freeL_twice] at f2
  have z0 : freeL 0 l = l := freeL_none 0 l fun x hx => by have := hs x (hA x hx).2; omega
  have z1 : freeL (n - 1) l = [] := freeL_all (n - 1) l fun x hx => (hA x hx).1
  have s1 : ∀ u, call E 15 [.agg [I n, .sl true ((freeL u l).map eI)], .agg [I n, .sl true ((freeL u l).map eI)]] = some [.pv (B true)] := by
    intro u
    rw [same15 n n true true _ _ (l1 u) (fun x hx => hL x (freeL_mem u l x hx)), sameL_refl]
    simp
  have s2 : call E 15 [.agg [I n, .sl true (l.map eI)], .agg [I n, .sl lf (l.map eI)]] = some [.pv (B true)] := by
    rw [same15 n n true lf _ _ hl hL, sameL_refl]
    simp
  have f3 := f1 0
  rw [z0] at f3
  have f4 := f1 (n - 1)
  rw [z1] at f4
  by_cases hab : a < b
  · rw [if_pos hab] at f2
    exact callQ (fn := Try.f6) 300 [(2, .call [.pv (B true)]), (6, .call [.pv (B true)]), (10, .call [.pv (B true)]), (15, .call [.pv (.agg [I n, .sl true ((freeL a l).map eI)])]), (17, .call [.pv (.agg [I n, .sl true ((freeL b l).map eI)])]), (24, .val (.pv (B true))), (32, .call [.pv (.agg [I n, .sl true ((freeL b l).map eI)])]), (33, .call [.pv (B true)]), (37, .call [.pv (.agg [I n, .sl true (l.map eI)])]), (39, .call [.pv (B true)]), (45, .val (.pv (I (n - 1)))), (46, .call [.pv (.agg [I n, .sl true []])])] (qs := [call E 9 [] = some [.pv (B true)], call E 10 [.sl lf (l.map eI)] = some [.pv (B true)], call E 12 [.agg [I n, .sl lf (l.map eI)]] = some [.pv (B true)], call E 25 [.agg [I n, .sl lf (l.map eI)], I a] = some [.pv (.agg [I n, .sl true ((freeL a l).map eI)])], call E 25 [.agg [I n, .sl true ((freeL a l).map eI)], I b] = some [.pv (.agg [I n, .sl true ((freeL b l).map eI)])], AV.pv (B (decide (a < b))) = .pv (B true), call E 25 [.agg [I n, .sl lf (l.map eI)], I b] = some [.pv (.agg [I n, .sl true ((freeL b l).map eI)])], call E 15 [.agg [I n, .sl true ((freeL b l).map eI)], .agg [I n, .sl true ((freeL b l).map eI)]] = some [.pv (B true)], call E 25 [.agg [I n, .sl lf (l.map eI)], I 0] = some [.pv (.agg [I n, .sl true (l.map eI)])], call E 15 [.agg [I n, .sl true (l.map eI)], .agg [I n, .sl lf (l.map eI)]] = some [.pv (B true)], AV.pv (I (IntKind.i64.wrap (n - 1))) = .pv (I (n - 1)), call E 25 [.agg [I n, .sl lf (l.map eI)], I (n - 1)] = some [.pv (.agg [I n, .sl true []])]]) rfl rfl (Nat.le_of_ble_eq_true rfl) (by kernel_rfl) (Holds.cons (shown9) (Holds.cons (h10) (Holds.cons (h12) (Holds.cons (f1 a) (Holds.cons (f2) (Holds.cons ((by rw [decide_eq_true hab])) (Holds.cons (f1 b) (Holds.cons (s1 b) (Holds.cons (f3) (Holds.cons (s2) (Holds.cons ((by rw [hw])) (Holds.cons (f4) Holds.nil))))))))))))
  · rw [if_neg hab] at f2
    exact callQ (fn := Try.f6) 300 [(2, .call [.pv (B true)]), (6, .call [.pv (B true)]), (10, .call [.pv (B true)]), (15, .call [.pv (.agg [I n, .sl true ((freeL a l).map eI)])]), (17, .call [.pv (.agg [I n, .sl true ((freeL a l).map eI)])]), (24, .val (.pv (B false))), (30, .call [.pv (.agg [I n, .sl true ((freeL a l).map eI)])]), (31, .call [.pv (B true)]), (35, .call [.pv (.agg [I n, .sl true (l.map eI)])]), (37, .call [.pv (B true)]), (43, .val (.pv (I (n - 1)))), (44, .call [.pv (.agg [I n, .sl true []])])] (qs := [call E 9 [] = some [.pv (B true)], call E 10 [.sl lf (l.map eI)] = some [.pv (B true)], call E 12 [.agg [I n, .sl lf (l.map eI)]] = some [.pv (B true)], call E 25 [.agg [I n, .sl lf (l.map eI)], I a] = some [.pv (.agg [I n, .sl true ((freeL a l).map eI)])], call E 25 [.agg [I n, .sl true ((freeL a l).map eI)], I b] = some [.pv (.agg [I n, .sl true ((freeL a l).map eI)])], AV.pv (B (decide (a < b))) = .pv (B false), call E 25 [.agg [I n, .sl lf (l.map eI)], I a] = some [.pv (.agg [I n, .sl true ((freeL a l).map eI)])], call E 15 [.agg [I n, .sl true ((freeL a l).map eI)], .agg [I n, .sl true ((freeL a l).map eI)]] = some [.pv (B true)], call E 25 [.agg [I n, .sl lf (l.map eI)], I 0] = some [.pv (.agg [I n, .sl true (l.map eI)])], call E 15 [.agg [I n, .sl true (l.map eI)], .agg [I n, .sl lf (l.map eI)]] = some [.pv (B true)], AV.pv (I (IntKind.i64.wrap (n - 1))) = .pv (I (n - 1)), call E 25 [.agg [I n, .sl lf (l.map eI)], I (n - 1)] = some [.pv (.agg [I n, .sl true []])]]) rfl rfl (Nat.le_of_ble_eq_true rfl) (by kernel_rfl) (Holds.cons (shown9) (Holds.cons (h10) (Holds.cons (h12) (Holds.cons (f1 a) (Holds.cons (f2) (Holds.cons ((by rw [decide_eq_false hab])) (Holds.cons (f1 a) (Holds.cons (s1 a) (Holds.cons (f3) (Holds.cons (s2) (Holds.cons ((by rw [hw])) (Holds.cons (f4) Holds.nil))))))))))))
end Go.Proofs.Ythohhkmlbjffgaa.M
