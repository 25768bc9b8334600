/- For each Go function of this file: the Lean function that it computes, and the proof that a call returns just that, where the Lean function answers 'some' (no other condition). Written by a program of this session. -/
import Derived.Test.YtemaikelagchcaaPCx0
import Derived.Test.YtemaikelagchcaaPCx1
import Derived.Test.YtemaikelagchcaaPCx2
import Derived.Test.YtemaikelagchcaaPCx3
import Derived.Test.YtemaikelagchcaaPCx4
namespace Go.Proofs.Ytemaikelagchcaa.PC
open Go.RowKit Go.Proofs.YtemaikelagchcaaW.PrintWords Go.Proofs.YtemaikelagchcaaW.PrintLast Go.Proofs.YtemaikelagchcaaW.PrintMore
attribute [local go_sem] max2_int min2_int max_two min_two max_three min_three max_four min_four   -- for this text's walks alone
set_option linter.unusedVariables false
set_option linter.unusedSimpArgs false

/-! ### precentorlaw07_VecSums: function 7 -/
mutual
def precentorlaw07_VecSums.j0 : Nat → List Int → List Int → List (List Int) → Int → Bool → Bool → Option (Bool)
  | 0, _, _, _, _, _, _ => none
  | k + 1, x3, x4, x5, x6, x7, x37 => if x37 = true then (some x7) else ((vec_Least.f k x5 (Int.tmod (wrap64 (x6)) 60)).bind fun t347 => (precentorlaw07_VecSums.l0 k x3 x4 x5 x7 (Int.tmod (wrap64 (x6)) 60) t347 1))
def precentorlaw07_VecSums.l0 : Nat → List Int → List Int → List (List Int) → Bool → Int → Int → Int → Option (Bool)
  | 0, _, _, _, _, _, _, _ => none
  | k + 1, x3, x4, x5, x7, x8, x9, x10 => if x10 ≤ (x5.length : Int) then (if 0 ≤ x10 then ((vec_Least.f k (x5.take (x10 : Int).toNat) x8).bind fun t352 => (if t352 < x9 then (some false) else (if 0 ≤ (wrap64 (x10 - 1)) then (if (wrap64 (x10 - 1)) ≤ (x5.length : Int) then ((vec_Least.f k (x5.drop ((wrap64 (x10 - 1)) : Int).toNat) x8).bind fun t357 => (if t357 < x9 then (some false) else (precentorlaw07_VecSums.l0 k x3 x4 x5 x7 x8 x9 (wrap64 (x10 + 1))))) else (none)) else (none)))) else (none)) else (if x7 = true then ((some (([] : List Int) : List Int)).bind fun y358 => (if y358.length + x3.length < 17592186044416 then ((some (y358 ++ x3 : List Int)).bind fun y361 => (if y361.length + x4.length < 17592186044416 then ((vec_Sum.f k (y361 ++ x4)).bind fun t367 => ((vec_Sum.f k x3).bind fun t368 => ((vec_Sum.f k x4).bind fun t369 => (if t367 = (wrap64 (t368 + t369)) then ((vec_Max.f k x3 x3).bind fun t370 => ((precentorref02_Same.f k t370 x3).bind fun t373 => (if t373 = true then ((vec_Min.f k x3 x3).bind fun t374 => ((precentorref02_Same.f k t374 x3).bind fun t377 => (some t377))) else (some false)))) else (some false))))) else (none))) else (none))) else (some false))
end
def precentorlaw07_VecSums.f (k : Nat) (l0_0 : List Int) (l0_1 : List Int) (l0_2 : List (List Int)) (a0_3 : Int) : Option (Bool) := (precentorlaw07_shown.f k).bind fun t345 => (if (l0_0.length : Int) > 100 then (precentorlaw07_VecSums.j0 k l0_0 l0_1 l0_2 a0_3 t345 true) else (if (l0_1.length : Int) > 100 then (precentorlaw07_VecSums.j0 k l0_0 l0_1 l0_2 a0_3 t345 true) else ((precentorlaw07_few.f k l0_2).bind fun t346 => (if t346 = true then (precentorlaw07_VecSums.j0 k l0_0 l0_1 l0_2 a0_3 t345 (decide ((l0_2.length : Int) < 1))) else (precentorlaw07_VecSums.j0 k l0_0 l0_1 l0_2 a0_3 t345 true)))))
theorem precentorlaw07_VecSums.mono_l : ∀ k, (∀ y0 y1 y2 y3 y4 y5, LeO (precentorlaw07_VecSums.j0 k y0 y1 y2 y3 y4 y5) (precentorlaw07_VecSums.j0 (k + 1) y0 y1 y2 y3 y4 y5)) ∧ (∀ y0 y1 y2 y3 y4 y5 y6, LeO (precentorlaw07_VecSums.l0 k y0 y1 y2 y3 y4 y5 y6) (precentorlaw07_VecSums.l0 (k + 1) y0 y1 y2 y3 y4 y5 y6))
  | 0 => ⟨fun _ _ _ _ _ _ r h => by simp [precentorlaw07_VecSums.j0] at h, fun _ _ _ _ _ _ _ r h => by simp [precentorlaw07_VecSums.l0] at h⟩
  | k + 1 => by
    obtain ⟨ih0, ih1⟩ := precentorlaw07_VecSums.mono_l k
    refine ⟨?_, ?_⟩
    · intro y0 y1 y2 y3 y4 y5
      unfold precentorlaw07_VecSums.j0
      repeat' first
      | (with_reducible exact ih0 _ _ _ _ _ _)
      | (with_reducible exact ih1 _ _ _ _ _ _ _)
      | (with_reducible exact precentorlaw07_few.mono _ _)
      | (with_reducible exact precentorlaw07_shown.mono _)
      | (with_reducible exact precentorref02_Same.mono _ _ _)
      | (with_reducible exact vec_Least.mono _ _ _)
      | (with_reducible exact vec_Max.mono _ _ _)
      | (with_reducible exact vec_Min.mono _ _ _)
      | (with_reducible exact vec_Sum.mono _ _)
      | (with_reducible exact LeO.refl _)
      | (with_reducible exact LeO.none _)
      | (with_reducible refine LeO.ite ?_ ?_)
      | (with_reducible refine LeO.bind ?_ (fun _ => ?_))
      | exact ih0 _ _ _ _ _ _
      | exact ih1 _ _ _ _ _ _ _
      | exact precentorlaw07_few.mono _ _
      | exact precentorlaw07_shown.mono _
      | exact precentorref02_Same.mono _ _ _
      | exact vec_Least.mono _ _ _
      | exact vec_Max.mono _ _ _
      | exact vec_Min.mono _ _ _
      | exact vec_Sum.mono _ _
      | exact LeO.none _
      | refine LeO.ite ?_ ?_
      | refine LeO.bind ?_ (fun _ => ?_)
    · intro y0 y1 y2 y3 y4 y5 y6
      unfold precentorlaw07_VecSums.l0
      repeat' first
      | (with_reducible exact ih0 _ _ _ _ _ _)
      | (with_reducible exact ih1 _ _ _ _ _ _ _)
      | (with_reducible exact precentorlaw07_few.mono _ _)
      | (with_reducible exact precentorlaw07_shown.mono _)
      | (with_reducible exact precentorref02_Same.mono _ _ _)
      | (with_reducible exact vec_Least.mono _ _ _)
      | (with_reducible exact vec_Max.mono _ _ _)
      | (with_reducible exact vec_Min.mono _ _ _)
      | (with_reducible exact vec_Sum.mono _ _)
      | (with_reducible exact LeO.refl _)
      | (with_reducible exact LeO.none _)
      | (with_reducible refine LeO.ite ?_ ?_)
      | (with_reducible refine LeO.bind ?_ (fun _ => ?_))
      | exact ih0 _ _ _ _ _ _
      | exact ih1 _ _ _ _ _ _ _
      | exact precentorlaw07_few.mono _ _
      | exact precentorlaw07_shown.mono _
      | exact precentorref02_Same.mono _ _ _
      | exact vec_Least.mono _ _ _
      | exact vec_Max.mono _ _ _
      | exact vec_Min.mono _ _ _
      | exact vec_Sum.mono _ _
      | exact LeO.none _
      | refine LeO.ite ?_ ?_
      | refine LeO.bind ?_ (fun _ => ?_)
theorem precentorlaw07_VecSums.mono : ∀ a0 a1 a2 a3 k, LeO (precentorlaw07_VecSums.f k a0 a1 a2 a3) (precentorlaw07_VecSums.f (k + 1) a0 a1 a2 a3) := by
  intro a0 a1 a2 a3 k
  obtain ⟨ih0, ih1⟩ := precentorlaw07_VecSums.mono_l k
  unfold precentorlaw07_VecSums.f
  repeat' first
      | (with_reducible exact ih0 _ _ _ _ _ _)
      | (with_reducible exact ih1 _ _ _ _ _ _ _)
      | (with_reducible exact precentorlaw07_few.mono _ _)
      | (with_reducible exact precentorlaw07_shown.mono _)
      | (with_reducible exact precentorref02_Same.mono _ _ _)
      | (with_reducible exact vec_Least.mono _ _ _)
      | (with_reducible exact vec_Max.mono _ _ _)
      | (with_reducible exact vec_Min.mono _ _ _)
      | (with_reducible exact vec_Sum.mono _ _)
      | (with_reducible exact LeO.refl _)
      | (with_reducible exact LeO.none _)
      | (with_reducible refine LeO.ite ?_ ?_)
      | (with_reducible refine LeO.bind ?_ (fun _ => ?_))
      | exact ih0 _ _ _ _ _ _
      | exact ih1 _ _ _ _ _ _ _
      | exact precentorlaw07_few.mono _ _
      | exact precentorlaw07_shown.mono _
      | exact precentorref02_Same.mono _ _ _
      | exact vec_Least.mono _ _ _
      | exact vec_Max.mono _ _ _
      | exact vec_Min.mono _ _ _
      | exact vec_Sum.mono _ _
      | exact LeO.none _
      | refine LeO.ite ?_ ?_
      | refine LeO.bind ?_ (fun _ => ?_)
set_option maxHeartbeats 8000000 in
set_option maxRecDepth 100000 in
theorem precentorlaw07_VecSums.calls (k : Nat) (A0_0 : Option Addr) (c0_0 : Nat) (l0_0 : List Int) (A0_1 : Option Addr) (c0_1 : Nat) (l0_1 : List Int) (A0_2 : Option Addr) (c0_2 : Nat) (l0_2 : List (List Int)) (a0_3 : Int) (r : Bool) (w : World) (hr0_0 : Kd.C (Kd.int .i64) w A0_0 l0_0.length l0_0) (hc0_0 : l0_0.length ≤ c0_0) (hr0_1 : Kd.C (Kd.int .i64) w A0_1 l0_1.length l0_1) (hc0_1 : l0_1.length ≤ c0_1) (hr0_2 : Kd.C (Kd.slice 3 (Kd.int .i64)) w A0_2 l0_2.length l0_2) (hc0_2 : l0_2.length ≤ c0_2) (h : precentorlaw07_VecSums.f k l0_0 l0_1 l0_2 a0_3 = some r) :
    Calls Try.prog 7 #[.agg #[.slice A0_0 l0_0.length c0_0, .slice A0_1 l0_1.length c0_1, .slice A0_2 l0_2.length c0_2, .int .u8 a0_3]] w fun e w' => e = .returned (.bool r) ∧ Below w.heap.size w w' := by
  have hu38 := Try.underlying38
  have HR0_0 := Aside0.mk hr0_0
  have HC0_0 := Aside0.mk hc0_0
  clear hr0_0 hc0_0
  have HR0_1 := Aside0.mk hr0_1
  have HC0_1 := Aside0.mk hc0_1
  clear hr0_1 hc0_1
  have HR0_2 := Aside0.mk hr0_2
  have HC0_2 := Aside0.mk hc0_2
  clear hr0_2 hc0_2
  have HB := Aside0.mk (Below.refl w.heap.size w)
  have H : ((precentorlaw07_shown.f k).bind fun t345 => (if (l0_0.length : Int) > 100 then (precentorlaw07_VecSums.j0 k l0_0 l0_1 l0_2 a0_3 t345 true) else (if (l0_1.length : Int) > 100 then (precentorlaw07_VecSums.j0 k l0_0 l0_1 l0_2 a0_3 t345 true) else ((precentorlaw07_few.f k l0_2).bind fun t346 => (if t346 = true then (precentorlaw07_VecSums.j0 k l0_0 l0_1 l0_2 a0_3 t345 (decide ((l0_2.length : Int) < 1))) else (precentorlaw07_VecSums.j0 k l0_0 l0_1 l0_2 a0_3 t345 true)))))) = some r := h
  clear h
  replace H := Option.bind_eq_some_iff.mp H
  obtain ⟨t345, A20, H⟩ := H
  replace H : (if (l0_0.length : Int) > 100 then (precentorlaw07_VecSums.j0 k l0_0 l0_1 l0_2 a0_3 t345 true) else (if (l0_1.length : Int) > 100 then (precentorlaw07_VecSums.j0 k l0_0 l0_1 l0_2 a0_3 t345 true) else ((precentorlaw07_few.f k l0_2).bind fun t346 => (if t346 = true then (precentorlaw07_VecSums.j0 k l0_0 l0_1 l0_2 a0_3 t345 (decide ((l0_2.length : Int) < 1))) else (precentorlaw07_VecSums.j0 k l0_0 l0_1 l0_2 a0_3 t345 true))))) = some r := H
  have A2 := Aside0.mk A20
  clear A20
  have HC3 := Aside0.mk H
  clear H
  go_enter Try.func7, Try.ntmps7
  go_upto_region 6 with (first | ((with_reducible refine gate_dst (N := 1) rfl ?_); (try (refine gate_guard (by rfl) ?_; dsimp only)); refine box_event ?hg (N := 1) ?hd (cs := #[.slice A0_0 l0_0.length c0_0, .slice A0_1 l0_1.length c0_1, .slice A0_2 l0_2.length c0_2, .int .u8 a0_3]) (t := 38) ?hr ?_; (case hd => rfl); (case hg => rfl); (case hr => first | (go_simp; done) | (go_simp; rfl)); intro gb344 hg w4 hbox hb; have n0_ := Aside0.mk (below_step (by repeat (first | (with_reducible first | exact HB.out | apply below_alloc | apply pw_below_drewN | apply below_drew1) | exact HB.out)) hb); have n1_ := Aside0.mk (hbox); have n2_ := Aside0.mk ((by rw [hg]; exact (below_size (by repeat (first | (with_reducible first | exact HB.out | apply below_alloc | apply pw_below_drewN | apply below_drew1) | exact HB.out))) : w.heap.size ≤ gb344)); have n3_ := Aside0.mk ((by rw [hg]; exact (below_size (by repeat (first | (with_reducible first | exact HB.out | apply below_alloc | apply pw_below_drewN | apply below_drew1) | exact HB.out))) : w.heap.size ≤ gb344)); clear HB; have HB := n0_; have BK344 := n1_; have GW344 := n2_; have GE344 := n3_; clear n0_ n1_ n2_ n3_; clear hb hbox hg; have hcz5_0 : w4.cell? ⟨gb344, 0, none⟩ = some (.slice A0_0 l0_0.length c0_0) := (blk_cell BK344.out 0).trans rfl; have hcz5_1 : w4.cell? ⟨gb344, 1, none⟩ = some (.slice A0_1 l0_1.length c0_1) := (blk_cell BK344.out 1).trans rfl; have hcz5_2 : w4.cell? ⟨gb344, 2, none⟩ = some (.slice A0_2 l0_2.length c0_2) := (blk_cell BK344.out 2).trans rfl; have hcz5_3 : w4.cell? ⟨gb344, 3, none⟩ = some (.int .u8 a0_3) := (blk_cell BK344.out 3).trans rfl; have hfz5_0 := blk_frozen BK344.out 0; have hfz5_1 := blk_frozen BK344.out 1; have hfz5_2 := blk_frozen BK344.out 2; have hfz5_3 := blk_frozen BK344.out 3) | ((with_reducible refine gate_callee (f := 8) rfl ?_); refine goesL_ (some 19) rfl rfl Try.func8 (by kernel_rfl) rfl #[] rfl (by (try simp only [List.map_toArray, List.map_cons, List.map_nil]); first | done | rfl | (simp only [List.length_drop, List.length_take]; rfl)) ?_; (with_reducible refine (precentorlaw07_shown.calls k  t345 _ A2.out).mono ?_); rintro e w6 ⟨rfl, hb⟩; refine ⟨_, rfl, ?_⟩; have n0_ := Aside0.mk (blk_below (g := gb344) (o := .cells #[.slice A0_0 l0_0.length c0_0, .slice A0_1 l0_1.length c0_1, .slice A0_2 l0_2.length c0_2, .int .u8 a0_3] 38 (0, 0)) (by (with_reducible repeat (first | refine blk_drewN ?_ _ | refine blk_drew ?_ | refine blk_alloc ?_ _)); exact BK344.out) hb); have n1_ := Aside0.mk (below_step (by repeat (first | (with_reducible first | exact HB.out | apply below_alloc | apply pw_below_drewN | apply below_drew1 | refine below_set ?_ GE344.out) | exact HB.out)) hb); clear BK344; clear HB; have BK344 := n0_; have HB := n1_; clear n0_ n1_; (try clear hb); (try clear hb2); (try clear hk); (try clear hi)))
  (try simp only [Act.put, List.setIfInBounds_toArray, List.set_cons_zero, List.set_cons_succ])
  go_cut [37] (fun v37 wc => ∃ (kq : Nat) (x37_2 : Bool), v37 = .bool x37_2 ∧ Aside0 (precentorlaw07_VecSums.j0 kq l0_0 l0_1 l0_2 a0_3 t345 x37_2 = some r) ∧ Aside0 (kq ≤ k) ∧ Aside0 (wc.heap[gb344]? = some (.cells #[(.slice A0_0 l0_0.length c0_0), (.slice A0_1 l0_1.length c0_1), (.slice A0_2 l0_2.length c0_2), .int .u8 a0_3] 38 (0, 0))) ∧ Aside0 (Below w.heap.size w wc))
  case first =>
    have H := HC3.out
    clear HC3
    by_cases c7 : (l0_0.length : Int) > 100
    · rw [if_pos c7] at H
      have c7b0 : decide (100 < (l0_0.length : Int)) = true := decide_eq_true c7
      have c7b1 : decide (100 < l0_0.length) = true := decide_eq_true (by omega)
      clear c7
      (first | rw [c7b0] | (simp only [i64_w, i32_w]; rw [c7b0]) | skip)
      have H' := Aside0.mk H
      clear H
      go_wp2
      go_meet
      case rel => exact ⟨_, (true), (by first | rfl | (simp; done) | (simp [*]; done)), H', ⟨by first | omega | exact Nat.le_refl _⟩, ⟨by (with_reducible repeat (first | refine blk_drewN ?_ _ | refine blk_drew ?_ | refine blk_alloc ?_ _)); exact BK344.out⟩, ⟨by repeat (first | (with_reducible first | exact HB.out | apply below_alloc | apply pw_below_drewN | apply below_drew1 | refine below_set ?_ GE344.out) | exact HB.out)⟩⟩
    · rw [if_neg c7] at H
      have c7b0 : decide (100 < (l0_0.length : Int)) = false := decide_eq_false c7
      have c7b1 : decide (100 < l0_0.length) = false := decide_eq_false (by omega)
      clear c7
      (first | rw [c7b0] | (simp only [i64_w, i32_w]; rw [c7b0]) | skip)
      by_cases c8 : (l0_1.length : Int) > 100
      · rw [if_pos c8] at H
        have c8b0 : decide (100 < (l0_1.length : Int)) = true := decide_eq_true c8
        have c8b1 : decide (100 < l0_1.length) = true := decide_eq_true (by omega)
        clear c8
        have H' := Aside0.mk H
        clear H
        go_wp2
        go_meet
        case rel => exact ⟨_, (true), (by first | rfl | (simp; done) | (simp [*]; done)), H', ⟨by first | omega | exact Nat.le_refl _⟩, ⟨by (with_reducible repeat (first | refine blk_drewN ?_ _ | refine blk_drew ?_ | refine blk_alloc ?_ _)); exact BK344.out⟩, ⟨by repeat (first | (with_reducible first | exact HB.out | apply below_alloc | apply pw_below_drewN | apply below_drew1 | refine below_set ?_ GE344.out) | exact HB.out)⟩⟩
      · rw [if_neg c8] at H
        have c8b0 : decide (100 < (l0_1.length : Int)) = false := decide_eq_false c8
        have c8b1 : decide (100 < l0_1.length) = false := decide_eq_false (by omega)
        clear c8
        replace H := Option.bind_eq_some_iff.mp H
        obtain ⟨t346, A90, H⟩ := H
        replace H : (if t346 = true then (precentorlaw07_VecSums.j0 k l0_0 l0_1 l0_2 a0_3 t345 (decide ((l0_2.length : Int) < 1))) else (precentorlaw07_VecSums.j0 k l0_0 l0_1 l0_2 a0_3 t345 true)) = some r := H
        have A9 := Aside0.mk A90
        clear A90
        by_cases c10 : t346 = true
        · subst c10
          have H1 : (precentorlaw07_VecSums.j0 k l0_0 l0_1 l0_2 a0_3 t345 (decide ((l0_2.length : Int) < 1))) = some r := by rw [if_pos rfl] at H; exact H
          clear H
          have H := H1
          clear H1
          have H' := Aside0.mk H
          clear H
          go_wp2_with (first | ((with_reducible refine gate_dst (N := 30) rfl ?_); (try (refine gate_guard (by rfl) ?_; dsimp only)); (with_reducible refine gate_callee (f := 9) rfl ?_); refine gate_guard (by rfl) ?_; dsimp only; refine goesL_ (some 30) rfl rfl Try.func9 (by kernel_rfl) rfl #[.slice A0_2 l0_2.length c0_2] rfl (by (try simp only [List.map_toArray, List.map_cons, List.map_nil]); first | done | rfl | (simp only [List.length_drop, List.length_take]; rfl)) ?_; (with_reducible refine (precentorlaw07_few.calls k _ _ l0_2 true _ ?side1 ?side2 A9.out).mono ?_); (case side1 => repeat (first | exact (Kd.C_below HR0_2.out HB.out) | (with_reducible refine Kd.C_alloc ?_ _) | (with_reducible refine Kd.C_drewN ?_ _) | (with_reducible refine Kd.C_drew ?_))); (case side2 => exact HC0_2.out); rintro e w' ⟨rfl, ⟨nd, rfl⟩⟩; refine ⟨_, rfl, ?_⟩))
          go_meet
          case rel => exact ⟨_, (decide ((l0_2.length : Int) < 1)), (by first | rfl | (simp; done) | (simp [*]; done)), H', ⟨by first | omega | exact Nat.le_refl _⟩, ⟨by (with_reducible repeat (first | refine blk_drewN ?_ _ | refine blk_drew ?_ | refine blk_alloc ?_ _)); exact BK344.out⟩, ⟨by repeat (first | (with_reducible first | exact HB.out | apply below_alloc | apply pw_below_drewN | apply below_drew1 | refine below_set ?_ GE344.out) | exact HB.out)⟩⟩
        · replace c10 := Bool.eq_false_iff.mpr c10
          subst c10
          have H1 : (precentorlaw07_VecSums.j0 k l0_0 l0_1 l0_2 a0_3 t345 true) = some r := by rw [if_neg (show ¬ (false = true) by decide)] at H; exact H
          clear H
          have H := H1
          clear H1
          have H' := Aside0.mk H
          clear H
          go_wp2_with (first | ((with_reducible refine gate_dst (N := 30) rfl ?_); (try (refine gate_guard (by rfl) ?_; dsimp only)); (with_reducible refine gate_callee (f := 9) rfl ?_); refine gate_guard (by rfl) ?_; dsimp only; refine goesL_ (some 30) rfl rfl Try.func9 (by kernel_rfl) rfl #[.slice A0_2 l0_2.length c0_2] rfl (by (try simp only [List.map_toArray, List.map_cons, List.map_nil]); first | done | rfl | (simp only [List.length_drop, List.length_take]; rfl)) ?_; (with_reducible refine (precentorlaw07_few.calls k _ _ l0_2 false _ ?side1 ?side2 A9.out).mono ?_); (case side1 => repeat (first | exact (Kd.C_below HR0_2.out HB.out) | (with_reducible refine Kd.C_alloc ?_ _) | (with_reducible refine Kd.C_drewN ?_ _) | (with_reducible refine Kd.C_drew ?_))); (case side2 => exact HC0_2.out); rintro e w' ⟨rfl, ⟨nd, rfl⟩⟩; refine ⟨_, rfl, ?_⟩))
          go_meet
          case rel => exact ⟨_, (true), (by first | rfl | (simp; done) | (simp [*]; done)), H', ⟨by first | omega | exact Nat.le_refl _⟩, ⟨by (with_reducible repeat (first | refine blk_drewN ?_ _ | refine blk_drew ?_ | refine blk_alloc ?_ _)); exact BK344.out⟩, ⟨by repeat (first | (with_reducible first | exact HB.out | apply below_alloc | apply pw_below_drewN | apply below_drew1 | refine below_set ?_ GE344.out) | exact HB.out)⟩⟩
  case rest =>
    clear HC3
    try clear c1
    try clear p2
    try clear c7
    try clear c7b0
    try clear c7b1
    try clear c8
    try clear c8b0
    try clear c8b1
    try clear c9
    try clear c10
    try clear hcz5_0
    try clear hcz5_1
    try clear hcz5_2
    try clear hcz5_3
    try clear hfz5_0
    try clear hfz5_1
    try clear hfz5_2
    try clear hfz5_3
    obtain ⟨kq, x37_2, rfl, HA, HJ2, BK344, HB⟩ := hcut
    cases kq with
    | zero => exact absurd HA.out (by simp [precentorlaw07_VecSums.j0])
    | succ kj2 =>
      have H := HA.out
      clear HA
      simp only [precentorlaw07_VecSums.j0] at H
      by_cases c11 : x37_2 = true
      · subst c11
        have H1 : (some t345) = some r := by rw [if_pos rfl] at H; exact H
        clear H
        have H := H1
        clear H1
        obtain rfl := Option.some.inj H
        go_wp2
        go_ret
        exact ⟨by first | rfl | (simp [errW_none, errW_some] <;> rfl) | (simp [*, errW_none, errW_some] <;> rfl), by repeat (first | (with_reducible first | exact HB.out | apply below_alloc | apply pw_below_drewN | apply below_drew1 | refine below_set ?_ GE344.out) | exact HB.out)⟩
      · replace c11 := Bool.eq_false_iff.mpr c11
        subst c11
        have H1 : ((vec_Least.f kj2 l0_2 (Int.tmod (wrap64 (a0_3)) 60)).bind fun t347 => (precentorlaw07_VecSums.l0 kj2 l0_0 l0_1 l0_2 t345 (Int.tmod (wrap64 (a0_3)) 60) t347 1)) = some r := by rw [if_neg (show ¬ (false = true) by decide)] at H; exact H
        clear H
        have H := H1
        clear H1
        replace H := Option.bind_eq_some_iff.mp H
        obtain ⟨t347, A120, H⟩ := H
        replace H : (precentorlaw07_VecSums.l0 kj2 l0_0 l0_1 l0_2 t345 (Int.tmod (wrap64 (a0_3)) 60) t347 1) = some r := H
        have A12 := Aside0.mk A120
        clear A120
        have H' := Aside0.mk H
        clear H
        go_wp2_with (first | ((with_reducible refine gate_callee (f := 17) rfl ?_); refine goesL_ (some 44) rfl rfl Try.func17 (by kernel_rfl) rfl #[.slice A0_2 l0_2.length c0_2, .int .i64 (Int.tmod (wrap64 (a0_3)) 60)] rfl (by (try simp only [List.map_toArray, List.map_cons, List.map_nil]); first | done | rfl | (simp only [List.length_drop, List.length_take]; rfl)) ?_; (with_reducible refine (vec_Least.calls kj2 _ _ l0_2 (Int.tmod (wrap64 (a0_3)) 60) t347 _ ?side1 ?side2 A12.out).mono ?_); (case side1 => repeat (first | exact (Kd.C_below HR0_2.out HB.out) | (with_reducible refine Kd.C_alloc ?_ _) | (with_reducible refine Kd.C_drewN ?_ _) | (with_reducible refine Kd.C_drew ?_))); (case side2 => exact HC0_2.out); rintro e w13 ⟨rfl, hb⟩; refine ⟨_, rfl, ?_⟩; have n0_ := Aside0.mk (blk_below (g := gb344) (o := .cells #[.slice A0_0 l0_0.length c0_0, .slice A0_1 l0_1.length c0_1, .slice A0_2 l0_2.length c0_2, .int .u8 a0_3] 38 (0, 0)) (by (with_reducible repeat (first | refine blk_drewN ?_ _ | refine blk_drew ?_ | refine blk_alloc ?_ _)); exact BK344.out) hb); have n1_ := Aside0.mk (below_step (by repeat (first | (with_reducible first | exact HB.out | apply below_alloc | apply pw_below_drewN | apply below_drew1 | refine below_set ?_ GE344.out) | exact HB.out)) hb); clear BK344; clear HB; have BK344 := n0_; have HB := n1_; clear n0_ n1_; (try clear hb); (try clear hb2); (try clear hk); (try clear hi)))
        go_loopg [10] kj2 (fun kq v10 w' => ∃ (x10_2 : Int), v10 = .int .i64 x10_2 ∧ Aside0 (precentorlaw07_VecSums.l0 kq l0_0 l0_1 l0_2 t345 (Int.tmod (wrap64 (a0_3)) 60) t347 x10_2 = some r) ∧ Aside0 (kq ≤ kj2) ∧ Aside0 (w'.heap[gb344]? = some (.cells #[(.slice A0_0 l0_0.length c0_0), (.slice A0_1 l0_1.length c0_1), (.slice A0_2 l0_2.length c0_2), .int .u8 a0_3] 38 (0, 0))) ∧ Aside0 (Below w.heap.size w w'))
        case atStart => exact ⟨(1), (by first | rfl | (simp; done) | (simp [*]; done)), H', ⟨Nat.le_refl _⟩, ⟨by (with_reducible repeat (first | refine blk_drewN ?_ _ | refine blk_drew ?_ | refine blk_alloc ?_ _)); exact BK344.out⟩, ⟨by repeat (first | (with_reducible first | exact HB.out | apply below_alloc | apply pw_below_drewN | apply below_drew1 | refine below_set ?_ GE344.out) | exact HB.out)⟩⟩
        case round =>
          clear H'
          try clear c1
          try clear p2
          try clear p6
          try clear c7
          try clear c7b0
          try clear c7b1
          try clear c8
          try clear c8b0
          try clear c8b1
          try clear c9
          try clear c10
          try clear c11
          try clear hcz5_0
          try clear hcz5_1
          try clear hcz5_2
          try clear hcz5_3
          try clear hfz5_0
          try clear hfz5_1
          try clear hfz5_2
          try clear hfz5_3
          try clear p2
          obtain ⟨x10_2, rfl, HA, HK2, BK344, HB⟩ := hrel
          cases gk with
          | zero => exact absurd HA.out (by simp [precentorlaw07_VecSums.l0])
          | succ k2 =>
            have H := HA.out
            clear HA
            simp only [precentorlaw07_VecSums.l0] at H
            by_cases c14 : x10_2 ≤ (l0_2.length : Int)
            · rw [if_pos c14] at H
              have c14b0 : decide (x10_2 ≤ (l0_2.length : Int)) = true := decide_eq_true c14
              clear c14
              by_cases c15 : 0 ≤ x10_2
              · rw [if_pos c15] at H
                have c15b0 := eq_true c15
                have c15b1 : decide (0 ≤ x10_2) = true := decide_eq_true c15
                clear c15
                have c16b0 := eq_true (of_decide_eq_true (by first | (with_reducible assumption) | assumption) : x10_2 ≤ (l0_2.length : Int))
                obtain ⟨y348, hy348⟩ : ∃ y_ : List (List Int), y_ = (l0_2.take (x10_2 : Int).toNat) := ⟨_, rfl⟩
                replace H : ((vec_Least.f k2 y348 (Int.tmod (wrap64 (a0_3)) 60)).bind fun t352 => (if t352 < t347 then (some false) else (if 0 ≤ (wrap64 (x10_2 - 1)) then (if (wrap64 (x10_2 - 1)) ≤ (l0_2.length : Int) then ((vec_Least.f k2 (l0_2.drop ((wrap64 (x10_2 - 1)) : Int).toNat) (Int.tmod (wrap64 (a0_3)) 60)).bind fun t357 => (if t357 < t347 then (some false) else (precentorlaw07_VecSums.l0 k2 l0_0 l0_1 l0_2 t345 (Int.tmod (wrap64 (a0_3)) 60) t347 (wrap64 (x10_2 + 1))))) else (none)) else (none)))) = some r := by first | (rw [hy348]; with_reducible exact H) | (have H2_ := (Option.bind_some _ _).symm.trans H; rw [hy348]; with_reducible exact H2_) | (have H2_ := (Option.bind_some _ _).symm.trans H; with_reducible exact H2_) | with_reducible exact H | (rw [hy348]; exact H) | exact H
                have Ny348 := Aside0.mk hy348
                clear hy348
                replace H := Option.bind_eq_some_iff.mp H
                obtain ⟨t352, A170, H⟩ := H
                replace H : (if t352 < t347 then (some false) else (if 0 ≤ (wrap64 (x10_2 - 1)) then (if (wrap64 (x10_2 - 1)) ≤ (l0_2.length : Int) then ((vec_Least.f k2 (l0_2.drop ((wrap64 (x10_2 - 1)) : Int).toNat) (Int.tmod (wrap64 (a0_3)) 60)).bind fun t357 => (if t357 < t347 then (some false) else (precentorlaw07_VecSums.l0 k2 l0_0 l0_1 l0_2 t345 (Int.tmod (wrap64 (a0_3)) 60) t347 (wrap64 (x10_2 + 1))))) else (none)) else (none))) = some r := H
                have A17 := Aside0.mk A170
                clear A170
                by_cases c18 : t352 < t347
                · rw [if_pos c18] at H
                  have c18b0 : decide (t352 < t347) = true := decide_eq_true c18
                  clear c18
                  obtain rfl := Option.some.inj H
                  have q19 : (x10_2 : Int) ≤ ((l0_2.length : Int) : Int) := of_decide_eq_true (by first | (with_reducible assumption) | assumption)
                  obtain ⟨i019, hi019, _, hsz19, _⟩ := info_parts info22
                  have hroom19 : l0_2.length ≤ c0_2 := HC0_2.out
                  have hC19 : Kd.C (Kd.slice 3 (Kd.int .i64)) _ A0_2 l0_2.length l0_2 := HR0_2.out
                  have hcut19 := cut_to (P := Try.prog) 23 22 .i64 Try.underlying23 hi019 A0_2 l0_2.length c0_2 x10_2 (of_decide_eq_true (by first | (with_reducible assumption) | assumption)) q19 hroom19
                  have hr19 := Kd.C_take (m := (x10_2 : Int).toNat) hC19 (by omega)
                  have hy19 : y348.length = (x10_2 : Int).toNat := (by rw [Ny348.out, List.length_take]; omega)
                  rw [← Ny348.out] at hr19
                  rw [← hy19] at hcut19
                  have HR351 := Aside0.mk hr19
                  have HC351 := Aside0.mk (show y348.length ≤ c0_2 from by omega)
                  clear hr19 hC19 hroom19 hi019 hsz19
                  have KY19 := Aside0.mk hy19
                  clear hy19
                  replace q19 := eq_true q19
                  go_wp2_with (first | ((with_reducible refine gate_callee (f := 17) rfl ?_); refine goesL_ (some 55) rfl rfl Try.func17 (by kernel_rfl) rfl #[.slice A0_2 y348.length c0_2, .int .i64 (Int.tmod (wrap64 (a0_3)) 60)] rfl (by (try simp only [List.map_toArray, List.map_cons, List.map_nil]); first | done | rfl | (simp only [List.length_drop, List.length_take]; rfl)) ?_; (with_reducible refine (vec_Least.calls k2 _ _ y348 (Int.tmod (wrap64 (a0_3)) 60) t352 _ ?side1 ?side2 A17.out).mono ?_); (case side1 => repeat (first | exact (Kd.C_below HR351.out HB.out) | (with_reducible refine Kd.C_alloc ?_ _) | (with_reducible refine Kd.C_drewN ?_ _) | (with_reducible refine Kd.C_drew ?_))); (case side2 => exact HC351.out); rintro e w20 ⟨rfl, hb⟩; refine ⟨_, rfl, ?_⟩; have n0_ := Aside0.mk (blk_below (g := gb344) (o := .cells #[.slice A0_0 l0_0.length c0_0, .slice A0_1 l0_1.length c0_1, .slice A0_2 l0_2.length c0_2, .int .u8 a0_3] 38 (0, 0)) (by (with_reducible repeat (first | refine blk_drewN ?_ _ | refine blk_drew ?_ | refine blk_alloc ?_ _)); exact BK344.out) hb); have n1_ := Aside0.mk (below_step (by repeat (first | (with_reducible first | exact HB.out | apply below_alloc | apply pw_below_drewN | apply below_drew1 | refine below_set ?_ GE344.out) | exact HB.out)) hb); clear BK344; clear HB; have BK344 := n0_; have HB := n1_; clear n0_ n1_; (try clear hb); (try clear hb2); (try clear hk); (try clear hi)))
                  go_ret
                  exact ⟨by first | rfl | (simp [errW_none, errW_some] <;> rfl) | (simp [*, errW_none, errW_some] <;> rfl), by repeat (first | (with_reducible first | exact HB.out | apply below_alloc | apply pw_below_drewN | apply below_drew1 | refine below_set ?_ GE344.out) | exact HB.out)⟩
                · rw [if_neg c18] at H
                  have c18b0 : decide (t352 < t347) = false := decide_eq_false c18
                  clear c18
                  obtain ⟨ji21, hji21⟩ : ∃ j_ : Int, (wrap64 (x10_2 - 1)) = j_ := ⟨_, rfl⟩
                  replace H : (if 0 ≤ (ji21) then (if (ji21) ≤ (l0_2.length : Int) then ((vec_Least.f k2 (l0_2.drop ((ji21) : Int).toNat) (Int.tmod (wrap64 (a0_3)) 60)).bind fun t357 => (if t357 < t347 then (some false) else (precentorlaw07_VecSums.l0 k2 l0_0 l0_1 l0_2 t345 (Int.tmod (wrap64 (a0_3)) 60) t347 (wrap64 (x10_2 + 1))))) else (none)) else (none)) = some r := by first | (rw [hji21] at H; exact H) | (simp only [hji21] at H ⊢; exact H)
                  (try rw [hji21] at A17)
                  have hji21w : (IntKind.i64.wrap (x10_2 - 1)) = ji21 := (i64_w _).trans hji21
                  by_cases c22 : 0 ≤ (ji21)
                  · rw [if_pos c22] at H
                    have c22b0 := eq_true c22
                    have c22b1 : decide (0 ≤ (ji21)) = true := decide_eq_true c22
                    clear c22
                    by_cases c23 : (ji21) ≤ (l0_2.length : Int)
                    · rw [if_pos c23] at H
                      have c23b0 := eq_true c23
                      have c23b1 : decide ((ji21) ≤ (l0_2.length : Int)) = true := decide_eq_true c23
                      clear c23
                      obtain ⟨y353, hy353⟩ : ∃ y_ : List (List Int), y_ = (l0_2.drop ((ji21) : Int).toNat) := ⟨_, rfl⟩
                      replace H : ((vec_Least.f k2 y353 (Int.tmod (wrap64 (a0_3)) 60)).bind fun t357 => (if t357 < t347 then (some false) else (precentorlaw07_VecSums.l0 k2 l0_0 l0_1 l0_2 t345 (Int.tmod (wrap64 (a0_3)) 60) t347 (wrap64 (x10_2 + 1))))) = some r := by first | (rw [hy353]; with_reducible exact H) | (have H2_ := (Option.bind_some _ _).symm.trans H; rw [hy353]; with_reducible exact H2_) | (have H2_ := (Option.bind_some _ _).symm.trans H; with_reducible exact H2_) | with_reducible exact H | (rw [hy353]; exact H) | exact H
                      have Ny353 := Aside0.mk hy353
                      clear hy353
                      replace H := Option.bind_eq_some_iff.mp H
                      obtain ⟨t357, A240, H⟩ := H
                      replace H : (if t357 < t347 then (some false) else (precentorlaw07_VecSums.l0 k2 l0_0 l0_1 l0_2 t345 (Int.tmod (wrap64 (a0_3)) 60) t347 (wrap64 (x10_2 + 1)))) = some r := H
                      have A24 := Aside0.mk A240
                      clear A240
                      by_cases c25 : t357 < t347
                      · rw [if_pos c25] at H
                        have c25b0 : decide (t357 < t347) = true := decide_eq_true c25
                        clear c25
                        obtain rfl := Option.some.inj H
                        have q26 : (x10_2 : Int) ≤ ((l0_2.length : Int) : Int) := of_decide_eq_true (by first | (with_reducible assumption) | assumption)
                        obtain ⟨i026, hi026, _, hsz26, _⟩ := info_parts info22
                        have hroom26 : l0_2.length ≤ c0_2 := HC0_2.out
                        have hC26 : Kd.C (Kd.slice 3 (Kd.int .i64)) _ A0_2 l0_2.length l0_2 := HR0_2.out
                        have hcut26 := cut_to (P := Try.prog) 23 22 .i64 Try.underlying23 hi026 A0_2 l0_2.length c0_2 x10_2 (of_decide_eq_true (by first | (with_reducible assumption) | assumption)) q26 hroom26
                        have hr26 := Kd.C_take (m := (x10_2 : Int).toNat) hC26 (by omega)
                        have hy26 : y348.length = (x10_2 : Int).toNat := (by rw [Ny348.out, List.length_take]; omega)
                        rw [← Ny348.out] at hr26
                        rw [← hy26] at hcut26
                        have HR351 := Aside0.mk hr26
                        have HC351 := Aside0.mk (show y348.length ≤ c0_2 from by omega)
                        clear hr26 hC26 hroom26 hi026 hsz26
                        have KY26 := Aside0.mk hy26
                        clear hy26
                        replace q26 := eq_true q26
                        go_wp2_with (first | ((with_reducible refine gate_callee (f := 17) rfl ?_); refine goesL_ (some 55) rfl rfl Try.func17 (by kernel_rfl) rfl #[.slice A0_2 y348.length c0_2, .int .i64 (Int.tmod (wrap64 (a0_3)) 60)] rfl (by (try simp only [List.map_toArray, List.map_cons, List.map_nil]); first | done | rfl | (simp only [List.length_drop, List.length_take]; rfl)) ?_; (with_reducible refine (vec_Least.calls k2 _ _ y348 (Int.tmod (wrap64 (a0_3)) 60) t352 _ ?side1 ?side2 A17.out).mono ?_); (case side1 => repeat (first | exact (Kd.C_below HR351.out HB.out) | (with_reducible refine Kd.C_alloc ?_ _) | (with_reducible refine Kd.C_drewN ?_ _) | (with_reducible refine Kd.C_drew ?_))); (case side2 => exact HC351.out); rintro e w27 ⟨rfl, hb⟩; refine ⟨_, rfl, ?_⟩; have n0_ := Aside0.mk (blk_below (g := gb344) (o := .cells #[.slice A0_0 l0_0.length c0_0, .slice A0_1 l0_1.length c0_1, .slice A0_2 l0_2.length c0_2, .int .u8 a0_3] 38 (0, 0)) (by (with_reducible repeat (first | refine blk_drewN ?_ _ | refine blk_drew ?_ | refine blk_alloc ?_ _)); exact BK344.out) hb); have n1_ := Aside0.mk (below_step (by repeat (first | (with_reducible first | exact HB.out | apply below_alloc | apply pw_below_drewN | apply below_drew1 | refine below_set ?_ GE344.out) | exact HB.out)) hb); clear BK344; clear HB; have BK344 := n0_; have HB := n1_; clear n0_ n1_; (try clear hb); (try clear hb2); (try clear hk); (try clear hi); have q28 : ((ji21) : Int) ≤ ((l0_2.length : Int) : Int) := of_decide_eq_true (by first | (with_reducible assumption) | assumption); obtain ⟨i028, hi028, _, hsz28, _⟩ := info_parts info22; have hroom28 : l0_2.length ≤ c0_2 := HC0_2.out; have hC28 : Kd.C (Kd.slice 3 (Kd.int .i64)) _ A0_2 l0_2.length l0_2 := HR0_2.out; have q028 : (0 : Int) ≤ ((ji21) : Int) := of_decide_eq_true (by first | (with_reducible assumption) | assumption); have hcut28 := cut_from (P := Try.prog) 23 22 .i64 Try.underlying23 hi028 1 hsz28 A0_2 l0_2.length c0_2 (ji21) q028 q28; have hr28 := Kd.C_drop (m := ((ji21) : Int).toNat) (c := c0_2) hC28 (by omega) hroom28; obtain ⟨A28, hA28⟩ : ∃ A1, A1 = (if c0_2 = ((ji21) : Int).toNat then A0_2 else (A0_2 : Option Addr).map (·.add (((ji21) : Int).toNat * 1))) := ⟨_, rfl⟩; obtain ⟨c28, hc28⟩ : ∃ c1, c1 = c0_2 - ((ji21) : Int).toNat := ⟨_, rfl⟩; have hy28 : y353.length = l0_2.length - ((ji21) : Int).toNat := (by rw [Ny353.out, List.length_drop] <;> omega); rw [show (l0_2).drop ((ji21) : Int).toNat = y353 from Ny353.out.symm] at hr28; replace hr28 : Kd.C (Kd.slice 3 (Kd.int .i64)) _ A28 y353.length y353 := (by rw [hA28]; exact hr28); rw [← hy28, ← hA28, ← hc28] at hcut28; have HR356 := Aside0.mk hr28; have HC356 := Aside0.mk (show y353.length ≤ c28 from by rw [hy28, hc28]; exact Nat.sub_le_sub_right hroom28 _); clear hr28 hC28 hroom28 hi028 hsz28 hc28; have KY28 := Aside0.mk hy28; have KA28 := Aside0.mk hA28; clear hy28 hA28; replace q28 := eq_true q28) | ((with_reducible refine gate_dst (N := 64) rfl ?_); (try (refine gate_guard (by rfl) ?_; dsimp only)); (with_reducible refine gate_callee (f := 17) rfl ?_); refine gate_guard (by rfl) ?_; dsimp only; refine goesL_ (some 64) rfl rfl Try.func17 (by kernel_rfl) rfl #[.slice A28 y353.length c28, .int .i64 (Int.tmod (wrap64 (a0_3)) 60)] rfl (by (try simp only [List.map_toArray, List.map_cons, List.map_nil]); first | done | rfl | (simp only [List.length_drop, List.length_take]; rfl)) ?_; (with_reducible refine (vec_Least.calls k2 _ _ y353 (Int.tmod (wrap64 (a0_3)) 60) t357 _ ?side1 ?side2 A24.out).mono ?_); (case side1 => repeat (first | exact (Kd.C_below HR356.out HB.out) | (with_reducible refine Kd.C_alloc ?_ _) | (with_reducible refine Kd.C_drewN ?_ _) | (with_reducible refine Kd.C_drew ?_))); (case side2 => exact HC356.out); rintro e w29 ⟨rfl, hb⟩; refine ⟨_, rfl, ?_⟩; have n0_ := Aside0.mk (blk_below (g := gb344) (o := .cells #[.slice A0_0 l0_0.length c0_0, .slice A0_1 l0_1.length c0_1, .slice A0_2 l0_2.length c0_2, .int .u8 a0_3] 38 (0, 0)) (by (with_reducible repeat (first | refine blk_drewN ?_ _ | refine blk_drew ?_ | refine blk_alloc ?_ _)); exact BK344.out) hb); have n1_ := Aside0.mk (below_step (by repeat (first | (with_reducible first | exact HB.out | apply below_alloc | apply pw_below_drewN | apply below_drew1 | refine below_set ?_ GE344.out) | exact HB.out)) hb); clear BK344; clear HB; have BK344 := n0_; have HB := n1_; clear n0_ n1_; (try clear hb); (try clear hb2); (try clear hk); (try clear hi)))
                        go_ret
                        exact ⟨by first | rfl | (simp [errW_none, errW_some] <;> rfl) | (simp only [← hji21]; first | rfl | (simp [errW_none, errW_some] <;> rfl)) | (simp [*, errW_none, errW_some] <;> rfl), by repeat (first | (with_reducible first | exact HB.out | apply below_alloc | apply pw_below_drewN | apply below_drew1 | refine below_set ?_ GE344.out) | exact HB.out)⟩
                      · rw [if_neg c25] at H
                        have c25b0 : decide (t357 < t347) = false := decide_eq_false c25
                        clear c25
                        have H' := Aside0.mk H
                        clear H
                        have q30 : (x10_2 : Int) ≤ ((l0_2.length : Int) : Int) := of_decide_eq_true (by first | (with_reducible assumption) | assumption)
                        obtain ⟨i030, hi030, _, hsz30, _⟩ := info_parts info22
                        have hroom30 : l0_2.length ≤ c0_2 := HC0_2.out
                        have hC30 : Kd.C (Kd.slice 3 (Kd.int .i64)) _ A0_2 l0_2.length l0_2 := HR0_2.out
                        have hcut30 := cut_to (P := Try.prog) 23 22 .i64 Try.underlying23 hi030 A0_2 l0_2.length c0_2 x10_2 (of_decide_eq_true (by first | (with_reducible assumption) | assumption)) q30 hroom30
                        have hr30 := Kd.C_take (m := (x10_2 : Int).toNat) hC30 (by omega)
                        have hy30 : y348.length = (x10_2 : Int).toNat := (by rw [Ny348.out, List.length_take]; omega)
                        rw [← Ny348.out] at hr30
                        rw [← hy30] at hcut30
                        have HR351 := Aside0.mk hr30
                        have HC351 := Aside0.mk (show y348.length ≤ c0_2 from by omega)
                        clear hr30 hC30 hroom30 hi030 hsz30
                        have KY30 := Aside0.mk hy30
                        clear hy30
                        replace q30 := eq_true q30
                        go_wp2_with (first | ((with_reducible refine gate_callee (f := 17) rfl ?_); refine goesL_ (some 55) rfl rfl Try.func17 (by kernel_rfl) rfl #[.slice A0_2 y348.length c0_2, .int .i64 (Int.tmod (wrap64 (a0_3)) 60)] rfl (by (try simp only [List.map_toArray, List.map_cons, List.map_nil]); first | done | rfl | (simp only [List.length_drop, List.length_take]; rfl)) ?_; (with_reducible refine (vec_Least.calls k2 _ _ y348 (Int.tmod (wrap64 (a0_3)) 60) t352 _ ?side1 ?side2 A17.out).mono ?_); (case side1 => repeat (first | exact (Kd.C_below HR351.out HB.out) | (with_reducible refine Kd.C_alloc ?_ _) | (with_reducible refine Kd.C_drewN ?_ _) | (with_reducible refine Kd.C_drew ?_))); (case side2 => exact HC351.out); rintro e w31 ⟨rfl, hb⟩; refine ⟨_, rfl, ?_⟩; have n0_ := Aside0.mk (blk_below (g := gb344) (o := .cells #[.slice A0_0 l0_0.length c0_0, .slice A0_1 l0_1.length c0_1, .slice A0_2 l0_2.length c0_2, .int .u8 a0_3] 38 (0, 0)) (by (with_reducible repeat (first | refine blk_drewN ?_ _ | refine blk_drew ?_ | refine blk_alloc ?_ _)); exact BK344.out) hb); have n1_ := Aside0.mk (below_step (by repeat (first | (with_reducible first | exact HB.out | apply below_alloc | apply pw_below_drewN | apply below_drew1 | refine below_set ?_ GE344.out) | exact HB.out)) hb); clear BK344; clear HB; have BK344 := n0_; have HB := n1_; clear n0_ n1_; (try clear hb); (try clear hb2); (try clear hk); (try clear hi); have q32 : ((ji21) : Int) ≤ ((l0_2.length : Int) : Int) := of_decide_eq_true (by first | (with_reducible assumption) | assumption); obtain ⟨i032, hi032, _, hsz32, _⟩ := info_parts info22; have hroom32 : l0_2.length ≤ c0_2 := HC0_2.out; have hC32 : Kd.C (Kd.slice 3 (Kd.int .i64)) _ A0_2 l0_2.length l0_2 := HR0_2.out; have q032 : (0 : Int) ≤ ((ji21) : Int) := of_decide_eq_true (by first | (with_reducible assumption) | assumption); have hcut32 := cut_from (P := Try.prog) 23 22 .i64 Try.underlying23 hi032 1 hsz32 A0_2 l0_2.length c0_2 (ji21) q032 q32; have hr32 := Kd.C_drop (m := ((ji21) : Int).toNat) (c := c0_2) hC32 (by omega) hroom32; obtain ⟨A32, hA32⟩ : ∃ A1, A1 = (if c0_2 = ((ji21) : Int).toNat then A0_2 else (A0_2 : Option Addr).map (·.add (((ji21) : Int).toNat * 1))) := ⟨_, rfl⟩; obtain ⟨c32, hc32⟩ : ∃ c1, c1 = c0_2 - ((ji21) : Int).toNat := ⟨_, rfl⟩; have hy32 : y353.length = l0_2.length - ((ji21) : Int).toNat := (by rw [Ny353.out, List.length_drop] <;> omega); rw [show (l0_2).drop ((ji21) : Int).toNat = y353 from Ny353.out.symm] at hr32; replace hr32 : Kd.C (Kd.slice 3 (Kd.int .i64)) _ A32 y353.length y353 := (by rw [hA32]; exact hr32); rw [← hy32, ← hA32, ← hc32] at hcut32; have HR356 := Aside0.mk hr32; have HC356 := Aside0.mk (show y353.length ≤ c32 from by rw [hy32, hc32]; exact Nat.sub_le_sub_right hroom32 _); clear hr32 hC32 hroom32 hi032 hsz32 hc32; have KY32 := Aside0.mk hy32; have KA32 := Aside0.mk hA32; clear hy32 hA32; replace q32 := eq_true q32) | ((with_reducible refine gate_dst (N := 64) rfl ?_); (try (refine gate_guard (by rfl) ?_; dsimp only)); (with_reducible refine gate_callee (f := 17) rfl ?_); refine gate_guard (by rfl) ?_; dsimp only; refine goesL_ (some 64) rfl rfl Try.func17 (by kernel_rfl) rfl #[.slice A32 y353.length c32, .int .i64 (Int.tmod (wrap64 (a0_3)) 60)] rfl (by (try simp only [List.map_toArray, List.map_cons, List.map_nil]); first | done | rfl | (simp only [List.length_drop, List.length_take]; rfl)) ?_; (with_reducible refine (vec_Least.calls k2 _ _ y353 (Int.tmod (wrap64 (a0_3)) 60) t357 _ ?side1 ?side2 A24.out).mono ?_); (case side1 => repeat (first | exact (Kd.C_below HR356.out HB.out) | (with_reducible refine Kd.C_alloc ?_ _) | (with_reducible refine Kd.C_drewN ?_ _) | (with_reducible refine Kd.C_drew ?_))); (case side2 => exact HC356.out); rintro e w33 ⟨rfl, hb⟩; refine ⟨_, rfl, ?_⟩; have n0_ := Aside0.mk (blk_below (g := gb344) (o := .cells #[.slice A0_0 l0_0.length c0_0, .slice A0_1 l0_1.length c0_1, .slice A0_2 l0_2.length c0_2, .int .u8 a0_3] 38 (0, 0)) (by (with_reducible repeat (first | refine blk_drewN ?_ _ | refine blk_drew ?_ | refine blk_alloc ?_ _)); exact BK344.out) hb); have n1_ := Aside0.mk (below_step (by repeat (first | (with_reducible first | exact HB.out | apply below_alloc | apply pw_below_drewN | apply below_drew1 | refine below_set ?_ GE344.out) | exact HB.out)) hb); clear BK344; clear HB; have BK344 := n0_; have HB := n1_; clear n0_ n1_; (try clear hb); (try clear hb2); (try clear hk); (try clear hi)))
                        go_roundg k2
                        case measure => have := HJ2.out; have := HK2.out; omega
                        case rel => exact ⟨(wrap64 (x10_2 + 1)), (by first | rfl | (simp; done) | (simp [*]; done)), H', ⟨by have := HJ2.out; have := HK2.out; omega⟩, ⟨by (with_reducible repeat (first | refine blk_drewN ?_ _ | refine blk_drew ?_ | refine blk_alloc ?_ _)); exact BK344.out⟩, ⟨by repeat (first | (with_reducible first | exact HB.out | apply below_alloc | apply pw_below_drewN | apply below_drew1 | refine below_set ?_ GE344.out) | exact HB.out)⟩⟩
                    · rw [if_neg c23] at H
                      exact absurd H (by simp)
                  · rw [if_neg c22] at H
                    exact absurd H (by simp)
              · rw [if_neg c15] at H
                exact absurd H (by simp)
            · rw [if_neg c14] at H
              have c14b0 : decide (x10_2 ≤ (l0_2.length : Int)) = false := decide_eq_false c14
              clear c14
              by_cases c34 : t345 = true
              · subst c34
                have H1 : ((some (([] : List Int) : List Int)).bind fun y358 => (if y358.length + l0_0.length < 17592186044416 then ((some (y358 ++ l0_0 : List Int)).bind fun y361 => (if y361.length + l0_1.length < 17592186044416 then ((vec_Sum.f k2 (y361 ++ l0_1)).bind fun t367 => ((vec_Sum.f k2 l0_0).bind fun t368 => ((vec_Sum.f k2 l0_1).bind fun t369 => (if t367 = (wrap64 (t368 + t369)) then ((vec_Max.f k2 l0_0 l0_0).bind fun t370 => ((precentorref02_Same.f k2 t370 l0_0).bind fun t373 => (if t373 = true then ((vec_Min.f k2 l0_0 l0_0).bind fun t374 => ((precentorref02_Same.f k2 t374 l0_0).bind fun t377 => (some t377))) else (some false)))) else (some false))))) else (none))) else (none))) = some r := by rw [if_pos rfl] at H; exact H
                clear H
                have H := H1
                clear H1
                obtain ⟨y358, hy358⟩ : ∃ y_ : List Int, y_ = (([] : List Int)) := ⟨_, rfl⟩
                replace H : (if y358.length + l0_0.length < 17592186044416 then ((some (y358 ++ l0_0 : List Int)).bind fun y361 => (if y361.length + l0_1.length < 17592186044416 then ((vec_Sum.f k2 (y361 ++ l0_1)).bind fun t367 => ((vec_Sum.f k2 l0_0).bind fun t368 => ((vec_Sum.f k2 l0_1).bind fun t369 => (if t367 = (wrap64 (t368 + t369)) then ((vec_Max.f k2 l0_0 l0_0).bind fun t370 => ((precentorref02_Same.f k2 t370 l0_0).bind fun t373 => (if t373 = true then ((vec_Min.f k2 l0_0 l0_0).bind fun t374 => ((precentorref02_Same.f k2 t374 l0_0).bind fun t377 => (some t377))) else (some false)))) else (some false))))) else (none))) else (none)) = some r := by first | (rw [hy358]; with_reducible exact H) | (have H2_ := (Option.bind_some _ _).symm.trans H; rw [hy358]; with_reducible exact H2_) | (have H2_ := (Option.bind_some _ _).symm.trans H; with_reducible exact H2_) | with_reducible exact H | (rw [hy358]; exact H) | exact H
                have Ny358 := Aside0.mk hy358
                clear hy358
                by_cases c35 : y358.length + l0_0.length < 17592186044416
                · rw [if_pos c35] at H
                  have LMc35 := Aside0.mk c35
                  clear c35
                  obtain ⟨y361, hy361⟩ : ∃ y_ : List Int, y_ = (y358 ++ l0_0) := ⟨_, rfl⟩
                  replace H : (if y361.length + l0_1.length < 17592186044416 then ((vec_Sum.f k2 (y361 ++ l0_1)).bind fun t367 => ((vec_Sum.f k2 l0_0).bind fun t368 => ((vec_Sum.f k2 l0_1).bind fun t369 => (if t367 = (wrap64 (t368 + t369)) then ((vec_Max.f k2 l0_0 l0_0).bind fun t370 => ((precentorref02_Same.f k2 t370 l0_0).bind fun t373 => (if t373 = true then ((vec_Min.f k2 l0_0 l0_0).bind fun t374 => ((precentorref02_Same.f k2 t374 l0_0).bind fun t377 => (some t377))) else (some false)))) else (some false))))) else (none)) = some r := by first | (rw [hy361]; with_reducible exact H) | (have H2_ := (Option.bind_some _ _).symm.trans H; rw [hy361]; with_reducible exact H2_) | (have H2_ := (Option.bind_some _ _).symm.trans H; with_reducible exact H2_) | with_reducible exact H | (rw [hy361]; exact H) | exact H
                  have Ny361 := Aside0.mk hy361
                  clear hy361
                  by_cases c36 : y361.length + l0_1.length < 17592186044416
                  · rw [if_pos c36] at H
                    have LMc36 := Aside0.mk c36
                    clear c36
                    obtain ⟨y364, hy364⟩ : ∃ y_ : List Int, y_ = (y361 ++ l0_1) := ⟨_, rfl⟩
                    replace H : ((vec_Sum.f k2 y364).bind fun t367 => ((vec_Sum.f k2 l0_0).bind fun t368 => ((vec_Sum.f k2 l0_1).bind fun t369 => (if t367 = (wrap64 (t368 + t369)) then ((vec_Max.f k2 l0_0 l0_0).bind fun t370 => ((precentorref02_Same.f k2 t370 l0_0).bind fun t373 => (if t373 = true then ((vec_Min.f k2 l0_0 l0_0).bind fun t374 => ((precentorref02_Same.f k2 t374 l0_0).bind fun t377 => (some t377))) else (some false)))) else (some false))))) = some r := by first | (rw [hy364]; with_reducible exact H) | (have H2_ := (Option.bind_some _ _).symm.trans H; rw [hy364]; with_reducible exact H2_) | (have H2_ := (Option.bind_some _ _).symm.trans H; with_reducible exact H2_) | with_reducible exact H | (rw [hy364]; exact H) | exact H
                    have Ny364 := Aside0.mk hy364
                    clear hy364
                    replace H := Option.bind_eq_some_iff.mp H
                    obtain ⟨t367, A370, H⟩ := H
                    replace H : ((vec_Sum.f k2 l0_0).bind fun t368 => ((vec_Sum.f k2 l0_1).bind fun t369 => (if t367 = (wrap64 (t368 + t369)) then ((vec_Max.f k2 l0_0 l0_0).bind fun t370 => ((precentorref02_Same.f k2 t370 l0_0).bind fun t373 => (if t373 = true then ((vec_Min.f k2 l0_0 l0_0).bind fun t374 => ((precentorref02_Same.f k2 t374 l0_0).bind fun t377 => (some t377))) else (some false)))) else (some false)))) = some r := H
                    have A37 := Aside0.mk A370
                    clear A370
                    replace H := Option.bind_eq_some_iff.mp H
                    obtain ⟨t368, A380, H⟩ := H
                    replace H : ((vec_Sum.f k2 l0_1).bind fun t369 => (if t367 = (wrap64 (t368 + t369)) then ((vec_Max.f k2 l0_0 l0_0).bind fun t370 => ((precentorref02_Same.f k2 t370 l0_0).bind fun t373 => (if t373 = true then ((vec_Min.f k2 l0_0 l0_0).bind fun t374 => ((precentorref02_Same.f k2 t374 l0_0).bind fun t377 => (some t377))) else (some false)))) else (some false))) = some r := H
                    have A38 := Aside0.mk A380
                    clear A380
                    replace H := Option.bind_eq_some_iff.mp H
                    obtain ⟨t369, A390, H⟩ := H
                    replace H : (if t367 = (wrap64 (t368 + t369)) then ((vec_Max.f k2 l0_0 l0_0).bind fun t370 => ((precentorref02_Same.f k2 t370 l0_0).bind fun t373 => (if t373 = true then ((vec_Min.f k2 l0_0 l0_0).bind fun t374 => ((precentorref02_Same.f k2 t374 l0_0).bind fun t377 => (some t377))) else (some false)))) else (some false)) = some r := H
                    have A39 := Aside0.mk A390
                    clear A390
                    by_cases c40 : t367 = (wrap64 (t368 + t369))
                    · rw [if_pos c40] at H
                      have c40b0 : (t367 == (wrap64 (t368 + t369))) = true := beq_iff_eq.mpr c40
                      have c40b1 : (t367 != (wrap64 (t368 + t369))) = false := bne_eq_false_iff_eq.mpr c40
                      clear c40
                      replace H := Option.bind_eq_some_iff.mp H
                      obtain ⟨t370, A410, H⟩ := H
                      replace H : ((precentorref02_Same.f k2 t370 l0_0).bind fun t373 => (if t373 = true then ((vec_Min.f k2 l0_0 l0_0).bind fun t374 => ((precentorref02_Same.f k2 t374 l0_0).bind fun t377 => (some t377))) else (some false))) = some r := H
                      have A41 := Aside0.mk A410
                      clear A410
                      replace H := Option.bind_eq_some_iff.mp H
                      obtain ⟨t373, A420, H⟩ := H
                      replace H : (if t373 = true then ((vec_Min.f k2 l0_0 l0_0).bind fun t374 => ((precentorref02_Same.f k2 t374 l0_0).bind fun t377 => (some t377))) else (some false)) = some r := H
                      have A42 := Aside0.mk A420
                      clear A420
                      by_cases c43 : t373 = true
                      · subst c43
                        have H1 : ((vec_Min.f k2 l0_0 l0_0).bind fun t374 => ((precentorref02_Same.f k2 t374 l0_0).bind fun t377 => (some t377))) = some r := by rw [if_pos rfl] at H; exact H
                        clear H
                        have H := H1
                        clear H1
                        replace H := Option.bind_eq_some_iff.mp H
                        obtain ⟨t374, A440, H⟩ := H
                        replace H : ((precentorref02_Same.f k2 t374 l0_0).bind fun t377 => (some t377)) = some r := H
                        have A44 := Aside0.mk A440
                        clear A440
                        replace H := Option.bind_eq_some_iff.mp H
                        obtain ⟨t377, A450, H⟩ := H
                        replace H : (some t377) = some r := H
                        have A45 := Aside0.mk A450
                        clear A450
                        obtain rfl := Option.some.inj H
                        go_wp2_with (first | ((with_reducible refine gate_dst (N := 70) rfl ?_); (try (refine gate_guard (by rfl) ?_; dsimp only)); refine Kd.R_lit (Kd.int .i64) _ 3 ?hg (N := 70) ?hd (xs := ([] : List Int)) (inner := []) (ok := fun _ => True) (okp := fun _ => True) ?hr ?hp (fun _ hk => hk) trivial (Below.refl _ _) (Nat.le_refl _) (by simp) ?_; (case hd => rfl); (case hg => rfl); (case hr => first | (go_simp; done) | (go_simp; rfl)); (case hp => exact (Reps.none _ _)); intro v359 w46 ho47 hb hg_ hnew_; clear hg_ hnew_; (first | rw [← Ny358.out] at ho47 | (simp only [Int.reduceToNat] at ho47; rw [← Ny358.out] at ho47)); have n0_ := Aside0.mk (Kd.R_lower ho47 (below_size (by repeat (first | (with_reducible first | exact HB.out | apply below_alloc | apply pw_below_drewN | apply below_drew1 | refine below_set ?_ GE344.out) | exact HB.out)))); have n1_ := Aside0.mk (blk_below (g := gb344) (o := .cells #[.slice A0_0 l0_0.length c0_0, .slice A0_1 l0_1.length c0_1, .slice A0_2 l0_2.length c0_2, .int .u8 a0_3] 38 (0, 0)) (by (with_reducible repeat (first | refine blk_drewN ?_ _ | refine blk_drew ?_ | refine blk_alloc ?_ _)); exact BK344.out) hb); have n2_ := Aside0.mk (below_step (by repeat (first | (with_reducible first | exact HB.out | apply below_alloc | apply pw_below_drewN | apply below_drew1 | refine below_set ?_ GE344.out) | exact HB.out)) hb); clear BK344; clear HB; have HO360 := n0_; have BK344 := n1_; have HB := n2_; clear n0_ n1_ n2_; clear hb ho47) | ((with_reducible refine gate_builtin (b := .append) (xs := #[.tmp 70, .tmp 71]) rfl ?_); (try (refine gate_guard (by rfl) ?_; dsimp only)); at_builtin; refine Kd.R_append_rows (Kd.int .i64) (w0 := w) w.heap.size rfl (.tmp 70) (.tmp 71) 22 3 (.int .i64 0) 8 rfl Try.underlying22 info3 rfl (by decide) (by omega) v359 y358 l0_0 _ _ _ (fun _ => True) (fun _ => False) rfl rfl ?aO ?aR (fun _ _ h => h) (fun _ h => h.elim) ?aF ?aB ?aS ?aL ?_; (case aR => repeat (first | exact (Kd.C_below HR0_0.out HB.out) | (with_reducible refine Kd.C_alloc ?_ _) | (with_reducible refine Kd.C_drewN ?_ _) | (with_reducible refine Kd.C_drew ?_))); (case aB => exact (by repeat (first | (with_reducible first | exact HB.out | apply below_alloc | apply pw_below_drewN | apply below_drew1 | refine below_set ?_ GE344.out) | exact HB.out))); (case aF => exact (fun _ _ => trivial)); (case aO => exact (by (with_reducible repeat (first | apply Kd.R_alloc | apply Kd.R_drewN | apply Kd.R_drew)); exact HO360.out)); (case aS => exact (below_size (by repeat (first | (with_reducible first | exact HB.out | apply below_alloc | apply pw_below_drewN | apply below_drew1 | refine below_set ?_ GE344.out) | exact HB.out)))); (case aL => have := LMc35.out; omega); intro v362 w48 ho hb hg hat; rw [← Ny361.out] at ho; have n0_ := Aside0.mk (blk_grown (g := gb344) (o := .cells #[.slice A0_0 l0_0.length c0_0, .slice A0_1 l0_1.length c0_1, .slice A0_2 l0_2.length c0_2, .int .u8 a0_3] 38 (0, 0)) (by (with_reducible repeat (first | refine blk_drewN ?_ _ | refine blk_drew ?_ | refine blk_alloc ?_ _)); exact BK344.out) hg (Kd.R_ne HO360.out BK344.out (by decide))); have n1_ := Aside0.mk (hb); have n2_ := Aside0.mk (ho); clear BK344; clear HB; clear HO360; have BK344 := n0_; have HB := n1_; have HO363 := n2_; clear n0_ n1_ n2_; clear ho hb hg hat) | ((with_reducible refine gate_builtin (b := .append) (xs := #[.tmp 72, .tmp 73]) rfl ?_); (try (refine gate_guard (by rfl) ?_; dsimp only)); at_builtin; refine Kd.R_append_rows (Kd.int .i64) (w0 := w) w.heap.size rfl (.tmp 72) (.tmp 73) 22 3 (.int .i64 0) 8 rfl Try.underlying22 info3 rfl (by decide) (by omega) v362 y361 l0_1 _ _ _ (fun _ => True) (fun _ => False) rfl rfl ?aO ?aR (fun _ _ h => h) (fun _ h => h.elim) ?aF ?aB ?aS ?aL ?_; (case aR => repeat (first | exact (Kd.C_below HR0_1.out HB.out) | (with_reducible refine Kd.C_alloc ?_ _) | (with_reducible refine Kd.C_drewN ?_ _) | (with_reducible refine Kd.C_drew ?_))); (case aB => exact (by repeat (first | (with_reducible first | exact HB.out | apply below_alloc | apply pw_below_drewN | apply below_drew1 | refine below_set ?_ GE344.out) | exact HB.out))); (case aF => exact (fun _ _ => trivial)); (case aO => exact (by (with_reducible repeat (first | apply Kd.R_alloc | apply Kd.R_drewN | apply Kd.R_drew)); exact HO363.out)); (case aS => exact (below_size (by repeat (first | (with_reducible first | exact HB.out | apply below_alloc | apply pw_below_drewN | apply below_drew1 | refine below_set ?_ GE344.out) | exact HB.out)))); (case aL => have := LMc36.out; omega); intro v365 w49 ho hb hg hat; rw [← Ny364.out] at ho; have n0_ := Aside0.mk (blk_grown (g := gb344) (o := .cells #[.slice A0_0 l0_0.length c0_0, .slice A0_1 l0_1.length c0_1, .slice A0_2 l0_2.length c0_2, .int .u8 a0_3] 38 (0, 0)) (by (with_reducible repeat (first | refine blk_drewN ?_ _ | refine blk_drew ?_ | refine blk_alloc ?_ _)); exact BK344.out) hg (Kd.R_ne HO363.out BK344.out (by decide))); have n1_ := Aside0.mk (hb); have n2_ := Aside0.mk (ho); clear BK344; clear HB; clear HO363; have BK344 := n0_; have HB := n1_; have HO366 := n2_; clear n0_ n1_ n2_; clear ho hb hg hat; obtain ⟨Ao50, co50, eo50⟩ := Kd.R_slice HO366.out; subst eo50) | ((with_reducible refine gate_dst (N := 75) rfl ?_); (try (refine gate_guard (by rfl) ?_; dsimp only)); (with_reducible refine gate_callee (f := 19) rfl ?_); refine gate_guard (by rfl) ?_; dsimp only; refine goesL_ (some 75) rfl rfl Try.func19 (by kernel_rfl) rfl #[.slice Ao50 y364.length co50] rfl (by (try simp only [List.map_toArray, List.map_cons, List.map_nil]); first | done | rfl | (simp only [List.length_drop, List.length_take]; rfl)) ?_; (with_reducible refine (vec_Sum.calls k2 _ _ y364 t367 _ ?side1 ?side2 A37.out).mono ?_); (case side1 => repeat (first | exact (Kd.R_reads' HO366.out).2.2 | (with_reducible refine Kd.C_alloc ?_ _) | (with_reducible refine Kd.C_drewN ?_ _) | (with_reducible refine Kd.C_drew ?_))); (case side2 => exact (Kd.R_reads' HO366.out).2.1); rintro e w' ⟨rfl, ⟨nd, rfl⟩⟩; refine ⟨_, rfl, ?_⟩) | ((with_reducible refine gate_dst (N := 77) rfl ?_); (try (refine gate_guard (by rfl) ?_; dsimp only)); (with_reducible refine gate_callee (f := 19) rfl ?_); refine gate_guard (by rfl) ?_; dsimp only; refine goesL_ (some 77) rfl rfl Try.func19 (by kernel_rfl) rfl #[.slice A0_0 l0_0.length c0_0] rfl (by (try simp only [List.map_toArray, List.map_cons, List.map_nil]); first | done | rfl | (simp only [List.length_drop, List.length_take]; rfl)) ?_; (with_reducible refine (vec_Sum.calls k2 _ _ l0_0 t368 _ ?side1 ?side2 A38.out).mono ?_); (case side1 => repeat (first | exact (Kd.C_below HR0_0.out (by repeat (first | (with_reducible first | exact HB.out | apply below_alloc | apply pw_below_drewN | apply below_drew1 | refine below_set ?_ GE344.out) | exact HB.out))) | (with_reducible refine Kd.C_alloc ?_ _) | (with_reducible refine Kd.C_drewN ?_ _) | (with_reducible refine Kd.C_drew ?_))); (case side2 => exact HC0_0.out); rintro e w' ⟨rfl, ⟨nd, rfl⟩⟩; refine ⟨_, rfl, ?_⟩) | ((with_reducible refine gate_dst (N := 79) rfl ?_); (try (refine gate_guard (by rfl) ?_; dsimp only)); (with_reducible refine gate_callee (f := 19) rfl ?_); refine gate_guard (by rfl) ?_; dsimp only; refine goesL_ (some 79) rfl rfl Try.func19 (by kernel_rfl) rfl #[.slice A0_1 l0_1.length c0_1] rfl (by (try simp only [List.map_toArray, List.map_cons, List.map_nil]); first | done | rfl | (simp only [List.length_drop, List.length_take]; rfl)) ?_; (with_reducible refine (vec_Sum.calls k2 _ _ l0_1 t369 _ ?side1 ?side2 A39.out).mono ?_); (case side1 => repeat (first | exact (Kd.C_below HR0_1.out (by repeat (first | (with_reducible first | exact HB.out | apply below_alloc | apply pw_below_drewN | apply below_drew1 | refine below_set ?_ GE344.out) | exact HB.out))) | (with_reducible refine Kd.C_alloc ?_ _) | (with_reducible refine Kd.C_drewN ?_ _) | (with_reducible refine Kd.C_drew ?_))); (case side2 => exact HC0_1.out); rintro e w' ⟨rfl, ⟨nd, rfl⟩⟩; refine ⟨_, rfl, ?_⟩) | ((with_reducible refine gate_dst (N := 86) rfl ?_); (try (refine gate_guard (by rfl) ?_; dsimp only)); (with_reducible refine gate_callee (f := 11) rfl ?_); refine gate_guard (by rfl) ?_; dsimp only; refine goesL_ (some 86) rfl rfl Try.func11 (by kernel_rfl) rfl #[.slice A0_0 l0_0.length c0_0, .slice A0_0 l0_0.length c0_0] rfl (by (try simp only [List.map_toArray, List.map_cons, List.map_nil]); first | done | rfl | (simp only [List.length_drop, List.length_take]; rfl)) ?_; (with_reducible refine (vec_Max.calls k2 _ _ l0_0 _ _ l0_0 t370 _ ?side1 ?side2 ?side3 ?side4 A41.out).mono ?_); (case side1 => repeat (first | exact (Kd.C_below HR0_0.out (by repeat (first | (with_reducible first | exact HB.out | apply below_alloc | apply pw_below_drewN | apply below_drew1 | refine below_set ?_ GE344.out) | exact HB.out))) | (with_reducible refine Kd.C_alloc ?_ _) | (with_reducible refine Kd.C_drewN ?_ _) | (with_reducible refine Kd.C_drew ?_))); (case side2 => exact HC0_0.out); (case side3 => repeat (first | exact (Kd.C_below HR0_0.out (by repeat (first | (with_reducible first | exact HB.out | apply below_alloc | apply pw_below_drewN | apply below_drew1 | refine below_set ?_ GE344.out) | exact HB.out))) | (with_reducible refine Kd.C_alloc ?_ _) | (with_reducible refine Kd.C_drewN ?_ _) | (with_reducible refine Kd.C_drew ?_))); (case side4 => exact HC0_0.out); rintro e w51 ⟨v371, rfl, ho0, hb⟩; refine ⟨_, rfl, ?_⟩; have n0_ := Aside0.mk (Kd.R_elder' (by (with_reducible repeat (first | apply Kd.R_alloc | apply Kd.R_drewN | apply Kd.R_drew)); exact HO366.out) (Kd.R_base ho0) hb); have n1_ := Aside0.mk (Kd.R_lower (Kd.R_new' ho0 (Kd.R_lt (by (with_reducible repeat (first | apply Kd.R_alloc | apply Kd.R_drewN | apply Kd.R_drew)); exact HO366.out))) (below_size (by repeat (first | (with_reducible first | exact HB.out | apply below_alloc | apply pw_below_drewN | apply below_drew1 | refine below_set ?_ GE344.out) | exact HB.out)))); have n2_ := Aside0.mk (blk_below (g := gb344) (o := .cells #[.slice A0_0 l0_0.length c0_0, .slice A0_1 l0_1.length c0_1, .slice A0_2 l0_2.length c0_2, .int .u8 a0_3] 38 (0, 0)) (by (with_reducible repeat (first | refine blk_drewN ?_ _ | refine blk_drew ?_ | refine blk_alloc ?_ _)); exact BK344.out) hb); have n3_ := Aside0.mk (below_step (by repeat (first | (with_reducible first | exact HB.out | apply below_alloc | apply pw_below_drewN | apply below_drew1 | refine below_set ?_ GE344.out) | exact HB.out)) hb); clear HO366; clear BK344; clear HB; have HO366 := n0_; have HO372 := n1_; have BK344 := n2_; have HB := n3_; clear n0_ n1_ n2_ n3_; (try clear hb); (try clear hb2); (try clear hk); (try clear hi); (try clear ho0); obtain ⟨Ao52, co52, eo52⟩ := Kd.R_slice HO372.out; subst eo52) | ((with_reducible refine gate_dst (N := 88) rfl ?_); (try (refine gate_guard (by rfl) ?_; dsimp only)); (with_reducible refine gate_callee (f := 10) rfl ?_); refine gate_guard (by rfl) ?_; dsimp only; refine goesL_ (some 88) rfl rfl Try.func10 (by kernel_rfl) rfl #[.slice Ao52 t370.length co52, .slice A0_0 l0_0.length c0_0] rfl (by (try simp only [List.map_toArray, List.map_cons, List.map_nil]); first | done | rfl | (simp only [List.length_drop, List.length_take]; rfl)) ?_; (with_reducible refine (precentorref02_Same.calls k2 _ _ t370 _ _ l0_0 true _ ?side1 ?side2 ?side3 ?side4 A42.out).mono ?_); (case side1 => repeat (first | exact (Kd.R_reads' HO372.out).2.2 | (with_reducible refine Kd.C_alloc ?_ _) | (with_reducible refine Kd.C_drewN ?_ _) | (with_reducible refine Kd.C_drew ?_))); (case side2 => exact (Kd.R_reads' HO372.out).2.1); (case side3 => repeat (first | exact (Kd.C_below HR0_0.out HB.out) | (with_reducible refine Kd.C_alloc ?_ _) | (with_reducible refine Kd.C_drewN ?_ _) | (with_reducible refine Kd.C_drew ?_))); (case side4 => exact HC0_0.out); rintro e w' ⟨rfl, ⟨nd, rfl⟩⟩; refine ⟨_, rfl, ?_⟩) | ((with_reducible refine gate_dst (N := 93) rfl ?_); (try (refine gate_guard (by rfl) ?_; dsimp only)); (with_reducible refine gate_callee (f := 13) rfl ?_); refine gate_guard (by rfl) ?_; dsimp only; refine goesL_ (some 93) rfl rfl Try.func13 (by kernel_rfl) rfl #[.slice A0_0 l0_0.length c0_0, .slice A0_0 l0_0.length c0_0] rfl (by (try simp only [List.map_toArray, List.map_cons, List.map_nil]); first | done | rfl | (simp only [List.length_drop, List.length_take]; rfl)) ?_; (with_reducible refine (vec_Min.calls k2 _ _ l0_0 _ _ l0_0 t374 _ ?side1 ?side2 ?side3 ?side4 A44.out).mono ?_); (case side1 => repeat (first | exact (Kd.C_below HR0_0.out (by repeat (first | (with_reducible first | exact HB.out | apply below_alloc | apply pw_below_drewN | apply below_drew1 | refine below_set ?_ GE344.out) | exact HB.out))) | (with_reducible refine Kd.C_alloc ?_ _) | (with_reducible refine Kd.C_drewN ?_ _) | (with_reducible refine Kd.C_drew ?_))); (case side2 => exact HC0_0.out); (case side3 => repeat (first | exact (Kd.C_below HR0_0.out (by repeat (first | (with_reducible first | exact HB.out | apply below_alloc | apply pw_below_drewN | apply below_drew1 | refine below_set ?_ GE344.out) | exact HB.out))) | (with_reducible refine Kd.C_alloc ?_ _) | (with_reducible refine Kd.C_drewN ?_ _) | (with_reducible refine Kd.C_drew ?_))); (case side4 => exact HC0_0.out); rintro e w53 ⟨v375, rfl, ho0, hb⟩; refine ⟨_, rfl, ?_⟩; have n0_ := Aside0.mk (Kd.R_elder' (by (with_reducible repeat (first | apply Kd.R_alloc | apply Kd.R_drewN | apply Kd.R_drew)); exact HO366.out) (Kd.R_base ho0) hb); have n1_ := Aside0.mk (Kd.R_elder' (by (with_reducible repeat (first | apply Kd.R_alloc | apply Kd.R_drewN | apply Kd.R_drew)); exact HO372.out) (Kd.R_base ho0) hb); have n2_ := Aside0.mk (Kd.R_lower (Kd.R_new' (Kd.R_new' ho0 (Kd.R_lt (by (with_reducible repeat (first | apply Kd.R_alloc | apply Kd.R_drewN | apply Kd.R_drew)); exact HO366.out))) (Kd.R_lt (by (with_reducible repeat (first | apply Kd.R_alloc | apply Kd.R_drewN | apply Kd.R_drew)); exact HO372.out))) (below_size (by repeat (first | (with_reducible first | exact HB.out | apply below_alloc | apply pw_below_drewN | apply below_drew1 | refine below_set ?_ GE344.out) | exact HB.out)))); have n3_ := Aside0.mk (blk_below (g := gb344) (o := .cells #[.slice A0_0 l0_0.length c0_0, .slice A0_1 l0_1.length c0_1, .slice A0_2 l0_2.length c0_2, .int .u8 a0_3] 38 (0, 0)) (by (with_reducible repeat (first | refine blk_drewN ?_ _ | refine blk_drew ?_ | refine blk_alloc ?_ _)); exact BK344.out) hb); have n4_ := Aside0.mk (below_step (by repeat (first | (with_reducible first | exact HB.out | apply below_alloc | apply pw_below_drewN | apply below_drew1 | refine below_set ?_ GE344.out) | exact HB.out)) hb); clear HO366; clear HO372; clear BK344; clear HB; have HO366 := n0_; have HO372 := n1_; have HO376 := n2_; have BK344 := n3_; have HB := n4_; clear n0_ n1_ n2_ n3_ n4_; (try clear hb); (try clear hb2); (try clear hk); (try clear hi); (try clear ho0); obtain ⟨Ao54, co54, eo54⟩ := Kd.R_slice HO376.out; subst eo54) | ((with_reducible refine gate_dst (N := 95) rfl ?_); (try (refine gate_guard (by rfl) ?_; dsimp only)); (with_reducible refine gate_callee (f := 10) rfl ?_); refine gate_guard (by rfl) ?_; dsimp only; refine goesL_ (some 95) rfl rfl Try.func10 (by kernel_rfl) rfl #[.slice Ao54 t374.length co54, .slice A0_0 l0_0.length c0_0] rfl (by (try simp only [List.map_toArray, List.map_cons, List.map_nil]); first | done | rfl | (simp only [List.length_drop, List.length_take]; rfl)) ?_; (with_reducible refine (precentorref02_Same.calls k2 _ _ t374 _ _ l0_0 t377 _ ?side1 ?side2 ?side3 ?side4 A45.out).mono ?_); (case side1 => repeat (first | exact (Kd.R_reads' HO376.out).2.2 | (with_reducible refine Kd.C_alloc ?_ _) | (with_reducible refine Kd.C_drewN ?_ _) | (with_reducible refine Kd.C_drew ?_))); (case side2 => exact (Kd.R_reads' HO376.out).2.1); (case side3 => repeat (first | exact (Kd.C_below HR0_0.out HB.out) | (with_reducible refine Kd.C_alloc ?_ _) | (with_reducible refine Kd.C_drewN ?_ _) | (with_reducible refine Kd.C_drew ?_))); (case side4 => exact HC0_0.out); rintro e w' ⟨rfl, ⟨nd, rfl⟩⟩; refine ⟨_, rfl, ?_⟩))
                        go_ret
                        exact ⟨by first | rfl | (simp [errW_none, errW_some] <;> rfl) | (simp [*, errW_none, errW_some] <;> rfl), by repeat (first | (with_reducible first | exact HB.out | apply below_alloc | apply pw_below_drewN | apply below_drew1 | refine below_set ?_ GE344.out) | exact HB.out)⟩
                      · replace c43 := Bool.eq_false_iff.mpr c43
                        subst c43
                        have H1 : (some false) = some r := by rw [if_neg (show ¬ (false = true) by decide)] at H; exact H
                        clear H
                        have H := H1
                        clear H1
                        obtain rfl := Option.some.inj H
                        go_wp2_with (first | ((with_reducible refine gate_dst (N := 70) rfl ?_); (try (refine gate_guard (by rfl) ?_; dsimp only)); refine Kd.R_lit (Kd.int .i64) _ 3 ?hg (N := 70) ?hd (xs := ([] : List Int)) (inner := []) (ok := fun _ => True) (okp := fun _ => True) ?hr ?hp (fun _ hk => hk) trivial (Below.refl _ _) (Nat.le_refl _) (by simp) ?_; (case hd => rfl); (case hg => rfl); (case hr => first | (go_simp; done) | (go_simp; rfl)); (case hp => exact (Reps.none _ _)); intro v359 w55 ho56 hb hg_ hnew_; clear hg_ hnew_; (first | rw [← Ny358.out] at ho56 | (simp only [Int.reduceToNat] at ho56; rw [← Ny358.out] at ho56)); have n0_ := Aside0.mk (Kd.R_lower ho56 (below_size (by repeat (first | (with_reducible first | exact HB.out | apply below_alloc | apply pw_below_drewN | apply below_drew1 | refine below_set ?_ GE344.out) | exact HB.out)))); have n1_ := Aside0.mk (blk_below (g := gb344) (o := .cells #[.slice A0_0 l0_0.length c0_0, .slice A0_1 l0_1.length c0_1, .slice A0_2 l0_2.length c0_2, .int .u8 a0_3] 38 (0, 0)) (by (with_reducible repeat (first | refine blk_drewN ?_ _ | refine blk_drew ?_ | refine blk_alloc ?_ _)); exact BK344.out) hb); have n2_ := Aside0.mk (below_step (by repeat (first | (with_reducible first | exact HB.out | apply below_alloc | apply pw_below_drewN | apply below_drew1 | refine below_set ?_ GE344.out) | exact HB.out)) hb); clear BK344; clear HB; have HO360 := n0_; have BK344 := n1_; have HB := n2_; clear n0_ n1_ n2_; clear hb ho56) | ((with_reducible refine gate_builtin (b := .append) (xs := #[.tmp 70, .tmp 71]) rfl ?_); (try (refine gate_guard (by rfl) ?_; dsimp only)); at_builtin; refine Kd.R_append_rows (Kd.int .i64) (w0 := w) w.heap.size rfl (.tmp 70) (.tmp 71) 22 3 (.int .i64 0) 8 rfl Try.underlying22 info3 rfl (by decide) (by omega) v359 y358 l0_0 _ _ _ (fun _ => True) (fun _ => False) rfl rfl ?aO ?aR (fun _ _ h => h) (fun _ h => h.elim) ?aF ?aB ?aS ?aL ?_; (case aR => repeat (first | exact (Kd.C_below HR0_0.out HB.out) | (with_reducible refine Kd.C_alloc ?_ _) | (with_reducible refine Kd.C_drewN ?_ _) | (with_reducible refine Kd.C_drew ?_))); (case aB => exact (by repeat (first | (with_reducible first | exact HB.out | apply below_alloc | apply pw_below_drewN | apply below_drew1 | refine below_set ?_ GE344.out) | exact HB.out))); (case aF => exact (fun _ _ => trivial)); (case aO => exact (by (with_reducible repeat (first | apply Kd.R_alloc | apply Kd.R_drewN | apply Kd.R_drew)); exact HO360.out)); (case aS => exact (below_size (by repeat (first | (with_reducible first | exact HB.out | apply below_alloc | apply pw_below_drewN | apply below_drew1 | refine below_set ?_ GE344.out) | exact HB.out)))); (case aL => have := LMc35.out; omega); intro v362 w57 ho hb hg hat; rw [← Ny361.out] at ho; have n0_ := Aside0.mk (blk_grown (g := gb344) (o := .cells #[.slice A0_0 l0_0.length c0_0, .slice A0_1 l0_1.length c0_1, .slice A0_2 l0_2.length c0_2, .int .u8 a0_3] 38 (0, 0)) (by (with_reducible repeat (first | refine blk_drewN ?_ _ | refine blk_drew ?_ | refine blk_alloc ?_ _)); exact BK344.out) hg (Kd.R_ne HO360.out BK344.out (by decide))); have n1_ := Aside0.mk (hb); have n2_ := Aside0.mk (ho); clear BK344; clear HB; clear HO360; have BK344 := n0_; have HB := n1_; have HO363 := n2_; clear n0_ n1_ n2_; clear ho hb hg hat) | ((with_reducible refine gate_builtin (b := .append) (xs := #[.tmp 72, .tmp 73]) rfl ?_); (try (refine gate_guard (by rfl) ?_; dsimp only)); at_builtin; refine Kd.R_append_rows (Kd.int .i64) (w0 := w) w.heap.size rfl (.tmp 72) (.tmp 73) 22 3 (.int .i64 0) 8 rfl Try.underlying22 info3 rfl (by decide) (by omega) v362 y361 l0_1 _ _ _ (fun _ => True) (fun _ => False) rfl rfl ?aO ?aR (fun _ _ h => h) (fun _ h => h.elim) ?aF ?aB ?aS ?aL ?_; (case aR => repeat (first | exact (Kd.C_below HR0_1.out HB.out) | (with_reducible refine Kd.C_alloc ?_ _) | (with_reducible refine Kd.C_drewN ?_ _) | (with_reducible refine Kd.C_drew ?_))); (case aB => exact (by repeat (first | (with_reducible first | exact HB.out | apply below_alloc | apply pw_below_drewN | apply below_drew1 | refine below_set ?_ GE344.out) | exact HB.out))); (case aF => exact (fun _ _ => trivial)); (case aO => exact (by (with_reducible repeat (first | apply Kd.R_alloc | apply Kd.R_drewN | apply Kd.R_drew)); exact HO363.out)); (case aS => exact (below_size (by repeat (first | (with_reducible first | exact HB.out | apply below_alloc | apply pw_below_drewN | apply below_drew1 | refine below_set ?_ GE344.out) | exact HB.out)))); (case aL => have := LMc36.out; omega); intro v365 w58 ho hb hg hat; rw [← Ny364.out] at ho; have n0_ := Aside0.mk (blk_grown (g := gb344) (o := .cells #[.slice A0_0 l0_0.length c0_0, .slice A0_1 l0_1.length c0_1, .slice A0_2 l0_2.length c0_2, .int .u8 a0_3] 38 (0, 0)) (by (with_reducible repeat (first | refine blk_drewN ?_ _ | refine blk_drew ?_ | refine blk_alloc ?_ _)); exact BK344.out) hg (Kd.R_ne HO363.out BK344.out (by decide))); have n1_ := Aside0.mk (hb); have n2_ := Aside0.mk (ho); clear BK344; clear HB; clear HO363; have BK344 := n0_; have HB := n1_; have HO366 := n2_; clear n0_ n1_ n2_; clear ho hb hg hat; obtain ⟨Ao59, co59, eo59⟩ := Kd.R_slice HO366.out; subst eo59) | ((with_reducible refine gate_dst (N := 75) rfl ?_); (try (refine gate_guard (by rfl) ?_; dsimp only)); (with_reducible refine gate_callee (f := 19) rfl ?_); refine gate_guard (by rfl) ?_; dsimp only; refine goesL_ (some 75) rfl rfl Try.func19 (by kernel_rfl) rfl #[.slice Ao59 y364.length co59] rfl (by (try simp only [List.map_toArray, List.map_cons, List.map_nil]); first | done | rfl | (simp only [List.length_drop, List.length_take]; rfl)) ?_; (with_reducible refine (vec_Sum.calls k2 _ _ y364 t367 _ ?side1 ?side2 A37.out).mono ?_); (case side1 => repeat (first | exact (Kd.R_reads' HO366.out).2.2 | (with_reducible refine Kd.C_alloc ?_ _) | (with_reducible refine Kd.C_drewN ?_ _) | (with_reducible refine Kd.C_drew ?_))); (case side2 => exact (Kd.R_reads' HO366.out).2.1); rintro e w' ⟨rfl, ⟨nd, rfl⟩⟩; refine ⟨_, rfl, ?_⟩) | ((with_reducible refine gate_dst (N := 77) rfl ?_); (try (refine gate_guard (by rfl) ?_; dsimp only)); (with_reducible refine gate_callee (f := 19) rfl ?_); refine gate_guard (by rfl) ?_; dsimp only; refine goesL_ (some 77) rfl rfl Try.func19 (by kernel_rfl) rfl #[.slice A0_0 l0_0.length c0_0] rfl (by (try simp only [List.map_toArray, List.map_cons, List.map_nil]); first | done | rfl | (simp only [List.length_drop, List.length_take]; rfl)) ?_; (with_reducible refine (vec_Sum.calls k2 _ _ l0_0 t368 _ ?side1 ?side2 A38.out).mono ?_); (case side1 => repeat (first | exact (Kd.C_below HR0_0.out (by repeat (first | (with_reducible first | exact HB.out | apply below_alloc | apply pw_below_drewN | apply below_drew1 | refine below_set ?_ GE344.out) | exact HB.out))) | (with_reducible refine Kd.C_alloc ?_ _) | (with_reducible refine Kd.C_drewN ?_ _) | (with_reducible refine Kd.C_drew ?_))); (case side2 => exact HC0_0.out); rintro e w' ⟨rfl, ⟨nd, rfl⟩⟩; refine ⟨_, rfl, ?_⟩) | ((with_reducible refine gate_dst (N := 79) rfl ?_); (try (refine gate_guard (by rfl) ?_; dsimp only)); (with_reducible refine gate_callee (f := 19) rfl ?_); refine gate_guard (by rfl) ?_; dsimp only; refine goesL_ (some 79) rfl rfl Try.func19 (by kernel_rfl) rfl #[.slice A0_1 l0_1.length c0_1] rfl (by (try simp only [List.map_toArray, List.map_cons, List.map_nil]); first | done | rfl | (simp only [List.length_drop, List.length_take]; rfl)) ?_; (with_reducible refine (vec_Sum.calls k2 _ _ l0_1 t369 _ ?side1 ?side2 A39.out).mono ?_); (case side1 => repeat (first | exact (Kd.C_below HR0_1.out (by repeat (first | (with_reducible first | exact HB.out | apply below_alloc | apply pw_below_drewN | apply below_drew1 | refine below_set ?_ GE344.out) | exact HB.out))) | (with_reducible refine Kd.C_alloc ?_ _) | (with_reducible refine Kd.C_drewN ?_ _) | (with_reducible refine Kd.C_drew ?_))); (case side2 => exact HC0_1.out); rintro e w' ⟨rfl, ⟨nd, rfl⟩⟩; refine ⟨_, rfl, ?_⟩) | ((with_reducible refine gate_dst (N := 86) rfl ?_); (try (refine gate_guard (by rfl) ?_; dsimp only)); (with_reducible refine gate_callee (f := 11) rfl ?_); refine gate_guard (by rfl) ?_; dsimp only; refine goesL_ (some 86) rfl rfl Try.func11 (by kernel_rfl) rfl #[.slice A0_0 l0_0.length c0_0, .slice A0_0 l0_0.length c0_0] rfl (by (try simp only [List.map_toArray, List.map_cons, List.map_nil]); first | done | rfl | (simp only [List.length_drop, List.length_take]; rfl)) ?_; (with_reducible refine (vec_Max.calls k2 _ _ l0_0 _ _ l0_0 t370 _ ?side1 ?side2 ?side3 ?side4 A41.out).mono ?_); (case side1 => repeat (first | exact (Kd.C_below HR0_0.out (by repeat (first | (with_reducible first | exact HB.out | apply below_alloc | apply pw_below_drewN | apply below_drew1 | refine below_set ?_ GE344.out) | exact HB.out))) | (with_reducible refine Kd.C_alloc ?_ _) | (with_reducible refine Kd.C_drewN ?_ _) | (with_reducible refine Kd.C_drew ?_))); (case side2 => exact HC0_0.out); (case side3 => repeat (first | exact (Kd.C_below HR0_0.out (by repeat (first | (with_reducible first | exact HB.out | apply below_alloc | apply pw_below_drewN | apply below_drew1 | refine below_set ?_ GE344.out) | exact HB.out))) | (with_reducible refine Kd.C_alloc ?_ _) | (with_reducible refine Kd.C_drewN ?_ _) | (with_reducible refine Kd.C_drew ?_))); (case side4 => exact HC0_0.out); rintro e w60 ⟨v371, rfl, ho0, hb⟩; refine ⟨_, rfl, ?_⟩; have n0_ := Aside0.mk (Kd.R_elder' (by (with_reducible repeat (first | apply Kd.R_alloc | apply Kd.R_drewN | apply Kd.R_drew)); exact HO366.out) (Kd.R_base ho0) hb); have n1_ := Aside0.mk (Kd.R_lower (Kd.R_new' ho0 (Kd.R_lt (by (with_reducible repeat (first | apply Kd.R_alloc | apply Kd.R_drewN | apply Kd.R_drew)); exact HO366.out))) (below_size (by repeat (first | (with_reducible first | exact HB.out | apply below_alloc | apply pw_below_drewN | apply below_drew1 | refine below_set ?_ GE344.out) | exact HB.out)))); have n2_ := Aside0.mk (blk_below (g := gb344) (o := .cells #[.slice A0_0 l0_0.length c0_0, .slice A0_1 l0_1.length c0_1, .slice A0_2 l0_2.length c0_2, .int .u8 a0_3] 38 (0, 0)) (by (with_reducible repeat (first | refine blk_drewN ?_ _ | refine blk_drew ?_ | refine blk_alloc ?_ _)); exact BK344.out) hb); have n3_ := Aside0.mk (below_step (by repeat (first | (with_reducible first | exact HB.out | apply below_alloc | apply pw_below_drewN | apply below_drew1 | refine below_set ?_ GE344.out) | exact HB.out)) hb); clear HO366; clear BK344; clear HB; have HO366 := n0_; have HO372 := n1_; have BK344 := n2_; have HB := n3_; clear n0_ n1_ n2_ n3_; (try clear hb); (try clear hb2); (try clear hk); (try clear hi); (try clear ho0); obtain ⟨Ao61, co61, eo61⟩ := Kd.R_slice HO372.out; subst eo61) | ((with_reducible refine gate_dst (N := 88) rfl ?_); (try (refine gate_guard (by rfl) ?_; dsimp only)); (with_reducible refine gate_callee (f := 10) rfl ?_); refine gate_guard (by rfl) ?_; dsimp only; refine goesL_ (some 88) rfl rfl Try.func10 (by kernel_rfl) rfl #[.slice Ao61 t370.length co61, .slice A0_0 l0_0.length c0_0] rfl (by (try simp only [List.map_toArray, List.map_cons, List.map_nil]); first | done | rfl | (simp only [List.length_drop, List.length_take]; rfl)) ?_; (with_reducible refine (precentorref02_Same.calls k2 _ _ t370 _ _ l0_0 false _ ?side1 ?side2 ?side3 ?side4 A42.out).mono ?_); (case side1 => repeat (first | exact (Kd.R_reads' HO372.out).2.2 | (with_reducible refine Kd.C_alloc ?_ _) | (with_reducible refine Kd.C_drewN ?_ _) | (with_reducible refine Kd.C_drew ?_))); (case side2 => exact (Kd.R_reads' HO372.out).2.1); (case side3 => repeat (first | exact (Kd.C_below HR0_0.out HB.out) | (with_reducible refine Kd.C_alloc ?_ _) | (with_reducible refine Kd.C_drewN ?_ _) | (with_reducible refine Kd.C_drew ?_))); (case side4 => exact HC0_0.out); rintro e w' ⟨rfl, ⟨nd, rfl⟩⟩; refine ⟨_, rfl, ?_⟩))
                        go_ret
                        exact ⟨by first | rfl | (simp [errW_none, errW_some] <;> rfl) | (simp [*, errW_none, errW_some] <;> rfl), by repeat (first | (with_reducible first | exact HB.out | apply below_alloc | apply pw_below_drewN | apply below_drew1 | refine below_set ?_ GE344.out) | exact HB.out)⟩
                    · rw [if_neg c40] at H
                      have c40b0 : (t367 == (wrap64 (t368 + t369))) = false := beq_eq_false_iff_ne.mpr c40
                      have c40b1 : (t367 != (wrap64 (t368 + t369))) = true := bne_iff_ne.mpr c40
                      obtain rfl := Option.some.inj H
                      go_wp2_with (first | ((with_reducible refine gate_dst (N := 70) rfl ?_); (try (refine gate_guard (by rfl) ?_; dsimp only)); refine Kd.R_lit (Kd.int .i64) _ 3 ?hg (N := 70) ?hd (xs := ([] : List Int)) (inner := []) (ok := fun _ => True) (okp := fun _ => True) ?hr ?hp (fun _ hk => hk) trivial (Below.refl _ _) (Nat.le_refl _) (by simp) ?_; (case hd => rfl); (case hg => rfl); (case hr => first | (go_simp; done) | (go_simp; rfl)); (case hp => exact (Reps.none _ _)); intro v359 w62 ho63 hb hg_ hnew_; clear hg_ hnew_; (first | rw [← Ny358.out] at ho63 | (simp only [Int.reduceToNat] at ho63; rw [← Ny358.out] at ho63)); have n0_ := Aside0.mk (Kd.R_lower ho63 (below_size (by repeat (first | (with_reducible first | exact HB.out | apply below_alloc | apply pw_below_drewN | apply below_drew1 | refine below_set ?_ GE344.out) | exact HB.out)))); have n1_ := Aside0.mk (blk_below (g := gb344) (o := .cells #[.slice A0_0 l0_0.length c0_0, .slice A0_1 l0_1.length c0_1, .slice A0_2 l0_2.length c0_2, .int .u8 a0_3] 38 (0, 0)) (by (with_reducible repeat (first | refine blk_drewN ?_ _ | refine blk_drew ?_ | refine blk_alloc ?_ _)); exact BK344.out) hb); have n2_ := Aside0.mk (below_step (by repeat (first | (with_reducible first | exact HB.out | apply below_alloc | apply pw_below_drewN | apply below_drew1 | refine below_set ?_ GE344.out) | exact HB.out)) hb); clear BK344; clear HB; have HO360 := n0_; have BK344 := n1_; have HB := n2_; clear n0_ n1_ n2_; clear hb ho63) | ((with_reducible refine gate_builtin (b := .append) (xs := #[.tmp 70, .tmp 71]) rfl ?_); (try (refine gate_guard (by rfl) ?_; dsimp only)); at_builtin; refine Kd.R_append_rows (Kd.int .i64) (w0 := w) w.heap.size rfl (.tmp 70) (.tmp 71) 22 3 (.int .i64 0) 8 rfl Try.underlying22 info3 rfl (by decide) (by omega) v359 y358 l0_0 _ _ _ (fun _ => True) (fun _ => False) rfl rfl ?aO ?aR (fun _ _ h => h) (fun _ h => h.elim) ?aF ?aB ?aS ?aL ?_; (case aR => repeat (first | exact (Kd.C_below HR0_0.out HB.out) | (with_reducible refine Kd.C_alloc ?_ _) | (with_reducible refine Kd.C_drewN ?_ _) | (with_reducible refine Kd.C_drew ?_))); (case aB => exact (by repeat (first | (with_reducible first | exact HB.out | apply below_alloc | apply pw_below_drewN | apply below_drew1 | refine below_set ?_ GE344.out) | exact HB.out))); (case aF => exact (fun _ _ => trivial)); (case aO => exact (by (with_reducible repeat (first | apply Kd.R_alloc | apply Kd.R_drewN | apply Kd.R_drew)); exact HO360.out)); (case aS => exact (below_size (by repeat (first | (with_reducible first | exact HB.out | apply below_alloc | apply pw_below_drewN | apply below_drew1 | refine below_set ?_ GE344.out) | exact HB.out)))); (case aL => have := LMc35.out; omega); intro v362 w64 ho hb hg hat; rw [← Ny361.out] at ho; have n0_ := Aside0.mk (blk_grown (g := gb344) (o := .cells #[.slice A0_0 l0_0.length c0_0, .slice A0_1 l0_1.length c0_1, .slice A0_2 l0_2.length c0_2, .int .u8 a0_3] 38 (0, 0)) (by (with_reducible repeat (first | refine blk_drewN ?_ _ | refine blk_drew ?_ | refine blk_alloc ?_ _)); exact BK344.out) hg (Kd.R_ne HO360.out BK344.out (by decide))); have n1_ := Aside0.mk (hb); have n2_ := Aside0.mk (ho); clear BK344; clear HB; clear HO360; have BK344 := n0_; have HB := n1_; have HO363 := n2_; clear n0_ n1_ n2_; clear ho hb hg hat) | ((with_reducible refine gate_builtin (b := .append) (xs := #[.tmp 72, .tmp 73]) rfl ?_); (try (refine gate_guard (by rfl) ?_; dsimp only)); at_builtin; refine Kd.R_append_rows (Kd.int .i64) (w0 := w) w.heap.size rfl (.tmp 72) (.tmp 73) 22 3 (.int .i64 0) 8 rfl Try.underlying22 info3 rfl (by decide) (by omega) v362 y361 l0_1 _ _ _ (fun _ => True) (fun _ => False) rfl rfl ?aO ?aR (fun _ _ h => h) (fun _ h => h.elim) ?aF ?aB ?aS ?aL ?_; (case aR => repeat (first | exact (Kd.C_below HR0_1.out HB.out) | (with_reducible refine Kd.C_alloc ?_ _) | (with_reducible refine Kd.C_drewN ?_ _) | (with_reducible refine Kd.C_drew ?_))); (case aB => exact (by repeat (first | (with_reducible first | exact HB.out | apply below_alloc | apply pw_below_drewN | apply below_drew1 | refine below_set ?_ GE344.out) | exact HB.out))); (case aF => exact (fun _ _ => trivial)); (case aO => exact (by (with_reducible repeat (first | apply Kd.R_alloc | apply Kd.R_drewN | apply Kd.R_drew)); exact HO363.out)); (case aS => exact (below_size (by repeat (first | (with_reducible first | exact HB.out | apply below_alloc | apply pw_below_drewN | apply below_drew1 | refine below_set ?_ GE344.out) | exact HB.out)))); (case aL => have := LMc36.out; omega); intro v365 w65 ho hb hg hat; rw [← Ny364.out] at ho; have n0_ := Aside0.mk (blk_grown (g := gb344) (o := .cells #[.slice A0_0 l0_0.length c0_0, .slice A0_1 l0_1.length c0_1, .slice A0_2 l0_2.length c0_2, .int .u8 a0_3] 38 (0, 0)) (by (with_reducible repeat (first | refine blk_drewN ?_ _ | refine blk_drew ?_ | refine blk_alloc ?_ _)); exact BK344.out) hg (Kd.R_ne HO363.out BK344.out (by decide))); have n1_ := Aside0.mk (hb); have n2_ := Aside0.mk (ho); clear BK344; clear HB; clear HO363; have BK344 := n0_; have HB := n1_; have HO366 := n2_; clear n0_ n1_ n2_; clear ho hb hg hat; obtain ⟨Ao66, co66, eo66⟩ := Kd.R_slice HO366.out; subst eo66) | ((with_reducible refine gate_dst (N := 75) rfl ?_); (try (refine gate_guard (by rfl) ?_; dsimp only)); (with_reducible refine gate_callee (f := 19) rfl ?_); refine gate_guard (by rfl) ?_; dsimp only; refine goesL_ (some 75) rfl rfl Try.func19 (by kernel_rfl) rfl #[.slice Ao66 y364.length co66] rfl (by (try simp only [List.map_toArray, List.map_cons, List.map_nil]); first | done | rfl | (simp only [List.length_drop, List.length_take]; rfl)) ?_; (with_reducible refine (vec_Sum.calls k2 _ _ y364 t367 _ ?side1 ?side2 A37.out).mono ?_); (case side1 => repeat (first | exact (Kd.R_reads' HO366.out).2.2 | (with_reducible refine Kd.C_alloc ?_ _) | (with_reducible refine Kd.C_drewN ?_ _) | (with_reducible refine Kd.C_drew ?_))); (case side2 => exact (Kd.R_reads' HO366.out).2.1); rintro e w' ⟨rfl, ⟨nd, rfl⟩⟩; refine ⟨_, rfl, ?_⟩) | ((with_reducible refine gate_dst (N := 77) rfl ?_); (try (refine gate_guard (by rfl) ?_; dsimp only)); (with_reducible refine gate_callee (f := 19) rfl ?_); refine gate_guard (by rfl) ?_; dsimp only; refine goesL_ (some 77) rfl rfl Try.func19 (by kernel_rfl) rfl #[.slice A0_0 l0_0.length c0_0] rfl (by (try simp only [List.map_toArray, List.map_cons, List.map_nil]); first | done | rfl | (simp only [List.length_drop, List.length_take]; rfl)) ?_; (with_reducible refine (vec_Sum.calls k2 _ _ l0_0 t368 _ ?side1 ?side2 A38.out).mono ?_); (case side1 => repeat (first | exact (Kd.C_below HR0_0.out (by repeat (first | (with_reducible first | exact HB.out | apply below_alloc | apply pw_below_drewN | apply below_drew1 | refine below_set ?_ GE344.out) | exact HB.out))) | (with_reducible refine Kd.C_alloc ?_ _) | (with_reducible refine Kd.C_drewN ?_ _) | (with_reducible refine Kd.C_drew ?_))); (case side2 => exact HC0_0.out); rintro e w' ⟨rfl, ⟨nd, rfl⟩⟩; refine ⟨_, rfl, ?_⟩) | ((with_reducible refine gate_dst (N := 79) rfl ?_); (try (refine gate_guard (by rfl) ?_; dsimp only)); (with_reducible refine gate_callee (f := 19) rfl ?_); refine gate_guard (by rfl) ?_; dsimp only; refine goesL_ (some 79) rfl rfl Try.func19 (by kernel_rfl) rfl #[.slice A0_1 l0_1.length c0_1] rfl (by (try simp only [List.map_toArray, List.map_cons, List.map_nil]); first | done | rfl | (simp only [List.length_drop, List.length_take]; rfl)) ?_; (with_reducible refine (vec_Sum.calls k2 _ _ l0_1 t369 _ ?side1 ?side2 A39.out).mono ?_); (case side1 => repeat (first | exact (Kd.C_below HR0_1.out (by repeat (first | (with_reducible first | exact HB.out | apply below_alloc | apply pw_below_drewN | apply below_drew1 | refine below_set ?_ GE344.out) | exact HB.out))) | (with_reducible refine Kd.C_alloc ?_ _) | (with_reducible refine Kd.C_drewN ?_ _) | (with_reducible refine Kd.C_drew ?_))); (case side2 => exact HC0_1.out); rintro e w' ⟨rfl, ⟨nd, rfl⟩⟩; refine ⟨_, rfl, ?_⟩))
                      go_ret
                      exact ⟨by first | rfl | (simp [errW_none, errW_some] <;> rfl) | (simp [*, errW_none, errW_some] <;> rfl), by repeat (first | (with_reducible first | exact HB.out | apply below_alloc | apply pw_below_drewN | apply below_drew1 | refine below_set ?_ GE344.out) | exact HB.out)⟩
                  · rw [if_neg c36] at H
                    exact absurd H (by simp)
                · rw [if_neg c35] at H
                  exact absurd H (by simp)
              · replace c34 := Bool.eq_false_iff.mpr c34
                subst c34
                have H1 : (some false) = some r := by rw [if_neg (show ¬ (false = true) by decide)] at H; exact H
                clear H
                have H := H1
                clear H1
                obtain rfl := Option.some.inj H
                go_wp2
                go_ret
                exact ⟨by first | rfl | (simp [errW_none, errW_some] <;> rfl) | (simp [*, errW_none, errW_some] <;> rfl), by repeat (first | (with_reducible first | exact HB.out | apply below_alloc | apply pw_below_drewN | apply below_drew1 | refine below_set ?_ GE344.out) | exact HB.out)⟩

/-- THE ONE PURE STATEMENT of precentorlaw07_VecSums. -/
def precentorlaw07_VecSums.Pure : Prop := ∀ (l0_0 : List Int) (l0_1 : List Int) (l0_2 : List (List Int)) (a0_3 : Int), ((l0_0.length * 8 ≤ 140737488351232 ∧ ∀ z_0 ∈ l0_0, (Lit.int .i64 z_0).wf = true)) → ((l0_1.length * 8 ≤ 140737488351232 ∧ ∀ z_0 ∈ l0_1, (Lit.int .i64 z_0).wf = true)) → ((l0_2.length * 24 ≤ 140737488351232 ∧ ∀ z_0 ∈ l0_2, (z_0.length * 8 ≤ 140737488351232 ∧ ∀ z_0_ ∈ z_0, (Lit.int .i64 z_0_).wf = true))) → ((Lit.int .u8 a0_3).wf = true) → ∃ k, precentorlaw07_VecSums.f k l0_0 l0_1 l0_2 a0_3 = some true

end Go.Proofs.Ytemaikelagchcaa.PC
