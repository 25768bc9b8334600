/- A run by parts: what each call answers, at its arguments (written by a program of this session; no condition). -/
import Derived.Test.YtndomnacflndmaaGreatDoorG20
import Derived.Test.YtndomnacflndmaaGreatDoorNx34
set_option linter.all false
set_option linter.unusedVariables false
set_option linter.unusedSimpArgs false
set_option linter.unnecessarySimpa false
namespace Go.Proofs.YtndomnacflndmaaGreatDoor.M
open Go Go.Mir Go.Proofs
set_option maxRecDepth 1000000
set_option maxHeartbeats 0
abbrev V (n : Nat) : PV := .lit (.int .u8 n)
abbrev W (n : Nat) : PV := .lit (.int .u32 n)
theorem clone_gen {n b ty : Nat} (h0 : 0 < n) {es : List PV} (ok : okNews n es = true) (hl : es.length * b ≤ 140737488355328) : Nq es (RvsLe [.pv (.sl true [])] [.fresh ty n es]) (Ok (okNews n es) (Sz 0 es.length b (RvsLe [.fresh ty n es] [.fresh ty n es]))) := by
  refine ⟨fun h => ?_, ok, ⟨by simpa using hl, .refl _⟩⟩
  cases es with
  | nil => exact .rowNil
  | cons p es =>
    have h1 := h p (by simp)
    unfold okNews at ok
    simp only [Bool.and_eq_true, List.all_eq_true] at ok
    have := ok.1 p (by simp)
    simp [h1] at this; omega
theorem cl71 {es : List PV} (ok : okNews 1 es = true) (hl : es.length * 1 ≤ 140737488355328) : Ct Tryz.prog 71 [.sl false es] [.fresh 5 1 es] := t71 _ (clone_gen (by decide) ok hl)
theorem cl129 {es : List PV} (ok : okNews 1 es = true) (hl : es.length * 8 ≤ 140737488355328) : Ct Tryz.prog 129 [.sl false es] [.fresh 3 1 es] := t129 _ (clone_gen (by decide) ok hl)
theorem cl138 {es : List PV} (ok : okNews 1 es = true) (hl : es.length * 24 ≤ 140737488355328) : Ct Tryz.prog 138 [.sl false es] [.fresh 60 1 es] := t138 _ (clone_gen (by decide) ok hl)
theorem cl147 {es : List PV} (ok : okNews 1 es = true) (hl : es.length * 1 ≤ 140737488355328) : Ct Tryz.prog 147 [.sl false es] [.fresh 5 1 es] := t147 _ (clone_gen (by decide) ok hl)
theorem cl154 {es : List PV} (ok : okNews 1 es = true) (hl : es.length * 24 ≤ 140737488355328) : Ct Tryz.prog 154 [.sl false es] [.fresh 29 1 es] := t154 _ (clone_gen (by decide) ok hl)
theorem cl159 {es : List PV} (ok : okNews 2 es = true) (hl : es.length * 32 ≤ 140737488355328) : Ct Tryz.prog 159 [.sl false es] [.fresh 109 2 es] := t159 _ (clone_gen (by decide) ok hl)
theorem cl179 {es : List PV} (ok : okNews 1 es = true) (hl : es.length * 8 ≤ 140737488355328) : Ct Tryz.prog 179 [.sl false es] [.fresh 114 1 es] := t179 _ (clone_gen (by decide) ok hl)
theorem cl184 {es : List PV} (ok : okNews 5 es = true) (hl : es.length * 72 ≤ 140737488355328) : Ct Tryz.prog 184 [.sl false es] [.fresh 104 5 es] := t184 _ (clone_gen (by decide) ok hl)
theorem cl234 {es : List PV} (ok : okNews 5 es = true) (hl : es.length * 72 ≤ 140737488355328) : Ct Tryz.prog 234 [.sl false es] [.fresh 170 5 es] := t234 _ (clone_gen (by decide) ok hl)
theorem cl239 {es : List PV} (ok : okNews 1 es = true) (hl : es.length * 1 ≤ 140737488355328) : Ct Tryz.prog 239 [.sl false es] [.fresh 4 1 es] := t239 _ (clone_gen (by decide) ok hl)
noncomputable def cloneAt (n b ty : Nat) (es : List PV) : Option (List RV) := match okNews n es, Nat.ble (es.length * b) 140737488355328 with
  | true, true => some [.fresh ty n es]
  | _, _ => none
theorem cloneAt_ok {f n b ty : Nat} {es : List PV} {fl : Bool} {rs : List RV} (hc : ∀ {es : List PV}, okNews n es = true → es.length * b ≤ 140737488355328 → Ct Tryz.prog f [.sl false es] [.fresh ty n es]) (h : cloneAt n b ty es = some rs) : Ct Tryz.prog f [.sl fl es] rs := by
  unfold cloneAt at h
  split at h
  · rename_i h1 h2
    cases h
    exact (hc h1 (Nat.le_of_ble_eq_true h2)).args (.cons (.sl (by simp) rfl fun j p q hp hq => by rw [hp] at hq; cases hq; exact .refl p) .nil)
  · cases h
noncomputable def tbGet (f : Nat) (ps : List PV) : Option (List RV) := match ps with
  | [.sl _ es] => match Nat.beq f 71 with
    | true => cloneAt 1 1 5 es
    | false => match Nat.beq f 129 with
    | true => cloneAt 1 8 3 es
    | false => match Nat.beq f 138 with
    | true => cloneAt 1 24 60 es
    | false => match Nat.beq f 147 with
    | true => cloneAt 1 1 5 es
    | false => match Nat.beq f 154 with
    | true => cloneAt 1 24 29 es
    | false => match Nat.beq f 159 with
    | true => cloneAt 2 32 109 es
    | false => match Nat.beq f 179 with
    | true => cloneAt 1 8 114 es
    | false => match Nat.beq f 184 with
    | true => cloneAt 5 72 104 es
    | false => match Nat.beq f 234 with
    | true => cloneAt 5 72 170 es
    | false => match Nat.beq f 239 with
    | true => cloneAt 1 1 4 es
    | false => none
  | _ => none
noncomputable def tb : Tbl := ⟨fun f => Nat.beq f 71 || Nat.beq f 129 || Nat.beq f 138 || Nat.beq f 147 || Nat.beq f 154 || Nat.beq f 159 || Nat.beq f 179 || Nat.beq f 184 || Nat.beq f 234 || Nat.beq f 239, tbGet, fun f => Nat.beq f 91 || Nat.beq f 143 || Nat.beq f 231, fun _ => false⟩
theorem tb_ok : tb.Ok Tryz.prog := by
  intro f ps rs h
  have h : tbGet f ps = some rs := h
  unfold tbGet at h
  split at h
  · rename_i fl es
    split at h
    · rename_i e; obtain rfl := Nat.eq_of_beq_eq_true e; exact cloneAt_ok cl71 h
    split at h
    · rename_i e; obtain rfl := Nat.eq_of_beq_eq_true e; exact cloneAt_ok cl129 h
    split at h
    · rename_i e; obtain rfl := Nat.eq_of_beq_eq_true e; exact cloneAt_ok cl138 h
    split at h
    · rename_i e; obtain rfl := Nat.eq_of_beq_eq_true e; exact cloneAt_ok cl147 h
    split at h
    · rename_i e; obtain rfl := Nat.eq_of_beq_eq_true e; exact cloneAt_ok cl154 h
    split at h
    · rename_i e; obtain rfl := Nat.eq_of_beq_eq_true e; exact cloneAt_ok cl159 h
    split at h
    · rename_i e; obtain rfl := Nat.eq_of_beq_eq_true e; exact cloneAt_ok cl179 h
    split at h
    · rename_i e; obtain rfl := Nat.eq_of_beq_eq_true e; exact cloneAt_ok cl184 h
    split at h
    · rename_i e; obtain rfl := Nat.eq_of_beq_eq_true e; exact cloneAt_ok cl234 h
    split at h
    · rename_i e; obtain rfl := Nat.eq_of_beq_eq_true e; exact cloneAt_ok cl239 h
    cases h
  · cases h
/-- frag.Many -/
noncomputable def a0 : List PV := [I 12, I 4]
noncomputable def r0 : List RV := [.pv (I 3)]
theorem k0 : Ct Tryz.prog 27 a0 r0 := ct_run tb_ok mixed [] trivial 100000 (by kernel_rfl)
/-- memb.Fits -/
noncomputable def a1 : List PV := [.agg [I 2, I 4, I 12, I 12, I 3, I 5, I 2, I 2, I 1, I 4, I 8, I 5, I 1, I 4, I 2, B true, I 0]]
noncomputable def r1 : List RV := [.pv (B true)]
theorem k1 : Ct Tryz.prog 7 a1 r1 := ct_run tb_ok mixed [(27, a0, r0)] ⟨k0, trivial⟩ 100000 (by kernel_rfl)
/-- rel.New -/
noncomputable def a2 : List PV := [I 0, I 2]
noncomputable def r2 : List RV := [(.pv (.agg [I 0, I 0, I 1, .sl true [], .sl false [(.agg [I 1, (.sl true [])]), (.agg [I 1, (.sl true [])])], .sl false [I 0, I 0], .sl false [(.agg [I 0]), (.agg [I 0])], .sl false [(.sl false [I 0, I 0]), (.sl false [I 0, I 0])], .sl true [], I 0]))]
theorem k2 : Ct Tryz.prog 21 a2 r2 := ct_run tb_ok mixed [] trivial 100000 (by kernel_rfl)
/-- flush.New -/
noncomputable def a3 : List PV := [I 2]
noncomputable def r3 : List RV := [.pv (.agg [B false, I 0, (.sl false [B false, B false]), (.sl false [I 0, I 0]), B false, (.sl true [])])]
theorem k3 : Ct Tryz.prog 23 a3 r3 := ct_run tb_ok mixed [] trivial 100000 (by kernel_rfl)
/-- memb.New -/
noncomputable def a4 : List PV := [.agg [I 2, I 4, I 12, I 12, I 3, I 5, I 2, I 2, I 1, I 4, I 8, I 5, I 1, I 4, I 2, B true, I 0], I 0]
noncomputable def r4 : List RV := [(.pv (.agg [I 2, I 4, I 12, I 12, I 3, I 5, I 2, I 2, I 1, I 4, I 8, I 5, I 1, I 4, I 2, B true, I 0, B false, I 0, I 0, I 1, .sl true [], .sl false [(.agg [I 1, (.sl true [])]), (.agg [I 1, (.sl true [])])], .sl false [I 0, I 0], .sl false [(.agg [I 0]), (.agg [I 0])], .sl false [(.sl false [I 0, I 0]), (.sl false [I 0, I 0])], .sl true [], I 0, .sl true [], I 4, I 8, I 0, I 0, .sl false [(.agg [(.sl true []), I 0, I 0, I 0, (.sl true [])]), (.agg [(.sl true []), I 0, I 0, I 0, (.sl true [])])], I 0, I 0, B false, I 0, .sl false [B false, B false], .sl false [I 0, I 0], B false, .sl true [], I 0, I 0, I 0, I 0, I 0, B false, .sl true [], I 0, I 0])), .pv (I 0)]
theorem k4 : Ct Tryz.prog 5 a4 r4 := ct_run tb_ok mixed [(7, a1, r1), (21, a2, r2), (23, a3, r3)] ⟨k1, k2, k3, trivial⟩ 100000 (by kernel_rfl)
/-- sendq.Offer -/
noncomputable def a5 : List PV := [.sl true [], .sl false [V 97], I 5, I 12]
noncomputable def r5 : List RV := [.fresh 60 1 [(.sl false [V 97])], .pv (I 0)]
theorem k5 : Ct Tryz.prog 37 a5 r5 := ct_run tb_ok mixed [] trivial 100000 (by kernel_rfl)
/-- memb.Offer -/
noncomputable def a6 : List PV := [(.agg [I 2, I 4, I 12, I 12, I 3, I 5, I 2, I 2, I 1, I 4, I 8, I 5, I 1, I 4, I 2, B true, I 0, B false, I 0, I 0, I 1, .sl true [], .sl false [(.agg [I 1, (.sl true [])]), (.agg [I 1, (.sl true [])])], .sl false [I 0, I 0], .sl false [(.agg [I 0]), (.agg [I 0])], .sl false [(.sl false [I 0, I 0]), (.sl false [I 0, I 0])], .sl true [], I 0, .sl true [], I 4, I 8, I 0, I 0, .sl false [(.agg [(.sl true []), I 0, I 0, I 0, (.sl true [])]), (.agg [(.sl true []), I 0, I 0, I 0, (.sl true [])])], I 0, I 0, B false, I 0, .sl false [B false, B false], .sl false [I 0, I 0], B false, .sl true [], I 0, I 0, I 0, I 0, I 0, B false, .sl true [], I 0, I 0]), .sl false [V 97]]
noncomputable def r6 : List RV := [(.pv (.agg [I 2, I 4, I 12, I 12, I 3, I 5, I 2, I 2, I 1, I 4, I 8, I 5, I 1, I 4, I 2, B true, I 0, B false, I 0, I 0, I 1, .sl true [], .sl false [(.agg [I 1, (.sl true [])]), (.agg [I 1, (.sl true [])])], .sl false [I 0, I 0], .sl false [(.agg [I 0]), (.agg [I 0])], .sl false [(.sl false [I 0, I 0]), (.sl false [I 0, I 0])], .sl true [], I 0, .sl false [(.sl false [V 97])], I 4, I 8, I 0, I 0, .sl false [(.agg [(.sl true []), I 0, I 0, I 0, (.sl true [])]), (.agg [(.sl true []), I 0, I 0, I 0, (.sl true [])])], I 0, I 0, B false, I 0, .sl false [B false, B false], .sl false [I 0, I 0], B false, .sl true [], I 0, I 0, I 0, I 0, I 0, B false, .sl true [], I 0, I 0])), .pv (I 0)]
theorem k6 : Ct Tryz.prog 11 a6 r6 := ct_run tb_ok mixed [(37, a5, r5)] ⟨k5, trivial⟩ 100000 (by kernel_rfl)
/-- rate.Tick -/
noncomputable def a7 : List PV := [.agg [I 4, I 8], I 1, I 4, I 8, I 0]
noncomputable def r7 : List RV := [.pv (.agg [I 4, I 8])]
theorem k7 : Ct Tryz.prog 72 a7 r7 := ct_run tb_ok mixed [] trivial 100000 (by kernel_rfl)
/-- lane.Done -/
noncomputable def a8 : List PV := [.agg [(.sl true []), I 0, I 0, I 0, (.sl true [])], I 0]
noncomputable def r8 : List RV := [.pv (I 0)]
theorem k8 : Ct Tryz.prog 58 a8 r8 := ct_run tb_ok mixed [] trivial 100000 (by kernel_rfl)
/-- memb.Done -/
noncomputable def a9 : List PV := [(.agg [I 2, I 4, I 12, I 12, I 3, I 5, I 2, I 2, I 1, I 4, I 8, I 5, I 1, I 4, I 2, B true, I 0, B false, I 0, I 0, I 1, .sl true [], .sl false [(.agg [I 1, (.sl true [])]), (.agg [I 1, (.sl true [])])], .sl false [I 0, I 0], .sl false [(.agg [I 0]), (.agg [I 0])], .sl false [(.sl false [I 0, I 0]), (.sl false [I 0, I 0])], .sl true [], I 0, .sl false [(.sl false [V 97])], I 4, I 8, I 0, I 0, .sl false [(.agg [(.sl true []), I 0, I 0, I 0, (.sl true [])]), (.agg [(.sl true []), I 0, I 0, I 0, (.sl true [])])], I 0, I 0, B false, I 0, .sl false [B false, B false], .sl false [I 0, I 0], B false, .sl true [], I 0, I 0, I 0, I 0, I 0, B false, .sl true [], I 0, I 0])]
noncomputable def r9 : List RV := [.fresh 3 1 [I 0, I 0]]
theorem k9 : Ct Tryz.prog 19 a9 r9 := ct_run tb_ok mixed [(58, a8, r8)] ⟨k8, trivial⟩ 100000 (by kernel_rfl)
/-- rel.Tick -/
noncomputable def a10 : List PV := [(.agg [I 0, I 0, I 1, .sl true [], .sl false [(.agg [I 1, (.sl true [])]), (.agg [I 1, (.sl true [])])], .sl false [I 0, I 0], .sl false [(.agg [I 0]), (.agg [I 0])], .sl false [(.sl false [I 0, I 0]), (.sl false [I 0, I 0])], .sl true [], I 0]), .sl false [I 0, I 0], I 2, I 2]
noncomputable def r10 : List RV := [(.pv (.agg [I 0, I 1, I 1, .sl true [], .sl false [(.agg [I 1, (.sl true [])]), (.agg [I 1, (.sl true [])])], .sl false [I 0, I 0], .sl false [(.agg [I 0]), (.agg [I 0])], .sl false [(.sl false [I 0, I 0]), (.sl false [I 0, I 0])], .sl true [], I 0])), .pv (.sl true [])]
theorem k10 : Ct Tryz.prog 73 a10 r10 := ct_run tb_ok mixed [] trivial 100000 (by kernel_rfl)
/-- meter.Tick -/
noncomputable def a11 : List PV := [.agg [I 0, I 0, I 0], I 4]
noncomputable def r11 : List RV := [.pv (.agg [I 1, I 0, I 0]), .pv (I 0), .pv (I 0), .pv (B false)]
theorem k11 : Ct Tryz.prog 74 a11 r11 := ct_run tb_ok mixed [] trivial 100000 (by kernel_rfl)
/-- flush.Say -/
noncomputable def a12 : List PV := [.agg [B false, I 0, (.sl false [B false, B false]), (.sl false [I 0, I 0]), B false, (.sl true [])], I 0, I 0]
noncomputable def r12 : List RV := [.pv (.agg [I 0, I 0, I 0, I 0, I 0, I 0, (.sl true []), (.sl true [])]), .pv (B false)]
theorem k12 : Ct Tryz.prog 78 a12 r12 := ct_run tb_ok mixed [] trivial 100000 (by kernel_rfl)
/-- sendq.Head -/
noncomputable def a13 : List PV := [.sl false [(.sl false [V 97])]]
noncomputable def r13 : List RV := [.pv (.sl false [V 97]), .pv (B true)]
theorem k13 : Ct Tryz.prog 79 a13 r13 := ct_run tb_ok mixed [] trivial 100000 (by kernel_rfl)
/-- order.May -/
noncomputable def a14 : List PV := [I 0, .agg [I 0, I 0], .sl false [(.agg [(.sl true []), I 0, I 0, I 0, (.sl true [])]), (.agg [(.sl true []), I 0, I 0, I 0, (.sl true [])])], I 0, I 3]
noncomputable def r14 : List RV := [.pv (B true)]
theorem k14 : Ct Tryz.prog 80 a14 r14 := ct_run tb_ok mixed [] trivial 100000 (by kernel_rfl)
/-- frag.Many -/
noncomputable def a15 : List PV := [I 1, I 4]
noncomputable def r15 : List RV := [.pv (I 1)]
theorem k15 : Ct Tryz.prog 27 a15 r15 := ct_run tb_ok mixed [] trivial 100000 (by kernel_rfl)
/-- keep.Room -/
noncomputable def a16 : List PV := [.agg [I 1, (.sl true [])], I 12, I 6]
noncomputable def r16 : List RV := [.pv (I 6)]
theorem k16 : Ct Tryz.prog 81 a16 r16 := ct_run tb_ok mixed [] trivial 100000 (by kernel_rfl)
/-- rate.Spend -/
noncomputable def a17 : List PV := [.agg [I 4, I 8], I 1]
noncomputable def r17 : List RV := [.pv (.agg [I 4, I 7]), .pv (B true)]
theorem k17 : Ct Tryz.prog 82 a17 r17 := ct_run tb_ok mixed [] trivial 100000 (by kernel_rfl)
/-- sendq.Pop -/
noncomputable def a18 : List PV := [.sl false [(.sl false [V 97])]]
noncomputable def r18 : List RV := [.fresh 60 1 [], .pv (B true)]
theorem k18 : Ct Tryz.prog 83 a18 r18 := ct_run tb_ok mixed [(79, a13, r13)] ⟨k13, trivial⟩ 100000 (by kernel_rfl)
/-- frag.Cut -/
noncomputable def a19 : List PV := [.sl false [V 97], I 4]
noncomputable def r19 : List RV := [.fresh 60 1 [(.sl true [V 97])]]
theorem k19 : Ct Tryz.prog 84 a19 r19 := ct_run tb_ok mixed [(27, a15, r15)] ⟨k15, trivial⟩ 100000 (by kernel_rfl)
/-- item.May -/
noncomputable def a20 : List PV := [.agg [I 1, I 1, I 0, I 0, I 1, I 0, (.sl true []), (.sl true [V 97])]]
noncomputable def r20 : List RV := [.pv (B true)]
theorem k20 : Ct Tryz.prog 141 a20 r20 := ct_run tb_ok mixed [] trivial 100000 (by kernel_rfl)
/-- keep.Push -/
noncomputable def a21 : List PV := [.agg [I 1, (.sl true [])], .agg [I 1, I 0, I 0, I 0, I 1, I 0, (.sl true []), (.sl true [V 97])], I 12, I 6]
noncomputable def r21 : List RV := [(.pv (.agg [I 2, .sl false [(.agg [I 1, I 1, I 0, I 0, I 1, I 0, (.sl true []), (.sl true [V 97])])]])), .pv (.agg [I 1, I 1, I 0, I 0, I 1, I 0, (.sl true []), (.sl true [V 97])]), .pv (I 0)]
theorem k21 : Ct Tryz.prog 183 a21 r21 := ct_run tb_ok mixed [(141, a20, r20), (81, a16, r16)] ⟨k20, k16, trivial⟩ 100000 (by kernel_rfl)
/-- rel.Send -/
noncomputable def a22 : List PV := [(.agg [I 0, I 1, I 1, .sl true [], .sl false [(.agg [I 1, (.sl true [])]), (.agg [I 1, (.sl true [])])], .sl false [I 0, I 0], .sl false [(.agg [I 0]), (.agg [I 0])], .sl false [(.sl false [I 0, I 0]), (.sl false [I 0, I 0])], .sl true [], I 0]), .agg [I 1, I 0, I 0, I 0, I 1, I 0, (.sl true []), (.sl true [V 97])], I 12, I 6]
noncomputable def r22 : List RV := [(.pv (.agg [I 0, I 1, I 2, .sl false [(.agg [I 1, I 1, I 0, I 0, I 1, I 0, (.sl true []), (.sl true [V 97])])], .sl false [(.agg [I 1, (.sl true [])]), (.agg [I 1, (.sl true [])])], .sl false [I 0, I 0], .sl false [(.agg [I 0]), (.agg [I 0])], .sl false [(.sl false [I 0, I 0]), (.sl false [I 0, I 0])], .sl true [], I 0])), .pv (.agg [I 1, I 0, I 1, I 1, I 0, I 0, I 1, I 0, (.sl true []), (.sl true [V 97]), I 0, I 0, I 0, I 0, (.sl true [])]), .pv (I 0)]
theorem k22 : Ct Tryz.prog 133 a22 r22 := ct_run tb_ok mixed [(183, a21, r21)] ⟨k21, trivial⟩ 100000 (by kernel_rfl)
/-- frag.Add -/
noncomputable def a23 : List PV := [.agg [I 0, I 0, I 0, (.sl true [])], I 1, I 0, I 1, .sl true [V 97]]
noncomputable def r23 : List RV := [.pv (.agg [I 0, I 0, I 0, (.sl true [])]), .fresh 5 1 [V 97], .pv (B true), .pv (I 0)]
theorem k23 : Ct Tryz.prog 209 a23 r23 := ct_run tb_ok mixed [] trivial 100000 (by kernel_rfl)
/-- lane.Read -/
noncomputable def a24 : List PV := [.agg [(.sl true []), I 0, I 0, I 0, (.sl true [])], .agg [I 1, I 1, I 0, I 0, I 1, I 0, (.sl true []), (.sl true [V 97])]]
noncomputable def r24 : List RV := [(.pv (.agg [.sl false [(.agg [I 1, I 1, (.sl false [V 97]), (.sl true []), B false])], I 0, I 0, I 0, .sl true []])), .pv (I 0)]
theorem k24 : Ct Tryz.prog 185 a24 r24 := ct_run tb_ok mixed [(209, a23, r23)] ⟨k23, trivial⟩ 100000 (by kernel_rfl)
/-- rel.Peek -/
noncomputable def a25 : List PV := [(.agg [I 0, I 1, I 2, .sl false [(.agg [I 1, I 1, I 0, I 0, I 1, I 0, (.sl true []), (.sl true [V 97])])], .sl false [(.agg [I 1, (.sl true [])]), (.agg [I 1, (.sl true [])])], .sl false [I 0, I 0], .sl false [(.agg [I 0]), (.agg [I 0])], .sl false [(.sl false [I 0, I 0]), (.sl false [I 0, I 0])], .sl true [], I 0]), I 1]
noncomputable def r25 : List RV := [.pv (.agg [I 0, I 0, I 0, I 0, I 0, I 0, (.sl true []), (.sl true [])]), .pv (B false)]
theorem k25 : Ct Tryz.prog 160 a25 r25 := ct_run tb_ok mixed [] trivial 100000 (by kernel_rfl)
/-- lane.Control -/
noncomputable def a26 : List PV := [(.agg [.sl false [(.agg [I 1, I 1, (.sl false [V 97]), (.sl true []), B false])], I 0, I 0, I 0, .sl true []])]
noncomputable def r26 : List RV := [.pv (.agg [I 0, I 0, (.sl true []), (.sl true []), B false]), .pv (B false)]
theorem k26 : Ct Tryz.prog 285 a26 r26 := ct_run tb_ok mixed [] trivial 100000 (by kernel_rfl)
/-- seqr.Walk -/
noncomputable def a27 : List PV := [.agg [I 0, I 0], (.sl false [(.agg [.sl false [(.agg [I 1, I 1, (.sl false [V 97]), (.sl true []), B false])], I 0, I 0, I 0, .sl true []]), .agg [(.sl true []), I 0, I 0, I 0, (.sl true [])]])]
noncomputable def r27 : List RV := [.pv (.agg [I 0, I 0]), (.fresh 104 5 [(.agg [.sl false [(.agg [I 1, I 1, (.sl false [V 97]), (.sl true []), B false])], I 0, I 0, I 0, .sl true []]), .agg [(.sl true []), I 0, I 0, I 0, (.sl true [])]]), .pv (.sl true [])]
theorem k27 : Ct Tryz.prog 284 a27 r27 := ct_run tb_ok mixed [(285, a26, r26)] ⟨k26, trivial⟩ 100000 (by kernel_rfl)
/-- order.Walk -/
noncomputable def a28 : List PV := [I 0, .agg [I 0, I 0], (.sl false [(.agg [.sl false [(.agg [I 1, I 1, (.sl false [V 97]), (.sl true []), B false])], I 0, I 0, I 0, .sl true []]), .agg [(.sl true []), I 0, I 0, I 0, (.sl true [])]])]
noncomputable def r28 : List RV := [.pv (.agg [I 0, I 0]), (.fresh 104 5 [(.agg [.sl false [(.agg [I 1, I 1, (.sl false [V 97]), (.sl true []), B false])], I 0, I 0, I 0, .sl true []]), .agg [(.sl true []), I 0, I 0, I 0, (.sl true [])]]), .pv (.sl true [])]
theorem k28 : Ct Tryz.prog 101 a28 r28 := ct_run tb_ok mixed [(284, a27, r27)] ⟨k27, trivial⟩ 100000 (by kernel_rfl)
/-- flush.Ready -/
noncomputable def a29 : List PV := [.agg [B false, I 0, (.sl false [B false, B false]), (.sl false [I 0, I 0]), B false, (.sl true [])]]
noncomputable def r29 : List RV := [.pv (B false)]
theorem k29 : Ct Tryz.prog 103 a29 r29 := ct_run tb_ok mixed [] trivial 100000 (by kernel_rfl)
/-- seqr.Say -/
noncomputable def a30 : List PV := [.agg [I 0, I 0], (.sl false [(.agg [.sl false [(.agg [I 1, I 1, (.sl false [V 97]), (.sl true []), B false])], I 0, I 0, I 0, .sl true []]), .agg [(.sl true []), I 0, I 0, I 0, (.sl true [])]]), I 0, I 3]
noncomputable def r30 : List RV := [.pv (.agg [I 2, I 0, I 0, I 0, I 0, I 0, (.sl true [I 0]), (.sl true [])]), .pv (B true)]
theorem k30 : Ct Tryz.prog 283 a30 r30 := ct_run tb_ok mixed [(285, a26, r26)] ⟨k26, trivial⟩ 100000 (by kernel_rfl)
/-- order.Say -/
noncomputable def a31 : List PV := [I 0, .agg [I 0, I 0], (.sl false [(.agg [.sl false [(.agg [I 1, I 1, (.sl false [V 97]), (.sl true []), B false])], I 0, I 0, I 0, .sl true []]), .agg [(.sl true []), I 0, I 0, I 0, (.sl true [])]]), I 0, I 3]
noncomputable def r31 : List RV := [.pv (.agg [I 2, I 0, I 0, I 0, I 0, I 0, (.sl true [I 0]), (.sl true [])]), .pv (B true)]
theorem k31 : Ct Tryz.prog 85 a31 r31 := ct_run tb_ok mixed [(283, a30, r30)] ⟨k30, trivial⟩ 100000 (by kernel_rfl)
/-- item.May -/
noncomputable def a32 : List PV := [.agg [I 2, I 2, I 0, I 0, I 0, I 0, (.sl true [I 0]), (.sl true [])]]
noncomputable def r32 : List RV := [.pv (B true)]
theorem k32 : Ct Tryz.prog 141 a32 r32 := ct_run tb_ok mixed [] trivial 100000 (by kernel_rfl)
/-- keep.Room -/
noncomputable def a33 : List PV := [(.agg [I 2, .sl false [(.agg [I 1, I 1, I 0, I 0, I 1, I 0, (.sl true []), (.sl true [V 97])])]]), I 12, I 3]
noncomputable def r33 : List RV := [.pv (I 8)]
theorem k33 : Ct Tryz.prog 81 a33 r33 := ct_run tb_ok mixed [] trivial 100000 (by kernel_rfl)
/-- keep.Push -/
noncomputable def a34 : List PV := [(.agg [I 2, .sl false [(.agg [I 1, I 1, I 0, I 0, I 1, I 0, (.sl true []), (.sl true [V 97])])]]), .agg [I 2, I 0, I 0, I 0, I 0, I 0, (.sl true [I 0]), (.sl true [])], I 12, I 3]
noncomputable def r34 : List RV := [(.pv (.agg [I 3, .sl false [(.agg [I 1, I 1, I 0, I 0, I 1, I 0, (.sl true []), (.sl true [V 97])]), (.agg [I 2, I 2, I 0, I 0, I 0, I 0, (.sl true [I 0]), (.sl true [])])]])), .pv (.agg [I 2, I 2, I 0, I 0, I 0, I 0, (.sl true [I 0]), (.sl true [])]), .pv (I 0)]
theorem k34 : Ct Tryz.prog 183 a34 r34 := ct_run tb_ok mixed [(141, a32, r32), (81, a33, r33)] ⟨k32, k33, trivial⟩ 100000 (by kernel_rfl)
/-- rel.Send -/
noncomputable def a35 : List PV := [(.agg [I 0, I 1, I 2, .sl false [(.agg [I 1, I 1, I 0, I 0, I 1, I 0, (.sl true []), (.sl true [V 97])])], .sl false [(.agg [I 1, (.sl true [])]), (.agg [I 1, (.sl true [])])], .sl false [I 0, I 0], .sl false [(.agg [I 0]), (.agg [I 0])], .sl false [(.sl false [I 0, I 0]), (.sl false [I 0, I 0])], .sl true [], I 0]), .agg [I 2, I 0, I 0, I 0, I 0, I 0, (.sl true [I 0]), (.sl true [])], I 12, I 3]
noncomputable def r35 : List RV := [(.pv (.agg [I 0, I 1, I 3, .sl false [(.agg [I 1, I 1, I 0, I 0, I 1, I 0, (.sl true []), (.sl true [V 97])]), (.agg [I 2, I 2, I 0, I 0, I 0, I 0, (.sl true [I 0]), (.sl true [])])], .sl false [(.agg [I 1, (.sl true [])]), (.agg [I 1, (.sl true [])])], .sl false [I 0, I 0], .sl false [(.agg [I 0]), (.agg [I 0])], .sl false [(.sl false [I 0, I 0]), (.sl false [I 0, I 0])], .sl true [], I 0])), .pv (.agg [I 1, I 0, I 2, I 2, I 0, I 0, I 0, I 0, (.sl true [I 0]), (.sl true []), I 0, I 0, I 0, I 0, (.sl true [])]), .pv (I 0)]
theorem k35 : Ct Tryz.prog 133 a35 r35 := ct_run tb_ok mixed [(183, a34, r34)] ⟨k34, trivial⟩ 100000 (by kernel_rfl)
/-- lane.Read -/
noncomputable def a36 : List PV := [(.agg [.sl false [(.agg [I 1, I 1, (.sl false [V 97]), (.sl true []), B false])], I 0, I 0, I 0, .sl true []]), .agg [I 2, I 2, I 0, I 0, I 0, I 0, (.sl true [I 0]), (.sl true [])]]
noncomputable def r36 : List RV := [(.pv (.agg [.sl false [(.agg [I 1, I 1, (.sl false [V 97]), (.sl true []), B false]), (.agg [I 2, I 2, (.sl true []), (.sl false [I 0]), B false])], I 0, I 0, I 0, .sl true []])), .pv (I 0)]
theorem k36 : Ct Tryz.prog 185 a36 r36 := ct_run tb_ok mixed [] trivial 100000 (by kernel_rfl)
/-- rel.Peek -/
noncomputable def a37 : List PV := [(.agg [I 0, I 1, I 3, .sl false [(.agg [I 1, I 1, I 0, I 0, I 1, I 0, (.sl true []), (.sl true [V 97])]), (.agg [I 2, I 2, I 0, I 0, I 0, I 0, (.sl true [I 0]), (.sl true [])])], .sl false [(.agg [I 1, (.sl true [])]), (.agg [I 1, (.sl true [])])], .sl false [I 0, I 0], .sl false [(.agg [I 0]), (.agg [I 0])], .sl false [(.sl false [I 0, I 0]), (.sl false [I 0, I 0])], .sl true [], I 0]), I 1]
noncomputable def r37 : List RV := [.pv (.agg [I 0, I 0, I 0, I 0, I 0, I 0, (.sl true []), (.sl true [])]), .pv (B false)]
theorem k37 : Ct Tryz.prog 160 a37 r37 := ct_run tb_ok mixed [] trivial 100000 (by kernel_rfl)
/-- lane.Control -/
noncomputable def a38 : List PV := [(.agg [.sl false [(.agg [I 1, I 1, (.sl false [V 97]), (.sl true []), B false]), (.agg [I 2, I 2, (.sl true []), (.sl false [I 0]), B false])], I 0, I 0, I 0, .sl true []])]
noncomputable def r38 : List RV := [.pv (.agg [I 2, I 2, (.sl true []), (.sl false [I 0]), B false]), .pv (B true)]
theorem k38 : Ct Tryz.prog 285 a38 r38 := ct_run tb_ok mixed [] trivial 100000 (by kernel_rfl)
/-- lane.Message -/
noncomputable def a39 : List PV := [(.agg [.sl false [(.agg [I 1, I 1, (.sl false [V 97]), (.sl true []), B false]), (.agg [I 2, I 2, (.sl true []), (.sl false [I 0]), B false])], I 0, I 0, I 0, .sl true []])]
noncomputable def r39 : List RV := [.pv (.agg [I 1, I 1, (.sl false [V 97]), (.sl true []), B false]), .pv (B true)]
theorem k39 : Ct Tryz.prog 200 a39 r39 := ct_run tb_ok mixed [] trivial 100000 (by kernel_rfl)
/-- lane.Pop -/
noncomputable def a40 : List PV := [(.agg [.sl false [(.agg [I 1, I 1, (.sl false [V 97]), (.sl true []), B false]), (.agg [I 2, I 2, (.sl true []), (.sl false [I 0]), B false])], I 0, I 0, I 0, .sl true []]), I 1]
noncomputable def r40 : List RV := [(.pv (.agg [.sl false [(.agg [I 2, I 2, (.sl true []), (.sl false [I 0]), B false])], I 0, I 0, I 0, .sl true []]))]
theorem k40 : Ct Tryz.prog 201 a40 r40 := ct_run tb_ok mixed [] trivial 100000 (by kernel_rfl)
/-- lane.Set -/
noncomputable def a41 : List PV := [(.agg [.sl false [(.agg [I 2, I 2, (.sl true []), (.sl false [I 0]), B false])], I 0, I 0, I 0, .sl true []]), .agg [I 2, I 2, (.sl true []), (.sl false []), B false]]
noncomputable def r41 : List RV := [(.pv (.agg [.sl false [(.agg [I 2, I 2, (.sl true []), (.sl false []), B false])], I 0, I 0, I 0, .sl true []]))]
theorem k41 : Ct Tryz.prog 288 a41 r41 := ct_run tb_ok mixed [] trivial 100000 (by kernel_rfl)
/-- lane.Control -/
noncomputable def a42 : List PV := [(.agg [.sl false [(.agg [I 2, I 2, (.sl true []), (.sl false []), B false])], I 0, I 0, I 0, .sl true []])]
noncomputable def r42 : List RV := [.pv (.agg [I 2, I 2, (.sl true []), (.sl false []), B false]), .pv (B true)]
theorem k42 : Ct Tryz.prog 285 a42 r42 := ct_run tb_ok mixed [] trivial 100000 (by kernel_rfl)
/-- lane.Pop -/
noncomputable def a43 : List PV := [(.agg [.sl false [(.agg [I 2, I 2, (.sl true []), (.sl false []), B false])], I 0, I 0, I 0, .sl true []]), I 2]
noncomputable def r43 : List RV := [.pv (.agg [(.sl false []), I 0, I 0, I 0, (.sl true [])])]
theorem k43 : Ct Tryz.prog 201 a43 r43 := ct_run tb_ok mixed [] trivial 100000 (by kernel_rfl)
/-- lane.Control -/
noncomputable def a44 : List PV := [.agg [(.sl false []), I 0, I 0, I 0, (.sl true [])]]
noncomputable def r44 : List RV := [.pv (.agg [I 0, I 0, (.sl true []), (.sl true []), B false]), .pv (B false)]
theorem k44 : Ct Tryz.prog 285 a44 r44 := ct_run tb_ok mixed [] trivial 100000 (by kernel_rfl)
/-- seqr.Walk -/
noncomputable def a45 : List PV := [.agg [I 0, I 0], (.sl false [(.agg [.sl false [(.agg [I 1, I 1, (.sl false [V 97]), (.sl true []), B false]), (.agg [I 2, I 2, (.sl true []), (.sl false [I 0]), B false])], I 0, I 0, I 0, .sl true []]), .agg [(.sl true []), I 0, I 0, I 0, (.sl true [])]])]
noncomputable def r45 : List RV := [.pv (.agg [I 0, I 1]), .fresh 104 5 [(.agg [(.sl false []), I 0, I 0, I 0, (.sl true [])]), (.agg [(.sl true []), I 0, I 0, I 0, (.sl true [])])], .fresh 64 2 [(.agg [I 0, (.sl false [V 97])])]]
theorem k45 : Ct Tryz.prog 284 a45 r45 := ct_run tb_ok mixed [(285, a38, r38), (200, a39, r39), (201, a40, r40), (288, a41, r41), (285, a42, r42), (201, a43, r43), (285, a44, r44)] ⟨k38, k39, k40, k41, k42, k43, k44, trivial⟩ 100000 (by kernel_rfl)
/-- order.Walk -/
noncomputable def a46 : List PV := [I 0, .agg [I 0, I 0], (.sl false [(.agg [.sl false [(.agg [I 1, I 1, (.sl false [V 97]), (.sl true []), B false]), (.agg [I 2, I 2, (.sl true []), (.sl false [I 0]), B false])], I 0, I 0, I 0, .sl true []]), .agg [(.sl true []), I 0, I 0, I 0, (.sl true [])]])]
noncomputable def r46 : List RV := [.pv (.agg [I 0, I 1]), .fresh 104 5 [(.agg [(.sl false []), I 0, I 0, I 0, (.sl true [])]), (.agg [(.sl true []), I 0, I 0, I 0, (.sl true [])])], .fresh 64 2 [(.agg [I 0, (.sl false [V 97])])]]
theorem k46 : Ct Tryz.prog 101 a46 r46 := ct_run tb_ok mixed [(284, a45, r45)] ⟨k45, trivial⟩ 100000 (by kernel_rfl)
/-- meter.Add -/
noncomputable def a47 : List PV := [.agg [I 1, I 0, I 0], I 1, I 1]
noncomputable def r47 : List RV := [.pv (.agg [I 1, I 1, I 1])]
theorem k47 : Ct Tryz.prog 163 a47 r47 := ct_run tb_ok mixed [] trivial 100000 (by kernel_rfl)
/-- pkt.May -/
noncomputable def a48 : List PV := [.agg [I 1, I 0, I 1, I 1, I 0, I 0, I 1, I 0, (.sl true []), (.sl true [V 97]), I 0, I 0, I 0, I 0, (.sl true [])]]
noncomputable def r48 : List RV := [.pv (B true)]
theorem k48 : Ct Tryz.prog 86 a48 r48 := ct_run tb_ok mixed [(141, a20, r20)] ⟨k20, trivial⟩ 100000 (by kernel_rfl)
/-- num.Put -/
noncomputable def a49 : List PV := [I 1, I 1]
noncomputable def r49 : List RV := [.fresh 5 1 [V 1]]
theorem k49 : Ct Tryz.prog 88 a49 r49 := ct_run tb_ok mixed [] trivial 100000 (by kernel_rfl)
/-- num.Put -/
noncomputable def a50 : List PV := [I 1, I 8]
noncomputable def r50 : List RV := [.fresh 5 1 [V 0, V 0, V 0, V 0, V 0, V 0, V 0, V 1]]
theorem k50 : Ct Tryz.prog 88 a50 r50 := ct_run tb_ok mixed [] trivial 100000 (by kernel_rfl)
/-- num.Put -/
noncomputable def a51 : List PV := [I 0, I 8]
noncomputable def r51 : List RV := [.fresh 5 1 [V 0, V 0, V 0, V 0, V 0, V 0, V 0, V 0]]
theorem k51 : Ct Tryz.prog 88 a51 r51 := ct_run tb_ok mixed [] trivial 100000 (by kernel_rfl)
/-- item.Bytes -/
noncomputable def a52 : List PV := [.agg [I 1, I 1, I 0, I 0, I 1, I 0, (.sl true []), (.sl true [V 97])]]
noncomputable def r52 : List RV := [.fresh 5 1 [V 1, V 0, V 0, V 0, V 0, V 0, V 0, V 0, V 1, V 0, V 0, V 0, V 0, V 0, V 0, V 0, V 0, V 0, V 1, V 97]]
theorem k52 : Ct Tryz.prog 90 a52 r52 := ct_run tb_ok mixed [(141, a20, r20), (88, a49, r49), (88, a50, r50), (88, a51, r51)] ⟨k20, k49, k50, k51, trivial⟩ 100000 (by kernel_rfl)
/-- pkt.Bytes -/
noncomputable def a53 : List PV := [.agg [I 1, I 0, I 1, I 1, I 0, I 0, I 1, I 0, (.sl true []), (.sl true [V 97]), I 0, I 0, I 0, I 0, (.sl true [])]]
noncomputable def r53 : List RV := [.fresh 5 1 [V 165, V 1, V 0, V 1, V 0, V 0, V 0, V 0, V 0, V 0, V 0, V 1, V 0, V 0, V 0, V 0, V 0, V 0, V 0, V 0, V 0, V 1, V 97, V 157, V 34, V 186, V 42]]
theorem k53 : Ct Tryz.prog 45 a53 r53 := ct_run tb_ok mixed [(86, a48, r48), (90, a52, r52)] ⟨k48, k52, trivial⟩ 100000 (by kernel_rfl)
/-- pkt.May -/
noncomputable def a54 : List PV := [.agg [I 1, I 0, I 2, I 2, I 0, I 0, I 0, I 0, (.sl true [I 0]), (.sl true []), I 0, I 0, I 0, I 0, (.sl true [])]]
noncomputable def r54 : List RV := [.pv (B true)]
theorem k54 : Ct Tryz.prog 86 a54 r54 := ct_run tb_ok mixed [(141, a32, r32)] ⟨k32, trivial⟩ 100000 (by kernel_rfl)
/-- num.Put -/
noncomputable def a55 : List PV := [I 2, I 1]
noncomputable def r55 : List RV := [.fresh 5 1 [V 2]]
theorem k55 : Ct Tryz.prog 88 a55 r55 := ct_run tb_ok mixed [] trivial 100000 (by kernel_rfl)
/-- num.Put -/
noncomputable def a56 : List PV := [I 2, I 8]
noncomputable def r56 : List RV := [.fresh 5 1 [V 0, V 0, V 0, V 0, V 0, V 0, V 0, V 2]]
theorem k56 : Ct Tryz.prog 88 a56 r56 := ct_run tb_ok mixed [] trivial 100000 (by kernel_rfl)
/-- num.Put -/
noncomputable def a57 : List PV := [I 0, I 1]
noncomputable def r57 : List RV := [.fresh 5 1 [V 0]]
theorem k57 : Ct Tryz.prog 88 a57 r57 := ct_run tb_ok mixed [] trivial 100000 (by kernel_rfl)
/-- num.PutRow -/
noncomputable def a58 : List PV := [.sl true [I 0], I 1]
noncomputable def r58 : List RV := [.fresh 5 1 [V 0]]
theorem k58 : Ct Tryz.prog 89 a58 r58 := ct_run tb_ok mixed [(88, a57, r57)] ⟨k57, trivial⟩ 100000 (by kernel_rfl)
/-- item.Bytes -/
noncomputable def a59 : List PV := [.agg [I 2, I 2, I 0, I 0, I 0, I 0, (.sl true [I 0]), (.sl true [])]]
noncomputable def r59 : List RV := [.fresh 5 1 [V 2, V 0, V 0, V 0, V 0, V 0, V 0, V 0, V 2, V 0, V 0, V 0, V 0, V 0, V 0, V 0, V 0, V 0, V 0]]
theorem k59 : Ct Tryz.prog 90 a59 r59 := ct_run tb_ok mixed [(141, a32, r32), (88, a55, r55), (88, a56, r56), (88, a51, r51), (89, a58, r58)] ⟨k32, k55, k56, k51, k58, trivial⟩ 100000 (by kernel_rfl)
/-- pkt.Bytes -/
noncomputable def a60 : List PV := [.agg [I 1, I 0, I 2, I 2, I 0, I 0, I 0, I 0, (.sl true [I 0]), (.sl true []), I 0, I 0, I 0, I 0, (.sl true [])]]
noncomputable def r60 : List RV := [.fresh 5 1 [V 165, V 1, V 0, V 2, V 0, V 0, V 0, V 0, V 0, V 0, V 0, V 2, V 0, V 0, V 0, V 0, V 0, V 0, V 0, V 0, V 0, V 0, V 130, V 169, V 208, V 151]]
theorem k60 : Ct Tryz.prog 45 a60 r60 := ct_run tb_ok mixed [(86, a54, r54), (90, a59, r59)] ⟨k54, k59, trivial⟩ 100000 (by kernel_rfl)
/-- memb.Tick -/
noncomputable def a61 : List PV := [(.agg [I 2, I 4, I 12, I 12, I 3, I 5, I 2, I 2, I 1, I 4, I 8, I 5, I 1, I 4, I 2, B true, I 0, B false, I 0, I 0, I 1, .sl true [], .sl false [(.agg [I 1, (.sl true [])]), (.agg [I 1, (.sl true [])])], .sl false [I 0, I 0], .sl false [(.agg [I 0]), (.agg [I 0])], .sl false [(.sl false [I 0, I 0]), (.sl false [I 0, I 0])], .sl true [], I 0, .sl false [(.sl false [V 97])], I 4, I 8, I 0, I 0, .sl false [(.agg [(.sl true []), I 0, I 0, I 0, (.sl true [])]), (.agg [(.sl true []), I 0, I 0, I 0, (.sl true [])])], I 0, I 0, B false, I 0, .sl false [B false, B false], .sl false [I 0, I 0], B false, .sl true [], I 0, I 0, I 0, I 0, I 0, B false, .sl true [], I 0, I 0])]
noncomputable def r61 : List RV := [(.pv (.agg [I 2, I 4, I 12, I 12, I 3, I 5, I 2, I 2, I 1, I 4, I 8, I 5, I 1, I 4, I 2, B true, I 0, B false, I 0, I 1, I 3, .sl false [(.agg [I 1, I 1, I 0, I 0, I 1, I 0, (.sl true []), (.sl true [V 97])]), (.agg [I 2, I 2, I 0, I 0, I 0, I 0, (.sl true [I 0]), (.sl true [])])], .sl false [(.agg [I 1, (.sl true [])]), (.agg [I 1, (.sl true [])])], .sl false [I 0, I 0], .sl false [(.agg [I 0]), (.agg [I 0])], .sl false [(.sl false [I 0, I 0]), (.sl false [I 0, I 0])], .sl true [], I 0, .sl false [], I 4, I 7, I 0, I 0, .sl false [(.agg [(.sl false []), I 0, I 0, I 0, (.sl true [])]), (.agg [(.sl true []), I 0, I 0, I 0, (.sl true [])])], I 0, I 1, B false, I 0, .sl false [B false, B false], .sl false [I 0, I 0], B false, .sl true [], I 1, I 1, I 1, I 1, I 0, B false, .sl false [(.agg [I 0, (.sl false [V 97])])], I 0, I 0])), .fresh 60 1 [(.sl false [V 165, V 1, V 0, V 1, V 0, V 0, V 0, V 0, V 0, V 0, V 0, V 1, V 0, V 0, V 0, V 0, V 0, V 0, V 0, V 0, V 0, V 1, V 97, V 157, V 34, V 186, V 42]), (.sl false [V 165, V 1, V 0, V 2, V 0, V 0, V 0, V 0, V 0, V 0, V 0, V 2, V 0, V 0, V 0, V 0, V 0, V 0, V 0, V 0, V 0, V 0, V 130, V 169, V 208, V 151])]]
theorem k61 : Ct Tryz.prog 12 a61 r61 := ct_run tb_ok mixed [(72, a7, r7), (19, a9, r9), (73, a10, r10), (74, a11, r11), (78, a12, r12), (79, a13, r13), (80, a14, r14), (27, a15, r15), (81, a16, r16), (82, a17, r17), (83, a18, r18), (84, a19, r19), (133, a22, r22), (185, a24, r24), (160, a25, r25), (101, a28, r28), (103, a29, r29), (85, a31, r31), (133, a35, r35), (185, a36, r36), (160, a37, r37), (101, a46, r46), (163, a47, r47), (45, a53, r53), (45, a60, r60)] ⟨k7, k9, k10, k11, k12, k13, k14, k15, k16, k17, k18, k19, k22, k24, k25, k28, k29, k31, k35, k36, k37, k46, k47, k53, k60, trivial⟩ 100000 (by kernel_rfl)
/-- frag.Many -/
noncomputable def a62 : List PV := [I 0, I 0]
noncomputable def r62 : List RV := [.pv (I 0)]
theorem k62 : Ct Tryz.prog 27 a62 r62 := ct_run tb_ok mixed [] trivial 100000 (by kernel_rfl)
/-- memb.Fits -/
noncomputable def a63 : List PV := [.agg [I 0, I 0, I 0, I 0, I 0, I 0, I 0, I 0, I 0, I 0, I 0, I 0, I 0, I 0, I 0, B false, I 0]]
noncomputable def r63 : List RV := [.pv (B false)]
theorem k63 : Ct Tryz.prog 7 a63 r63 := ct_run tb_ok mixed [(27, a62, r62)] ⟨k62, trivial⟩ 100000 (by kernel_rfl)
/-- memb.New -/
noncomputable def a64 : List PV := [.agg [I 0, I 0, I 0, I 0, I 0, I 0, I 0, I 0, I 0, I 0, I 0, I 0, I 0, I 0, I 0, B false, I 0], I 0]
noncomputable def r64 : List RV := [.pv (.agg [I 0, I 0, I 0, I 0, I 0, I 0, I 0, I 0, I 0, I 0, I 0, I 0, I 0, I 0, I 0, B false, I 0, B false, I 0, I 0, I 0, (.sl true []), (.sl true []), (.sl true []), (.sl true []), (.sl true []), (.sl true []), I 0, (.sl true []), I 0, I 0, I 0, I 0, (.sl true []), I 0, I 0, B false, I 0, (.sl true []), (.sl true []), B false, (.sl true []), I 0, I 0, I 0, I 0, I 0, B false, (.sl true []), I 0, I 0]), .pv (I 1)]
theorem k64 : Ct Tryz.prog 5 a64 r64 := ct_run tb_ok mixed [(7, a63, r63)] ⟨k63, trivial⟩ 100000 (by kernel_rfl)
/-- sendq.Offer -/
noncomputable def a65 : List PV := [.sl false [], .sl false [V 0, V 0, V 0, V 0, V 0, V 0, V 0, V 0, V 0, V 0, V 0, V 0, V 0], I 5, I 12]
noncomputable def r65 : List RV := [.pv (.sl false []), .pv (I 5)]
theorem k65 : Ct Tryz.prog 37 a65 r65 := ct_run tb_ok mixed [] trivial 100000 (by kernel_rfl)
/-- memb.Offer -/
noncomputable def a66 : List PV := [(.agg [I 2, I 4, I 12, I 12, I 3, I 5, I 2, I 2, I 1, I 4, I 8, I 5, I 1, I 4, I 2, B true, I 0, B false, I 0, I 1, I 3, .sl false [(.agg [I 1, I 1, I 0, I 0, I 1, I 0, (.sl true []), (.sl true [V 97])]), (.agg [I 2, I 2, I 0, I 0, I 0, I 0, (.sl true [I 0]), (.sl true [])])], .sl false [(.agg [I 1, (.sl true [])]), (.agg [I 1, (.sl true [])])], .sl false [I 0, I 0], .sl false [(.agg [I 0]), (.agg [I 0])], .sl false [(.sl false [I 0, I 0]), (.sl false [I 0, I 0])], .sl true [], I 0, .sl false [], I 4, I 7, I 0, I 0, .sl false [(.agg [(.sl false []), I 0, I 0, I 0, (.sl true [])]), (.agg [(.sl true []), I 0, I 0, I 0, (.sl true [])])], I 0, I 1, B false, I 0, .sl false [B false, B false], .sl false [I 0, I 0], B false, .sl true [], I 1, I 1, I 1, I 1, I 0, B false, .sl false [(.agg [I 0, (.sl false [V 97])])], I 1, I 0]), .sl false [V 0, V 0, V 0, V 0, V 0, V 0, V 0, V 0, V 0, V 0, V 0, V 0, V 0]]
noncomputable def r66 : List RV := [(.pv (.agg [I 2, I 4, I 12, I 12, I 3, I 5, I 2, I 2, I 1, I 4, I 8, I 5, I 1, I 4, I 2, B true, I 0, B false, I 0, I 1, I 3, .sl false [(.agg [I 1, I 1, I 0, I 0, I 1, I 0, (.sl true []), (.sl true [V 97])]), (.agg [I 2, I 2, I 0, I 0, I 0, I 0, (.sl true [I 0]), (.sl true [])])], .sl false [(.agg [I 1, (.sl true [])]), (.agg [I 1, (.sl true [])])], .sl false [I 0, I 0], .sl false [(.agg [I 0]), (.agg [I 0])], .sl false [(.sl false [I 0, I 0]), (.sl false [I 0, I 0])], .sl true [], I 0, .sl false [], I 4, I 7, I 0, I 0, .sl false [(.agg [(.sl false []), I 0, I 0, I 0, (.sl true [])]), (.agg [(.sl true []), I 0, I 0, I 0, (.sl true [])])], I 0, I 1, B false, I 0, .sl false [B false, B false], .sl false [I 0, I 0], B false, .sl true [], I 1, I 1, I 1, I 1, I 0, B false, .sl false [(.agg [I 0, (.sl false [V 97])])], I 1, I 0])), .pv (I 5)]
theorem k66 : Ct Tryz.prog 11 a66 r66 := ct_run tb_ok mixed [(37, a65, r65)] ⟨k65, trivial⟩ 100000 (by kernel_rfl)
/-- memb.Offer -/
noncomputable def a67 : List PV := [(.agg [I 2, I 4, I 12, I 12, I 3, I 5, I 2, I 2, I 1, I 4, I 8, I 5, I 1, I 4, I 2, B true, I 0, B true, I 0, I 1, I 3, .sl false [(.agg [I 1, I 1, I 0, I 0, I 1, I 0, (.sl true []), (.sl true [V 97])]), (.agg [I 2, I 2, I 0, I 0, I 0, I 0, (.sl true [I 0]), (.sl true [])])], .sl false [(.agg [I 1, (.sl true [])]), (.agg [I 1, (.sl true [])])], .sl false [I 0, I 0], .sl false [(.agg [I 0]), (.agg [I 0])], .sl false [(.sl false [I 0, I 0]), (.sl false [I 0, I 0])], .sl true [], I 0, .sl false [], I 4, I 7, I 0, I 0, .sl false [(.agg [(.sl false []), I 0, I 0, I 0, (.sl true [])]), (.agg [(.sl true []), I 0, I 0, I 0, (.sl true [])])], I 0, I 1, B false, I 0, .sl false [B false, B false], .sl false [I 0, I 0], B false, .sl true [], I 1, I 1, I 1, I 1, I 0, B false, .sl false [(.agg [I 0, (.sl false [V 97])])], I 1, I 0]), .sl true []]
noncomputable def r67 : List RV := [(.pv (.agg [I 2, I 4, I 12, I 12, I 3, I 5, I 2, I 2, I 1, I 4, I 8, I 5, I 1, I 4, I 2, B true, I 0, B true, I 0, I 1, I 3, .sl false [(.agg [I 1, I 1, I 0, I 0, I 1, I 0, (.sl true []), (.sl true [V 97])]), (.agg [I 2, I 2, I 0, I 0, I 0, I 0, (.sl true [I 0]), (.sl true [])])], .sl false [(.agg [I 1, (.sl true [])]), (.agg [I 1, (.sl true [])])], .sl false [I 0, I 0], .sl false [(.agg [I 0]), (.agg [I 0])], .sl false [(.sl false [I 0, I 0]), (.sl false [I 0, I 0])], .sl true [], I 0, .sl false [], I 4, I 7, I 0, I 0, .sl false [(.agg [(.sl false []), I 0, I 0, I 0, (.sl true [])]), (.agg [(.sl true []), I 0, I 0, I 0, (.sl true [])])], I 0, I 1, B false, I 0, .sl false [B false, B false], .sl false [I 0, I 0], B false, .sl true [], I 1, I 1, I 1, I 1, I 0, B false, .sl false [(.agg [I 0, (.sl false [V 97])])], I 1, I 0])), .pv (I 6)]
theorem k67 : Ct Tryz.prog 11 a67 r67 := ct_run tb_ok mixed [] trivial 100000 (by kernel_rfl)
/-- crc.Open -/
noncomputable def a68 : List PV := [.sl false [V 120]]
noncomputable def r68 : List RV := [.pv (.sl true []), .pv (I 2)]
theorem k68 : Ct Tryz.prog 92 a68 r68 := ct_run tb_ok mixed [] trivial 100000 (by kernel_rfl)
/-- pkt.Read -/
noncomputable def a69 : List PV := [.sl false [V 120]]
noncomputable def r69 : List RV := [.pv (.agg [I 0, I 0, I 0, I 0, I 0, I 0, I 0, I 0, (.sl true []), (.sl true []), I 0, I 0, I 0, I 0, (.sl true [])]), .pv (I 2)]
theorem k69 : Ct Tryz.prog 47 a69 r69 := ct_run tb_ok mixed [(92, a68, r68)] ⟨k68, trivial⟩ 100000 (by kernel_rfl)
/-- memb.Hear -/
noncomputable def a70 : List PV := [(.agg [I 2, I 4, I 12, I 12, I 3, I 5, I 2, I 2, I 1, I 4, I 8, I 5, I 1, I 4, I 2, B true, I 0, B false, I 0, I 1, I 3, .sl false [(.agg [I 1, I 1, I 0, I 0, I 1, I 0, (.sl true []), (.sl true [V 97])]), (.agg [I 2, I 2, I 0, I 0, I 0, I 0, (.sl true [I 0]), (.sl true [])])], .sl false [(.agg [I 1, (.sl true [])]), (.agg [I 1, (.sl true [])])], .sl false [I 0, I 0], .sl false [(.agg [I 0]), (.agg [I 0])], .sl false [(.sl false [I 0, I 0]), (.sl false [I 0, I 0])], .sl true [], I 0, .sl false [], I 4, I 7, I 0, I 0, .sl false [(.agg [(.sl false []), I 0, I 0, I 0, (.sl true [])]), (.agg [(.sl true []), I 0, I 0, I 0, (.sl true [])])], I 0, I 1, B false, I 0, .sl false [B false, B false], .sl false [I 0, I 0], B false, .sl true [], I 1, I 1, I 1, I 1, I 0, B false, .sl false [(.agg [I 0, (.sl false [V 97])])], I 1, I 0]), .sl false [V 120]]
noncomputable def r70 : List RV := [(.pv (.agg [I 2, I 4, I 12, I 12, I 3, I 5, I 2, I 2, I 1, I 4, I 8, I 5, I 1, I 4, I 2, B true, I 0, B false, I 0, I 1, I 3, .sl false [(.agg [I 1, I 1, I 0, I 0, I 1, I 0, (.sl true []), (.sl true [V 97])]), (.agg [I 2, I 2, I 0, I 0, I 0, I 0, (.sl true [I 0]), (.sl true [])])], .sl false [(.agg [I 1, (.sl true [])]), (.agg [I 1, (.sl true [])])], .sl false [I 0, I 0], .sl false [(.agg [I 0]), (.agg [I 0])], .sl false [(.sl false [I 0, I 0]), (.sl false [I 0, I 0])], .sl true [], I 0, .sl false [], I 4, I 7, I 0, I 0, .sl false [(.agg [(.sl false []), I 0, I 0, I 0, (.sl true [])]), (.agg [(.sl true []), I 0, I 0, I 0, (.sl true [])])], I 0, I 1, B false, I 0, .sl false [B false, B false], .sl false [I 0, I 0], B false, .sl true [], I 1, I 1, I 1, I 1, I 0, B false, .sl false [(.agg [I 0, (.sl false [V 97])])], I 1, I 1]))]
theorem k70 : Ct Tryz.prog 15 a70 r70 := ct_runD tb_ok mixed [(47, a69, r69)] ⟨k69, trivial⟩ 100000 (by kernel_rfl)
/-- item.Same -/
noncomputable def a71 : List PV := [.agg [I 1, I 1, I 0, I 0, I 1, I 0, (.sl true []), (.sl true [V 97])], .agg [I 1, I 1, I 0, I 0, I 1, I 0, (.sl true []), (.sl true [V 97])]]
noncomputable def r71 : List RV := [.pv (B true)]
theorem k71 : Ct Tryz.prog 166 a71 r71 := ct_run tb_ok mixed [] trivial 100000 (by kernel_rfl)
/-- item.Same -/
noncomputable def a72 : List PV := [.agg [I 2, I 2, I 0, I 0, I 0, I 0, (.sl true [I 0]), (.sl true [])], .agg [I 2, I 2, I 0, I 0, I 0, I 0, (.sl true [I 0]), (.sl true [])]]
noncomputable def r72 : List RV := [.pv (B true)]
theorem k72 : Ct Tryz.prog 166 a72 r72 := ct_run tb_ok mixed [] trivial 100000 (by kernel_rfl)
/-- rel.Same -/
noncomputable def a73 : List PV := [(.agg [I 0, I 1, I 3, .sl false [(.agg [I 1, I 1, I 0, I 0, I 1, I 0, (.sl true []), (.sl true [V 97])]), (.agg [I 2, I 2, I 0, I 0, I 0, I 0, (.sl true [I 0]), (.sl true [])])], .sl false [(.agg [I 1, (.sl true [])]), (.agg [I 1, (.sl true [])])], .sl false [I 0, I 0], .sl false [(.agg [I 0]), (.agg [I 0])], .sl false [(.sl false [I 0, I 0]), (.sl false [I 0, I 0])], .sl true [], I 0]), (.agg [I 0, I 1, I 3, .sl false [(.agg [I 1, I 1, I 0, I 0, I 1, I 0, (.sl true []), (.sl true [V 97])]), (.agg [I 2, I 2, I 0, I 0, I 0, I 0, (.sl true [I 0]), (.sl true [])])], .sl false [(.agg [I 1, (.sl true [])]), (.agg [I 1, (.sl true [])])], .sl false [I 0, I 0], .sl false [(.agg [I 0]), (.agg [I 0])], .sl false [(.sl false [I 0, I 0]), (.sl false [I 0, I 0])], .sl true [], I 0])]
noncomputable def r73 : List RV := [.pv (B true)]
theorem k73 : Ct Tryz.prog 50 a73 r73 := ct_run tb_ok mixed [(166, a71, r71), (166, a72, r72)] ⟨k71, k72, trivial⟩ 100000 (by kernel_rfl)
/-- sendq.Same -/
noncomputable def a74 : List PV := [.sl false [], .sl false []]
noncomputable def r74 : List RV := [.pv (B true)]
theorem k74 : Ct Tryz.prog 51 a74 r74 := ct_run tb_ok mixed [] trivial 100000 (by kernel_rfl)
/-- flush.Same -/
noncomputable def a75 : List PV := [.agg [B false, I 0, (.sl false [B false, B false]), (.sl false [I 0, I 0]), B false, (.sl true [])], .agg [B false, I 0, (.sl false [B false, B false]), (.sl false [I 0, I 0]), B false, (.sl true [])]]
noncomputable def r75 : List RV := [.pv (B true)]
theorem k75 : Ct Tryz.prog 54 a75 r75 := ct_run tb_ok mixed [] trivial 100000 (by kernel_rfl)
/-- memb.Same -/
noncomputable def a76 : List PV := [(.agg [I 2, I 4, I 12, I 12, I 3, I 5, I 2, I 2, I 1, I 4, I 8, I 5, I 1, I 4, I 2, B true, I 0, B false, I 0, I 1, I 3, .sl false [(.agg [I 1, I 1, I 0, I 0, I 1, I 0, (.sl true []), (.sl true [V 97])]), (.agg [I 2, I 2, I 0, I 0, I 0, I 0, (.sl true [I 0]), (.sl true [])])], .sl false [(.agg [I 1, (.sl true [])]), (.agg [I 1, (.sl true [])])], .sl false [I 0, I 0], .sl false [(.agg [I 0]), (.agg [I 0])], .sl false [(.sl false [I 0, I 0]), (.sl false [I 0, I 0])], .sl true [], I 0, .sl false [], I 4, I 7, I 0, I 0, .sl false [(.agg [(.sl false []), I 0, I 0, I 0, (.sl true [])]), (.agg [(.sl true []), I 0, I 0, I 0, (.sl true [])])], I 0, I 1, B false, I 0, .sl false [B false, B false], .sl false [I 0, I 0], B false, .sl true [], I 1, I 1, I 1, I 1, I 0, B false, .sl false [(.agg [I 0, (.sl false [V 97])])], I 1, I 0]), (.agg [I 2, I 4, I 12, I 12, I 3, I 5, I 2, I 2, I 1, I 4, I 8, I 5, I 1, I 4, I 2, B true, I 0, B false, I 0, I 1, I 3, .sl false [(.agg [I 1, I 1, I 0, I 0, I 1, I 0, (.sl true []), (.sl true [V 97])]), (.agg [I 2, I 2, I 0, I 0, I 0, I 0, (.sl true [I 0]), (.sl true [])])], .sl false [(.agg [I 1, (.sl true [])]), (.agg [I 1, (.sl true [])])], .sl false [I 0, I 0], .sl false [(.agg [I 0]), (.agg [I 0])], .sl false [(.sl false [I 0, I 0]), (.sl false [I 0, I 0])], .sl true [], I 0, .sl false [], I 4, I 7, I 0, I 0, .sl false [(.agg [(.sl false []), I 0, I 0, I 0, (.sl true [])]), (.agg [(.sl true []), I 0, I 0, I 0, (.sl true [])])], I 0, I 1, B false, I 0, .sl false [B false, B false], .sl false [I 0, I 0], B false, .sl true [], I 1, I 1, I 1, I 1, I 0, B false, .sl false [(.agg [I 0, (.sl false [V 97])])], I 1, I 0])]
noncomputable def r76 : List RV := [.pv (B true)]
theorem k76 : Ct Tryz.prog 17 a76 r76 := ct_run tb_ok mixed [(50, a73, r73), (51, a74, r74), (54, a75, r75)] ⟨k73, k74, k75, trivial⟩ 100000 (by kernel_rfl)
/-- memb.Same -/
noncomputable def a77 : List PV := [(.agg [I 2, I 4, I 12, I 12, I 3, I 5, I 2, I 2, I 1, I 4, I 8, I 5, I 1, I 4, I 2, B true, I 0, B false, I 0, I 1, I 3, .sl false [(.agg [I 1, I 1, I 0, I 0, I 1, I 0, (.sl true []), (.sl true [V 97])]), (.agg [I 2, I 2, I 0, I 0, I 0, I 0, (.sl true [I 0]), (.sl true [])])], .sl false [(.agg [I 1, (.sl true [])]), (.agg [I 1, (.sl true [])])], .sl false [I 0, I 0], .sl false [(.agg [I 0]), (.agg [I 0])], .sl false [(.sl false [I 0, I 0]), (.sl false [I 0, I 0])], .sl true [], I 0, .sl false [], I 4, I 7, I 0, I 0, .sl false [(.agg [(.sl false []), I 0, I 0, I 0, (.sl true [])]), (.agg [(.sl true []), I 0, I 0, I 0, (.sl true [])])], I 0, I 1, B false, I 0, .sl false [B false, B false], .sl false [I 0, I 0], B false, .sl true [], I 1, I 1, I 1, I 1, I 0, B false, .sl false [(.agg [I 0, (.sl false [V 97])])], I 1, I 0]), (.agg [I 2, I 4, I 12, I 12, I 3, I 5, I 2, I 2, I 1, I 4, I 8, I 5, I 1, I 4, I 2, B true, I 0, B true, I 0, I 1, I 3, .sl false [(.agg [I 1, I 1, I 0, I 0, I 1, I 0, (.sl true []), (.sl true [V 97])]), (.agg [I 2, I 2, I 0, I 0, I 0, I 0, (.sl true [I 0]), (.sl true [])])], .sl false [(.agg [I 1, (.sl true [])]), (.agg [I 1, (.sl true [])])], .sl false [I 0, I 0], .sl false [(.agg [I 0]), (.agg [I 0])], .sl false [(.sl false [I 0, I 0]), (.sl false [I 0, I 0])], .sl true [], I 0, .sl false [], I 4, I 7, I 0, I 0, .sl false [(.agg [(.sl false []), I 0, I 0, I 0, (.sl true [])]), (.agg [(.sl true []), I 0, I 0, I 0, (.sl true [])])], I 0, I 1, B false, I 0, .sl false [B false, B false], .sl false [I 0, I 0], B false, .sl true [], I 1, I 1, I 1, I 1, I 0, B false, .sl false [(.agg [I 0, (.sl false [V 97])])], I 1, I 0])]
noncomputable def r77 : List RV := [.pv (B false)]
theorem k77 : Ct Tryz.prog 17 a77 r77 := ct_run tb_ok mixed [(54, a75, r75)] ⟨k75, trivial⟩ 100000 (by kernel_rfl)
/-- lane.Done -/
noncomputable def a78 : List PV := [.agg [(.sl false []), I 0, I 0, I 0, (.sl true [])], I 2]
noncomputable def r78 : List RV := [.pv (I 2)]
theorem k78 : Ct Tryz.prog 58 a78 r78 := ct_run tb_ok mixed [] trivial 100000 (by kernel_rfl)
/-- memb.Done -/
noncomputable def a79 : List PV := [(.agg [I 2, I 4, I 12, I 12, I 3, I 5, I 2, I 2, I 1, I 4, I 8, I 5, I 1, I 4, I 2, B true, I 0, B false, I 0, I 1, I 3, .sl false [(.agg [I 1, I 1, I 0, I 0, I 1, I 0, (.sl true []), (.sl true [V 97])]), (.agg [I 2, I 2, I 0, I 0, I 0, I 0, (.sl true [I 0]), (.sl true [])])], .sl false [(.agg [I 1, (.sl true [])]), (.agg [I 1, (.sl true [])])], .sl false [I 0, I 0], .sl false [(.agg [I 0]), (.agg [I 0])], .sl false [(.sl false [I 0, I 0]), (.sl false [I 0, I 0])], .sl true [], I 0, .sl false [], I 4, I 7, I 0, I 0, .sl false [(.agg [(.sl false []), I 0, I 0, I 0, (.sl true [])]), (.agg [(.sl true []), I 0, I 0, I 0, (.sl true [])])], I 0, I 1, B false, I 0, .sl false [B false, B false], .sl false [I 0, I 0], B false, .sl true [], I 1, I 1, I 1, I 1, I 0, B false, .sl false [(.agg [I 0, (.sl false [V 97])])], I 1, I 0])]
noncomputable def r79 : List RV := [.fresh 3 1 [I 2, I 0]]
theorem k79 : Ct Tryz.prog 19 a79 r79 := ct_run tb_ok mixed [(58, a78, r78), (58, a8, r8)] ⟨k78, k8, trivial⟩ 100000 (by kernel_rfl)
/-- precentorlaw21.shown -/
noncomputable def a80 : List PV := []
noncomputable def r80 : List RV := [.pv (B true)]
theorem k80 : Ct Tryz.prog 4 a80 r80 := ct_run tb_ok mixed [(5, a4, r4), (11, a6, r6), (12, a61, r61), (5, a64, r64), (11, a66, r66), (11, a67, r67), (15, a70, r70), (7, a1, r1), (17, a76, r76), (17, a77, r77), (19, a79, r79)] ⟨k4, k6, k61, k64, k66, k67, k70, k1, k76, k77, k79, trivial⟩ 100000 (by kernel_rfl)
theorem run_precentorlaw21_shown : Ct Tryz.prog 4 [] [.pv (B true)] := k80
end Go.Proofs.YtndomnacflndmaaGreatDoor.M
