/- A run by parts: what each call answers, at its arguments (written by a program of this session; no condition). -/
import Derived.Test.YthcmkipbdgndoaaGreatDoorG24
import Derived.Test.YthcmkipbdgndoaaGreatDoorNx37
import Derived.Test.YthcmkipbdgndoaaGreatDoorT24
set_option linter.all false
set_option linter.unusedVariables false
set_option linter.unusedSimpArgs false
set_option linter.unnecessarySimpa false
namespace Go.Proofs.YthcmkipbdgndoaaGreatDoor.M
open Go Go.Mir Go.Proofs
set_option maxRecDepth 1000000
set_option maxHeartbeats 0
abbrev V (n : Nat) : PV := .lit (.int .u8 n)
abbrev W (n : Nat) : PV := .lit (.int .u32 n)
theorem clone_gen {n b ty : Nat} (h0 : 0 < n) {es : List PV} (ok : okNews n es = true) (hl : es.length * b ≤ 140737488355328) : Nq es (RvsLe [.pv (.sl true [])] [.fresh ty n es]) (Ok (okNews n es) (Sz 0 es.length b (RvsLe [.fresh ty n es] [.fresh ty n es]))) := by
  refine ⟨fun h => ?_, ok, ⟨by simpa using hl, .refl _⟩⟩
  cases es with
  | nil => exact .rowNil
  | cons p es =>
    have h1 := h p (by simp)
    unfold okNews at ok
    simp only [Bool.and_eq_true, List.all_eq_true] at ok
    have := ok.1 p (by simp)
    simp [h1] at this; omega
theorem cl32 {es : List PV} (ok : okNews 1 es = true) (hl : es.length * 1 ≤ 140737488355328) : Ct Tryz.prog 32 [.sl false es] [.fresh 5 1 es] := t32 _ (clone_gen (by decide) ok hl)
theorem cl63 {es : List PV} (ok : okNews 1 es = true) (hl : es.length * 24 ≤ 140737488355328) : Ct Tryz.prog 63 [.sl false es] [.fresh 103 1 es] := t63 _ (clone_gen (by decide) ok hl)
theorem cl70 {es : List PV} (ok : okNews 51 es = true) (hl : es.length * 600 ≤ 140737488355328) : Ct Tryz.prog 70 [.sl false es] [.fresh 118 51 es] := t70 _ (clone_gen (by decide) ok hl)
theorem cl106 {es : List PV} (ok : okNews 1 es = true) (hl : es.length * 1 ≤ 140737488355328) : Ct Tryz.prog 106 [.sl false es] [.fresh 5 1 es] := t106 _ (clone_gen (by decide) ok hl)
theorem cl186 {es : List PV} (ok : okNews 1 es = true) (hl : es.length * 8 ≤ 140737488355328) : Ct Tryz.prog 186 [.sl false es] [.fresh 3 1 es] := t186 _ (clone_gen (by decide) ok hl)
theorem cl195 {es : List PV} (ok : okNews 1 es = true) (hl : es.length * 24 ≤ 140737488355328) : Ct Tryz.prog 195 [.sl false es] [.fresh 22 1 es] := t195 _ (clone_gen (by decide) ok hl)
theorem cl216 {es : List PV} (ok : okNews 1 es = true) (hl : es.length * 24 ≤ 140737488355328) : Ct Tryz.prog 216 [.sl false es] [.fresh 83 1 es] := t216 _ (clone_gen (by decide) ok hl)
theorem cl221 {es : List PV} (ok : okNews 2 es = true) (hl : es.length * 32 ≤ 140737488355328) : Ct Tryz.prog 221 [.sl false es] [.fresh 212 2 es] := t221 _ (clone_gen (by decide) ok hl)
theorem cl240 {es : List PV} (ok : okNews 1 es = true) (hl : es.length * 8 ≤ 140737488355328) : Ct Tryz.prog 240 [.sl false es] [.fresh 285 1 es] := t240 _ (clone_gen (by decide) ok hl)
theorem cl245 {es : List PV} (ok : okNews 5 es = true) (hl : es.length * 72 ≤ 140737488355328) : Ct Tryz.prog 245 [.sl false es] [.fresh 261 5 es] := t245 _ (clone_gen (by decide) ok hl)
theorem cl279 {es : List PV} (ok : okNews 5 es = true) (hl : es.length * 72 ≤ 140737488355328) : Ct Tryz.prog 279 [.sl false es] [.fresh 323 5 es] := t279 _ (clone_gen (by decide) ok hl)
theorem cl284 {es : List PV} (ok : okNews 1 es = true) (hl : es.length * 1 ≤ 140737488355328) : Ct Tryz.prog 284 [.sl false es] [.fresh 4 1 es] := t284 _ (clone_gen (by decide) ok hl)
noncomputable def cloneAt (n b ty : Nat) (es : List PV) : Option (List RV) := match okNews n es, Nat.ble (es.length * b) 140737488355328 with
  | true, true => some [.fresh ty n es]
  | _, _ => none
theorem cloneAt_ok {f n b ty : Nat} {es : List PV} {fl : Bool} {rs : List RV} (hc : ∀ {es : List PV}, okNews n es = true → es.length * b ≤ 140737488355328 → Ct Tryz.prog f [.sl false es] [.fresh ty n es]) (h : cloneAt n b ty es = some rs) : Ct Tryz.prog f [.sl fl es] rs := by
  unfold cloneAt at h
  split at h
  · rename_i h1 h2
    cases h
    exact (hc h1 (Nat.le_of_ble_eq_true h2)).args (.cons (.sl (by simp) rfl fun j p q hp hq => by rw [hp] at hq; cases hq; exact .refl p) .nil)
  · cases h
noncomputable def tbGet (f : Nat) (ps : List PV) : Option (List RV) := match ps with
  | [.sl _ es] => match Nat.beq f 32 with
    | true => cloneAt 1 1 5 es
    | false => match Nat.beq f 63 with
    | true => cloneAt 1 24 103 es
    | false => match Nat.beq f 70 with
    | true => cloneAt 51 600 118 es
    | false => match Nat.beq f 106 with
    | true => cloneAt 1 1 5 es
    | false => match Nat.beq f 186 with
    | true => cloneAt 1 8 3 es
    | false => match Nat.beq f 195 with
    | true => cloneAt 1 24 22 es
    | false => match Nat.beq f 216 with
    | true => cloneAt 1 24 83 es
    | false => match Nat.beq f 221 with
    | true => cloneAt 2 32 212 es
    | false => match Nat.beq f 240 with
    | true => cloneAt 1 8 285 es
    | false => match Nat.beq f 245 with
    | true => cloneAt 5 72 261 es
    | false => match Nat.beq f 279 with
    | true => cloneAt 5 72 323 es
    | false => match Nat.beq f 284 with
    | true => cloneAt 1 1 4 es
    | false => none
  | _ => none
noncomputable def tb : Tbl := ⟨fun f => Nat.beq f 32 || Nat.beq f 63 || Nat.beq f 70 || Nat.beq f 106 || Nat.beq f 186 || Nat.beq f 195 || Nat.beq f 216 || Nat.beq f 221 || Nat.beq f 240 || Nat.beq f 245 || Nat.beq f 279 || Nat.beq f 284, fun f ps => match tbS f ps with | some rs => some rs | none => tbGet f ps, fun f => Nat.beq f 12 || Nat.beq f 149 || Nat.beq f 197 || Nat.beq f 276 || Nat.beq f 344, fun _ => false⟩
theorem tb_ok : tb.Ok Tryz.prog := by
  intro f ps rs h
  have h : (match tbS f ps with | some rs => some rs | none => tbGet f ps) = some rs := h
  cases e0 : tbS f ps with
  | some rs0 => rw [e0] at h; cases h; exact tbS_ok e0
  | none =>
  rw [e0] at h
  have h : tbGet f ps = some rs := h
  unfold tbGet at h
  split at h
  · rename_i fl es
    split at h
    · rename_i e; obtain rfl := Nat.eq_of_beq_eq_true e; exact cloneAt_ok cl32 h
    split at h
    · rename_i e; obtain rfl := Nat.eq_of_beq_eq_true e; exact cloneAt_ok cl63 h
    split at h
    · rename_i e; obtain rfl := Nat.eq_of_beq_eq_true e; exact cloneAt_ok cl70 h
    split at h
    · rename_i e; obtain rfl := Nat.eq_of_beq_eq_true e; exact cloneAt_ok cl106 h
    split at h
    · rename_i e; obtain rfl := Nat.eq_of_beq_eq_true e; exact cloneAt_ok cl186 h
    split at h
    · rename_i e; obtain rfl := Nat.eq_of_beq_eq_true e; exact cloneAt_ok cl195 h
    split at h
    · rename_i e; obtain rfl := Nat.eq_of_beq_eq_true e; exact cloneAt_ok cl216 h
    split at h
    · rename_i e; obtain rfl := Nat.eq_of_beq_eq_true e; exact cloneAt_ok cl221 h
    split at h
    · rename_i e; obtain rfl := Nat.eq_of_beq_eq_true e; exact cloneAt_ok cl240 h
    split at h
    · rename_i e; obtain rfl := Nat.eq_of_beq_eq_true e; exact cloneAt_ok cl245 h
    split at h
    · rename_i e; obtain rfl := Nat.eq_of_beq_eq_true e; exact cloneAt_ok cl279 h
    split at h
    · rename_i e; obtain rfl := Nat.eq_of_beq_eq_true e; exact cloneAt_ok cl284 h
    cases h
  · cases h
/-- rate.Tick -/
noncomputable def a0 : List PV := [.agg [I 4, I 16], I 1, I 4, I 16, I 0]
noncomputable def r0 : List RV := [.pv (.agg [I 4, I 16])]
theorem k0 : Ct Tryz.prog 131 a0 r0 := ct_run tb_ok mixed [] trivial 100000 (by kernel_rfl)
/-- lane.Done -/
noncomputable def a1 : List PV := [.agg [(.sl true []), I 0, I 0, I 0, (.sl true [])], I 0]
noncomputable def r1 : List RV := [.pv (I 0)]
theorem k1 : Ct Tryz.prog 162 a1 r1 := ct_run tb_ok mixed [] trivial 100000 (by kernel_rfl)
/-- memb.Done -/
noncomputable def a2 : List PV := [(.agg [I 3, I 8, I 64, I 16, I 4, I 8, I 3, I 2, I 1, I 4, I 16, I 8, I 1, I 8, I 2, B true, I 0, B false, I 0, I 0, I 1, .sl true [], .sl false [(.agg [I 1, (.sl true [])]), (.agg [I 1, (.sl true [])]), (.agg [I 1, (.sl true [])])], .sl false [I 0, I 0, I 0], .sl false [(.agg [I 0]), (.agg [I 0]), (.agg [I 0])], .sl false [(.sl false [I 0, I 0, I 0]), (.sl false [I 0, I 0, I 0]), (.sl false [I 0, I 0, I 0])], .sl true [], I 0, .sl true [], I 4, I 16, I 0, I 0, .sl false [(.agg [(.sl true []), I 0, I 0, I 0, (.sl true [])]), (.agg [(.sl true []), I 0, I 0, I 0, (.sl true [])]), (.agg [(.sl true []), I 0, I 0, I 0, (.sl true [])])], I 0, I 0, B false, I 0, .sl false [B false, B false, B false], .sl false [I 0, I 0, I 0], B false, .sl true [], I 0, I 0, I 0, I 0, I 0, B false, .sl true [], I 0, I 0])]
noncomputable def r2 : List RV := [.fresh 3 1 [I 0, I 0, I 0]]
theorem k2 : Ct Tryz.prog 115 a2 r2 := ct_run tb_ok mixed [(162, a1, r1)] ⟨k1, trivial⟩ 100000 (by kernel_rfl)
/-- rel.Tick -/
noncomputable def a3 : List PV := [(.agg [I 0, I 0, I 1, .sl true [], .sl false [(.agg [I 1, (.sl true [])]), (.agg [I 1, (.sl true [])]), (.agg [I 1, (.sl true [])])], .sl false [I 0, I 0, I 0], .sl false [(.agg [I 0]), (.agg [I 0]), (.agg [I 0])], .sl false [(.sl false [I 0, I 0, I 0]), (.sl false [I 0, I 0, I 0]), (.sl false [I 0, I 0, I 0])], .sl true [], I 0]), .sl false [I 0, I 0, I 0], I 3, I 2]
noncomputable def r3 : List RV := [(.pv (.agg [I 0, I 1, I 1, .sl true [], .sl false [(.agg [I 1, (.sl true [])]), (.agg [I 1, (.sl true [])]), (.agg [I 1, (.sl true [])])], .sl false [I 0, I 0, I 0], .sl false [(.agg [I 0]), (.agg [I 0]), (.agg [I 0])], .sl false [(.sl false [I 0, I 0, I 0]), (.sl false [I 0, I 0, I 0]), (.sl false [I 0, I 0, I 0])], .sl true [], I 0])), .pv (.sl true [])]
theorem k3 : Ct Tryz.prog 132 a3 r3 := ct_run tb_ok mixed [] trivial 100000 (by kernel_rfl)
/-- meter.Tick -/
noncomputable def a4 : List PV := [.agg [I 0, I 0, I 0], I 8]
noncomputable def r4 : List RV := [.pv (.agg [I 1, I 0, I 0]), .pv (I 0), .pv (I 0), .pv (B false)]
theorem k4 : Ct Tryz.prog 133 a4 r4 := ct_run tb_ok mixed [] trivial 100000 (by kernel_rfl)
/-- flush.Say -/
noncomputable def a5 : List PV := [.agg [B false, I 0, (.sl false [B false, B false, B false]), (.sl false [I 0, I 0, I 0]), B false, (.sl true [])], I 0, I 0]
noncomputable def r5 : List RV := [.pv (.agg [I 0, I 0, I 0, I 0, I 0, I 0, (.sl true []), (.sl true [])]), .pv (B false)]
theorem k5 : Ct Tryz.prog 137 a5 r5 := ct_run tb_ok mixed [] trivial 100000 (by kernel_rfl)
/-- sendq.Head -/
noncomputable def a6 : List PV := [.sl true []]
noncomputable def r6 : List RV := [.pv (.sl true []), .pv (B false)]
theorem k6 : Ct Tryz.prog 138 a6 r6 := ct_run tb_ok mixed [] trivial 100000 (by kernel_rfl)
/-- lane.Control -/
noncomputable def a7 : List PV := [.agg [(.sl true []), I 0, I 0, I 0, (.sl true [])]]
noncomputable def r7 : List RV := [.pv (.agg [I 0, I 0, (.sl true []), (.sl true []), B false]), .pv (B false)]
theorem k7 : Ct Tryz.prog 331 a7 r7 := ct_run tb_ok mixed [] trivial 100000 (by kernel_rfl)
/-- seqr.Say -/
noncomputable def a8 : List PV := [.agg [I 0, I 0], .sl false [(.agg [(.sl true []), I 0, I 0, I 0, (.sl true [])]), (.agg [(.sl true []), I 0, I 0, I 0, (.sl true [])]), (.agg [(.sl true []), I 0, I 0, I 0, (.sl true [])])], I 0, I 4]
noncomputable def r8 : List RV := [.pv (.agg [I 0, I 0, I 0, I 0, I 0, I 0, (.sl true []), (.sl true [])]), .pv (B false)]
theorem k8 : Ct Tryz.prog 329 a8 r8 := ct_run tb_ok mixed [(331, a7, r7)] ⟨k7, trivial⟩ 100000 (by kernel_rfl)
/-- order.Say -/
noncomputable def a9 : List PV := [I 0, .agg [I 0, I 0], .sl false [(.agg [(.sl true []), I 0, I 0, I 0, (.sl true [])]), (.agg [(.sl true []), I 0, I 0, I 0, (.sl true [])]), (.agg [(.sl true []), I 0, I 0, I 0, (.sl true [])])], I 0, I 4]
noncomputable def r9 : List RV := [.pv (.agg [I 0, I 0, I 0, I 0, I 0, I 0, (.sl true []), (.sl true [])]), .pv (B false)]
theorem k9 : Ct Tryz.prog 144 a9 r9 := ct_run tb_ok mixed [(329, a8, r8)] ⟨k8, trivial⟩ 100000 (by kernel_rfl)
/-- memb.Tick -/
noncomputable def a10 : List PV := [(.agg [I 3, I 8, I 64, I 16, I 4, I 8, I 3, I 2, I 1, I 4, I 16, I 8, I 1, I 8, I 2, B true, I 0, B false, I 0, I 0, I 1, .sl true [], .sl false [(.agg [I 1, (.sl true [])]), (.agg [I 1, (.sl true [])]), (.agg [I 1, (.sl true [])])], .sl false [I 0, I 0, I 0], .sl false [(.agg [I 0]), (.agg [I 0]), (.agg [I 0])], .sl false [(.sl false [I 0, I 0, I 0]), (.sl false [I 0, I 0, I 0]), (.sl false [I 0, I 0, I 0])], .sl true [], I 0, .sl true [], I 4, I 16, I 0, I 0, .sl false [(.agg [(.sl true []), I 0, I 0, I 0, (.sl true [])]), (.agg [(.sl true []), I 0, I 0, I 0, (.sl true [])]), (.agg [(.sl true []), I 0, I 0, I 0, (.sl true [])])], I 0, I 0, B false, I 0, .sl false [B false, B false, B false], .sl false [I 0, I 0, I 0], B false, .sl true [], I 0, I 0, I 0, I 0, I 0, B false, .sl true [], I 0, I 0])]
noncomputable def r10 : List RV := [(.pv (.agg [I 3, I 8, I 64, I 16, I 4, I 8, I 3, I 2, I 1, I 4, I 16, I 8, I 1, I 8, I 2, B true, I 0, B false, I 0, I 1, I 1, .sl true [], .sl false [(.agg [I 1, (.sl true [])]), (.agg [I 1, (.sl true [])]), (.agg [I 1, (.sl true [])])], .sl false [I 0, I 0, I 0], .sl false [(.agg [I 0]), (.agg [I 0]), (.agg [I 0])], .sl false [(.sl false [I 0, I 0, I 0]), (.sl false [I 0, I 0, I 0]), (.sl false [I 0, I 0, I 0])], .sl true [], I 0, .sl true [], I 4, I 16, I 0, I 0, .sl false [(.agg [(.sl true []), I 0, I 0, I 0, (.sl true [])]), (.agg [(.sl true []), I 0, I 0, I 0, (.sl true [])]), (.agg [(.sl true []), I 0, I 0, I 0, (.sl true [])])], I 0, I 0, B false, I 0, .sl false [B false, B false, B false], .sl false [I 0, I 0, I 0], B false, .sl true [], I 0, I 1, I 0, I 0, I 0, B false, .sl true [], I 0, I 0])), .pv (.sl true [])]
theorem k10 : Ct Tryz.prog 65 a10 r10 := ct_run tb_ok mixed [(131, a0, r0), (115, a2, r2), (132, a3, r3), (133, a4, r4), (137, a5, r5), (138, a6, r6), (144, a9, r9)] ⟨k0, k2, k3, k4, k5, k6, k9, trivial⟩ 100000 (by kernel_rfl)
/-- memb.Done -/
noncomputable def a11 : List PV := [(.agg [I 3, I 8, I 64, I 16, I 4, I 8, I 3, I 2, I 1, I 4, I 16, I 8, I 1, I 8, I 2, B true, I 0, B false, I 1, I 0, I 1, .sl true [], .sl false [(.agg [I 1, (.sl true [])]), (.agg [I 1, (.sl true [])]), (.agg [I 1, (.sl true [])])], .sl false [I 0, I 0, I 0], .sl false [(.agg [I 0]), (.agg [I 0]), (.agg [I 0])], .sl false [(.sl false [I 0, I 0, I 0]), (.sl false [I 0, I 0, I 0]), (.sl false [I 0, I 0, I 0])], .sl true [], I 0, .sl false [(.sl false [V 97])], I 4, I 16, I 0, I 0, .sl false [(.agg [(.sl true []), I 0, I 0, I 0, (.sl true [])]), (.agg [(.sl true []), I 0, I 0, I 0, (.sl true [])]), (.agg [(.sl true []), I 0, I 0, I 0, (.sl true [])])], I 0, I 0, B false, I 0, .sl false [B false, B false, B false], .sl false [I 0, I 0, I 0], B false, .sl true [], I 0, I 0, I 0, I 0, I 0, B false, .sl true [], I 0, I 0])]
noncomputable def r11 : List RV := [.fresh 3 1 [I 0, I 0, I 0]]
theorem k11 : Ct Tryz.prog 115 a11 r11 := ct_run tb_ok mixed [(162, a1, r1)] ⟨k1, trivial⟩ 100000 (by kernel_rfl)
/-- rel.Tick -/
noncomputable def a12 : List PV := [(.agg [I 1, I 0, I 1, .sl true [], .sl false [(.agg [I 1, (.sl true [])]), (.agg [I 1, (.sl true [])]), (.agg [I 1, (.sl true [])])], .sl false [I 0, I 0, I 0], .sl false [(.agg [I 0]), (.agg [I 0]), (.agg [I 0])], .sl false [(.sl false [I 0, I 0, I 0]), (.sl false [I 0, I 0, I 0]), (.sl false [I 0, I 0, I 0])], .sl true [], I 0]), .sl false [I 0, I 0, I 0], I 3, I 2]
noncomputable def r12 : List RV := [(.pv (.agg [I 1, I 1, I 1, .sl true [], .sl false [(.agg [I 1, (.sl true [])]), (.agg [I 1, (.sl true [])]), (.agg [I 1, (.sl true [])])], .sl false [I 0, I 0, I 0], .sl false [(.agg [I 0]), (.agg [I 0]), (.agg [I 0])], .sl false [(.sl false [I 0, I 0, I 0]), (.sl false [I 0, I 0, I 0]), (.sl false [I 0, I 0, I 0])], .sl true [], I 0])), .pv (.sl true [])]
theorem k12 : Ct Tryz.prog 132 a12 r12 := ct_run tb_ok mixed [] trivial 100000 (by kernel_rfl)
/-- flush.Say -/
noncomputable def a13 : List PV := [.agg [B false, I 0, (.sl false [B false, B false, B false]), (.sl false [I 0, I 0, I 0]), B false, (.sl true [])], I 1, I 0]
noncomputable def r13 : List RV := [.pv (.agg [I 0, I 0, I 0, I 0, I 0, I 0, (.sl true []), (.sl true [])]), .pv (B false)]
theorem k13 : Ct Tryz.prog 137 a13 r13 := ct_run tb_ok mixed [] trivial 100000 (by kernel_rfl)
/-- sendq.Head -/
noncomputable def a14 : List PV := [.sl false [(.sl false [V 97])]]
noncomputable def r14 : List RV := [.pv (.sl false [V 97]), .pv (B true)]
theorem k14 : Ct Tryz.prog 138 a14 r14 := ct_run tb_ok mixed [] trivial 100000 (by kernel_rfl)
/-- order.May -/
noncomputable def a15 : List PV := [I 0, .agg [I 0, I 0], .sl false [(.agg [(.sl true []), I 0, I 0, I 0, (.sl true [])]), (.agg [(.sl true []), I 0, I 0, I 0, (.sl true [])]), (.agg [(.sl true []), I 0, I 0, I 0, (.sl true [])])], I 1, I 4]
noncomputable def r15 : List RV := [.pv (B true)]
theorem k15 : Ct Tryz.prog 139 a15 r15 := ct_run tb_ok mixed [] trivial 100000 (by kernel_rfl)
/-- frag.Many -/
noncomputable def a16 : List PV := [I 1, I 8]
noncomputable def r16 : List RV := [.pv (I 1)]
theorem k16 : Ct Tryz.prog 81 a16 r16 := ct_run tb_ok mixed [] trivial 100000 (by kernel_rfl)
/-- keep.Room -/
noncomputable def a17 : List PV := [.agg [I 1, (.sl true [])], I 16, I 6]
noncomputable def r17 : List RV := [.pv (I 10)]
theorem k17 : Ct Tryz.prog 140 a17 r17 := ct_run tb_ok mixed [] trivial 100000 (by kernel_rfl)
/-- rate.Spend -/
noncomputable def a18 : List PV := [.agg [I 4, I 16], I 1]
noncomputable def r18 : List RV := [.pv (.agg [I 4, I 15]), .pv (B true)]
theorem k18 : Ct Tryz.prog 141 a18 r18 := ct_run tb_ok mixed [] trivial 100000 (by kernel_rfl)
/-- sendq.Pop -/
noncomputable def a19 : List PV := [.sl false [(.sl false [V 97])]]
noncomputable def r19 : List RV := [.fresh 22 1 [], .pv (B true)]
theorem k19 : Ct Tryz.prog 142 a19 r19 := ct_run tb_ok mixed [(138, a14, r14)] ⟨k14, trivial⟩ 100000 (by kernel_rfl)
/-- frag.Cut -/
noncomputable def a20 : List PV := [.sl false [V 97], I 8]
noncomputable def r20 : List RV := [.fresh 22 1 [(.sl true [V 97])]]
theorem k20 : Ct Tryz.prog 143 a20 r20 := ct_run tb_ok mixed [(81, a16, r16)] ⟨k16, trivial⟩ 100000 (by kernel_rfl)
/-- item.May -/
noncomputable def a21 : List PV := [.agg [I 1, I 1, I 0, I 0, I 1, I 0, (.sl true []), (.sl true [V 97])]]
noncomputable def r21 : List RV := [.pv (B true)]
theorem k21 : Ct Tryz.prog 111 a21 r21 := ct_run tb_ok mixed [] trivial 100000 (by kernel_rfl)
/-- keep.Push -/
noncomputable def a22 : List PV := [.agg [I 1, (.sl true [])], .agg [I 1, I 0, I 0, I 0, I 1, I 0, (.sl true []), (.sl true [V 97])], I 16, I 6]
noncomputable def r22 : List RV := [(.pv (.agg [I 2, .sl false [(.agg [I 1, I 1, I 0, I 0, I 1, I 0, (.sl true []), (.sl true [V 97])])]])), .pv (.agg [I 1, I 1, I 0, I 0, I 1, I 0, (.sl true []), (.sl true [V 97])]), .pv (I 0)]
theorem k22 : Ct Tryz.prog 244 a22 r22 := ct_run tb_ok mixed [(111, a21, r21), (140, a17, r17)] ⟨k21, k17, trivial⟩ 100000 (by kernel_rfl)
/-- rel.Send -/
noncomputable def a23 : List PV := [(.agg [I 1, I 1, I 1, .sl true [], .sl false [(.agg [I 1, (.sl true [])]), (.agg [I 1, (.sl true [])]), (.agg [I 1, (.sl true [])])], .sl false [I 0, I 0, I 0], .sl false [(.agg [I 0]), (.agg [I 0]), (.agg [I 0])], .sl false [(.sl false [I 0, I 0, I 0]), (.sl false [I 0, I 0, I 0]), (.sl false [I 0, I 0, I 0])], .sl true [], I 0]), .agg [I 1, I 0, I 0, I 0, I 1, I 0, (.sl true []), (.sl true [V 97])], I 16, I 6]
noncomputable def r23 : List RV := [(.pv (.agg [I 1, I 1, I 2, .sl false [(.agg [I 1, I 1, I 0, I 0, I 1, I 0, (.sl true []), (.sl true [V 97])])], .sl false [(.agg [I 1, (.sl true [])]), (.agg [I 1, (.sl true [])]), (.agg [I 1, (.sl true [])])], .sl false [I 0, I 0, I 0], .sl false [(.agg [I 0]), (.agg [I 0]), (.agg [I 0])], .sl false [(.sl false [I 0, I 0, I 0]), (.sl false [I 0, I 0, I 0]), (.sl false [I 0, I 0, I 0])], .sl true [], I 0])), .pv (.agg [I 1, I 1, I 1, I 1, I 0, I 0, I 1, I 0, (.sl true []), (.sl true [V 97]), I 0, I 0, I 0, I 0, (.sl true [])]), .pv (I 0)]
theorem k23 : Ct Tryz.prog 190 a23 r23 := ct_run tb_ok mixed [(244, a22, r22)] ⟨k22, trivial⟩ 100000 (by kernel_rfl)
/-- frag.Add -/
noncomputable def a24 : List PV := [.agg [I 0, I 0, I 0, (.sl true [])], I 1, I 0, I 1, .sl true [V 97]]
noncomputable def r24 : List RV := [.pv (.agg [I 0, I 0, I 0, (.sl true [])]), .fresh 5 1 [V 97], .pv (B true), .pv (I 0)]
theorem k24 : Ct Tryz.prog 267 a24 r24 := ct_run tb_ok mixed [] trivial 100000 (by kernel_rfl)
/-- lane.Read -/
noncomputable def a25 : List PV := [.agg [(.sl true []), I 0, I 0, I 0, (.sl true [])], .agg [I 1, I 1, I 0, I 0, I 1, I 0, (.sl true []), (.sl true [V 97])]]
noncomputable def r25 : List RV := [(.pv (.agg [.sl false [(.agg [I 1, I 1, (.sl false [V 97]), (.sl true []), B false])], I 0, I 0, I 0, .sl true []])), .pv (I 0)]
theorem k25 : Ct Tryz.prog 246 a25 r25 := ct_run tb_ok mixed [(267, a24, r24)] ⟨k24, trivial⟩ 100000 (by kernel_rfl)
/-- rel.Peek -/
noncomputable def a26 : List PV := [(.agg [I 1, I 1, I 2, .sl false [(.agg [I 1, I 1, I 0, I 0, I 1, I 0, (.sl true []), (.sl true [V 97])])], .sl false [(.agg [I 1, (.sl true [])]), (.agg [I 1, (.sl true [])]), (.agg [I 1, (.sl true [])])], .sl false [I 0, I 0, I 0], .sl false [(.agg [I 0]), (.agg [I 0]), (.agg [I 0])], .sl false [(.sl false [I 0, I 0, I 0]), (.sl false [I 0, I 0, I 0]), (.sl false [I 0, I 0, I 0])], .sl true [], I 0]), I 0]
noncomputable def r26 : List RV := [.pv (.agg [I 0, I 0, I 0, I 0, I 0, I 0, (.sl true []), (.sl true [])]), .pv (B false)]
theorem k26 : Ct Tryz.prog 223 a26 r26 := ct_run tb_ok mixed [] trivial 100000 (by kernel_rfl)
/-- rel.Peek -/
noncomputable def a27 : List PV := [(.agg [I 1, I 1, I 2, .sl false [(.agg [I 1, I 1, I 0, I 0, I 1, I 0, (.sl true []), (.sl true [V 97])])], .sl false [(.agg [I 1, (.sl true [])]), (.agg [I 1, (.sl true [])]), (.agg [I 1, (.sl true [])])], .sl false [I 0, I 0, I 0], .sl false [(.agg [I 0]), (.agg [I 0]), (.agg [I 0])], .sl false [(.sl false [I 0, I 0, I 0]), (.sl false [I 0, I 0, I 0]), (.sl false [I 0, I 0, I 0])], .sl true [], I 0]), I 2]
noncomputable def r27 : List RV := [.pv (.agg [I 0, I 0, I 0, I 0, I 0, I 0, (.sl true []), (.sl true [])]), .pv (B false)]
theorem k27 : Ct Tryz.prog 223 a27 r27 := ct_run tb_ok mixed [] trivial 100000 (by kernel_rfl)
/-- seqr.Walk -/
noncomputable def a28 : List PV := [.agg [I 0, I 0], (.sl false [.agg [(.sl true []), I 0, I 0, I 0, (.sl true [])], (.agg [.sl false [(.agg [I 1, I 1, (.sl false [V 97]), (.sl true []), B false])], I 0, I 0, I 0, .sl true []]), .agg [(.sl true []), I 0, I 0, I 0, (.sl true [])]])]
noncomputable def r28 : List RV := [.pv (.agg [I 0, I 0]), (.fresh 261 5 [.agg [(.sl true []), I 0, I 0, I 0, (.sl true [])], (.agg [.sl false [(.agg [I 1, I 1, (.sl false [V 97]), (.sl true []), B false])], I 0, I 0, I 0, .sl true []]), .agg [(.sl true []), I 0, I 0, I 0, (.sl true [])]]), .pv (.sl true [])]
theorem k28 : Ct Tryz.prog 330 a28 r28 := ct_run tb_ok mixed [(331, a7, r7)] ⟨k7, trivial⟩ 100000 (by kernel_rfl)
/-- order.Walk -/
noncomputable def a29 : List PV := [I 0, .agg [I 0, I 0], (.sl false [.agg [(.sl true []), I 0, I 0, I 0, (.sl true [])], (.agg [.sl false [(.agg [I 1, I 1, (.sl false [V 97]), (.sl true []), B false])], I 0, I 0, I 0, .sl true []]), .agg [(.sl true []), I 0, I 0, I 0, (.sl true [])]])]
noncomputable def r29 : List RV := [.pv (.agg [I 0, I 0]), (.fresh 261 5 [.agg [(.sl true []), I 0, I 0, I 0, (.sl true [])], (.agg [.sl false [(.agg [I 1, I 1, (.sl false [V 97]), (.sl true []), B false])], I 0, I 0, I 0, .sl true []]), .agg [(.sl true []), I 0, I 0, I 0, (.sl true [])]]), .pv (.sl true [])]
theorem k29 : Ct Tryz.prog 164 a29 r29 := ct_run tb_ok mixed [(330, a28, r28)] ⟨k28, trivial⟩ 100000 (by kernel_rfl)
/-- flush.Ready -/
noncomputable def a30 : List PV := [.agg [B false, I 0, (.sl false [B false, B false, B false]), (.sl false [I 0, I 0, I 0]), B false, (.sl true [])]]
noncomputable def r30 : List RV := [.pv (B false)]
theorem k30 : Ct Tryz.prog 166 a30 r30 := ct_run tb_ok mixed [] trivial 100000 (by kernel_rfl)
/-- seqr.Say -/
noncomputable def a31 : List PV := [.agg [I 0, I 0], (.sl false [.agg [(.sl true []), I 0, I 0, I 0, (.sl true [])], (.agg [.sl false [(.agg [I 1, I 1, (.sl false [V 97]), (.sl true []), B false])], I 0, I 0, I 0, .sl true []]), .agg [(.sl true []), I 0, I 0, I 0, (.sl true [])]]), I 1, I 4]
noncomputable def r31 : List RV := [.pv (.agg [I 0, I 0, I 0, I 0, I 0, I 0, (.sl true []), (.sl true [])]), .pv (B false)]
theorem k31 : Ct Tryz.prog 329 a31 r31 := ct_run tb_ok mixed [] trivial 100000 (by kernel_rfl)
/-- order.Say -/
noncomputable def a32 : List PV := [I 0, .agg [I 0, I 0], (.sl false [.agg [(.sl true []), I 0, I 0, I 0, (.sl true [])], (.agg [.sl false [(.agg [I 1, I 1, (.sl false [V 97]), (.sl true []), B false])], I 0, I 0, I 0, .sl true []]), .agg [(.sl true []), I 0, I 0, I 0, (.sl true [])]]), I 1, I 4]
noncomputable def r32 : List RV := [.pv (.agg [I 0, I 0, I 0, I 0, I 0, I 0, (.sl true []), (.sl true [])]), .pv (B false)]
theorem k32 : Ct Tryz.prog 144 a32 r32 := ct_run tb_ok mixed [(329, a31, r31)] ⟨k31, trivial⟩ 100000 (by kernel_rfl)
/-- pkt.May -/
noncomputable def a33 : List PV := [.agg [I 1, I 1, I 1, I 1, I 0, I 0, I 1, I 0, (.sl true []), (.sl true [V 97]), I 0, I 0, I 0, I 0, (.sl true [])]]
noncomputable def r33 : List RV := [.pv (B true)]
theorem k33 : Ct Tryz.prog 69 a33 r33 := ct_run tb_ok mixed [(111, a21, r21)] ⟨k21, trivial⟩ 100000 (by kernel_rfl)
/-- num.Put -/
noncomputable def a34 : List PV := [I 1, I 1]
noncomputable def r34 : List RV := [.fresh 5 1 [V 1]]
theorem k34 : Ct Tryz.prog 146 a34 r34 := ct_run tb_ok mixed [] trivial 100000 (by kernel_rfl)
/-- num.Put -/
noncomputable def a35 : List PV := [I 1, I 8]
noncomputable def r35 : List RV := [.fresh 5 1 [V 0, V 0, V 0, V 0, V 0, V 0, V 0, V 1]]
theorem k35 : Ct Tryz.prog 146 a35 r35 := ct_run tb_ok mixed [] trivial 100000 (by kernel_rfl)
/-- num.Put -/
noncomputable def a36 : List PV := [I 0, I 8]
noncomputable def r36 : List RV := [.fresh 5 1 [V 0, V 0, V 0, V 0, V 0, V 0, V 0, V 0]]
theorem k36 : Ct Tryz.prog 146 a36 r36 := ct_run tb_ok mixed [] trivial 100000 (by kernel_rfl)
/-- item.Bytes -/
noncomputable def a37 : List PV := [.agg [I 1, I 1, I 0, I 0, I 1, I 0, (.sl true []), (.sl true [V 97])]]
noncomputable def r37 : List RV := [.fresh 5 1 [V 1, V 0, V 0, V 0, V 0, V 0, V 0, V 0, V 1, V 0, V 0, V 0, V 0, V 0, V 0, V 0, V 0, V 0, V 1, V 97]]
theorem k37 : Ct Tryz.prog 148 a37 r37 := ct_run tb_ok mixed [(111, a21, r21), (146, a34, r34), (146, a35, r35), (146, a36, r36)] ⟨k21, k34, k35, k36, trivial⟩ 100000 (by kernel_rfl)
/-- pkt.Bytes -/
noncomputable def a38 : List PV := [.agg [I 1, I 1, I 1, I 1, I 0, I 0, I 1, I 0, (.sl true []), (.sl true [V 97]), I 0, I 0, I 0, I 0, (.sl true [])]]
noncomputable def r38 : List RV := [.fresh 5 1 [V 165, V 1, V 1, V 1, V 0, V 0, V 0, V 0, V 0, V 0, V 0, V 1, V 0, V 0, V 0, V 0, V 0, V 0, V 0, V 0, V 0, V 1, V 97, V 3, V 161, V 96, V 181]]
theorem k38 : Ct Tryz.prog 102 a38 r38 := ct_run tb_ok mixed [(69, a33, r33), (148, a37, r37)] ⟨k33, k37, trivial⟩ 100000 (by kernel_rfl)
/-- memb.Tick -/
noncomputable def a39 : List PV := [(.agg [I 3, I 8, I 64, I 16, I 4, I 8, I 3, I 2, I 1, I 4, I 16, I 8, I 1, I 8, I 2, B true, I 0, B false, I 1, I 0, I 1, .sl true [], .sl false [(.agg [I 1, (.sl true [])]), (.agg [I 1, (.sl true [])]), (.agg [I 1, (.sl true [])])], .sl false [I 0, I 0, I 0], .sl false [(.agg [I 0]), (.agg [I 0]), (.agg [I 0])], .sl false [(.sl false [I 0, I 0, I 0]), (.sl false [I 0, I 0, I 0]), (.sl false [I 0, I 0, I 0])], .sl true [], I 0, .sl false [(.sl false [V 97])], I 4, I 16, I 0, I 0, .sl false [(.agg [(.sl true []), I 0, I 0, I 0, (.sl true [])]), (.agg [(.sl true []), I 0, I 0, I 0, (.sl true [])]), (.agg [(.sl true []), I 0, I 0, I 0, (.sl true [])])], I 0, I 0, B false, I 0, .sl false [B false, B false, B false], .sl false [I 0, I 0, I 0], B false, .sl true [], I 0, I 0, I 0, I 0, I 0, B false, .sl true [], I 0, I 0])]
noncomputable def r39 : List RV := [(.pv (.agg [I 3, I 8, I 64, I 16, I 4, I 8, I 3, I 2, I 1, I 4, I 16, I 8, I 1, I 8, I 2, B true, I 0, B false, I 1, I 1, I 2, .sl false [(.agg [I 1, I 1, I 0, I 0, I 1, I 0, (.sl true []), (.sl true [V 97])])], .sl false [(.agg [I 1, (.sl true [])]), (.agg [I 1, (.sl true [])]), (.agg [I 1, (.sl true [])])], .sl false [I 0, I 0, I 0], .sl false [(.agg [I 0]), (.agg [I 0]), (.agg [I 0])], .sl false [(.sl false [I 0, I 0, I 0]), (.sl false [I 0, I 0, I 0]), (.sl false [I 0, I 0, I 0])], .sl true [], I 0, .sl false [], I 4, I 15, I 0, I 0, (.sl false [.agg [(.sl true []), I 0, I 0, I 0, (.sl true [])], (.agg [.sl false [(.agg [I 1, I 1, (.sl false [V 97]), (.sl true []), B false])], I 0, I 0, I 0, .sl true []]), .agg [(.sl true []), I 0, I 0, I 0, (.sl true [])]]), I 0, I 0, B false, I 0, .sl false [B false, B false, B false], .sl false [I 0, I 0, I 0], B false, .sl true [], I 1, I 0, I 0, I 0, I 0, B false, .sl false [], I 0, I 0])), .fresh 22 1 [(.sl false [V 165, V 1, V 1, V 1, V 0, V 0, V 0, V 0, V 0, V 0, V 0, V 1, V 0, V 0, V 0, V 0, V 0, V 0, V 0, V 0, V 0, V 1, V 97, V 3, V 161, V 96, V 181])]]
theorem k39 : Ct Tryz.prog 65 a39 r39 := ct_run tb_ok mixed [(131, a0, r0), (115, a11, r11), (132, a12, r12), (137, a13, r13), (138, a14, r14), (139, a15, r15), (81, a16, r16), (140, a17, r17), (141, a18, r18), (142, a19, r19), (143, a20, r20), (190, a23, r23), (246, a25, r25), (223, a26, r26), (223, a27, r27), (164, a29, r29), (166, a30, r30), (144, a32, r32), (102, a38, r38)] ⟨k0, k11, k12, k13, k14, k15, k16, k17, k18, k19, k20, k23, k25, k26, k27, k29, k30, k32, k38, trivial⟩ 100000 (by kernel_rfl)
/-- net.Put -/
noncomputable def a40 : List PV := [.sl true [], I 0, .sl false [V 165, V 1, V 1, V 1, V 0, V 0, V 0, V 0, V 0, V 0, V 0, V 1, V 0, V 0, V 0, V 0, V 0, V 0, V 0, V 0, V 0, V 1, V 97, V 3, V 161, V 96, V 181]]
noncomputable def r40 : List RV := [.fresh 92 3 [(.agg [I 0, (.sl false [V 165, V 1, V 1, V 1, V 0, V 0, V 0, V 0, V 0, V 0, V 0, V 1, V 0, V 0, V 0, V 0, V 0, V 0, V 0, V 0, V 0, V 1, V 97, V 3, V 161, V 96, V 181]), B false])]]
theorem k40 : Ct Tryz.prog 103 a40 r40 := ct_run tb_ok mixed [] trivial 100000 (by kernel_rfl)
/-- memb.Done -/
noncomputable def a41 : List PV := [(.agg [I 3, I 8, I 64, I 16, I 4, I 8, I 3, I 2, I 1, I 4, I 16, I 8, I 1, I 8, I 2, B true, I 0, B false, I 2, I 0, I 1, .sl true [], .sl false [(.agg [I 1, (.sl true [])]), (.agg [I 1, (.sl true [])]), (.agg [I 1, (.sl true [])])], .sl false [I 0, I 0, I 0], .sl false [(.agg [I 0]), (.agg [I 0]), (.agg [I 0])], .sl false [(.sl false [I 0, I 0, I 0]), (.sl false [I 0, I 0, I 0]), (.sl false [I 0, I 0, I 0])], .sl true [], I 0, .sl true [], I 4, I 16, I 0, I 0, .sl false [(.agg [(.sl true []), I 0, I 0, I 0, (.sl true [])]), (.agg [(.sl true []), I 0, I 0, I 0, (.sl true [])]), (.agg [(.sl true []), I 0, I 0, I 0, (.sl true [])])], I 0, I 0, B false, I 0, .sl false [B false, B false, B false], .sl false [I 0, I 0, I 0], B false, .sl true [], I 0, I 0, I 0, I 0, I 0, B false, .sl true [], I 0, I 0])]
noncomputable def r41 : List RV := [.fresh 3 1 [I 0, I 0, I 0]]
theorem k41 : Ct Tryz.prog 115 a41 r41 := ct_run tb_ok mixed [(162, a1, r1)] ⟨k1, trivial⟩ 100000 (by kernel_rfl)
/-- rel.Tick -/
noncomputable def a42 : List PV := [(.agg [I 2, I 0, I 1, .sl true [], .sl false [(.agg [I 1, (.sl true [])]), (.agg [I 1, (.sl true [])]), (.agg [I 1, (.sl true [])])], .sl false [I 0, I 0, I 0], .sl false [(.agg [I 0]), (.agg [I 0]), (.agg [I 0])], .sl false [(.sl false [I 0, I 0, I 0]), (.sl false [I 0, I 0, I 0]), (.sl false [I 0, I 0, I 0])], .sl true [], I 0]), .sl false [I 0, I 0, I 0], I 3, I 2]
noncomputable def r42 : List RV := [(.pv (.agg [I 2, I 1, I 1, .sl true [], .sl false [(.agg [I 1, (.sl true [])]), (.agg [I 1, (.sl true [])]), (.agg [I 1, (.sl true [])])], .sl false [I 0, I 0, I 0], .sl false [(.agg [I 0]), (.agg [I 0]), (.agg [I 0])], .sl false [(.sl false [I 0, I 0, I 0]), (.sl false [I 0, I 0, I 0]), (.sl false [I 0, I 0, I 0])], .sl true [], I 0])), .pv (.sl true [])]
theorem k42 : Ct Tryz.prog 132 a42 r42 := ct_run tb_ok mixed [] trivial 100000 (by kernel_rfl)
/-- flush.Say -/
noncomputable def a43 : List PV := [.agg [B false, I 0, (.sl false [B false, B false, B false]), (.sl false [I 0, I 0, I 0]), B false, (.sl true [])], I 2, I 0]
noncomputable def r43 : List RV := [.pv (.agg [I 0, I 0, I 0, I 0, I 0, I 0, (.sl true []), (.sl true [])]), .pv (B false)]
theorem k43 : Ct Tryz.prog 137 a43 r43 := ct_run tb_ok mixed [] trivial 100000 (by kernel_rfl)
/-- seqr.Say -/
noncomputable def a44 : List PV := [.agg [I 0, I 0], .sl false [(.agg [(.sl true []), I 0, I 0, I 0, (.sl true [])]), (.agg [(.sl true []), I 0, I 0, I 0, (.sl true [])]), (.agg [(.sl true []), I 0, I 0, I 0, (.sl true [])])], I 2, I 4]
noncomputable def r44 : List RV := [.pv (.agg [I 0, I 0, I 0, I 0, I 0, I 0, (.sl true []), (.sl true [])]), .pv (B false)]
theorem k44 : Ct Tryz.prog 329 a44 r44 := ct_run tb_ok mixed [] trivial 100000 (by kernel_rfl)
/-- order.Say -/
noncomputable def a45 : List PV := [I 0, .agg [I 0, I 0], .sl false [(.agg [(.sl true []), I 0, I 0, I 0, (.sl true [])]), (.agg [(.sl true []), I 0, I 0, I 0, (.sl true [])]), (.agg [(.sl true []), I 0, I 0, I 0, (.sl true [])])], I 2, I 4]
noncomputable def r45 : List RV := [.pv (.agg [I 0, I 0, I 0, I 0, I 0, I 0, (.sl true []), (.sl true [])]), .pv (B false)]
theorem k45 : Ct Tryz.prog 144 a45 r45 := ct_run tb_ok mixed [(329, a44, r44)] ⟨k44, trivial⟩ 100000 (by kernel_rfl)
/-- memb.Tick -/
noncomputable def a46 : List PV := [(.agg [I 3, I 8, I 64, I 16, I 4, I 8, I 3, I 2, I 1, I 4, I 16, I 8, I 1, I 8, I 2, B true, I 0, B false, I 2, I 0, I 1, .sl true [], .sl false [(.agg [I 1, (.sl true [])]), (.agg [I 1, (.sl true [])]), (.agg [I 1, (.sl true [])])], .sl false [I 0, I 0, I 0], .sl false [(.agg [I 0]), (.agg [I 0]), (.agg [I 0])], .sl false [(.sl false [I 0, I 0, I 0]), (.sl false [I 0, I 0, I 0]), (.sl false [I 0, I 0, I 0])], .sl true [], I 0, .sl true [], I 4, I 16, I 0, I 0, .sl false [(.agg [(.sl true []), I 0, I 0, I 0, (.sl true [])]), (.agg [(.sl true []), I 0, I 0, I 0, (.sl true [])]), (.agg [(.sl true []), I 0, I 0, I 0, (.sl true [])])], I 0, I 0, B false, I 0, .sl false [B false, B false, B false], .sl false [I 0, I 0, I 0], B false, .sl true [], I 0, I 0, I 0, I 0, I 0, B false, .sl true [], I 0, I 0])]
noncomputable def r46 : List RV := [(.pv (.agg [I 3, I 8, I 64, I 16, I 4, I 8, I 3, I 2, I 1, I 4, I 16, I 8, I 1, I 8, I 2, B true, I 0, B false, I 2, I 1, I 1, .sl true [], .sl false [(.agg [I 1, (.sl true [])]), (.agg [I 1, (.sl true [])]), (.agg [I 1, (.sl true [])])], .sl false [I 0, I 0, I 0], .sl false [(.agg [I 0]), (.agg [I 0]), (.agg [I 0])], .sl false [(.sl false [I 0, I 0, I 0]), (.sl false [I 0, I 0, I 0]), (.sl false [I 0, I 0, I 0])], .sl true [], I 0, .sl true [], I 4, I 16, I 0, I 0, .sl false [(.agg [(.sl true []), I 0, I 0, I 0, (.sl true [])]), (.agg [(.sl true []), I 0, I 0, I 0, (.sl true [])]), (.agg [(.sl true []), I 0, I 0, I 0, (.sl true [])])], I 0, I 0, B false, I 0, .sl false [B false, B false, B false], .sl false [I 0, I 0, I 0], B false, .sl true [], I 0, I 0, I 0, I 0, I 0, B false, .sl true [], I 0, I 0])), .pv (.sl true [])]
theorem k46 : Ct Tryz.prog 65 a46 r46 := ct_run tb_ok mixed [(131, a0, r0), (115, a41, r41), (132, a42, r42), (137, a43, r43), (138, a6, r6), (144, a45, r45)] ⟨k0, k41, k42, k43, k6, k45, trivial⟩ 100000 (by kernel_rfl)
/-- crc.Sum -/
noncomputable def a47 : List PV := [.sl false [V 165, V 1, V 1, V 1, V 0, V 0, V 0, V 0, V 0, V 0, V 0, V 1, V 0, V 0, V 0, V 0, V 0, V 0, V 0, V 0, V 0, V 1, V 97]]
noncomputable def r47 : List RV := [.pv (W 3043008771)]
theorem k47 : Ct Tryz.prog 105 a47 r47 := ct_run tb_ok mixed [] trivial 100000 (by kernel_rfl)
/-- item.May -/
noncomputable def a49 : List PV := [.agg [I 1, I 1, I 0, I 0, I 1, I 0, (.sl true []), (.sl false [V 97])]]
noncomputable def r49 : List RV := [.pv (B true)]
theorem k49 : Ct Tryz.prog 111 a49 r49 := ct_run tb_ok mixed [] trivial 100000 (by kernel_rfl)
/-- item.Take -/
noncomputable def a50 : List PV := [.sl false [V 1, V 0, V 0, V 0, V 0, V 0, V 0, V 0, V 1, V 0, V 0, V 0, V 0, V 0, V 0, V 0, V 0, V 0, V 1, V 97]]
noncomputable def r50 : List RV := [.pv (.agg [I 1, I 1, I 0, I 0, I 1, I 0, (.sl true []), (.sl false [V 97])]), .pv (I 0)]
theorem k50 : Ct Tryz.prog 107 a50 r50 := ct_run tb_ok mixed [(111, a49, r49)] ⟨k49, trivial⟩ 100000 (by kernel_rfl)
/-- crc.Open -/
noncomputable def a51 : List PV := [.sl false [V 165, V 1, V 1, V 1, V 0, V 0, V 0, V 0, V 0, V 0, V 0, V 1, V 0, V 0, V 0, V 0, V 0, V 0, V 0, V 0, V 0, V 1, V 97, V 3, V 161, V 96, V 181]]
noncomputable def r51 : List RV := [.pv (.sl false [V 165, V 1, V 1, V 1, V 0, V 0, V 0, V 0, V 0, V 0, V 0, V 1, V 0, V 0, V 0, V 0, V 0, V 0, V 0, V 0, V 0, V 1, V 97]), .pv (I 0)]
theorem k51 : Ct Tryz.prog 67 a51 r51 := ct_runS tb_ok mixed [(105, a47, r47)] ⟨k47, trivial⟩ 100000 (by kernel_rfl)
/-- item.May -/
noncomputable def a52 : List PV := [.agg [I 1, I 1, I 0, I 0, I 1, I 0, (.sl true []), (.sl false [V 97])]]
noncomputable def r52 : List RV := [.pv (B true)]
theorem k52 : Ct Tryz.prog 111 a52 r52 := ct_run tb_ok mixed [] trivial 100000 (by kernel_rfl)
/-- item.Take -/
noncomputable def a53 : List PV := [.sl false [V 1, V 0, V 0, V 0, V 0, V 0, V 0, V 0, V 1, V 0, V 0, V 0, V 0, V 0, V 0, V 0, V 0, V 0, V 1, V 97]]
noncomputable def r53 : List RV := [.pv (.agg [I 1, I 1, I 0, I 0, I 1, I 0, (.sl true []), (.sl false [V 97])]), .pv (I 0)]
theorem k53 : Ct Tryz.prog 107 a53 r53 := ct_run tb_ok mixed [(111, a49, r49)] ⟨k49, trivial⟩ 100000 (by kernel_rfl)
/-- pkt.May -/
noncomputable def a54 : List PV := [.agg [I 1, I 1, I 1, I 1, I 0, I 0, I 1, I 0, (.sl true []), (.sl false [V 97]), I 0, I 0, I 0, I 0, (.sl true [])]]
noncomputable def r54 : List RV := [.pv (B true)]
theorem k54 : Ct Tryz.prog 69 a54 r54 := ct_run tb_ok mixed [(111, a49, r49)] ⟨k49, trivial⟩ 100000 (by kernel_rfl)
/-- pkt.Read -/
noncomputable def a55 : List PV := [.sl false [V 165, V 1, V 1, V 1, V 0, V 0, V 0, V 0, V 0, V 0, V 0, V 1, V 0, V 0, V 0, V 0, V 0, V 0, V 0, V 0, V 0, V 1, V 97, V 3, V 161, V 96, V 181]]
noncomputable def r55 : List RV := [.pv (.agg [I 1, I 1, I 1, I 1, I 0, I 0, I 1, I 0, (.sl true []), (.sl false [V 97]), I 0, I 0, I 0, I 0, (.sl true [])]), .pv (I 0)]
theorem k55 : Ct Tryz.prog 30 a55 r55 := ct_run tb_ok mixed [(107, a50, r50), (67, a51, r51)] ⟨k50, k51, trivial⟩ 100000 (by kernel_rfl)
/-- memb.Done -/
noncomputable def a56 : List PV := [(.agg [I 3, I 8, I 64, I 16, I 4, I 8, I 3, I 2, I 1, I 4, I 16, I 8, I 1, I 8, I 2, B true, I 0, B false, I 0, I 1, I 1, .sl true [], .sl false [(.agg [I 1, (.sl true [])]), (.agg [I 1, (.sl true [])]), (.agg [I 1, (.sl true [])])], .sl false [I 0, I 0, I 0], .sl false [(.agg [I 0]), (.agg [I 0]), (.agg [I 0])], .sl false [(.sl false [I 0, I 0, I 0]), (.sl false [I 0, I 0, I 0]), (.sl false [I 0, I 0, I 0])], .sl true [], I 0, .sl true [], I 4, I 16, I 0, I 0, .sl false [(.agg [(.sl true []), I 0, I 0, I 0, (.sl true [])]), (.agg [(.sl true []), I 0, I 0, I 0, (.sl true [])]), (.agg [(.sl true []), I 0, I 0, I 0, (.sl true [])])], I 0, I 0, B false, I 0, .sl false [B false, B false, B false], .sl false [I 0, I 0, I 0], B false, .sl true [], I 0, I 1, I 0, I 0, I 0, B false, .sl true [], I 0, I 0])]
noncomputable def r56 : List RV := [.fresh 3 1 [I 0, I 0, I 0]]
theorem k56 : Ct Tryz.prog 115 a56 r56 := ct_run tb_ok mixed [(162, a1, r1)] ⟨k1, trivial⟩ 100000 (by kernel_rfl)
/-- rel.Hear -/
noncomputable def a57 : List PV := [(.agg [I 0, I 1, I 1, .sl true [], .sl false [(.agg [I 1, (.sl true [])]), (.agg [I 1, (.sl true [])]), (.agg [I 1, (.sl true [])])], .sl false [I 0, I 0, I 0], .sl false [(.agg [I 0]), (.agg [I 0]), (.agg [I 0])], .sl false [(.sl false [I 0, I 0, I 0]), (.sl false [I 0, I 0, I 0]), (.sl false [I 0, I 0, I 0])], .sl true [], I 0]), .agg [I 1, I 1, I 1, I 1, I 0, I 0, I 1, I 0, (.sl true []), (.sl false [V 97]), I 0, I 0, I 0, I 0, (.sl true [])], .sl false [I 0, I 0, I 0], I 16, I 3]
noncomputable def r57 : List RV := [(.pv (.agg [I 0, I 1, I 1, .sl true [], (.sl false [.agg [I 1, (.sl true [])], (.agg [I 1, .sl false [(.agg [I 1, I 1, I 0, I 0, I 1, I 0, (.sl true []), (.sl false [V 97])])]]), .agg [I 1, (.sl true [])]]), .sl false [I 0, I 1, I 0], .sl false [(.agg [I 0]), (.agg [I 0]), (.agg [I 0])], .sl false [(.sl false [I 0, I 0, I 0]), (.sl false [I 0, I 0, I 0]), (.sl false [I 0, I 0, I 0])], .sl true [], I 0])), .pv (B true)]
theorem k57 : Ct Tryz.prog 114 a57 r57 := ct_run tb_ok mixed [(111, a49, r49)] ⟨k49, trivial⟩ 100000 (by kernel_rfl)
/-- rel.Peek -/
noncomputable def a58 : List PV := [(.agg [I 0, I 1, I 1, .sl true [], (.sl false [.agg [I 1, (.sl true [])], (.agg [I 1, .sl false [(.agg [I 1, I 1, I 0, I 0, I 1, I 0, (.sl true []), (.sl false [V 97])])]]), .agg [I 1, (.sl true [])]]), .sl false [I 0, I 1, I 0], .sl false [(.agg [I 0]), (.agg [I 0]), (.agg [I 0])], .sl false [(.sl false [I 0, I 0, I 0]), (.sl false [I 0, I 0, I 0]), (.sl false [I 0, I 0, I 0])], .sl true [], I 0]), I 1]
noncomputable def r58 : List RV := [.pv (.agg [I 1, I 1, I 0, I 0, I 1, I 0, (.sl true []), (.sl false [V 97])]), .pv (B true)]
theorem k58 : Ct Tryz.prog 223 a58 r58 := ct_run tb_ok mixed [] trivial 100000 (by kernel_rfl)
/-- rel.Read -/
noncomputable def a59 : List PV := [(.agg [I 0, I 1, I 1, .sl true [], (.sl false [.agg [I 1, (.sl true [])], (.agg [I 1, .sl false [(.agg [I 1, I 1, I 0, I 0, I 1, I 0, (.sl true []), (.sl false [V 97])])]]), .agg [I 1, (.sl true [])]]), .sl false [I 0, I 1, I 0], .sl false [(.agg [I 0]), (.agg [I 0]), (.agg [I 0])], .sl false [(.sl false [I 0, I 0, I 0]), (.sl false [I 0, I 0, I 0]), (.sl false [I 0, I 0, I 0])], .sl true [], I 0]), I 1]
noncomputable def r59 : List RV := [(.pv (.agg [I 0, I 1, I 1, .sl true [], .sl false [(.agg [I 1, (.sl true [])]), (.agg [I 2, (.sl false [])]), (.agg [I 1, (.sl true [])])], .sl false [I 0, I 1, I 0], .sl false [(.agg [I 0]), (.agg [I 0]), (.agg [I 0])], .sl false [(.sl false [I 0, I 0, I 0]), (.sl false [I 0, I 0, I 0]), (.sl false [I 0, I 0, I 0])], .sl true [], I 0])), .pv (B true)]
theorem k59 : Ct Tryz.prog 224 a59 r59 := ct_run tb_ok mixed [] trivial 100000 (by kernel_rfl)
/-- frag.Add -/
noncomputable def a60 : List PV := [.agg [I 0, I 0, I 0, (.sl true [])], I 1, I 0, I 1, .sl false [V 97]]
noncomputable def r60 : List RV := [.pv (.agg [I 0, I 0, I 0, (.sl true [])]), .fresh 5 1 [V 97], .pv (B true), .pv (I 0)]
theorem k60 : Ct Tryz.prog 267 a60 r60 := ct_run tb_ok mixed [] trivial 100000 (by kernel_rfl)
/-- lane.Read -/
noncomputable def a61 : List PV := [.agg [(.sl true []), I 0, I 0, I 0, (.sl true [])], .agg [I 1, I 1, I 0, I 0, I 1, I 0, (.sl true []), (.sl false [V 97])]]
noncomputable def r61 : List RV := [(.pv (.agg [.sl false [(.agg [I 1, I 1, (.sl false [V 97]), (.sl true []), B false])], I 0, I 0, I 0, .sl true []])), .pv (I 0)]
theorem k61 : Ct Tryz.prog 246 a61 r61 := ct_run tb_ok mixed [(114, a57, r57)] ⟨k57, trivial⟩ 100000 (by kernel_rfl)
/-- memb.Hear -/
noncomputable def a64 : List PV := [(.agg [I 3, I 8, I 64, I 16, I 4, I 8, I 3, I 2, I 1, I 4, I 16, I 8, I 1, I 8, I 2, B true, I 0, B false, I 0, I 1, I 1, .sl true [], .sl false [(.agg [I 1, (.sl true [])]), (.agg [I 1, (.sl true [])]), (.agg [I 1, (.sl true [])])], .sl false [I 0, I 0, I 0], .sl false [(.agg [I 0]), (.agg [I 0]), (.agg [I 0])], .sl false [(.sl false [I 0, I 0, I 0]), (.sl false [I 0, I 0, I 0]), (.sl false [I 0, I 0, I 0])], .sl true [], I 0, .sl true [], I 4, I 16, I 0, I 0, .sl false [(.agg [(.sl true []), I 0, I 0, I 0, (.sl true [])]), (.agg [(.sl true []), I 0, I 0, I 0, (.sl true [])]), (.agg [(.sl true []), I 0, I 0, I 0, (.sl true [])])], I 0, I 0, B false, I 0, .sl false [B false, B false, B false], .sl false [I 0, I 0, I 0], B false, .sl true [], I 0, I 1, I 0, I 0, I 0, B false, .sl true [], I 0, I 0]), .sl false [V 165, V 1, V 1, V 1, V 0, V 0, V 0, V 0, V 0, V 0, V 0, V 1, V 0, V 0, V 0, V 0, V 0, V 0, V 0, V 0, V 0, V 1, V 97, V 3, V 161, V 96, V 181]]
noncomputable def r64 : List RV := [(.pv (.agg [I 3, I 8, I 64, I 16, I 4, I 8, I 3, I 2, I 1, I 4, I 16, I 8, I 1, I 8, I 2, B true, I 0, B false, I 0, I 1, I 1, .sl true [], .sl false [(.agg [I 1, (.sl true [])]), (.agg [I 2, (.sl false [])]), (.agg [I 1, (.sl true [])])], .sl false [I 0, I 1, I 0], .sl false [(.agg [I 0]), (.agg [I 0]), (.agg [I 0])], .sl false [(.sl false [I 0, I 0, I 0]), (.sl false [I 0, I 0, I 0]), (.sl false [I 0, I 0, I 0])], .sl true [], I 0, .sl true [], I 4, I 16, I 0, I 0, (.sl false [.agg [(.sl true []), I 0, I 0, I 0, (.sl true [])], (.agg [.sl false [(.agg [I 1, I 1, (.sl false [V 97]), (.sl true []), B false])], I 0, I 0, I 0, .sl true []]), .agg [(.sl true []), I 0, I 0, I 0, (.sl true [])]]), I 0, I 0, B false, I 0, .sl false [B false, B false, B false], .sl false [I 0, I 0, I 0], B false, .sl true [], I 0, I 1, I 0, I 0, I 0, B false, .sl false [], I 0, I 0]))]
theorem k64 : Ct Tryz.prog 72 a64 r64 := ct_runD tb_ok mixed [(111, a52, r52), (107, a53, r53), (69, a54, r54), (30, a55, r55), (115, a56, r56), (223, a58, r58), (224, a59, r59), (267, a60, r60), (164, a29, r29), (166, a30, r30)] ⟨k52, k53, k54, k55, k56, k58, k59, k60, k29, k30, trivial⟩ 100000 (by kernel_rfl)
/-- memb.Done -/
noncomputable def a65 : List PV := [(.agg [I 3, I 8, I 64, I 16, I 4, I 8, I 3, I 2, I 1, I 4, I 16, I 8, I 1, I 8, I 2, B true, I 0, B false, I 2, I 1, I 1, .sl true [], .sl false [(.agg [I 1, (.sl true [])]), (.agg [I 1, (.sl true [])]), (.agg [I 1, (.sl true [])])], .sl false [I 0, I 0, I 0], .sl false [(.agg [I 0]), (.agg [I 0]), (.agg [I 0])], .sl false [(.sl false [I 0, I 0, I 0]), (.sl false [I 0, I 0, I 0]), (.sl false [I 0, I 0, I 0])], .sl true [], I 0, .sl true [], I 4, I 16, I 0, I 0, .sl false [(.agg [(.sl true []), I 0, I 0, I 0, (.sl true [])]), (.agg [(.sl true []), I 0, I 0, I 0, (.sl true [])]), (.agg [(.sl true []), I 0, I 0, I 0, (.sl true [])])], I 0, I 0, B false, I 0, .sl false [B false, B false, B false], .sl false [I 0, I 0, I 0], B false, .sl true [], I 0, I 0, I 0, I 0, I 0, B false, .sl true [], I 0, I 0])]
noncomputable def r65 : List RV := [.fresh 3 1 [I 0, I 0, I 0]]
theorem k65 : Ct Tryz.prog 115 a65 r65 := ct_run tb_ok mixed [(162, a1, r1)] ⟨k1, trivial⟩ 100000 (by kernel_rfl)
/-- rel.Hear -/
noncomputable def a66 : List PV := [(.agg [I 2, I 1, I 1, .sl true [], .sl false [(.agg [I 1, (.sl true [])]), (.agg [I 1, (.sl true [])]), (.agg [I 1, (.sl true [])])], .sl false [I 0, I 0, I 0], .sl false [(.agg [I 0]), (.agg [I 0]), (.agg [I 0])], .sl false [(.sl false [I 0, I 0, I 0]), (.sl false [I 0, I 0, I 0]), (.sl false [I 0, I 0, I 0])], .sl true [], I 0]), .agg [I 1, I 1, I 1, I 1, I 0, I 0, I 1, I 0, (.sl true []), (.sl false [V 97]), I 0, I 0, I 0, I 0, (.sl true [])], .sl false [I 0, I 0, I 0], I 16, I 3]
noncomputable def r66 : List RV := [(.pv (.agg [I 2, I 1, I 1, .sl true [], (.sl false [.agg [I 1, (.sl true [])], (.agg [I 1, .sl false [(.agg [I 1, I 1, I 0, I 0, I 1, I 0, (.sl true []), (.sl false [V 97])])]]), .agg [I 1, (.sl true [])]]), .sl false [I 0, I 1, I 0], .sl false [(.agg [I 0]), (.agg [I 0]), (.agg [I 0])], .sl false [(.sl false [I 0, I 0, I 0]), (.sl false [I 0, I 0, I 0]), (.sl false [I 0, I 0, I 0])], .sl true [], I 0])), .pv (B true)]
theorem k66 : Ct Tryz.prog 114 a66 r66 := ct_run tb_ok mixed [(111, a52, r52)] ⟨k52, trivial⟩ 100000 (by kernel_rfl)
/-- rel.Peek -/
noncomputable def a67 : List PV := [(.agg [I 2, I 1, I 1, .sl true [], (.sl false [.agg [I 1, (.sl true [])], (.agg [I 1, .sl false [(.agg [I 1, I 1, I 0, I 0, I 1, I 0, (.sl true []), (.sl false [V 97])])]]), .agg [I 1, (.sl true [])]]), .sl false [I 0, I 1, I 0], .sl false [(.agg [I 0]), (.agg [I 0]), (.agg [I 0])], .sl false [(.sl false [I 0, I 0, I 0]), (.sl false [I 0, I 0, I 0]), (.sl false [I 0, I 0, I 0])], .sl true [], I 0]), I 0]
noncomputable def r67 : List RV := [.pv (.agg [I 0, I 0, I 0, I 0, I 0, I 0, (.sl true []), (.sl true [])]), .pv (B false)]
theorem k67 : Ct Tryz.prog 223 a67 r67 := ct_run tb_ok mixed [] trivial 100000 (by kernel_rfl)
/-- rel.Peek -/
noncomputable def a68 : List PV := [(.agg [I 2, I 1, I 1, .sl true [], (.sl false [.agg [I 1, (.sl true [])], (.agg [I 1, .sl false [(.agg [I 1, I 1, I 0, I 0, I 1, I 0, (.sl true []), (.sl false [V 97])])]]), .agg [I 1, (.sl true [])]]), .sl false [I 0, I 1, I 0], .sl false [(.agg [I 0]), (.agg [I 0]), (.agg [I 0])], .sl false [(.sl false [I 0, I 0, I 0]), (.sl false [I 0, I 0, I 0]), (.sl false [I 0, I 0, I 0])], .sl true [], I 0]), I 1]
noncomputable def r68 : List RV := [.pv (.agg [I 1, I 1, I 0, I 0, I 1, I 0, (.sl true []), (.sl false [V 97])]), .pv (B true)]
theorem k68 : Ct Tryz.prog 223 a68 r68 := ct_run tb_ok mixed [] trivial 100000 (by kernel_rfl)
/-- rel.Read -/
noncomputable def a69 : List PV := [(.agg [I 2, I 1, I 1, .sl true [], (.sl false [.agg [I 1, (.sl true [])], (.agg [I 1, .sl false [(.agg [I 1, I 1, I 0, I 0, I 1, I 0, (.sl true []), (.sl false [V 97])])]]), .agg [I 1, (.sl true [])]]), .sl false [I 0, I 1, I 0], .sl false [(.agg [I 0]), (.agg [I 0]), (.agg [I 0])], .sl false [(.sl false [I 0, I 0, I 0]), (.sl false [I 0, I 0, I 0]), (.sl false [I 0, I 0, I 0])], .sl true [], I 0]), I 1]
noncomputable def r69 : List RV := [(.pv (.agg [I 2, I 1, I 1, .sl true [], .sl false [(.agg [I 1, (.sl true [])]), (.agg [I 2, (.sl false [])]), (.agg [I 1, (.sl true [])])], .sl false [I 0, I 1, I 0], .sl false [(.agg [I 0]), (.agg [I 0]), (.agg [I 0])], .sl false [(.sl false [I 0, I 0, I 0]), (.sl false [I 0, I 0, I 0]), (.sl false [I 0, I 0, I 0])], .sl true [], I 0])), .pv (B true)]
theorem k69 : Ct Tryz.prog 224 a69 r69 := ct_run tb_ok mixed [] trivial 100000 (by kernel_rfl)
/-- rel.Peek -/
noncomputable def a70 : List PV := [(.agg [I 2, I 1, I 1, .sl true [], .sl false [(.agg [I 1, (.sl true [])]), (.agg [I 2, (.sl false [])]), (.agg [I 1, (.sl true [])])], .sl false [I 0, I 1, I 0], .sl false [(.agg [I 0]), (.agg [I 0]), (.agg [I 0])], .sl false [(.sl false [I 0, I 0, I 0]), (.sl false [I 0, I 0, I 0]), (.sl false [I 0, I 0, I 0])], .sl true [], I 0]), I 1]
noncomputable def r70 : List RV := [.pv (.agg [I 0, I 0, I 0, I 0, I 0, I 0, (.sl true []), (.sl true [])]), .pv (B false)]
theorem k70 : Ct Tryz.prog 223 a70 r70 := ct_run tb_ok mixed [] trivial 100000 (by kernel_rfl)
/-- memb.Hear -/
noncomputable def a71 : List PV := [(.agg [I 3, I 8, I 64, I 16, I 4, I 8, I 3, I 2, I 1, I 4, I 16, I 8, I 1, I 8, I 2, B true, I 0, B false, I 2, I 1, I 1, .sl true [], .sl false [(.agg [I 1, (.sl true [])]), (.agg [I 1, (.sl true [])]), (.agg [I 1, (.sl true [])])], .sl false [I 0, I 0, I 0], .sl false [(.agg [I 0]), (.agg [I 0]), (.agg [I 0])], .sl false [(.sl false [I 0, I 0, I 0]), (.sl false [I 0, I 0, I 0]), (.sl false [I 0, I 0, I 0])], .sl true [], I 0, .sl true [], I 4, I 16, I 0, I 0, .sl false [(.agg [(.sl true []), I 0, I 0, I 0, (.sl true [])]), (.agg [(.sl true []), I 0, I 0, I 0, (.sl true [])]), (.agg [(.sl true []), I 0, I 0, I 0, (.sl true [])])], I 0, I 0, B false, I 0, .sl false [B false, B false, B false], .sl false [I 0, I 0, I 0], B false, .sl true [], I 0, I 0, I 0, I 0, I 0, B false, .sl true [], I 0, I 0]), .sl false [V 165, V 1, V 1, V 1, V 0, V 0, V 0, V 0, V 0, V 0, V 0, V 1, V 0, V 0, V 0, V 0, V 0, V 0, V 0, V 0, V 0, V 1, V 97, V 3, V 161, V 96, V 181]]
noncomputable def r71 : List RV := [(.pv (.agg [I 3, I 8, I 64, I 16, I 4, I 8, I 3, I 2, I 1, I 4, I 16, I 8, I 1, I 8, I 2, B true, I 0, B false, I 2, I 1, I 1, .sl true [], .sl false [(.agg [I 1, (.sl true [])]), (.agg [I 2, (.sl false [])]), (.agg [I 1, (.sl true [])])], .sl false [I 0, I 1, I 0], .sl false [(.agg [I 0]), (.agg [I 0]), (.agg [I 0])], .sl false [(.sl false [I 0, I 0, I 0]), (.sl false [I 0, I 0, I 0]), (.sl false [I 0, I 0, I 0])], .sl true [], I 0, .sl true [], I 4, I 16, I 0, I 0, (.sl false [.agg [(.sl true []), I 0, I 0, I 0, (.sl true [])], (.agg [.sl false [(.agg [I 1, I 1, (.sl false [V 97]), (.sl true []), B false])], I 0, I 0, I 0, .sl true []]), .agg [(.sl true []), I 0, I 0, I 0, (.sl true [])]]), I 0, I 0, B false, I 0, .sl false [B false, B false, B false], .sl false [I 0, I 0, I 0], B false, .sl true [], I 0, I 0, I 0, I 0, I 0, B false, .sl false [], I 0, I 0]))]
theorem k71 : Ct Tryz.prog 72 a71 r71 := ct_runD tb_ok mixed [(30, a55, r55), (115, a65, r65), (114, a66, r66), (223, a67, r67), (223, a68, r68), (224, a69, r69), (246, a61, r61), (223, a70, r70), (164, a29, r29), (166, a30, r30)] ⟨k55, k65, k66, k67, k68, k69, k61, k70, k29, k30, trivial⟩ 100000 (by kernel_rfl)
/-- lane.Done -/
noncomputable def a73 : List PV := [(.agg [.sl false [(.agg [I 1, I 1, (.sl false [V 97]), (.sl true []), B false])], I 0, I 0, I 0, .sl true []]), I 1]
noncomputable def r73 : List RV := [.pv (I 0)]
theorem k73 : Ct Tryz.prog 162 a73 r73 := ct_run tb_ok mixed [] trivial 100000 (by kernel_rfl)
/-- memb.Done -/
noncomputable def a74 : List PV := [(.agg [I 3, I 8, I 64, I 16, I 4, I 8, I 3, I 2, I 1, I 4, I 16, I 8, I 1, I 8, I 2, B true, I 0, B false, I 0, I 1, I 1, .sl true [], .sl false [(.agg [I 1, (.sl true [])]), (.agg [I 2, (.sl false [])]), (.agg [I 1, (.sl true [])])], .sl false [I 0, I 1, I 0], .sl false [(.agg [I 0]), (.agg [I 0]), (.agg [I 0])], .sl false [(.sl false [I 0, I 0, I 0]), (.sl false [I 0, I 0, I 0]), (.sl false [I 0, I 0, I 0])], .sl true [], I 0, .sl true [], I 4, I 16, I 0, I 0, (.sl false [.agg [(.sl true []), I 0, I 0, I 0, (.sl true [])], (.agg [.sl false [(.agg [I 1, I 1, (.sl false [V 97]), (.sl true []), B false])], I 0, I 0, I 0, .sl true []]), .agg [(.sl true []), I 0, I 0, I 0, (.sl true [])]]), I 0, I 0, B false, I 0, .sl false [B false, B false, B false], .sl false [I 0, I 0, I 0], B false, .sl true [], I 0, I 1, I 0, I 0, I 0, B false, .sl false [], I 0, I 0])]
noncomputable def r74 : List RV := [.fresh 3 1 [I 0, I 0, I 0]]
theorem k74 : Ct Tryz.prog 115 a74 r74 := ct_run tb_ok mixed [(162, a1, r1), (162, a73, r73)] ⟨k1, k73, trivial⟩ 100000 (by kernel_rfl)
/-- rel.Tick -/
noncomputable def a75 : List PV := [(.agg [I 0, I 1, I 1, .sl true [], .sl false [(.agg [I 1, (.sl true [])]), (.agg [I 2, (.sl false [])]), (.agg [I 1, (.sl true [])])], .sl false [I 0, I 1, I 0], .sl false [(.agg [I 0]), (.agg [I 0]), (.agg [I 0])], .sl false [(.sl false [I 0, I 0, I 0]), (.sl false [I 0, I 0, I 0]), (.sl false [I 0, I 0, I 0])], .sl true [], I 0]), .sl false [I 0, I 0, I 0], I 3, I 2]
noncomputable def r75 : List RV := [(.pv (.agg [I 0, I 2, I 1, .sl true [], .sl false [(.agg [I 1, (.sl true [])]), (.agg [I 2, (.sl false [])]), (.agg [I 1, (.sl true [])])], .sl false [I 0, I 1, I 0], .sl false [(.agg [I 0]), (.agg [I 0]), (.agg [I 0])], .sl false [(.sl false [I 0, I 0, I 0]), (.sl false [I 0, I 0, I 0]), (.sl false [I 0, I 0, I 0])], .sl true [], I 0])), .fresh 87 15 [(.agg [I 4, I 0, I 0, I 0, I 0, I 0, I 0, I 0, (.sl true []), (.sl true []), I 0, I 0, I 0, I 0, (.sl false [I 0, I 0, I 0])])]]
theorem k75 : Ct Tryz.prog 132 a75 r75 := ct_run tb_ok mixed [] trivial 100000 (by kernel_rfl)
/-- meter.Tick -/
noncomputable def a76 : List PV := [.agg [I 1, I 0, I 0], I 8]
noncomputable def r76 : List RV := [.pv (.agg [I 2, I 0, I 0]), .pv (I 0), .pv (I 0), .pv (B false)]
theorem k76 : Ct Tryz.prog 133 a76 r76 := ct_run tb_ok mixed [] trivial 100000 (by kernel_rfl)
/-- seqr.Say -/
noncomputable def a77 : List PV := [.agg [I 0, I 0], (.sl false [.agg [(.sl true []), I 0, I 0, I 0, (.sl true [])], (.agg [.sl false [(.agg [I 1, I 1, (.sl false [V 97]), (.sl true []), B false])], I 0, I 0, I 0, .sl true []]), .agg [(.sl true []), I 0, I 0, I 0, (.sl true [])]]), I 0, I 4]
noncomputable def r77 : List RV := [.pv (.agg [I 2, I 0, I 0, I 0, I 0, I 0, (.sl true [I 1]), (.sl true [])]), .pv (B true)]
theorem k77 : Ct Tryz.prog 329 a77 r77 := ct_run tb_ok mixed [(331, a7, r7)] ⟨k7, trivial⟩ 100000 (by kernel_rfl)
/-- order.Say -/
noncomputable def a78 : List PV := [I 0, .agg [I 0, I 0], (.sl false [.agg [(.sl true []), I 0, I 0, I 0, (.sl true [])], (.agg [.sl false [(.agg [I 1, I 1, (.sl false [V 97]), (.sl true []), B false])], I 0, I 0, I 0, .sl true []]), .agg [(.sl true []), I 0, I 0, I 0, (.sl true [])]]), I 0, I 4]
noncomputable def r78 : List RV := [.pv (.agg [I 2, I 0, I 0, I 0, I 0, I 0, (.sl true [I 1]), (.sl true [])]), .pv (B true)]
theorem k78 : Ct Tryz.prog 144 a78 r78 := ct_run tb_ok mixed [(329, a77, r77)] ⟨k77, trivial⟩ 100000 (by kernel_rfl)
/-- item.May -/
noncomputable def a79 : List PV := [.agg [I 2, I 1, I 0, I 0, I 0, I 0, (.sl true [I 1]), (.sl true [])]]
noncomputable def r79 : List RV := [.pv (B true)]
theorem k79 : Ct Tryz.prog 111 a79 r79 := ct_run tb_ok mixed [] trivial 100000 (by kernel_rfl)
/-- keep.Room -/
noncomputable def a80 : List PV := [.agg [I 1, (.sl true [])], I 16, I 3]
noncomputable def r80 : List RV := [.pv (I 13)]
theorem k80 : Ct Tryz.prog 140 a80 r80 := ct_run tb_ok mixed [] trivial 100000 (by kernel_rfl)
/-- keep.Push -/
noncomputable def a81 : List PV := [.agg [I 1, (.sl true [])], .agg [I 2, I 0, I 0, I 0, I 0, I 0, (.sl true [I 1]), (.sl true [])], I 16, I 3]
noncomputable def r81 : List RV := [(.pv (.agg [I 2, .sl false [(.agg [I 2, I 1, I 0, I 0, I 0, I 0, (.sl true [I 1]), (.sl true [])])]])), .pv (.agg [I 2, I 1, I 0, I 0, I 0, I 0, (.sl true [I 1]), (.sl true [])]), .pv (I 0)]
theorem k81 : Ct Tryz.prog 244 a81 r81 := ct_run tb_ok mixed [(111, a79, r79), (140, a80, r80)] ⟨k79, k80, trivial⟩ 100000 (by kernel_rfl)
/-- rel.Send -/
noncomputable def a82 : List PV := [(.agg [I 0, I 2, I 1, .sl true [], .sl false [(.agg [I 1, (.sl true [])]), (.agg [I 2, (.sl false [])]), (.agg [I 1, (.sl true [])])], .sl false [I 0, I 1, I 0], .sl false [(.agg [I 0]), (.agg [I 0]), (.agg [I 0])], .sl false [(.sl false [I 0, I 0, I 0]), (.sl false [I 0, I 0, I 0]), (.sl false [I 0, I 0, I 0])], .sl true [], I 0]), .agg [I 2, I 0, I 0, I 0, I 0, I 0, (.sl true [I 1]), (.sl true [])], I 16, I 3]
noncomputable def r82 : List RV := [(.pv (.agg [I 0, I 2, I 2, .sl false [(.agg [I 2, I 1, I 0, I 0, I 0, I 0, (.sl true [I 1]), (.sl true [])])], .sl false [(.agg [I 1, (.sl true [])]), (.agg [I 2, (.sl false [])]), (.agg [I 1, (.sl true [])])], .sl false [I 0, I 1, I 0], .sl false [(.agg [I 0]), (.agg [I 0]), (.agg [I 0])], .sl false [(.sl false [I 0, I 0, I 0]), (.sl false [I 0, I 0, I 0]), (.sl false [I 0, I 0, I 0])], .sl true [], I 0])), .pv (.agg [I 1, I 0, I 2, I 1, I 0, I 0, I 0, I 0, (.sl true [I 1]), (.sl true []), I 0, I 0, I 0, I 0, (.sl true [])]), .pv (I 0)]
theorem k82 : Ct Tryz.prog 190 a82 r82 := ct_run tb_ok mixed [(244, a81, r81)] ⟨k81, trivial⟩ 100000 (by kernel_rfl)
/-- lane.Read -/
noncomputable def a83 : List PV := [.agg [(.sl true []), I 0, I 0, I 0, (.sl true [])], .agg [I 2, I 1, I 0, I 0, I 0, I 0, (.sl true [I 1]), (.sl true [])]]
noncomputable def r83 : List RV := [(.pv (.agg [.sl false [(.agg [I 2, I 1, (.sl true []), (.sl false [I 1]), B false])], I 0, I 0, I 0, .sl true []])), .pv (I 0)]
theorem k83 : Ct Tryz.prog 246 a83 r83 := ct_run tb_ok mixed [] trivial 100000 (by kernel_rfl)
/-- rel.Peek -/
noncomputable def a84 : List PV := [(.agg [I 0, I 2, I 2, .sl false [(.agg [I 2, I 1, I 0, I 0, I 0, I 0, (.sl true [I 1]), (.sl true [])])], .sl false [(.agg [I 1, (.sl true [])]), (.agg [I 2, (.sl false [])]), (.agg [I 1, (.sl true [])])], .sl false [I 0, I 1, I 0], .sl false [(.agg [I 0]), (.agg [I 0]), (.agg [I 0])], .sl false [(.sl false [I 0, I 0, I 0]), (.sl false [I 0, I 0, I 0]), (.sl false [I 0, I 0, I 0])], .sl true [], I 0]), I 1]
noncomputable def r84 : List RV := [.pv (.agg [I 0, I 0, I 0, I 0, I 0, I 0, (.sl true []), (.sl true [])]), .pv (B false)]
theorem k84 : Ct Tryz.prog 223 a84 r84 := ct_run tb_ok mixed [] trivial 100000 (by kernel_rfl)
/-- rel.Peek -/
noncomputable def a85 : List PV := [(.agg [I 0, I 2, I 2, .sl false [(.agg [I 2, I 1, I 0, I 0, I 0, I 0, (.sl true [I 1]), (.sl true [])])], .sl false [(.agg [I 1, (.sl true [])]), (.agg [I 2, (.sl false [])]), (.agg [I 1, (.sl true [])])], .sl false [I 0, I 1, I 0], .sl false [(.agg [I 0]), (.agg [I 0]), (.agg [I 0])], .sl false [(.sl false [I 0, I 0, I 0]), (.sl false [I 0, I 0, I 0]), (.sl false [I 0, I 0, I 0])], .sl true [], I 0]), I 2]
noncomputable def r85 : List RV := [.pv (.agg [I 0, I 0, I 0, I 0, I 0, I 0, (.sl true []), (.sl true [])]), .pv (B false)]
theorem k85 : Ct Tryz.prog 223 a85 r85 := ct_run tb_ok mixed [] trivial 100000 (by kernel_rfl)
/-- lane.Control -/
noncomputable def a86 : List PV := [(.agg [.sl false [(.agg [I 2, I 1, (.sl true []), (.sl false [I 1]), B false])], I 0, I 0, I 0, .sl true []])]
noncomputable def r86 : List RV := [.pv (.agg [I 2, I 1, (.sl true []), (.sl false [I 1]), B false]), .pv (B true)]
theorem k86 : Ct Tryz.prog 331 a86 r86 := ct_run tb_ok mixed [] trivial 100000 (by kernel_rfl)
/-- lane.Message -/
noncomputable def a87 : List PV := [(.agg [.sl false [(.agg [I 1, I 1, (.sl false [V 97]), (.sl true []), B false])], I 0, I 0, I 0, .sl true []])]
noncomputable def r87 : List RV := [.pv (.agg [I 1, I 1, (.sl false [V 97]), (.sl true []), B false]), .pv (B true)]
theorem k87 : Ct Tryz.prog 258 a87 r87 := ct_run tb_ok mixed [] trivial 100000 (by kernel_rfl)
/-- lane.Pop -/
noncomputable def a88 : List PV := [(.agg [.sl false [(.agg [I 1, I 1, (.sl false [V 97]), (.sl true []), B false])], I 0, I 0, I 0, .sl true []]), I 1]
noncomputable def r88 : List RV := [.pv (.agg [(.sl false []), I 0, I 0, I 0, (.sl true [])])]
theorem k88 : Ct Tryz.prog 259 a88 r88 := ct_run tb_ok mixed [] trivial 100000 (by kernel_rfl)
/-- lane.Set -/
noncomputable def a89 : List PV := [(.agg [.sl false [(.agg [I 2, I 1, (.sl true []), (.sl false [I 1]), B false])], I 0, I 0, I 0, .sl true []]), .agg [I 2, I 1, (.sl true []), (.sl false []), B false]]
noncomputable def r89 : List RV := [(.pv (.agg [.sl false [(.agg [I 2, I 1, (.sl true []), (.sl false []), B false])], I 0, I 0, I 0, .sl true []]))]
theorem k89 : Ct Tryz.prog 334 a89 r89 := ct_run tb_ok mixed [] trivial 100000 (by kernel_rfl)
/-- lane.Control -/
noncomputable def a90 : List PV := [(.agg [.sl false [(.agg [I 2, I 1, (.sl true []), (.sl false []), B false])], I 0, I 0, I 0, .sl true []])]
noncomputable def r90 : List RV := [.pv (.agg [I 2, I 1, (.sl true []), (.sl false []), B false]), .pv (B true)]
theorem k90 : Ct Tryz.prog 331 a90 r90 := ct_run tb_ok mixed [] trivial 100000 (by kernel_rfl)
/-- lane.Pop -/
noncomputable def a91 : List PV := [(.agg [.sl false [(.agg [I 2, I 1, (.sl true []), (.sl false []), B false])], I 0, I 0, I 0, .sl true []]), I 1]
noncomputable def r91 : List RV := [.pv (.agg [(.sl false []), I 0, I 0, I 0, (.sl true [])])]
theorem k91 : Ct Tryz.prog 259 a91 r91 := ct_run tb_ok mixed [] trivial 100000 (by kernel_rfl)
/-- lane.Control -/
noncomputable def a92 : List PV := [.agg [(.sl false []), I 0, I 0, I 0, (.sl true [])]]
noncomputable def r92 : List RV := [.pv (.agg [I 0, I 0, (.sl true []), (.sl true []), B false]), .pv (B false)]
theorem k92 : Ct Tryz.prog 331 a92 r92 := ct_run tb_ok mixed [] trivial 100000 (by kernel_rfl)
/-- seqr.Walk -/
noncomputable def a93 : List PV := [.agg [I 0, I 0], (.sl false [(.agg [.sl false [(.agg [I 2, I 1, (.sl true []), (.sl false [I 1]), B false])], I 0, I 0, I 0, .sl true []]), (.agg [.sl false [(.agg [I 1, I 1, (.sl false [V 97]), (.sl true []), B false])], I 0, I 0, I 0, .sl true []]), .agg [(.sl true []), I 0, I 0, I 0, (.sl true [])]])]
noncomputable def r93 : List RV := [.pv (.agg [I 0, I 1]), .fresh 261 5 [(.agg [(.sl false []), I 0, I 0, I 0, (.sl true [])]), (.agg [(.sl false []), I 0, I 0, I 0, (.sl true [])]), (.agg [(.sl true []), I 0, I 0, I 0, (.sl true [])])], .fresh 123 2 [(.agg [I 1, (.sl false [V 97])])]]
theorem k93 : Ct Tryz.prog 330 a93 r93 := ct_run tb_ok mixed [(331, a86, r86), (258, a87, r87), (259, a88, r88), (334, a89, r89), (331, a90, r90), (259, a91, r91), (331, a92, r92)] ⟨k86, k87, k88, k89, k90, k91, k92, trivial⟩ 100000 (by kernel_rfl)
/-- order.Walk -/
noncomputable def a94 : List PV := [I 0, .agg [I 0, I 0], (.sl false [(.agg [.sl false [(.agg [I 2, I 1, (.sl true []), (.sl false [I 1]), B false])], I 0, I 0, I 0, .sl true []]), (.agg [.sl false [(.agg [I 1, I 1, (.sl false [V 97]), (.sl true []), B false])], I 0, I 0, I 0, .sl true []]), .agg [(.sl true []), I 0, I 0, I 0, (.sl true [])]])]
noncomputable def r94 : List RV := [.pv (.agg [I 0, I 1]), .fresh 261 5 [(.agg [(.sl false []), I 0, I 0, I 0, (.sl true [])]), (.agg [(.sl false []), I 0, I 0, I 0, (.sl true [])]), (.agg [(.sl true []), I 0, I 0, I 0, (.sl true [])])], .fresh 123 2 [(.agg [I 1, (.sl false [V 97])])]]
theorem k94 : Ct Tryz.prog 164 a94 r94 := ct_run tb_ok mixed [(330, a93, r93)] ⟨k93, trivial⟩ 100000 (by kernel_rfl)
/-- meter.Add -/
noncomputable def a95 : List PV := [.agg [I 2, I 0, I 0], I 1, I 1]
noncomputable def r95 : List RV := [.pv (.agg [I 2, I 1, I 1])]
theorem k95 : Ct Tryz.prog 226 a95 r95 := ct_run tb_ok mixed [] trivial 100000 (by kernel_rfl)
/-- item.Same -/
noncomputable def a96 : List PV := [.agg [I 0, I 0, I 0, I 0, I 0, I 0, (.sl true []), (.sl true [])], .agg [I 0, I 0, I 0, I 0, I 0, I 0, (.sl true []), (.sl true [])]]
noncomputable def r96 : List RV := [.pv (B true)]
theorem k96 : Ct Tryz.prog 155 a96 r96 := ct_run tb_ok mixed [] trivial 100000 (by kernel_rfl)
/-- pkt.May -/
noncomputable def a97 : List PV := [.agg [I 4, I 0, I 0, I 0, I 0, I 0, I 0, I 0, (.sl true []), (.sl true []), I 0, I 0, I 0, I 0, (.sl false [I 0, I 0, I 0])]]
noncomputable def r97 : List RV := [.pv (B true)]
theorem k97 : Ct Tryz.prog 69 a97 r97 := ct_run tb_ok mixed [(155, a96, r96)] ⟨k96, trivial⟩ 100000 (by kernel_rfl)
/-- num.PutRow -/
noncomputable def a98 : List PV := [.sl false [I 0, I 0, I 0], I 8]
noncomputable def r98 : List RV := [.fresh 5 1 [V 0, V 0, V 0, V 0, V 0, V 0, V 0, V 0, V 0, V 0, V 0, V 0, V 0, V 0, V 0, V 0, V 0, V 0, V 0, V 0, V 0, V 0, V 0, V 0]]
theorem k98 : Ct Tryz.prog 147 a98 r98 := ct_run tb_ok mixed [(146, a36, r36)] ⟨k36, trivial⟩ 100000 (by kernel_rfl)
/-- pkt.Bytes -/
noncomputable def a99 : List PV := [.agg [I 4, I 0, I 0, I 0, I 0, I 0, I 0, I 0, (.sl true []), (.sl true []), I 0, I 0, I 0, I 0, (.sl false [I 0, I 0, I 0])]]
noncomputable def r99 : List RV := [.fresh 5 1 [V 165, V 4, V 0, V 0, V 0, V 0, V 0, V 0, V 0, V 0, V 0, V 0, V 0, V 0, V 0, V 0, V 0, V 0, V 0, V 0, V 0, V 0, V 0, V 0, V 0, V 0, V 0, V 0, V 0, V 0, V 0, V 0, V 0, V 0, V 0, V 136, V 247, V 64, V 81]]
theorem k99 : Ct Tryz.prog 102 a99 r99 := ct_run tb_ok mixed [(69, a97, r97), (146, a36, r36), (147, a98, r98)] ⟨k97, k36, k98, trivial⟩ 100000 (by kernel_rfl)
end Go.Proofs.YthcmkipbdgndoaaGreatDoor.M
