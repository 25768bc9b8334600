/- The functions of this seat: what must be shown of each (P..), and that it is enough (t..) (written by a program of this session; no condition). -/
import Derived.Test.YthcmkipbdgndoaaGreatDoorProg
import Derived.KernelRfl
import Derived.Test.YthcmkipbdgndoaaGreatDoorNx24
set_option linter.all false
set_option linter.unusedVariables false
set_option linter.unusedSimpArgs false
set_option linter.unnecessarySimpa false
namespace Go.Proofs.YthcmkipbdgndoaaGreatDoor.M
open Go Go.Mir Go.Proofs
set_option maxRecDepth 100000
set_option linter.unusedVariables false
instance : Globs Tryz.prog := ⟨[(1, [I 0, I 255, I 65535, I 0, I 0, I 0, I 0, I 0, I 4611686018427387904])]⟩
abbrev Clb (g : Nat) (xs : List BA) (bs : List (List PV)) (rs : List RV) (cs : List (List PV)) : Prop := Cb Tryz.prog g xs bs rs cs
abbrev Cl (g : Nat) (ps : List PV) (rs : List RV) : Prop := Ct Tryz.prog g ps rs
theorem mixed : Tryz.prog.follows .mixedOrders = true := by kernel_rfl

/-- tool.words$1 -/
noncomputable def P56 (a0 : Int) (Φ : List RV → Prop) : Prop :=
 Φ [.pv (B (a0 == 32))]
theorem t56 (a0 : Int) {Φ : List RV → Prop} (h : P56 a0 Φ) : CtP Tryz.prog 56 [.lit (.int .i32 a0)] Φ :=
  ctP_by h 1000 [] mixed Tryz.func56 rfl (by kernel_rfl) (by kernel_rfl)

/-- bytes.Clone -/
noncomputable def P32 (a0 : List PV) (Φ : List RV → Prop) : Prop :=
 Nq a0
 (Φ [.pv (.sl true [])])
 (Ok (okNews 1 a0) (Sz 0 a0.length 1 (
 Φ [.fresh 5 1 a0])))
theorem t32 (a0 : List PV) {Φ : List RV → Prop} (h : P32 a0 Φ) : CtP Tryz.prog 32 [.sl false a0] Φ :=
  ctP_by h 1000 [(3002, .app true false)] mixed Tryz.func32 rfl (by kernel_rfl) (by kernel_rfl)

/-- slices.Clone[[][][]byte,[][]byte] -/
noncomputable def P63 (a0 : List PV) (Φ : List RV → Prop) : Prop :=
 Nq a0
 (Φ [.pv (.sl true [])])
 (Ok (okNews 1 a0) (Sz 0 a0.length 24 (
 Φ [.fresh 103 1 a0])))
theorem t63 (a0 : List PV) {Φ : List RV → Prop} (h : P63 a0 Φ) : CtP Tryz.prog 63 [.sl false a0] Φ :=
  ctP_by h 1000 [(3002, .app true false)] mixed Tryz.func63 rfl (by kernel_rfl) (by kernel_rfl)

/-- slices.Clone[[]api.Memb,api.Memb] -/
noncomputable def P70 (a0 : List PV) (Φ : List RV → Prop) : Prop :=
 Nq a0
 (Φ [.pv (.sl true [])])
 (Ok (okNews 51 a0) (Sz 0 a0.length 600 (
 Φ [.fresh 118 51 a0])))
theorem t70 (a0 : List PV) {Φ : List RV → Prop} (h : P70 a0 Φ) : CtP Tryz.prog 70 [.sl false a0] Φ :=
  ctP_by h 1000 [(3002, .app true false)] mixed Tryz.func70 rfl (by kernel_rfl) (by kernel_rfl)

/-- slices.Clone[[]byte,byte] -/
noncomputable def P106 (a0 : List PV) (Φ : List RV → Prop) : Prop :=
 Nq a0
 (Φ [.pv (.sl true [])])
 (Ok (okNews 1 a0) (Sz 0 a0.length 1 (
 Φ [.fresh 5 1 a0])))
theorem t106 (a0 : List PV) {Φ : List RV → Prop} (h : P106 a0 Φ) : CtP Tryz.prog 106 [.sl false a0] Φ :=
  ctP_by h 1000 [(3002, .app true false)] mixed Tryz.func106 rfl (by kernel_rfl) (by kernel_rfl)

/-- slices.Clone[[]int,int] -/
noncomputable def P186 (a0 : List PV) (Φ : List RV → Prop) : Prop :=
 Nq a0
 (Φ [.pv (.sl true [])])
 (Ok (okNews 1 a0) (Sz 0 a0.length 8 (
 Φ [.fresh 3 1 a0])))
theorem t186 (a0 : List PV) {Φ : List RV → Prop} (h : P186 a0 Φ) : CtP Tryz.prog 186 [.sl false a0] Φ :=
  ctP_by h 1000 [(3002, .app true false)] mixed Tryz.func186 rfl (by kernel_rfl) (by kernel_rfl)

/-- slices.Clone[[][]byte,[]byte] -/
noncomputable def P195 (a0 : List PV) (Φ : List RV → Prop) : Prop :=
 Nq a0
 (Φ [.pv (.sl true [])])
 (Ok (okNews 1 a0) (Sz 0 a0.length 24 (
 Φ [.fresh 22 1 a0])))
theorem t195 (a0 : List PV) {Φ : List RV → Prop} (h : P195 a0 Φ) : CtP Tryz.prog 195 [.sl false a0] Φ :=
  ctP_by h 1000 [(3002, .app true false)] mixed Tryz.func195 rfl (by kernel_rfl) (by kernel_rfl)

/-- slices.Clone[[][]int,[]int] -/
noncomputable def P216 (a0 : List PV) (Φ : List RV → Prop) : Prop :=
 Nq a0
 (Φ [.pv (.sl true [])])
 (Ok (okNews 1 a0) (Sz 0 a0.length 24 (
 Φ [.fresh 83 1 a0])))
theorem t216 (a0 : List PV) {Φ : List RV → Prop} (h : P216 a0 Φ) : CtP Tryz.prog 216 [.sl false a0] Φ :=
  ctP_by h 1000 [(3002, .app true false)] mixed Tryz.func216 rfl (by kernel_rfl) (by kernel_rfl)

/-- slices.Clone[[]api.Win,api.Win] -/
noncomputable def P221 (a0 : List PV) (Φ : List RV → Prop) : Prop :=
 Nq a0
 (Φ [.pv (.sl true [])])
 (Ok (okNews 2 a0) (Sz 0 a0.length 32 (
 Φ [.fresh 212 2 a0])))
theorem t221 (a0 : List PV) {Φ : List RV → Prop} (h : P221 a0 Φ) : CtP Tryz.prog 221 [.sl false a0] Φ :=
  ctP_by h 1000 [(3002, .app true false)] mixed Tryz.func221 rfl (by kernel_rfl) (by kernel_rfl)

/-- slices.Clone[[]api.Ask,api.Ask] -/
noncomputable def P240 (a0 : List PV) (Φ : List RV → Prop) : Prop :=
 Nq a0
 (Φ [.pv (.sl true [])])
 (Ok (okNews 1 a0) (Sz 0 a0.length 8 (
 Φ [.fresh 285 1 a0])))
theorem t240 (a0 : List PV) {Φ : List RV → Prop} (h : P240 a0 Φ) : CtP Tryz.prog 240 [.sl false a0] Φ :=
  ctP_by h 1000 [(3002, .app true false)] mixed Tryz.func240 rfl (by kernel_rfl) (by kernel_rfl)

/-- slices.Clone[[]api.Lane,api.Lane] -/
noncomputable def P245 (a0 : List PV) (Φ : List RV → Prop) : Prop :=
 Nq a0
 (Φ [.pv (.sl true [])])
 (Ok (okNews 5 a0) (Sz 0 a0.length 72 (
 Φ [.fresh 261 5 a0])))
theorem t245 (a0 : List PV) {Φ : List RV → Prop} (h : P245 a0 Φ) : CtP Tryz.prog 245 [.sl false a0] Φ :=
  ctP_by h 1000 [(3002, .app true false)] mixed Tryz.func245 rfl (by kernel_rfl) (by kernel_rfl)

/-- slices.Clone[[]api.Entry,api.Entry] -/
noncomputable def P279 (a0 : List PV) (Φ : List RV → Prop) : Prop :=
 Nq a0
 (Φ [.pv (.sl true [])])
 (Ok (okNews 5 a0) (Sz 0 a0.length 72 (
 Φ [.fresh 323 5 a0])))
theorem t279 (a0 : List PV) {Φ : List RV → Prop} (h : P279 a0 Φ) : CtP Tryz.prog 279 [.sl false a0] Φ :=
  ctP_by h 1000 [(3002, .app true false)] mixed Tryz.func279 rfl (by kernel_rfl) (by kernel_rfl)

/-- slices.Clone[[]bool,bool] -/
noncomputable def P284 (a0 : List PV) (Φ : List RV → Prop) : Prop :=
 Nq a0
 (Φ [.pv (.sl true [])])
 (Ok (okNews 1 a0) (Sz 0 a0.length 1 (
 Φ [.fresh 4 1 a0])))
theorem t284 (a0 : List PV) {Φ : List RV → Prop} (h : P284 a0 Φ) : CtP Tryz.prog 284 [.sl false a0] Φ :=
  ctP_by h 1000 [(3002, .app true false)] mixed Tryz.func284 rfl (by kernel_rfl) (by kernel_rfl)
end Go.Proofs.YthcmkipbdgndoaaGreatDoor.M
