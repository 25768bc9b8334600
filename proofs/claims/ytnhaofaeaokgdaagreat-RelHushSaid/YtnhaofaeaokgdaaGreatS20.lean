import Derived.Shelf.SlGeneric
import Derived.Shelf.SortG.AssemblyIn
import Derived.Shelf.SortG.SortNone
import Derived.Sort.EveryDepth
import Derived.Ground.SlgnProg
import Derived.Test.YtnhaofaeaokgdaaGreatG20
set_option linter.all false
set_option linter.unusedVariables false
set_option linter.unusedSimpArgs false
set_option linter.unnecessarySimpa false
namespace Go.Proofs
open Go.Shelf
def Tryz.sortInt_ren : Go.Shelf.Ren := ⟨fun | 53 => 121 | 64 => 133 | 63 => 132 | 78 => 155 | 79 => 156 | 70 => 146 | 71 => 147 | 72 => 148 | 73 => 149 | 74 => 150 | 75 => 151 | 59 => 152 | 76 => 153 | 77 => 154 | 88 => 157 | 89 => 158 | 90 => 159 | 91 => 160 | 92 => 161 | 68 => 162 | 96 => 163 | n => n, fun | 22 => 26 | 23 => 3 | 3 => 3 | 51 => 145 | 0 => 0 | 67 => 157 | 69 => 159 | 4 => 4 | 61 => 150 | 60 => 149 | 44 => 120 | 5 => 5 | 9 => 9 | 75 => 160 | 79 => 164 | 83 => 166 | 84 => 78 | n => n, fun | n => n⟩
theorem Tryz.sortInt : Go.Proofs.SlLaysN.n53 Tryz.prog Tryz.sortInt_ren := {
  mixed := by kernel_rfl
  f53 := ⟨Tryz.f121.name, by decide, Tryz.func121.trans (congrArg some (by kernel_rfl))⟩
  f59 := ⟨Tryz.f152.name, by decide, Tryz.func152.trans (congrArg some (by kernel_rfl))⟩
  f63 := ⟨Tryz.f132.name, by decide, Tryz.func132.trans (congrArg some (by kernel_rfl))⟩
  f64 := Tryz.func133.trans (congrArg some (by kernel_rfl))
  f68 := ⟨Tryz.f162.name, by decide, Tryz.func162.trans (congrArg some (by kernel_rfl))⟩
  f70 := ⟨Tryz.f146.name, by decide, Tryz.func146.trans (congrArg some (by kernel_rfl))⟩
  f71 := ⟨Tryz.f147.name, by decide, Tryz.func147.trans (congrArg some (by kernel_rfl))⟩
  f72 := ⟨Tryz.f148.name, by decide, Tryz.func148.trans (congrArg some (by kernel_rfl))⟩
  f73 := ⟨Tryz.f149.name, by decide, Tryz.func149.trans (congrArg some (by kernel_rfl))⟩
  f74 := ⟨Tryz.f150.name, by decide, Tryz.func150.trans (congrArg some (by kernel_rfl))⟩
  f75 := ⟨Tryz.f151.name, by decide, Tryz.func151.trans (congrArg some (by kernel_rfl))⟩
  f76 := ⟨Tryz.f153.name, by decide, Tryz.func153.trans (congrArg some (by kernel_rfl))⟩
  f77 := ⟨Tryz.f154.name, by decide, Tryz.func154.trans (congrArg some (by kernel_rfl))⟩
  f78 := Tryz.func155.trans (congrArg some (by kernel_rfl))
  f79 := Tryz.func156.trans (congrArg some (by kernel_rfl))
  f88 := ⟨Tryz.f157.name, by decide, Tryz.func157.trans (congrArg some (by kernel_rfl))⟩
  f89 := Tryz.func158.trans (congrArg some (by kernel_rfl))
  f90 := Tryz.func159.trans (congrArg some (by kernel_rfl))
  f91 := ⟨Tryz.f160.name, by decide, Tryz.func160.trans (congrArg some (by kernel_rfl))⟩
  f92 := ⟨Tryz.f161.name, by decide, Tryz.func161.trans (congrArg some (by kernel_rfl))⟩
  f96 := ⟨Tryz.f163.name, by decide, Tryz.func163.trans (congrArg some (by kernel_rfl))⟩
  t0 := Tryz.underlying0
  a0 := Tryz.isAgg0
  z0 := Tryz.sizeOf0
  v0 := Tryz.zeroValue0
  t3 := Tryz.underlying3
  a3 := Tryz.isAgg3
  z3 := Tryz.sizeOf3
  v3 := Tryz.zeroValue3
  t4 := Tryz.underlying4
  a4 := Tryz.isAgg4
  z4 := Tryz.sizeOf4
  v4 := Tryz.zeroValue4
  t5 := Tryz.underlying5
  a5 := Tryz.isAgg5
  z5 := Tryz.sizeOf5
  v5 := Tryz.zeroValue5
  t9 := Tryz.underlying9
  a9 := Tryz.isAgg9
  z9 := Tryz.sizeOf9
  v9 := Tryz.zeroValue9
  t22 := Tryz.underlying26
  a22 := Tryz.isAgg26
  z22 := Tryz.sizeOf26
  v22 := Tryz.zeroValue26
  t23 := Tryz.underlying3
  a23 := Tryz.isAgg3
  z23 := Tryz.sizeOf3
  v23 := Tryz.zeroValue3
  t44 := Tryz.underlying120
  a44 := Tryz.isAgg120
  z44 := Tryz.sizeOf120
  v44 := Tryz.zeroValue120
  t51 := Tryz.underlying145
  a51 := Tryz.isAgg145
  z51 := Tryz.sizeOf145
  v51 := Tryz.zeroValue145
  t60 := Tryz.underlying149
  a60 := Tryz.isAgg149
  z60 := Tryz.sizeOf149
  v60 := Tryz.zeroValue149
  t61 := Tryz.underlying150
  a61 := Tryz.isAgg150
  z61 := Tryz.sizeOf150
  v61 := Tryz.zeroValue150
  t67 := Tryz.underlying157
  a67 := Tryz.isAgg157
  z67 := Tryz.sizeOf157
  v67 := Tryz.zeroValue157
  t69 := Tryz.underlying159
  a69 := Tryz.isAgg159
  z69 := Tryz.sizeOf159
  v69 := Tryz.zeroValue159
  t75 := Tryz.underlying160
  a75 := Tryz.isAgg160
  z75 := Tryz.sizeOf160
  v75 := Tryz.zeroValue160
  t79 := Tryz.underlying164
  a79 := Tryz.isAgg164
  z79 := Tryz.sizeOf164
  v79 := Tryz.zeroValue164
  t83 := Tryz.underlying166
  a83 := Tryz.isAgg166
  z83 := Tryz.sizeOf166
  v83 := Tryz.zeroValue166
  t84 := Tryz.underlying78
  a84 := Tryz.isAgg78
  z84 := Tryz.sizeOf78
  v84 := Tryz.zeroValue78 }
end Go.Proofs
namespace Go.Proofs.YtnhaofaeaokgdaaGreat.M
open Go Go.Mir Go.Proofs

/-- Rows of numbers are sorted in place. -/
theorem sorts : SrtOk Tryz.prog 121 := by
  have en := Tryz.sortInt.f53.enters rfl
  refine ⟨fun blk cap zs w hH hb hl => calls_of_every_depth fun D => AnySG.slices_Sort_int_in Tryz.sortInt D blk 0 cap zs w hH hb hl, fun vs w _ => en vs w, fun S w vs hS ha => ?_⟩
  match vs, ha with
  | [], ha => exact absurd ha.1 (by simp)
  | _ :: _ :: _, ha => exact absurd ha.1 (by simp)
  | [v], ha =>
    obtain ⟨a, rfl⟩ : ∃ a, v = .slice a 0 0 := by
      have h := ha.2 0 _ v rfl rfl
      cases h with | sl _ _ _ _ hf => obtain rfl := hf rfl; exact ⟨_, rfl⟩
    refine ⟨(AnyG.slices_Sort_int_none Tryz.sortInt a 0 w).mono fun e w' h => ?_, en _ w⟩
    obtain ⟨rfl, rfl⟩ := h
    exact ⟨S, [], [], [], .refl _, rfl, .nil, ⟨fun _ h => h, fun _ h => .inl h, hS, fun _ _ => rfl, Nat.le_refl _, rfl, rfl, rfl⟩, fun b h => by simp at h⟩
end Go.Proofs.YtnhaofaeaokgdaaGreat.M
