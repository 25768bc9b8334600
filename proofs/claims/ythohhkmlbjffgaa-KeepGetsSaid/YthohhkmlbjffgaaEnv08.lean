/- The functions of this seat, for the small machine (written by a program of this session; no condition). -/
import Derived.Test.YthohhkmlbjffgaaProg
import Derived.Test.YthohhkmlbjffgaaMir18
import Derived.KernelRfl
namespace Go.Proofs.Ythohhkmlbjffgaa.M
open Go Go.Mir Go.Proofs
noncomputable def fnTab : Nat → Option Func
  | 2 => some Try.f2
  | 3 => some Try.f3
  | 4 => some Try.f4
  | 5 => some Try.f5
  | 6 => some Try.f6
  | 7 => some Try.f7
  | 8 => some Try.f8
  | 9 => some Try.f9
  | 10 => some Try.f10
  | 11 => some Try.f11
  | 12 => some Try.f12
  | 13 => some Try.f13
  | 14 => some Try.f14
  | 15 => some Try.f15
  | 16 => some Try.f16
  | 17 => some Try.f17
  | 18 => some Try.f18
  | 19 => some Try.f19
  | 20 => some Try.f20
  | 21 => some Try.f21
  | 22 => some Try.f22
  | 23 => some Try.f23
  | 24 => some Try.f24
  | 25 => some Try.f25
  | 26 => some Try.f26
  | 27 => some Try.f27
  | 28 => some Try.f28
  | 29 => some Try.f29
  | 30 => some Try.f30
  | 31 => some Try.f31
  | 32 => some Try.f32
  | 33 => some Try.f33
  | 34 => some Try.f34
  | 35 => some Try.f35
  | 36 => some Try.f36
  | 37 => some Try.f37
  | 38 => some Try.f38
  | 39 => some Try.f39
  | 40 => some Try.f40
  | 41 => some Try.f41
  | 42 => some Try.f42
  | 43 => some Try.f43
  | 44 => some Try.f44
  | 45 => some Try.f45
  | 46 => some Try.f46
  | 47 => some Try.f47
  | 48 => some Try.f48
  | 49 => some Try.f49
  | 50 => some Try.f50
  | 51 => some Try.f51
  | 52 => some Try.f52
  | 53 => some Try.f53
  | _ => none
def live : Nat → Nat → List Nat × List (Nat × TypeId × Nat)
  | 4, 15 => ([2, 3, 7, 8, 9, 10, 11, 12, 13, 14], [])
  | 5, 10 => ([2, 6, 7, 8, 9, 10, 11, 12, 13], [])
  | 5, 18 => ([2, 6, 7, 8, 9, 10, 11, 12, 13, 14, 15, 32, 33, 34, 35, 38, 39, 40, 41, 42, 43, 44, 45, 46, 47, 48, 49, 50, 51, 52], [])
  | 10, 4 => ([0, 2, 3], [])
  | 12, 4 => ([1, 2, 3], [])
  | 13, 2 => ([1, 2, 6, 7, 8], [])
  | 21, 2 => ([1, 2, 4, 5, 6], [])
  | 26, 3 => ([1, 2, 4, 5, 6], [(5, 28, 8)])
  | 29, 4 => ([1, 2, 6, 15, 16, 17], [])
  | 31, 4 => ([0, 1, 4, 5], [])
  | 34, 4 => ([0, 1, 4, 5], [])
  | 36, 2 => ([0, 1, 4, 5], [])
  | 39, 4 => ([0, 1, 4, 12, 13], [])
  | 41, 2 => ([0, 1, 4, 7, 8], [])
  | 46, 2 => ([1, 4, 7, 8, 9], [])
  | _, _ => ([], [])
def wild : Nat → Bool
  | _ => false
noncomputable def E : MEnv := { P := Try.prog, fn := fnTab, wild := wild, live := live }
theorem ok2 : (Try.f2.name == "runtime.NumGoroutine") = false ∧ ∀ c, Try.f2.body = some c → okCode c = true := ⟨by kernel_rfl, fun c h => by cases h; kernel_rfl⟩
theorem ok3 : (Try.f3.name == "runtime.NumGoroutine") = false ∧ ∀ c, Try.f3.body = some c → okCode c = true := ⟨by kernel_rfl, fun c h => by cases h; kernel_rfl⟩
theorem ok4 : (Try.f4.name == "runtime.NumGoroutine") = false ∧ ∀ c, Try.f4.body = some c → okCode c = true := ⟨by kernel_rfl, fun c h => by cases h; kernel_rfl⟩
theorem ok5 : (Try.f5.name == "runtime.NumGoroutine") = false ∧ ∀ c, Try.f5.body = some c → okCode c = true := ⟨by kernel_rfl, fun c h => by cases h; kernel_rfl⟩
theorem ok6 : (Try.f6.name == "runtime.NumGoroutine") = false ∧ ∀ c, Try.f6.body = some c → okCode c = true := ⟨by kernel_rfl, fun c h => by cases h; kernel_rfl⟩
theorem ok7 : (Try.f7.name == "runtime.NumGoroutine") = false ∧ ∀ c, Try.f7.body = some c → okCode c = true := ⟨by kernel_rfl, fun c h => by cases h; kernel_rfl⟩
theorem ok8 : (Try.f8.name == "runtime.NumGoroutine") = false ∧ ∀ c, Try.f8.body = some c → okCode c = true := ⟨by kernel_rfl, fun c h => by cases h; kernel_rfl⟩
theorem ok9 : (Try.f9.name == "runtime.NumGoroutine") = false ∧ ∀ c, Try.f9.body = some c → okCode c = true := ⟨by kernel_rfl, fun c h => by cases h; kernel_rfl⟩
theorem ok10 : (Try.f10.name == "runtime.NumGoroutine") = false ∧ ∀ c, Try.f10.body = some c → okCode c = true := ⟨by kernel_rfl, fun c h => by cases h; kernel_rfl⟩
theorem ok11 : (Try.f11.name == "runtime.NumGoroutine") = false ∧ ∀ c, Try.f11.body = some c → okCode c = true := ⟨by kernel_rfl, fun c h => by cases h; kernel_rfl⟩
theorem ok12 : (Try.f12.name == "runtime.NumGoroutine") = false ∧ ∀ c, Try.f12.body = some c → okCode c = true := ⟨by kernel_rfl, fun c h => by cases h; kernel_rfl⟩
theorem ok13 : (Try.f13.name == "runtime.NumGoroutine") = false ∧ ∀ c, Try.f13.body = some c → okCode c = true := ⟨by kernel_rfl, fun c h => by cases h; kernel_rfl⟩
theorem ok14 : (Try.f14.name == "runtime.NumGoroutine") = false ∧ ∀ c, Try.f14.body = some c → okCode c = true := ⟨by kernel_rfl, fun c h => by cases h; kernel_rfl⟩
theorem ok15 : (Try.f15.name == "runtime.NumGoroutine") = false ∧ ∀ c, Try.f15.body = some c → okCode c = true := ⟨by kernel_rfl, fun c h => by cases h; kernel_rfl⟩
theorem ok16 : (Try.f16.name == "runtime.NumGoroutine") = false ∧ ∀ c, Try.f16.body = some c → okCode c = true := ⟨by kernel_rfl, fun c h => by cases h; kernel_rfl⟩
theorem ok17 : (Try.f17.name == "runtime.NumGoroutine") = false ∧ ∀ c, Try.f17.body = some c → okCode c = true := ⟨by kernel_rfl, fun c h => by cases h; kernel_rfl⟩
theorem ok18 : (Try.f18.name == "runtime.NumGoroutine") = false ∧ ∀ c, Try.f18.body = some c → okCode c = true := ⟨by kernel_rfl, fun c h => by cases h; kernel_rfl⟩
theorem ok19 : (Try.f19.name == "runtime.NumGoroutine") = false ∧ ∀ c, Try.f19.body = some c → okCode c = true := ⟨by kernel_rfl, fun c h => by cases h; kernel_rfl⟩
theorem ok20 : (Try.f20.name == "runtime.NumGoroutine") = false ∧ ∀ c, Try.f20.body = some c → okCode c = true := ⟨by kernel_rfl, fun c h => by cases h; kernel_rfl⟩
theorem ok21 : (Try.f21.name == "runtime.NumGoroutine") = false ∧ ∀ c, Try.f21.body = some c → okCode c = true := ⟨by kernel_rfl, fun c h => by cases h; kernel_rfl⟩
theorem ok22 : (Try.f22.name == "runtime.NumGoroutine") = false ∧ ∀ c, Try.f22.body = some c → okCode c = true := ⟨by kernel_rfl, fun c h => by cases h; kernel_rfl⟩
theorem ok23 : (Try.f23.name == "runtime.NumGoroutine") = false ∧ ∀ c, Try.f23.body = some c → okCode c = true := ⟨by kernel_rfl, fun c h => by cases h; kernel_rfl⟩
theorem ok24 : (Try.f24.name == "runtime.NumGoroutine") = false ∧ ∀ c, Try.f24.body = some c → okCode c = true := ⟨by kernel_rfl, fun c h => by cases h; kernel_rfl⟩
theorem ok25 : (Try.f25.name == "runtime.NumGoroutine") = false ∧ ∀ c, Try.f25.body = some c → okCode c = true := ⟨by kernel_rfl, fun c h => by cases h; kernel_rfl⟩
theorem ok26 : (Try.f26.name == "runtime.NumGoroutine") = false ∧ ∀ c, Try.f26.body = some c → okCode c = true := ⟨by kernel_rfl, fun c h => by cases h; kernel_rfl⟩
theorem ok27 : (Try.f27.name == "runtime.NumGoroutine") = false ∧ ∀ c, Try.f27.body = some c → okCode c = true := ⟨by kernel_rfl, fun c h => by cases h; kernel_rfl⟩
theorem ok28 : (Try.f28.name == "runtime.NumGoroutine") = false ∧ ∀ c, Try.f28.body = some c → okCode c = true := ⟨by kernel_rfl, fun c h => by cases h; kernel_rfl⟩
theorem ok29 : (Try.f29.name == "runtime.NumGoroutine") = false ∧ ∀ c, Try.f29.body = some c → okCode c = true := ⟨by kernel_rfl, fun c h => by cases h; kernel_rfl⟩
theorem ok30 : (Try.f30.name == "runtime.NumGoroutine") = false ∧ ∀ c, Try.f30.body = some c → okCode c = true := ⟨by kernel_rfl, fun c h => by cases h; kernel_rfl⟩
theorem ok31 : (Try.f31.name == "runtime.NumGoroutine") = false ∧ ∀ c, Try.f31.body = some c → okCode c = true := ⟨by kernel_rfl, fun c h => by cases h; kernel_rfl⟩
theorem ok32 : (Try.f32.name == "runtime.NumGoroutine") = false ∧ ∀ c, Try.f32.body = some c → okCode c = true := ⟨by kernel_rfl, fun c h => by cases h; kernel_rfl⟩
theorem ok33 : (Try.f33.name == "runtime.NumGoroutine") = false ∧ ∀ c, Try.f33.body = some c → okCode c = true := ⟨by kernel_rfl, fun c h => by cases h; kernel_rfl⟩
theorem ok34 : (Try.f34.name == "runtime.NumGoroutine") = false ∧ ∀ c, Try.f34.body = some c → okCode c = true := ⟨by kernel_rfl, fun c h => by cases h; kernel_rfl⟩
theorem ok35 : (Try.f35.name == "runtime.NumGoroutine") = false ∧ ∀ c, Try.f35.body = some c → okCode c = true := ⟨by kernel_rfl, fun c h => by cases h; kernel_rfl⟩
theorem ok36 : (Try.f36.name == "runtime.NumGoroutine") = false ∧ ∀ c, Try.f36.body = some c → okCode c = true := ⟨by kernel_rfl, fun c h => by cases h; kernel_rfl⟩
theorem ok37 : (Try.f37.name == "runtime.NumGoroutine") = false ∧ ∀ c, Try.f37.body = some c → okCode c = true := ⟨by kernel_rfl, fun c h => by cases h; kernel_rfl⟩
theorem ok38 : (Try.f38.name == "runtime.NumGoroutine") = false ∧ ∀ c, Try.f38.body = some c → okCode c = true := ⟨by kernel_rfl, fun c h => by cases h; kernel_rfl⟩
theorem ok39 : (Try.f39.name == "runtime.NumGoroutine") = false ∧ ∀ c, Try.f39.body = some c → okCode c = true := ⟨by kernel_rfl, fun c h => by cases h; kernel_rfl⟩
theorem ok40 : (Try.f40.name == "runtime.NumGoroutine") = false ∧ ∀ c, Try.f40.body = some c → okCode c = true := ⟨by kernel_rfl, fun c h => by cases h; kernel_rfl⟩
theorem ok41 : (Try.f41.name == "runtime.NumGoroutine") = false ∧ ∀ c, Try.f41.body = some c → okCode c = true := ⟨by kernel_rfl, fun c h => by cases h; kernel_rfl⟩
theorem ok42 : (Try.f42.name == "runtime.NumGoroutine") = false ∧ ∀ c, Try.f42.body = some c → okCode c = true := ⟨by kernel_rfl, fun c h => by cases h; kernel_rfl⟩
theorem ok43 : (Try.f43.name == "runtime.NumGoroutine") = false ∧ ∀ c, Try.f43.body = some c → okCode c = true := ⟨by kernel_rfl, fun c h => by cases h; kernel_rfl⟩
theorem ok44 : (Try.f44.name == "runtime.NumGoroutine") = false ∧ ∀ c, Try.f44.body = some c → okCode c = true := ⟨by kernel_rfl, fun c h => by cases h; kernel_rfl⟩
theorem ok45 : (Try.f45.name == "runtime.NumGoroutine") = false ∧ ∀ c, Try.f45.body = some c → okCode c = true := ⟨by kernel_rfl, fun c h => by cases h; kernel_rfl⟩
theorem ok46 : (Try.f46.name == "runtime.NumGoroutine") = false ∧ ∀ c, Try.f46.body = some c → okCode c = true := ⟨by kernel_rfl, fun c h => by cases h; kernel_rfl⟩
theorem ok47 : (Try.f47.name == "runtime.NumGoroutine") = false ∧ ∀ c, Try.f47.body = some c → okCode c = true := ⟨by kernel_rfl, fun c h => by cases h; kernel_rfl⟩
theorem ok48 : (Try.f48.name == "runtime.NumGoroutine") = false ∧ ∀ c, Try.f48.body = some c → okCode c = true := ⟨by kernel_rfl, fun c h => by cases h; kernel_rfl⟩
theorem ok49 : (Try.f49.name == "runtime.NumGoroutine") = false ∧ ∀ c, Try.f49.body = some c → okCode c = true := ⟨by kernel_rfl, fun c h => by cases h; kernel_rfl⟩
theorem ok50 : (Try.f50.name == "runtime.NumGoroutine") = false ∧ ∀ c, Try.f50.body = some c → okCode c = true := ⟨by kernel_rfl, fun c h => by cases h; kernel_rfl⟩
theorem ok51 : (Try.f51.name == "runtime.NumGoroutine") = false ∧ ∀ c, Try.f51.body = some c → okCode c = true := ⟨by kernel_rfl, fun c h => by cases h; kernel_rfl⟩
theorem ok52 : (Try.f52.name == "runtime.NumGoroutine") = false ∧ ∀ c, Try.f52.body = some c → okCode c = true := ⟨by kernel_rfl, fun c h => by cases h; kernel_rfl⟩
theorem ok53 : (Try.f53.name == "runtime.NumGoroutine") = false ∧ ∀ c, Try.f53.body = some c → okCode c = true := ⟨by kernel_rfl, fun c h => by cases h; kernel_rfl⟩
theorem E_ok : E.Ok := by
  refine ⟨fun f g h => ?_, by kernel_rfl⟩
  have h : fnTab f = some g := h
  unfold fnTab at h
  split at h
  · cases h; exact ⟨Try.func2, ok2⟩
  · cases h; exact ⟨Try.func3, ok3⟩
  · cases h; exact ⟨Try.func4, ok4⟩
  · cases h; exact ⟨Try.func5, ok5⟩
  · cases h; exact ⟨Try.func6, ok6⟩
  · cases h; exact ⟨Try.func7, ok7⟩
  · cases h; exact ⟨Try.func8, ok8⟩
  · cases h; exact ⟨Try.func9, ok9⟩
  · cases h; exact ⟨Try.func10, ok10⟩
  · cases h; exact ⟨Try.func11, ok11⟩
  · cases h; exact ⟨Try.func12, ok12⟩
  · cases h; exact ⟨Try.func13, ok13⟩
  · cases h; exact ⟨Try.func14, ok14⟩
  · cases h; exact ⟨Try.func15, ok15⟩
  · cases h; exact ⟨Try.func16, ok16⟩
  · cases h; exact ⟨Try.func17, ok17⟩
  · cases h; exact ⟨Try.func18, ok18⟩
  · cases h; exact ⟨Try.func19, ok19⟩
  · cases h; exact ⟨Try.func20, ok20⟩
  · cases h; exact ⟨Try.func21, ok21⟩
  · cases h; exact ⟨Try.func22, ok22⟩
  · cases h; exact ⟨Try.func23, ok23⟩
  · cases h; exact ⟨Try.func24, ok24⟩
  · cases h; exact ⟨Try.func25, ok25⟩
  · cases h; exact ⟨Try.func26, ok26⟩
  · cases h; exact ⟨Try.func27, ok27⟩
  · cases h; exact ⟨Try.func28, ok28⟩
  · cases h; exact ⟨Try.func29, ok29⟩
  · cases h; exact ⟨Try.func30, ok30⟩
  · cases h; exact ⟨Try.func31, ok31⟩
  · cases h; exact ⟨Try.func32, ok32⟩
  · cases h; exact ⟨Try.func33, ok33⟩
  · cases h; exact ⟨Try.func34, ok34⟩
  · cases h; exact ⟨Try.func35, ok35⟩
  · cases h; exact ⟨Try.func36, ok36⟩
  · cases h; exact ⟨Try.func37, ok37⟩
  · cases h; exact ⟨Try.func38, ok38⟩
  · cases h; exact ⟨Try.func39, ok39⟩
  · cases h; exact ⟨Try.func40, ok40⟩
  · cases h; exact ⟨Try.func41, ok41⟩
  · cases h; exact ⟨Try.func42, ok42⟩
  · cases h; exact ⟨Try.func43, ok43⟩
  · cases h; exact ⟨Try.func44, ok44⟩
  · cases h; exact ⟨Try.func45, ok45⟩
  · cases h; exact ⟨Try.func46, ok46⟩
  · cases h; exact ⟨Try.func47, ok47⟩
  · cases h; exact ⟨Try.func48, ok48⟩
  · cases h; exact ⟨Try.func49, ok49⟩
  · cases h; exact ⟨Try.func50, ok50⟩
  · cases h; exact ⟨Try.func51, ok51⟩
  · cases h; exact ⟨Try.func52, ok52⟩
  · cases h; exact ⟨Try.func53, ok53⟩
  · cases h
end Go.Proofs.Ythohhkmlbjffgaa.M
