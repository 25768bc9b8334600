import Derived.Test.YtnhaofaeaokgdaaGreatR20k
set_option linter.all false
set_option linter.unusedVariables false
set_option linter.unusedSimpArgs false
set_option linter.unnecessarySimpa false
namespace Go.Proofs.YtnhaofaeaokgdaaGreat.M
open Go Go.Mir Go.Proofs

/-! ### The example -/
def tokI : Item := ⟨3, 0, 0, 0, 0, 0, [], []⟩
def xA : Rel := (sendR (newR 0 2) tokI 8 0).1
def xP : Packet := (sendR (newR 0 2) tokI 8 0).2.1
def xB : Rel := (hearR (newR 1 2) xP [0, 0] 8 3).1
def xC : Rel := (readR xB 0).1
def xD : Rel := (tickR xA [0, 0] 3 1).1
def xL : List Packet := (tickR xA [0, 0] 3 1).2
def xF : Rel := freeR xA [1, 0]
theorem WF.new (me n : Nat) (h : me < n) (h2 : 2 ≤ n) (h64 : n ≤ 64) : WF (newR me n) n where
  n2 := h2
  n64 := h64
  me0 := by simp [newR]
  meN := by simp [newR]; omega
  win := by simp [newR]
  top := by simp [newR]
  ask := by simp [newR]
  have_ := by simp [newR]
  lost := by simp [newR]
  naks0 := by simp [newR]
  naks := by simp [newR]
  keep := by rfl
  now0 := by simp [newR]
  now := by simp [newR]
  wins w hw := by
    simp only [newR, List.mem_replicate] at hw
    rw [hw.2]; rfl
  tops t ht := by
    simp only [newR, List.mem_replicate] at ht
    rw [ht.2]; omega
  asks a ha := by
    simp only [newR, List.mem_replicate] at ha
    rw [ha.2]; simp
  haves l hl := by
    simp only [newR, List.mem_replicate] at hl
    rw [hl.2]; simp
theorem wfA : WF xA 2 := by
  obtain ⟨N, h, hw⟩ := WF.of (r := xA) (n := 2) (by decide)
  have : N = 2 := by omega
  rw [this] at hw; exact hw
theorem c5 (hs : SrtOk Tryz.prog 121) : Cl 5 [] [.pv (B true)] := t5 (by
  unfold P5
  refine ⟨newR 0 2, c19 0 2 (by omega), xA, xP, 0, Ct.dull (c20 (newR 0 2) tokI 8 0) rfl, newR 1 2, c19 1 2 (by omega), xB, true, c11 hs (WF.new 1 2 (by omega) (by omega) (by omega)) (p := xP) (by decide) (done := [0, 0]) rfl 8 3, _, _, c21 xB 0 (by decide), xC, true, c22 xB 0 (by decide) (by decide) (by decide), _, _, c21 xC 0 (by decide), xA, false, c11 hs wfA (p := xP) (by decide) (done := [0, 0]) rfl 8 3, xD, xL, c13 wfA (done := [0, 0]) rfl (by omega) (by omega) (by omega), xF, c16 wfA (done := [1, 0]) rfl, ?_⟩
  simp only [Ln, List.length_map]
  intro _ _ _ _ _ _ _
  refine Fk_t rfl (Fk_t (by decide) (Fk_t (by decide) (Fk_t rfl (Fk_t (by decide) (Fk_t (by decide) (Fk_t rfl (Fk_t (by decide) (Fk_t rfl (Fk_t (by decide) (Fk_t (by decide) (Ix_nat (i := 0) (a := stabP 0 1 [0, 0]) (by rfl) (Fk_t rfl (Ix_nat (i := 0) (a := stabP 0 1 [0, 0]) (by rfl) (Fk_t rfl (Fk_t (by decide) ⟨_, c23 xA 2 (by rfl), Fk_t (by decide) ⟨_, c23 xA 3 (by rfl), Fk_t (by decide) ⟨_, c24 _ _, Fk_t (sameR_rfl _) ⟨_, c24 _ _, ?_⟩⟩⟩⟩)))))))))))))))
  rw [show sameR xA xB = false by decide]
  exact .refl _)
theorem relHears_of (hs : SrtOk Tryz.prog 121) (x : RelHearsIn) : Cl 3 [eRelHearsIn x] [.pv (B true)] := t3 _ (by
  unfold P3
  refine ⟨_, c5 hs, _, c6 _, Fk_of (fun _ => .refl _) fun _ => ⟨_, c7 _ _, Fk_of (fun _ => .refl _) fun h2 => ⟨_, c8 _, Fk_of (fun _ => .refl _) fun _ => ⟨_, c9 _, Fk_of (fun _ => .refl _) fun h4 => ⟨_, c10 _ _, Fk_of (fun _ => .refl _) fun h5 => ?_⟩⟩⟩⟩⟩
  simp only [Bool.not_eq_false', Bool.and_eq_true, beq_iff_eq] at h2 h4 h5
  obtain ⟨N, hN, hw⟩ := WF.of h2
  have hd : x.done.length = N := by omega
  refine ⟨by omega, by omega, by omega, ?_⟩
  have hm : ∀ v : UInt16, w64 (1 + Int.tmod (w64 (v.toNat : Int)) 1000) = 1 + Int.tmod (v.toNat : Int) 1000 ∧ 0 ≤ Int.tmod (v.toNat : Int) 1000 ∧ Int.tmod (v.toNat : Int) 1000 < 1000 := fun v => by
    have hv := v.toNat_lt
    have e := w64_id (n := (v.toNat : Int)) (by omega) (by omega)
    have a := Int.tmod_nonneg 1000 (show (0 : Int) ≤ v.toNat by omega)
    have b := Int.tmod_lt_of_pos (v.toNat : Int) (show (0 : Int) < 1000 by omega)
    rw [e]
    exact ⟨w64_id (by omega) (by omega), a, b⟩
  obtain ⟨w1, w2, w3⟩ := hm x.wait
  obtain ⟨v1, v2, v3⟩ := hm x.every
  rw [w1, v1]
  refine ⟨_, _, c11 hs hw h4 hd _ _, _, _, c12 hw h4 hd _ _, _, _, c13 hw hd (by omega) (by omega) (by omega), _, _, c14 hw hd (by omega), Fk_t rfl ⟨_, c15 _ _, Fk_t (sameR_rfl _) (Fk_t (by simp) ⟨_, c16 hw hd, _, c17 hw hd, _, c15 _ _, Fk_t (sameR_rfl _) ⟨_, c15 _ _, Fk_t (sameR_rfl _) ⟨_, c18 _ _, by rw [rowEq_rfl sameP_rfl]; exact .refl _⟩⟩⟩)⟩⟩)
end Go.Proofs.YtnhaofaeaokgdaaGreat.M
