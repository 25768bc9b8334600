import Derived.Test.YtndomnacflndmaaGreatDoorM21c
set_option linter.all false
set_option linter.unusedVariables false
set_option linter.unusedSimpArgs false
set_option linter.unnecessarySimpa false
namespace Go.Proofs.YtndomnacflndmaaGreatDoor.M
open Go Go.Mir Go.Proofs
set_option maxHeartbeats 4000000

noncomputable def zRel : Rel := ⟨0, 0, ⟨0, []⟩, [], [], [], [], [], 0⟩
noncomputable def zConf : Conf := ⟨0, 0, 0, 0, 0, 0, 0, 0, 0, 0, 0, 0, 0, 0, 0, false, 0⟩
noncomputable def zMemb : Memb := ⟨zConf, false, zRel, [], ⟨0, 0⟩, 0, 0, [], ⟨0, 0⟩, ⟨false, 0, [], [], false, []⟩, 0, ⟨0, 0, 0⟩, ⟨0⟩, false, [], 0, 0⟩
noncomputable def newM1 (c : Conf) (me : Int) (n : Nat) : Memb := ⟨c, false, newR me n, [], ⟨c.rate, c.burst⟩, 0, c.first, List.replicate n ⟨[], ⟨0, 0, 0, []⟩⟩, ⟨0, 0⟩, newB n, 0, ⟨0, 0, 0⟩, ⟨0⟩, false, [], 0, 0⟩
noncomputable def newM (c : Conf) (me : Int) : Memb × Int := if fits c && within me 0 (c.n - 1) then (newM1 c me c.n.toNat, 0) else (zMemb, 1)
theorem pv_agg {ps qs : List PV} (h : PVsLe ps qs) : PVLe (.agg ps) (.agg qs) := .agg h.1 h.2
theorem pv_rep {a b : PV} {f : Bool} (n : Nat) (h : PVLe a b) : PVLe (.sl f (List.replicate n a)) (.sl false (List.replicate n b)) := .sl (by simp) (by simp) fun j p q hp hq => by
  rw [List.getElem?_replicate] at hp hq
  split at hp <;> cases hp
  split at hq <;> cases hq
  all_goals exact h
theorem pv_nil : PVLe (.sl true []) (.sl false []) := .sl (by simp) rfl fun j p q hp _ => by simp at hp
theorem mkI {b : Nat} {n : Int} {K : Prop} (hb : b ≤ 1000) (h0 : 0 ≤ n) (h : n ≤ 1000) (hk : K) : Mk b n n K := by
  obtain ⟨m, rfl⟩ := Int.eq_ofNat_of_zero_le h0
  exact mk_small hb (by omega) hk
theorem fits_n {c : Conf} (h : fits c = true) : 2 ≤ c.n ∧ c.n ≤ 64 := by
  simp only [fits, within, Bool.and_eq_true, decide_eq_true_eq] at h
  omega
theorem c5 (c : Conf) (me : Int) (hm : c.msg ≤ 9223372036854775807) : Cl 5 [eConf c, I me] [.pv (eMemb (newM c me).1), .pv (I (newM c me).2)] := t5 _ _ (by
  unfold P5
  refine ⟨_, c7 c hm, Fk_of (fun h => ?_) fun h => ⟨_, c20 _ _ _, Fk_of (fun h1 => ?_) fun h1 => ?_⟩⟩
  · have hf : fits c = false := by simpa using h
    rw [newM, if_neg (by simp [hf])]; exact .dull rfl
  · have hf : fits c = true := by simpa using h
    have hn := fits_n hf
    rw [w64_id (by omega) (by omega)] at h1
    have hw : within me 0 (c.n - 1) = false := by simpa using h1
    rw [newM, if_neg (by simp [hf, hw])]; exact .dull rfl
  · have hf : fits c = true := by simpa using h
    have hn := fits_n hf
    rw [w64_id (by omega) (by omega)] at h1
    have hw : within me 0 (c.n - 1) = true := by simpa using h1
    rw [newM, if_pos (by simp [hf, hw])]
    obtain ⟨n, en⟩ := Int.eq_ofNat_of_zero_le (show 0 ≤ c.n by omega)
    have hn' : n ≤ 64 := by omega
    have e := c21 me n (by omega)
    have e2 := c23 n (by omega)
    have ht : c.n.toNat = n := by omega
    rw [ht]
    rw [← en] at e e2
    refine ⟨_, e, _, c22 _ _, mkI (by omega) (by omega) (by omega) ⟨_, e2, .cons (.pv (pv_agg ?_)) (.cons (.pv (.refl _)) .nil)⟩⟩
    simp only [newM1, eMemb, List.map_replicate]
    repeat' refine PVsLe.cons ?_ ?_
    all_goals first | exact .refl _ | exact PVsLe.nil | exact pv_nil | exact pv_rep n (pv_agg (PVsLe.cons pv_nil (PVsLe.cons (.refl _) (PVsLe.cons (.refl _) (PVsLe.cons (.refl _) (PVsLe.cons pv_nil PVsLe.nil)))))))
theorem c6 (c : Conf) (me : Int) (hm : c.msg ≤ 9223372036854775807) : Cl 6 [eConf c, I me] [.pv (eMemb (newM c me).1), .pv (I (newM c me).2)] := t6 _ _ (by
  unfold P6
  refine ⟨_, c8 c hm, Fk_of (fun h => ?_) fun h => Fk_of (fun h1 => ?_) fun h1 => Fk_of (fun h2 => ?_) fun h2 => ?_⟩
  · have hf : fits c = false := by simpa using h
    rw [newM, if_neg (by simp [hf])]; exact .dull rfl
  · have hw : within me 0 (c.n - 1) = false := by simp at h1; simp [within]; omega
    rw [newM, if_neg (by simp [hw])]; exact .dull rfl
  · have hw : within me 0 (c.n - 1) = false := by simp at h1 h2; simp [within]; omega
    rw [newM, if_neg (by simp [hw])]; exact .dull rfl
  · have hf : fits c = true := by simpa using h
    have hn := fits_n hf
    have hw : within me 0 (c.n - 1) = true := by simp at h1 h2; simp [within]; omega
    rw [newM, if_pos (by simp [hf, hw])]
    obtain ⟨n, en⟩ := Int.eq_ofNat_of_zero_le (show 0 ≤ c.n by omega)
    have hn' : n ≤ 64 := by omega
    have e := c24 me n (by omega)
    have e2 := c26 n (by omega)
    have ht : c.n.toNat = n := by omega
    rw [ht]
    rw [← en] at e e2
    refine ⟨_, e, _, c25 _ _, mkI (by omega) (by omega) (by omega) ⟨_, e2, .cons (.pv (pv_agg ?_)) (.cons (.pv (.refl _)) .nil)⟩⟩
    simp only [newM1, eMemb, List.map_replicate]
    repeat' refine PVsLe.cons ?_ ?_
    all_goals first | exact .refl _ | exact PVsLe.nil | exact pv_nil | exact pv_rep n (pv_agg (PVsLe.cons pv_nil (PVsLe.cons (.refl _) (PVsLe.cons (.refl _) (PVsLe.cons (.refl _) (PVsLe.cons pv_nil PVsLe.nil)))))))
theorem law_fits (hs : Cl 4 [] [.pv (B true)]) (c : Conf) (me : Int) (hm : c.msg ≤ 9223372036854775807) : Cl 3 [eConf c, I me] [.pv (B true)] := t3 _ _ (by
  refine ⟨_, hs, _, _, c5 c me hm, _, _, c6 c me hm, Fk_t rfl ⟨_, c7 c hm, _, c8 c hm, Fk_t (by simp) ⟨_, sameMm _, Fk_t rfl (rvB.2 (by simp))⟩⟩⟩)
end Go.Proofs.YtndomnacflndmaaGreatDoor.M
