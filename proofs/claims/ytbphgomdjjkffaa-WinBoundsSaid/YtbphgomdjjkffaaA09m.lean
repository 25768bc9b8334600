import Derived.Test.YtbphgomdjjkffaaA09l
set_option linter.all false
set_option linter.unusedVariables false
set_option linter.unusedSimpArgs false
set_option linter.unnecessarySimpa false
namespace Go.Proofs.Ytbphgomdjjkffaa.M
open Go Go.Mir Go.Proofs

set_option maxHeartbeats 1000000 in
theorem winBounds (nx last : UInt8) (l : List UInt8) : Cl 7 [U8 nx, U8 last, lU8 l] [.pv (B true)] := t7 _ _ _ (by
  simp only [P7, SmA_true, true_and, Ln, Nz, List.length_map]
  obtain ⟨n0, n1⟩ := u8_mod nx 20 (by omega)
  obtain ⟨b0, b1⟩ := u8_mod last 60 (by omega)
  generalize Int.tmod (w64 (nx.toNat : Int)) 20 = n' at *
  generalize Int.tmod (w64 (last.toNat : Int)) 60 = b at *
  have en : w64 (1 + n') = 1 + n' := w64_id (by omega) (by omega)
  simp only [en]
  generalize hn : 1 + n' = n at *
  refine ⟨_, c8, fun hl => Fk_of (fun _ => .refl _) fun h80 => ⟨by omega, by omega, ?_⟩⟩
  refine Lo_drop l (fun i r v => ∃ w : Win, v = (true, (i : Int), (w.next, List.map eItem w.l, ()), ()) ∧ rightW w = true ∧ w.next = n ∧ ∀ s, waits w.l s = true → s ≤ b) ?_ ?_ ⟨⟨n, []⟩, rfl, right_mk (by simp only; omega) (by simp only; omega) (by simp) rfl, rfl, fun s hs => by cases hs⟩
  · rintro L _ ⟨w, rfl, hr, hw, hb⟩
    obtain ⟨r1, r2, r3, r4⟩ := right_parts hr
    refine Fk_f (by simp) ?_
    refine Lo_drop w.l (fun i r v => v = (true, (i : Int), (w.next, List.map eItem w.l, ()), ())) ?_ ?_ rfl
    · rintro L _ rfl _
      refine Fk_f (by simp) ?_
      have e1 : w64 (n + b) = n + b := w64_id (by omega) (by omega)
      have e2 : w64 (n + b + 1) = n + b + 1 := w64_id (by omega) (by omega)
      simp only [e1, e2]
      refine ⟨_, _, (c17 ⟨n, []⟩ (tok (n + b)) (n + b)).dull rfl, _, _, (c17 ⟨n, []⟩ (tok (n + b + 1)) (n + b)).dull rfl, Fk_t rfl (Fk_t ?_ ?_)⟩
      · have : putW ⟨n, []⟩ (tok (n + b)) (n + b) = (insW ⟨n, []⟩ (tok (n + b)), true) := if_neg (by
          have hm := tok_may (s := n + b) (by omega) (by omega)
          simp only [hm]; simp [tok, found]; omega)
        rw [this]
      · have : putW ⟨n, []⟩ (tok (n + b + 1)) (n + b) = (⟨n, []⟩, false) := if_pos (.inr (.inr (.inl (by simp [tok]; omega))))
        rw [this]; exact .refl _
    · rintro L i a r _ hi ha _ rfl hL hl
      simp only [List.length_map] at hl
      have h1 := asc_ge r4 a (List.mem_of_getElem? ha)
      have h2 := hb a.seq (waits_at ha)
      refine Fk_t (by simpa using hi) (Ix_nat ha (Fk_f (by simp; omega) (Ix_nat ha (Fk_f (by simp; omega) (hL _ ?_)))))
      simp only [w64_succ hi hl]
  · rintro L i a r _ hi ha _ ⟨w, rfl, hr, hw, hb⟩ hL
    obtain ⟨a0, a1⟩ := u8_mod a 60 (by omega)
    refine Fk_t (by simpa using hi) (Ix_nat ha ⟨by omega, ?_⟩)
    generalize Int.tmod (w64 (a.toNat : Int)) 60 = s' at *
    have e : w64 (1 + s') = 1 + s' := w64_id (by omega) (by omega)
    simp only [e]
    generalize hs : 1 + s' = s at *
    refine ⟨_, _, (c17 w (tok s) b).dull rfl, ?_⟩
    have hr2 := right_put hr (tok s) b
    have hq := put_eq (right_parts hr).2.2.2 (tok s) b
    rw [hq] at hr2 ⊢
    refine Jn_mid (fun v => v = (true, (i : Int), (w.next, List.map eItem w.l, ()), ((putR w (tok s) b).1.next, List.map eItem (putR w (tok s) b).1.l, ()), ())) (fun j hj => ?_) ?_
    · rcases put_cases w (tok s) b with e | ⟨g1, g2, g3, g4, g5, e⟩
      · rw [e] at hj ⊢
        exact Fk_f rfl (Fk_t rfl ⟨_, c14 w w, Fk_f (by rw [sameW_refl]; rfl) (hj _ rfl)⟩)
      · have : (tok s).seq = s := rfl
        rw [this] at g2 g3
        rw [e] at hj ⊢
        exact Fk_t rfl (Fk_f (by simp; omega) (Fk_f (by simp; omega) (Fk_f rfl (hj _ rfl))))
    · rintro _ rfl
      refine hL _ ⟨(putR w (tok s) b).1, by simp only [w64_succ hi hl], hr2, ?_, ?_⟩
      · rcases put_cases w (tok s) b with e | ⟨g1, g2, g3, g4, g5, e⟩ <;> rw [e] <;> exact hw
      · rcases put_cases w (tok s) b with e | ⟨g1, g2, g3, g4, g5, e⟩ <;> rw [e]
        · exact hb
        · intro u hu
          rw [waits_insR] at hu
          rcases Bool.or_eq_true_iff.1 hu with hu | hu
          · exact hb u hu
          · have : s = u := by simpa [tok] using hu
            have : (tok s).seq = s := rfl
            omega)
end Go.Proofs.Ytbphgomdjjkffaa.M
