import Derived.Test.YtbphgomdjjkffaaW9s
set_option linter.all false
set_option linter.unusedVariables false
set_option linter.unusedSimpArgs false
set_option linter.unnecessarySimpa false
namespace Go.Proofs.Ytbphgomdjjkffaa.M
open Go Go.Mir Go.Proofs
namespace W9
theorem take_run {l : List Item} {k : Nat} (h : asc 1 l = true) (hk : k ≤ runLen 1 l) (hl : l.length ≤ 100) :
    (k < runLen 1 l → ∃ x, x ∈ l ∧ x.seq = 1 + k ∧ takeW ⟨1 + k, l.drop k⟩ = (x, ⟨1 + ((k + 1 : Nat) : Int), l.drop (k + 1)⟩, true)) ∧ (k = runLen 1 l → ∃ w, takeW ⟨1 + k, l.drop k⟩ = (zI, w, false)) := by
  have hle := runLen_le 1 l
  refine ⟨fun hlt => ?_, fun he => ?_⟩
  · obtain ⟨x, hx, hs⟩ := runLen_seq hlt
    have hd : l.drop k = x :: l.drop (k + 1) := by
      have hk' : k < l.length := by omega
      rw [List.drop_eq_getElem_cons hk']
      rw [List.getElem?_eq_getElem hk'] at hx
      rw [Option.some.inj hx]
    refine ⟨x, List.mem_of_getElem? hx, hs, ?_⟩
    have e1 : w64 (1 + (k : Int) + 1) = 1 + ((k + 1 : Nat) : Int) := by rw [w64_id (by omega) (by omega)]; omega
    unfold takeW peekW
    simp only [hd, hs, if_true, List.drop_one, List.tail_cons, e1]
  · cases hx : l[k]? with
    | none =>
      have : l.drop k = [] := List.drop_eq_nil_of_le (List.getElem?_eq_none_iff.1 hx)
      refine ⟨⟨1 + k, l.drop k⟩, ?_⟩
      unfold takeW peekW
      simp [this]
    | some x =>
      have hd : l.drop k = x :: l.drop (k + 1) := by
        have hk' := (List.getElem?_eq_some_iff.1 hx).1
        rw [List.drop_eq_getElem_cons hk']
        rw [List.getElem?_eq_getElem hk'] at hx
        rw [Option.some.inj hx]
      have := run_next h (he ▸ hx)
      refine ⟨⟨1 + k, l.drop k⟩, ?_⟩
      unfold takeW peekW
      have ne : x.seq ≠ 1 + (k : Int) := by omega
      simp [hd, ne]
set_option maxHeartbeats 2000000 in
theorem winOrder (l : List UInt8) (top : UInt8) : Cl 5 [lU8 l, U8 top] [.pv (B true)] := t5 _ _ (by
  simp only [P5, SmA_true, true_and, Ln, Nz, List.length_map]
  obtain ⟨t0, t1⟩ := u8_mod top 40 (by omega)
  generalize Int.tmod (w64 (top.toNat : Int)) 40 = t at *
  refine ⟨_, c8, fun hl => Fk_of (fun _ => .refl _) fun h100 => ⟨_, c15, ?_⟩⟩
  have hl100 : l.length ≤ 100 := by simp at h100; omega
  refine Lo_drop l (fun i r v => ∃ F w, v = (true, (i : Int), List.map I F, (w.next, List.map eItem w.l, ()), ()) ∧ IV F w) ?_ ?_ ⟨List.replicate 31 0, newW, rfl, by kernel_rfl, rfl, rfl, fun x hx => (by cases hx), fun n hn _ => by rw [List.getElem?_replicate, if_pos hn]⟩
  rotate_left
  · rintro L i a r _ hi ha _ ⟨F, w, rfl, hw⟩ hL
    obtain ⟨a0, a1⟩ := u8_mod a 30 (by omega)
    refine Fk_t (by simpa using hi) (Ix_nat ha ⟨by omega, ?_⟩)
    generalize Int.tmod (w64 (a.toNat : Int)) 30 = n' at *
    have en : w64 (1 + n') = 1 + n' := w64_id (by omega) (by omega)
    simp only [en]
    generalize hn : 1 + n' = n at *
    obtain ⟨v, hv, hvw, v0, v1, _⟩ := hw.at (n := n) (by omega) (by omega)
    obtain ⟨p1, p2⟩ := hw.put (n := n) (i := i) (by omega) (by omega) (by omega) (by omega)
    have ei : w64 ((i : Int) + 1) = ((i + 1 : Nat) : Int) := w64_succ (n := 1000) (by omega) (by omega)
    cases hwt : waits w.l n with
    | true =>
      have e := p1 hwt
      have hv0 : (v == 0) = false := by rw [hwt] at hvw; simpa using hvw
      have c := c17 w (ack n i) 64
      rw [e] at c
      refine ⟨_, _, c.dull rfl, ⟨by omega, by omega, Ld_map hv (Fk_f (by simp [hv0]) ?_)⟩⟩
      refine Jn_mid (fun u => u = (true, (i : Int), List.map I F, (w.next, List.map eItem w.l, ()), (w.next, List.map eItem w.l, ()), ())) (fun j hj => Fk_f rfl (hj _ rfl)) ?_
      rintro _ rfl
      exact hL _ ⟨F, w, by simp only [ei], hw⟩
    | false =>
      obtain ⟨w', e, hw'⟩ := p2 hwt
      have hv0 : (v == 0) = true := by rw [hwt] at hvw; simpa using hvw
      have c := c17 w (ack n i) 64
      rw [e] at c
      refine ⟨_, _, c.dull rfl, ⟨by omega, by omega, Ld_map hv (Fk_f (by simp [hv0]) ?_)⟩⟩
      refine Jn_mid (fun u => u = (true, (i : Int), List.map I (F.set n.toNat ((i : Int) + 1)), (w.next, List.map eItem w.l, ()), (w'.next, List.map eItem w'.l, ()), ())) (fun j hj => Fk_t rfl ⟨by omega, by omega, Ld_map hv (hj _ ?_)⟩) ?_
      · rw [List.map_set, ei]; rfl
      · rintro _ rfl
        exact hL _ ⟨_, w', by simp only [ei], hw'⟩
  rintro L _ ⟨F, w, rfl, hw⟩
  obtain ⟨r1, r2, r3, r4⟩ := right_parts hw.right
  have hnx := hw.next
  have has := hw.asc
  have hll := hw.llen
  have hrl := runLen_le 1 w.l
  have hrun : runLen 1 w.l ≤ 30 := by omega
  refine Fk_f (by simp) ⟨by omega, ?_⟩
  -- what is missing
  obtain ⟨lo, many, hg, hlo⟩ : ∃ lo many : Int, gapW w t = (lo, many) ∧ ((t ≤ runLen 1 w.l ∧ lo = 0 ∧ many = 0) ∨ ((runLen 1 w.l : Int) < t ∧ lo = 1 + runLen 1 w.l ∧ 1 ≤ many ∧ many ≤ 64 ∧ lo + many ≤ t + 1 ∧ ∀ s, lo ≤ s → s < lo + many → waits w.l s = false)) := by
    by_cases hd : t ≤ runLen 1 w.l
    · exact ⟨0, 0, if_pos (by rw [hnx]; omega), .inl ⟨hd, rfl, rfl⟩⟩
    · obtain ⟨m, hm, hm1, hm2, hm3, hm4⟩ := gap_spec (t := t) hw.right (by rw [hnx]; omega) (by omega)
      rw [hnx] at hm hm3 hm4
      exact ⟨_, m, hm, .inr ⟨by omega, rfl, hm1, hm2, hm3, hm4⟩⟩
  have cg := c23 w t hw.right
  rw [hg] at cg
  refine ⟨_, _, cg.dull rfl, ?_⟩
  refine Jn_mid (fun u => u = (true, lo, many, lo, List.map I F, (w.next, List.map eItem w.l, ()), ())) (fun j hj => ?_) ?_
  · -- the first number that didn't come
    refine Lo_up 42 (fun k v => ∃ miss : Int, v = (true, lo, many, miss, 1 + (k : Int), List.map I F, (w.next, List.map eItem w.l, ()), ()) ∧ (k : Int) ≤ t ∧ ((miss = 0 ∧ k ≤ runLen 1 w.l) ∨ (miss = 1 + runLen 1 w.l ∧ (runLen 1 w.l : Int) < t))) ?_ (i := 0) (Nat.zero_le _) ⟨0, rfl, by omega, .inl ⟨rfl, by omega⟩⟩
    rintro L' k _ hk ⟨miss, rfl, hkt, hm⟩ hL'
    have e1 : w64 (1 + (k : Int) + 1) = 1 + ((k + 1 : Nat) : Int) := by rw [w64_id (by omega) (by omega)]; omega
    refine Fk_of (fun h => ?_) fun h => ?_
    · simp at h
      refine Fk_of (fun h' => ?_) fun h' => ?_
      · simp at h'
        rcases hm with ⟨hm0, hkr⟩ | ⟨hm0, _⟩
        rotate_left
        · omega
        subst hm0
        have hwr := run_waits has hkr
        refine Jn_mid (fun u => ∃ miss : Int, u = (true, lo, many, miss, 1 + (k : Int), List.map I F, (w.next, List.map eItem w.l, ()), ()) ∧ ((miss = 0 ∧ k + 1 ≤ runLen 1 w.l) ∨ (miss = 1 + runLen 1 w.l ∧ (runLen 1 w.l : Int) < t))) (fun j2 hj2 => ?_) ?_
        · refine Fk_of (fun h3 => ?_) fun h3 => ?_
          · simp at h3
            exact hj2 _ ⟨1 + (k : Int), rfl, .inr ⟨by omega, by omega⟩⟩
          · simp at h3
            obtain ⟨v, hv, hvw, _⟩ := hw.at (n := 1 + (k : Int)) (by omega) (by omega)
            refine ⟨by dsimp only; omega, by dsimp only; omega, Ld_map hv (Fk_of (fun h4 => ?_) fun h4 => ?_)⟩
            · have h5 : (v != 0) = false := by simpa using h4
              rw [hvw, hwr] at h5
              simp at h5
              exact hj2 _ ⟨1 + (k : Int), rfl, .inr ⟨by omega, by omega⟩⟩
            · have h5 : (v != 0) = true := by simpa using h4
              rw [hvw, hwr] at h5
              simp at h5
              exact hj2 _ ⟨_, rfl, .inl ⟨rfl, by omega⟩⟩
        · rintro _ ⟨miss, rfl, hm⟩
          exact hL' _ (by omega) ⟨miss, by simp only [e1], by omega, hm⟩
      · simp at h'
        rcases hm with ⟨hm0, hkr⟩ | ⟨hm0, hlt⟩
        · exact absurd hm0 h'
        · refine hj _ ?_
          rcases hlo with ⟨g1, g2, g3⟩ | ⟨g1, g2, _⟩
          · omega
          · simp only [hm0, g2]
    · simp at h
      refine hj _ ?_
      rcases hm with ⟨hm0, hkr⟩ | ⟨hm0, hlt⟩ <;> rcases hlo with ⟨g1, g2, g3⟩ | ⟨g1, g2, _⟩
      · simp only [hm0, g2]
      · omega
      · omega
      · simp only [hm0, g2]
  rintro _ rfl
  refine Fk_f (by simp) (Fk_f ?_ ?_)
  · rcases hlo with ⟨_, g2, g3⟩ | ⟨_, g2, g3, _⟩
    · simp [g2, g3]
    · have a1 : (lo == 0) = false := by simp; omega
      have a2 : (many == 0) = false := by simp; omega
      simp [a1, a2]
  have hlm : w64 (lo + many) = lo + many := w64_id (by omega) (by omega)
  simp only [hlm]
  refine Lo_up 42 (fun k v => v = (true, lo, many, lo + (k : Int), List.map I F, (w.next, List.map eItem w.l, ()), ()) ∧ (k : Int) ≤ many) ?_ (i := 0) (Nat.zero_le _) ⟨by simp, by omega⟩
  rintro L3 k _ hk ⟨rfl, hkm⟩ hL3
  refine Fk_of (fun h => ?_) fun h => ?_
  · simp at h
    rcases hlo with ⟨g1, g2, g3⟩ | ⟨g1, g2, g3, g4, g5, g6⟩
    · omega
    have hwf := g6 (lo + k) (by omega) (by omega)
    refine Jn_mid (fun u => u = (true, lo, many, lo + (k : Int), List.map I F, (w.next, List.map eItem w.l, ()), ())) (fun j2 hj2 => ?_) ?_
    · refine Fk_f (by simp; omega) (Fk_f (by simp; omega) (Fk_of (fun h3 => ?_) fun _ => hj2 _ rfl))
      simp at h3
      obtain ⟨v, hv, hvw, _⟩ := hw.at (n := lo + k) (by omega) (by omega)
      refine ⟨by dsimp only; omega, by dsimp only; omega, Ld_map hv (Fk_f (by rw [hvw, hwf]) (hj2 _ rfl))⟩
    · rintro _ rfl
      have e1 : w64 (lo + (k : Int) + 1) = lo + ((k + 1 : Nat) : Int) := by rw [w64_id (by omega) (by omega)]; omega
      exact hL3 _ (by omega) ⟨by simp only [e1], by omega⟩
  -- what is taken
  refine Lo_up 42 (fun k v => v = (true, 1 + (k : Int), List.map I F, (1 + (k : Int), List.map eItem (w.l.drop k), ()), ()) ∧ k ≤ runLen 1 w.l) ?_ (i := 0) (Nat.zero_le _) ⟨by simp [hnx], by omega⟩
  rintro L4 k _ hk4 ⟨rfl, hkr⟩ hL4
  refine Fk_of (fun h4 => ?_) fun _ => .refl _
  simp at h4
  obtain ⟨q1, q2⟩ := take_run has hkr (by omega)
  have hwr := run_waits has hkr
  refine Jn_mid (fun u => u = (true, 1 + (k : Int), List.map I F, (1 + ((k + 1 : Nat) : Int), List.map eItem (w.l.drop (k + 1)), ()), ()) ∧ k + 1 ≤ runLen 1 w.l) (fun j2 hj2 => ?_) ?_
  rotate_left
  · rintro _ ⟨rfl, hk5⟩
    have e1 : w64 (1 + (k : Int) + 1) = 1 + ((k + 1 : Nat) : Int) := by rw [w64_id (by omega) (by omega)]; omega
    exact hL4 _ (by omega) ⟨by simp only [e1], hk5⟩
  have ct := c21 ⟨1 + (k : Int), w.l.drop k⟩ (by simp; omega)
  rcases Nat.lt_or_ge k (runLen 1 w.l) with hlt | hge
  · obtain ⟨x, hxm, hxs, e⟩ := q1 hlt
    rw [e] at ct
    refine ⟨_, _, _, ct, Fk_t (by simp; omega) ?_⟩
    obtain ⟨v, hv, hvw, v0, v1, hvx⟩ := hw.at (n := 1 + (k : Int)) (by omega) (by omega)
    have h6 : (v != 0) = true := by rw [hvw, hwr]; simp [hlt]
    have hc := hvx x hxm hxs
    have ec : w64 (v - 1) = v - 1 := w64_id (by omega) (by omega)
    refine ⟨by dsimp only; omega, by dsimp only; omega, Ld_map hv (Fk_f (by simp [h6]) (Fk_f rfl (Fk_f (by simp [hxs]) ⟨by dsimp only; omega, by dsimp only; omega, Ld_map hv (Fk_f (by rw [ec]; simp; omega) (hj2 _ ⟨rfl, by omega⟩))⟩)))⟩
  · obtain ⟨w', e⟩ := q2 (by omega)
    rw [e] at ct
    refine ⟨_, _, _, ct, Fk_of (fun h5 => ?_) fun h5 => Fk_f rfl (Fk_t rfl (.refl _))⟩
    simp at h5
    obtain ⟨v, hv, hvw, v0, v1, hvx⟩ := hw.at (n := 1 + (k : Int)) (by omega) (by omega)
    have h6 : (v != 0) = false := by rw [hvw, hwr]; simp; omega
    exact ⟨by dsimp only; omega, by dsimp only; omega, Ld_map hv (Fk_f (by simp [h6]) (Fk_t rfl (.refl _)))⟩)
end W9
theorem winOrder (l : List UInt8) (top : UInt8) : Cl 5 [lU8 l, U8 top] [.pv (B true)] := W9.winOrder l top
end Go.Proofs.Ytbphgomdjjkffaa.M
