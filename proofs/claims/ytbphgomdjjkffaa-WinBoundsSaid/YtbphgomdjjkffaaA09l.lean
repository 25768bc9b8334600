import Derived.Test.YtbphgomdjjkffaaA09k
set_option linter.all false
set_option linter.unusedVariables false
set_option linter.unusedSimpArgs false
set_option linter.unnecessarySimpa false
namespace Go.Proofs.Ytbphgomdjjkffaa.M
open Go Go.Mir Go.Proofs

theorem u8_mod (a : UInt8) (m : Int) (hm : 0 < m) : 0 ≤ Int.tmod (w64 (a.toNat : Int)) m ∧ Int.tmod (w64 (a.toNat : Int)) m < m := by
  have := a.toNat_lt
  rw [w64_id (by omega) (by omega)]
  exact ⟨Int.tmod_nonneg _ (by omega), Int.tmod_lt_of_pos _ hm⟩
def tok (s : Int) : Item := ⟨3, s, 0, 0, 0, 0, [], []⟩
theorem tok_may {s : Int} (h1 : 1 ≤ s) (h2 : s ≤ 4611686018427387904) : mayI (tok s) = true := by
  simp [tok, mayI, ruleOf, bare, noth, within, h1, h2]
theorem waits_insR (x : Item) (s : Int) : ∀ l : List Item, waits (insR x l) s = (waits l s || x.seq == s)
  | [] => by simp [insR, waits]
  | a :: r => by
    unfold insR; split
    · simp only [waits, List.any_cons]; cases (a.seq == s) <;> cases (x.seq == s) <;> simp
    · have := waits_insR x s r; simp only [waits] at this; simp only [waits, List.any_cons, this, Bool.or_assoc]
theorem asc_len : ∀ {l : List Item} {low m : Int}, asc low l = true → (∀ s, waits l s = true → s ≤ m) → low ≤ m + 1 → (l.length : Int) ≤ m + 1 - low
  | [], _, _, _, _, h => by simp; omega
  | a :: r, low, m, h, hm, _ => by
    obtain ⟨_, h2, h3⟩ := asc_parts h
    have h4 := hm a.seq (by simp [waits])
    have := asc_len h3 (m := m) (fun s hs => hm s (by simp only [waits] at hs; simp [waits, hs])) (by omega)
    simp only [List.length_cons]; omega
theorem asc_at : ∀ {l : List Item} {low : Int} {i : Nat} {x : Item}, asc low l = true → l[i]? = some x → low + i ≤ x.seq
  | [], _, _, _, _, h => by simp at h
  | a :: r, low, i, x, h, hx => by
    obtain ⟨_, g1, g2⟩ := asc_parts h
    cases i with
    | zero => simp at hx; subst hx; omega
    | succ i => have := asc_at g2 (i := i) (by simpa using hx); omega
theorem run_next {l : List Item} {low : Int} {x : Item} (h : asc low l = true) (hx : l[runLen low l]? = some x) : low + runLen low l < x.seq := by
  have := runLen_stop hx; have := asc_at h hx; omega
theorem run_ge {l : List Item} {low m : Int} (h : asc low l = true) (hm : ∀ s, low ≤ s → s ≤ m → waits l s = true) : m + 1 ≤ low + runLen low l := by
  refine Int.not_lt.1 fun hl => ?_
  have hw := hm (low + runLen low l) (by omega) (by omega)
  rw [waits_gap h (Int.le_refl _) (fun x hx => run_next h hx)] at hw
  cases hw
theorem waits_upto {l : List Item} {low s : Int} (h1 : low ≤ s) (h2 : s < low + runLen low l) : waits l s = true := by
  have := waits_run (l := l) (low := low) (j := (s - low).toNat) (by omega)
  rwa [show low + ((s - low).toNat : Int) = s by omega] at this
theorem gap_spec {w : Win} {t : Int} (hr : rightW w = true) (h : w.next + runLen w.next w.l ≤ t) (ht : t ≤ 4611686018427387904) :
    ∃ m : Int, gapW w t = (w.next + runLen w.next w.l, m) ∧ 1 ≤ m ∧ m ≤ 64 ∧ w.next + runLen w.next w.l + m ≤ t + 1 ∧ ∀ s, w.next + runLen w.next w.l ≤ s → s < w.next + runLen w.next w.l + m → waits w.l s = false := by
  have h4 := (right_parts hr).2.2.2
  have e0 : min t 4611686018427387904 = t := by omega
  have e : gapW w t = (w.next + (runLen w.next w.l : Nat), min ((match w.l[runLen w.next w.l]? with
    | some x => min (min t 4611686018427387904) (x.seq - 1)
    | none => min t 4611686018427387904) - (w.next + (runLen w.next w.l : Nat)) + 1) 64) := if_neg (by rw [e0]; omega)
  rw [e, e0]
  refine ⟨_, rfl, ?_⟩
  cases hx : w.l[runLen w.next w.l]? with
  | none =>
    refine ⟨by simp only; omega, by simp only; omega, by simp only; omega, fun s g1 g2 => waits_gap h4 g1 fun x h => (by rw [hx] at h; cases h)⟩
  | some x =>
    have := run_next h4 hx
    refine ⟨by simp only; omega, by simp only; omega, by simp only; omega, fun s g1 g2 => waits_gap h4 g1 fun y h => ?_⟩
    rw [hx] at h; cases h; simp only at g2; omega
/-- Windows of the law: right, from 1, of numbers up to 40. -/
def okF (w : Win) : Prop := rightW w = true ∧ w.next = 1 ∧ ∀ s, waits w.l s = true → s ≤ 40
theorem okF.len {w : Win} (h : okF w) : w.l.length ≤ 40 := by
  have h4 := (right_parts h.1).2.2.2
  rw [h.2.1] at h4
  have := asc_len h4 h.2.2 (by omega); omega
theorem okF.put {w : Win} (h : okF w) {s : Int} (h1 : 1 ≤ s) (h2 : s ≤ 40) : okF (putW w (tok s) 64).1 ∧ (waits w.l s = false → (putW w (tok s) 64).2 = true ∧ ∀ u, waits (putW w (tok s) 64).1.l u = (waits w.l u || s == u)) := by
  have hr := right_put h.1 (tok s) 64
  have h4 := (right_parts h.1).2.2.2
  have hlen := h.len
  rw [put_eq h4] at hr ⊢
  have hw := waits_insR (tok s)
  rcases put_cases w (tok s) 64 with e | ⟨a, b, c, d, e, f⟩
  · refine ⟨by rw [e]; exact h, fun hn => ?_⟩
    have : putR w (tok s) 64 = (⟨w.next, insR (tok s) w.l⟩, true) := if_neg (by
      have hm := tok_may h1 (show s ≤ 4611686018427387904 by omega)
      have h5 := h.2.1
      have : (tok s).seq = s := rfl
      simp only [hm, this, hn, h5]; simp; omega)
    rw [this] at e; injection e with _ e; cases e
  · rw [f] at hr ⊢
    refine ⟨⟨hr, h.2.1, fun u hu => ?_⟩, fun _ => ⟨rfl, fun u => hw u w.l⟩⟩
    simp only [hw] at hu
    rcases Bool.or_eq_true_iff.1 hu with hu | hu
    · exact h.2.2 u hu
    · have : s = u := by simpa [tok] using hu
      omega
set_option maxHeartbeats 1000000 in
theorem winFills (l : List UInt8) (top : UInt8) : Cl 6 [lU8 l, U8 top] [.pv (B true)] := t6 _ _ (by
  simp only [P6, SmA_true, true_and, Ln, Nz, List.length_map]
  obtain ⟨t0, t1⟩ := u8_mod top 41 (by omega)
  generalize Int.tmod (w64 (top.toNat : Int)) 41 = t at *
  refine ⟨_, c8, fun hl => Fk_of (fun _ => .refl _) fun h60 => ⟨_, c15, ?_⟩⟩
  refine Lo_drop l (fun i r v => ∃ w : Win, v = (true, (i : Int), (w.next, List.map eItem w.l, ()), ()) ∧ okF w) ?_ ?_ ⟨newW, rfl, by kernel_rfl, rfl, fun s hs => by cases hs⟩
  rotate_left
  · rintro L i a r _ hi ha _ ⟨w, rfl, hw⟩ hL
    obtain ⟨a0, a1⟩ := u8_mod a 40 (by omega)
    refine Fk_t (by simpa using hi) (Ix_nat ha ⟨by omega, ?_⟩)
    generalize Int.tmod (w64 (a.toNat : Int)) 40 = s at *
    have e : w64 (1 + s) = 1 + s := w64_id (by omega) (by omega)
    rw [e]
    exact ⟨_, _, (c17 w (tok (1 + s)) 64).dull rfl, hL _ ⟨(putW w (tok (1 + s)) 64).1, by simp only [w64_succ hi hl], (hw.put (s := 1 + s) (by omega) (by omega)).1⟩⟩
  rintro L _ ⟨w, rfl, hw⟩
  refine Fk_f (by simp) ⟨by omega, ?_⟩
  refine Jn_mid (fun v => ∃ w : Win, v = (true, (w.next, List.map eItem w.l, ()), ()) ∧ okF w ∧ t ≤ runLen 1 w.l) (fun j hj => ?_) ?_
  · -- filling
    refine Lo_up 42 (fun n v => ∃ w : Win, v = (true, (n : Int), (w.next, List.map eItem w.l, ()), ()) ∧ okF w ∧ n ≤ runLen 1 w.l) ?_ (i := 0) (Nat.zero_le _) ⟨w, rfl, hw, Nat.zero_le _⟩
    rintro L n _ hn ⟨w, rfl, hw, hrun⟩ hL
    have hlen := hw.len
    have hk := runLen_le 1 w.l
    refine Fk_t (by simp; omega) ?_
    refine Jn_mid (fun v => ∃ w : Win, v = (true, (n : Int), (w.next, List.map eItem w.l, ()), ()) ∧ okF w ∧ n + 1 ≤ runLen 1 w.l) (fun j2 hj2 => ?_) ?_
    rotate_left
    · rintro _ ⟨w2, rfl, hw2, hr2⟩
      have e : w64 ((n : Int) + 1) = ((n + 1 : Nat) : Int) := w64_succ (n := 100) (by omega) (by omega)
      exact hL _ (by omega) ⟨w2, by simp only [e], hw2, hr2⟩
    refine ⟨_, _, (c23 w t hw.1).dull rfl, ?_⟩
    obtain ⟨r1, r2, r3, r4⟩ := right_parts hw.1
    have hnx := hw.2.1
    rw [hnx] at r4
    by_cases hd : t ≤ runLen 1 w.l
    · have e : gapW w t = (0, 0) := if_pos (by rw [hnx]; omega)
      rw [e]
      exact Fk_t rfl (hj _ ⟨w, rfl, hw, hd⟩)
    · obtain ⟨m, hm, hm1, hm2, hm3, hm4⟩ := gap_spec (t := t) hw.1 (by rw [hnx]; omega) (by omega)
      rw [hnx] at hm hm3 hm4
      rw [hm]
      refine Fk_f (by simp; omega) ?_
      generalize hlo : 1 + (runLen 1 w.l : Int) = lo at *
      refine Lo_up m.toNat (fun k v => ∃ w' : Win, v = (true, (n : Int), lo, m, (k : Int), (w'.next, List.map eItem w'.l, ()), ()) ∧ okF w' ∧ ∀ s, waits w'.l s = (waits w.l s || (decide (lo ≤ s) && decide (s < lo + k)))) ?_ (i := 0) (Nat.zero_le _) ⟨w, rfl, hw, fun s => by
        have : (decide (lo ≤ s) && decide (s < lo + ((0 : Nat) : Int))) = false := by simp
        rw [this, Bool.or_false]⟩
      rintro L' k _ hk' ⟨w', rfl, hw', hwt⟩ hL'
      refine Fk_of (fun h => ?_) fun h => ?_
      · simp at h
        refine Fk_t (by simp; omega) ?_
        have e : w64 (lo + k) = lo + k := w64_id (by omega) (by omega)
        rw [e]
        have hp := hw'.put (s := lo + k) (by omega) (by omega)
        have hn : waits w'.l (lo + k) = false := by
          rw [hwt, hm4 _ (by omega) (by omega)]; simp
        obtain ⟨p1, p2⟩ := hp.2 hn
        refine ⟨_, _, (c17 w' (tok (lo + k)) 64).dull rfl, Fk_f (by rw [p1]; rfl) (hL' _ (by omega) ⟨(putW w' (tok (lo + k)) 64).1, ?_, hp.1, fun s => ?_⟩)⟩
        · have e7 : w64 ((k : Int) + 1) = ((k + 1 : Nat) : Int) := w64_succ (n := 100) (by omega) (by omega)
          simp only [e7]
        · rw [p2, hwt, Bool.or_assoc]
          congr 1
          rw [Bool.eq_iff_iff]; simp; omega
      · simp at h
        have hkm : (k : Int) = m := by omega
        refine hj2 _ ⟨w', rfl, hw', ?_⟩
        have g4 := (right_parts hw'.1).2.2.2
        rw [hw'.2.1] at g4
        have := run_ge (m := lo) g4 (fun s g1 g2 => by
          rw [hwt]
          by_cases hs : s < lo
          · rw [waits_upto (low := 1) g1 (by omega)]; rfl
          · have : s = lo := by omega
            simp; right; omega)
        omega
  · rintro _ ⟨w, rfl, hw, hrun⟩
    -- taking
    refine Lo_up t.toNat (fun i v => ∃ w : Win, v = (true, (i : Int) + 1, (w.next, List.map eItem w.l, ()), ()) ∧ rightW w = true ∧ w.next = i + 1 ∧ t ≤ runLen w.next w.l + i) ?_ (i := 0) (Nat.zero_le _) ⟨w, rfl, hw.1, hw.2.1, by rw [hw.2.1]; omega⟩
    rintro L i _ hi ⟨w, rfl, hr, hn, hk⟩ hL
    obtain ⟨r1, r2, r3, r4⟩ := right_parts hr
    refine Fk_of (fun h => ?_) fun _ => .refl _
    simp at h
    refine ⟨_, _, _, (c21 w (by omega)).dull rfl, ?_⟩
    obtain ⟨x, hx, hs⟩ := runLen_seq (l := w.l) (low := w.next) (j := 0) (by omega)
    cases hwl : w.l with
    | nil => rw [hwl] at hx; cases hx
    | cons y r =>
      rw [hwl] at hx; simp at hx; subst hx
      have hs' : y.seq = w.next := by omega
      have e : takeW w = (y, ⟨w64 (w.next + 1), r⟩, true) := by
        have ep : peekW w = (y, true) := by simp only [peekW, hwl, if_pos hs']
        simp only [takeW, ep, hwl, if_true]; rfl
      have hr2 := right_take hr
      rw [e] at hr2
      have e2 : w64 (w.next + 1) = w.next + 1 := w64_id (by omega) (by omega)
      have e3 : w64 ((i : Int) + 1 + 1) = ((i + 1 : Nat) : Int) + 1 := by rw [w64_id (by omega) (by omega)]; omega
      simp only [e]
      refine Fk_f rfl (Fk_f (by simp; omega) (hL _ (by omega) ⟨⟨w64 (w.next + 1), r⟩, by simp only [e3], hr2, by simp only [e2]; omega, ?_⟩))
      simp only [e2]
      rw [hwl] at hk
      unfold runLen at hk
      rw [if_pos hs'] at hk
      omega)
end Go.Proofs.Ytbphgomdjjkffaa.M
