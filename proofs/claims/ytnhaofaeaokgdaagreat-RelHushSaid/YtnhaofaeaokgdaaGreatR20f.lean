import Derived.Test.YtnhaofaeaokgdaaGreatR20e
set_option linter.all false
set_option linter.unusedVariables false
set_option linter.unusedSimpArgs false
set_option linter.unnecessarySimpa false
namespace Go.Proofs.YtnhaofaeaokgdaaGreat.M
open Go Go.Mir Go.Proofs

/-! ### What is heard -/
/-- Streams that are right, of N members. -/
structure WF (r : Rel) (N : Nat) : Prop where
  n2 : 2 ≤ N
  n64 : N ≤ 64
  me0 : 0 ≤ r.me
  meN : r.me < N
  win : r.win.length = N
  top : r.top.length = N
  ask : r.ask.length = N
  have_ : r.have_.length = N
  lost : r.lost.length ≤ 64
  naks0 : 0 ≤ r.naks
  naks : r.naks ≤ 1000
  keep : K8.rightK r.keep = true
  now0 : 0 ≤ r.now
  now : r.now ≤ 4611686018427387904
  wins : ∀ w ∈ r.win, W9.rightW w = true
  tops : ∀ t ∈ r.top, 0 ≤ t ∧ t ≤ 4611686018427387904
  asks : ∀ a ∈ r.ask, 0 ≤ a.due ∧ a.due ≤ 4611686018427388904
  haves : ∀ h ∈ r.have_, h.length = N
theorem cnt_iff {n : Int} (h : cnt n = true) : 0 ≤ n ∧ n ≤ 4611686018427387904 := by simpa [cnt, within] using h
theorem WF.of {r : Rel} {n : Int} (h : rightR r n = true) : ∃ N : Nat, n = N ∧ WF r N := by
  simp only [rightR, rightH, Bool.and_eq_true, beq_iff_eq, decide_eq_true_eq] at h
  obtain ⟨⟨⟨⟨⟨⟨⟨⟨⟨⟨h1, h2⟩, h3⟩, h4⟩, h5⟩, h6⟩, h7⟩, h8⟩, h9⟩, h10⟩, h11, h12⟩ := h
  simp only [within, Bool.and_eq_true, decide_eq_true_eq] at h1 h2 h8
  have h10 := cnt_iff h10
  have hall : ∀ i, i < r.win.length → chk r n i = true := fun i hi => List.all_eq_true.1 h11 i (List.mem_range.2 hi)
  have parts : ∀ i, i < r.win.length → ∃ w t a hv, r.win[i]? = some w ∧ r.top[i]? = some t ∧ r.ask[i]? = some a ∧ r.have_[i]? = some hv ∧ W9.rightW w = true ∧ cnt t = true ∧ due a = true ∧ cntL n hv = true := fun i hi => by
    have := hall i hi
    unfold chk at this
    split at this
    · rename_i w t a hv e1 e2 e3 e4
      simp only [Bool.and_eq_true] at this
      exact ⟨w, t, a, hv, e1, e2, e3, e4, this.1.1.1, this.1.1.2, this.1.2, this.2⟩
    · cases this
  refine ⟨r.win.length, h3.symm, ?_, ?_, h2.1, by omega, rfl, by omega, by omega, by omega, by omega, h8.1, h8.2, h9, h10.1, h10.2, fun w hw => ?_, fun t ht => ?_, fun a ha => ?_, fun hv hh => ?_⟩
  · omega
  · omega
  · obtain ⟨i, hi⟩ := List.getElem?_of_mem hw
    have hl := (List.getElem?_eq_some_iff.1 hi).1
    obtain ⟨w', _, _, _, e1, _, _, _, q, _⟩ := parts i hl
    rw [hi] at e1; cases e1; exact q
  · obtain ⟨i, hi⟩ := List.getElem?_of_mem ht
    have hl := (List.getElem?_eq_some_iff.1 hi).1
    obtain ⟨_, t', _, _, _, e1, _, _, _, q, _⟩ := parts i (by omega)
    rw [hi] at e1; cases e1; exact cnt_iff q
  · obtain ⟨i, hi⟩ := List.getElem?_of_mem ha
    have hl := (List.getElem?_eq_some_iff.1 hi).1
    obtain ⟨_, _, a', _, _, _, e1, _, _, _, q, _⟩ := parts i (by omega)
    rw [hi] at e1; cases e1; simpa [due, within] using q
  · obtain ⟨i, hi⟩ := List.getElem?_of_mem hh
    have hl := (List.getElem?_eq_some_iff.1 hi).1
    obtain ⟨_, _, _, h', _, _, _, e1, _, _, _, q⟩ := parts i (by omega)
    rw [hi] at e1; cases e1
    simp only [cntL, Bool.and_eq_true, beq_iff_eq] at q
    omega
def nthW (l : List Win) (i : Nat) : Win := (l[i]?).getD ⟨0, []⟩
def nthA (l : List Ask) (i : Nat) : Ask := (l[i]?).getD ⟨0⟩
def nthL (l : List (List Int)) (i : Nat) : List Int := (l[i]?).getD []
theorem nthW_get {l : List Win} {i : Nat} (h : i < l.length) : l[i]? = some (nthW l i) := by simp [nthW, h]
theorem nthA_get {l : List Ask} {i : Nat} (h : i < l.length) : l[i]? = some (nthA l i) := by simp [nthA, h]
theorem nthL_get {l : List (List Int)} {i : Nat} (h : i < l.length) : l[i]? = some (nthL l i) := by simp [nthL, h]
theorem atN_get {l : List Int} {i : Nat} (h : i < l.length) : l[i]? = some (atN l i) := by simp [atN, h]
theorem WF.w {r : Rel} {N : Nat} (h : WF r N) {i : Nat} (hi : i < N) : W9.rightW (nthW r.win i) = true := h.wins _ (List.mem_of_getElem? (nthW_get (by rw [h.win]; exact hi)))
theorem WF.t {r : Rel} {N : Nat} (h : WF r N) {i : Nat} (hi : i < N) : 0 ≤ atN r.top i ∧ atN r.top i ≤ 4611686018427387904 := h.tops _ (List.mem_of_getElem? (atN_get (by rw [h.top]; exact hi)))
theorem WF.a {r : Rel} {N : Nat} (h : WF r N) {i : Nat} (hi : i < N) : 0 ≤ (nthA r.ask i).due ∧ (nthA r.ask i).due ≤ 4611686018427388904 := h.asks _ (List.mem_of_getElem? (nthA_get (by rw [h.ask]; exact hi)))
theorem WF.h {r : Rel} {N : Nat} (h : WF r N) {i : Nat} (hi : i < N) : (nthL r.have_ i).length = N := h.haves _ (List.mem_of_getElem? (nthL_get (by rw [h.have_]; exact hi)))
def topR (r : Rel) (s : Nat) (n : Int) : Rel := { r with top := r.top.set s (imax (atN r.top s) n) }
theorem c33 (r : Rel) (s : Nat) (n : Int) (h : s < r.top.length) (h' : r.top.length ≤ 1000) : Cl 33 [eRel r, I s, I n] [.pv (eRel (topR r s n))] := t33 _ _ _ (Ix_nat (atN_get h) ⟨_, c88 _ _ _ h (by omega), .refl _⟩)
theorem set_same {l : List Int} {i : Nat} (h : i < l.length) : l.set i (atN l i) = l := by
  apply List.ext_getElem? ; intro j
  rw [List.getElem?_set]
  split
  · rename_i e; subst e; rw [atN_get h]
  · rfl
theorem c42 (r : Rel) (s : Nat) (n : Int) (h : s < r.top.length) (h' : r.top.length ≤ 1000) : Cl 42 [eRel r, I s, I n] [.pv (eRel (topR r s n))] := t42 _ _ _ (by
  simp only [P42, Jn, SmA_true, true_and, List.length_map]
  refine Ok_of (okNews_map (e := I) (n := 1) (fun _ => rfl) (fun _ => rfl) _) (Sz_of (by omega) (Rx_nat (by omega) ?_))
  rw [Nat.zero_add, Int.toNat_natCast]
  refine Ld_map (atN_get h) (Fk_of (fun hc => Rx_nat (by omega) (Ld_map (atN_get h) ?_)) fun hc => ?_)
  · rw [← List.map_set, topR, imax, if_pos (by simpa using hc)]; exact .refl _
  · rw [topR, imax, if_neg (by simpa using hc), set_same h]; exact .refl _)
theorem c40 (r : Rel) (s : Nat) (a : Ask) (h : s < r.ask.length) (h' : r.ask.length ≤ 1000) : Cl 40 [eRel r, I s, eAsk a] [.pv (eRel { r with ask := r.ask.set s a })] := t40 _ _ _ (by
  simp only [P40, List.length_map]
  refine Ok_of (okNews_map (e := eAsk) (n := 1) (fun _ => rfl) (fun _ => rfl) _) (Sz_of (by omega) (Rx_nat (by omega) ?_))
  rw [Nat.zero_add, Int.toNat_natCast, ← List.map_set]
  exact Ld_map (nthA_get h) (.refl _))
theorem c45 (r : Rel) (s : Nat) (w : Win) (h : s < r.win.length) (h' : r.win.length ≤ 1000) : Cl 45 [eRel r, I s, eWin w] [.pv (eRel { r with win := r.win.set s w })] := t45 _ _ _ (by
  simp only [P45, List.length_map]
  refine Ok_of (okNews_map (e := eWin) (n := 2) (fun _ => rfl) (fun _ => rfl) _) (Sz_of (by omega) (Rx_nat (by omega) ?_))
  rw [Nat.zero_add, Int.toNat_natCast, ← List.map_set]
  exact Ld_map (nthW_get h) (.refl _))
theorem gap_rng {w : Win} {t : Int} (hr : W9.rightW w = true) (ht : t ≤ 4611686018427387904) : W9.gapW w t = (0, 0) ∨ (1 ≤ (W9.gapW w t).1 ∧ (W9.gapW w t).1 ≤ 4611686018427387904 ∧ 1 ≤ (W9.gapW w t).2 ∧ (W9.gapW w t).2 ≤ 64) := by
  obtain ⟨h1, _, _, _⟩ := W9.right_parts hr
  rcases Int.lt_or_le t (w.next + W9.runLen w.next w.l) with h | h
  · left
    unfold W9.gapW
    simp only
    rw [if_pos (by omega)]
  · right
    obtain ⟨m, e, m1, m2, m3, _⟩ := W9.gap_spec hr h ht
    rw [e]
    exact ⟨by simp only; omega, by simp only; omega, m1, m2⟩
theorem gap_b {w : Win} {t : Int} (hr : W9.rightW w = true) (ht : t ≤ 4611686018427387904) : 0 ≤ (W9.gapW w t).1 ∧ (W9.gapW w t).1 ≤ 4611686018427387904 := by
  rcases gap_rng hr ht with hg | hg
  · rw [hg]; decide
  · omega
/-- Streams behind a question for items. -/
def askedR (r : Rel) (p : Packet) (wait : Int) : Rel :=
  if p.to_ = r.me then { r with lost := lostL r p.lo p.many, naks := imin (w64 (r.naks + 1)) 1000 }
  else
    let g := W9.gapW (nthW r.win p.to_.toNat) (atN r.top p.to_.toNat)
    if 0 < g.2 ∧ p.lo ≤ g.1 ∧ g.1 < p.lo + p.many then { r with ask := r.ask.set p.to_.toNat (hushA (nthA r.ask p.to_.toNat) r.now wait) } else r
theorem may3 {p : Packet} (h : mayP p = true) (hk : p.kind = 3) : 0 ≤ p.to_ ∧ p.to_ ≤ 63 ∧ 1 ≤ p.lo ∧ p.lo ≤ 4611686018427387904 ∧ 1 ≤ p.many ∧ p.many ≤ 64 := by
  simp only [mayP, hk, if_true, show ¬ (3 : Int) = 1 by decide, show ¬ (3 : Int) = 2 by decide, if_false, Bool.and_eq_true, within, decide_eq_true_eq] at h
  omega
theorem c32 (hs : SrtOk Tryz.prog 121) {r : Rel} {N : Nat} (hr : WF r N) {p : Packet} (hp : mayP p = true) (hk : p.kind = 3) (ht : p.to_ < N) (wait : Int) : Cl 32 [eRel r, ePacket p, I wait] [.pv (eRel (askedR r p wait))] := t32 _ _ _ (by
  obtain ⟨a1, a2, a3, a4, a5, a6⟩ := may3 hp hk
  simp only [P32, Jn, SmA_true, true_and]
  refine Fk_of (fun h => ⟨_, c86 hs r _ _ a3 a4 a5 a6 hr.lost hr.naks0 hr.naks, ?_⟩) fun h => ?_
  · rw [askedR, if_pos (by simpa using h)]; exact .refl _
  obtain ⟨t, ht'⟩ : ∃ t : Nat, p.to_ = t := ⟨p.to_.toNat, by omega⟩
  have htN : t < N := by omega
  have hne : ¬ p.to_ = r.me := by simpa using h
  rw [askedR, if_neg hne]
  simp only [ht', Int.toNat_natCast] at *
  have hw := hr.w htN
  have htt := hr.t htN
  refine Ix_nat (nthW_get (by rw [hr.win]; exact htN)) (Ix_nat (atN_get (by rw [hr.top]; exact htN)) ⟨_, _, W9.c48 _ _ hw, Fk_of (fun h1 => Fk_of (fun h2 => Fk_of (fun h3 => ?_) fun h3 => ?_) fun h2 => ?_) fun h1 => ?_⟩)
  all_goals simp only [decide_eq_true_eq, decide_eq_false_iff_not] at *
  all_goals have hb := gap_b hw htt.2
  · rw [w64_id (by omega) (by omega)] at h3
    rw [if_pos ⟨h1, h2, by omega⟩]
    refine Ix_nat (nthA_get (by rw [hr.ask]; exact htN)) ⟨_, c87 _ _ _, _, c50 _ _ _ (by rw [hr.ask]; exact htN) (by rw [hr.ask]; have := hr.n64; omega), .refl _⟩
  · rw [w64_id (by omega) (by omega)] at h3
    rw [if_neg (by omega)]; exact .refl _
  · rw [if_neg (by omega)]; exact .refl _
  · rw [if_neg (by omega)]; exact .refl _)
def hearR (r : Rel) (p : Packet) (done : List Int) (buf wait : Int) : Rel × Bool :=
  if p.from_ = r.me ∨ (r.win.length : Int) ≤ p.from_ then (r, false)
  else if p.kind = 3 then if (r.win.length : Int) ≤ p.to_ then (r, false) else (askedR r p wait, true)
  else if p.kind = 4 then if (p.l.length : Int) ≠ r.win.length then (r, false) else ({ topR r p.from_.toNat p.top with have_ := r.have_.set p.from_.toNat (maxV (nthL r.have_ p.from_.toNat) p.l) }, true)
  else ({ topR r p.from_.toNat p.item.seq with win := r.win.set p.from_.toNat (W9.putW (nthW r.win p.from_.toNat) p.item (w64 (atN done p.from_.toNat + buf))).1 }, true)
theorem may_from {p : Packet} (h : mayP p = true) : 0 ≤ p.from_ ∧ p.from_ ≤ 63 := by
  simp only [mayP, Bool.and_eq_true, within, decide_eq_true_eq] at h
  exact h.1
theorem c11 (hs : SrtOk Tryz.prog 121) {r : Rel} {N : Nat} (hr : WF r N) {p : Packet} (hp : mayP p = true) {done : List Int} (hd : done.length = N) (buf wait : Int) :
    Cl 11 [eRel r, ePacket p, lI done, I buf, I wait] [.pv (eRel (hearR r p done buf wait).1), .pv (B (hearR r p done buf wait).2)] := t11 _ _ _ _ _ (by
  obtain ⟨f0, f1⟩ := may_from hp
  have := hr.n64
  simp only [P11, Ln, List.length_map]
  intro _ _ _ _ _ _
  refine Fk_of (fun h => ?_) fun h => Fk_of (fun h' => ?_) fun h' => ?_
  · rw [hearR, if_pos (.inl (by simpa using h))]; exact .refl _
  · rw [hearR, if_pos (.inr (by simpa using h'))]; exact .refl _
  obtain ⟨s, hs'⟩ : ∃ s : Nat, p.from_ = s := ⟨p.from_.toNat, by omega⟩
  have hsN : s < N := by simp [hs'] at h'; rw [hr.win] at h'; omega
  have e : hearR r p done buf wait = if p.kind = 3 then if (r.win.length : Int) ≤ p.to_ then (r, false) else (askedR r p wait, true)
      else if p.kind = 4 then if (p.l.length : Int) ≠ r.win.length then (r, false) else ({ topR r s p.top with have_ := r.have_.set s (maxV (nthL r.have_ s) p.l) }, true)
      else ({ topR r s p.item.seq with win := r.win.set s (W9.putW (nthW r.win s) p.item (w64 (atN done s + buf))).1 }, true) := by
    rw [hearR, if_neg (by simp at h h'; omega), hs', Int.toNat_natCast]
  rw [e]
  simp only [hs']
  refine Fk_of (fun k3 => Fk_of (fun h1 => ?_) fun h1 => ?_) fun k3 => Fk_of (fun k4 => ?_) fun k4 => ?_
  · have hk : p.kind = 3 := by simpa using k3
    rw [if_pos hk, if_pos (by simpa using h1)]; exact .refl _
  · have hk : p.kind = 3 := by simpa using k3
    have ht : p.to_ < N := by simp [hr.win] at h1; omega
    rw [if_pos hk, if_neg (by simpa using h1)]
    exact ⟨_, c32 hs hr hp hk ht wait, .refl _⟩
  · have hk : p.kind = 4 := by simpa using k4
    rw [if_neg (by simpa using k3), if_pos hk]
    intro _ _ _
    refine Fk_of (fun h2 => ?_) fun h2 => ?_
    · rw [if_pos (by simpa using h2)]; exact .refl _
    · rw [if_neg (by simpa using h2)]
      have hpl : p.l.length = N := by simp at h2; rw [hr.win] at h2; omega
      refine ⟨_, c33 r s _ (by rw [hr.top]; exact hsN) (by rw [hr.top]; omega), Ix_nat (nthL_get (by show s < r.have_.length; rw [hr.have_]; exact hsN)) ⟨_, c35 _ _ (by have := hr.h hsN; show (nthL r.have_ s).length ≤ _; omega) (by omega), _, c34 _ _ _ (by show s < r.have_.length; rw [hr.have_]; exact hsN) (by show r.have_.length ≤ _; rw [hr.have_]; omega), .refl _⟩⟩
  · rw [if_neg (by simpa using k3), if_neg (by simpa using k4)]
    refine ⟨_, c33 r s _ (by rw [hr.top]; exact hsN) (by rw [hr.top]; omega), Ix_nat (nthW_get (by show s < r.win.length; rw [hr.win]; exact hsN)) (Ix_nat (atN_get (by omega)) ⟨_, _, W9.c36 _ _ _, _, c37 _ _ _ (by show s < r.win.length; rw [hr.win]; exact hsN) (by show r.win.length ≤ _; rw [hr.win]; omega), .refl _⟩)⟩)
end Go.Proofs.YtnhaofaeaokgdaaGreat.M
