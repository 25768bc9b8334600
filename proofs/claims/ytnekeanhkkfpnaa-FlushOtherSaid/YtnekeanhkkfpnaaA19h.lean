import Derived.Test.YtnekeanhkkfpnaaA19g
set_option linter.all false
set_option linter.unusedVariables false
set_option linter.unusedSimpArgs false
set_option linter.unnecessarySimpa false
namespace Go.Proofs.Ytnekeanhkkfpnaa.M
open Go Go.Mir Go.Proofs

/-- A barrier with its flush and its install, of which these have acknowledged. -/
def stA (cs : List Int) (A : Nat → Bool) (w : List Int) : Barrier := ⟨true, 0, (List.range cs.length).map A, (List.range cs.length).map (fun e => if A e then cs.getD e 0 else 0), true, w⟩
theorem stA_len (cs : List Int) (A : Nat → Bool) (w : List Int) : (stA cs A w).acked.length = cs.length ∧ (stA cs A w).count.length = cs.length := by simp [stA]
theorem stA_ext {cs : List Int} {A A' : Nat → Bool} {w : List Int} (h : ∀ e, e < cs.length → A e = A' e) : stA cs A w = stA cs A' w := by
  have e1 : (List.range cs.length).map A = (List.range cs.length).map A' := List.map_congr_left fun e he => h e (List.mem_range.1 he)
  have e2 : (List.range cs.length).map (fun e => if A e then cs.getD e 0 else 0) = (List.range cs.length).map (fun e => if A' e then cs.getD e 0 else 0) := List.map_congr_left fun e he => by rw [h e (List.mem_range.1 he)]
  simp only [stA, e1, e2]
theorem stA_step {cs w : List Int} {A : Nat → Bool} {i : Nat} {c : Int} (hc : cs[i]? = some c) (hA : A i = false) : hearB (stA cs A w) i ⟨5, 3, 0, 0, 0, c, [], []⟩ = (stA cs (fun e => A e || e == i) w, 0) := by
  have hi := (List.getElem?_eq_some_iff.1 hc).1
  have hcd : cs.getD i 0 = c := by rw [List.getD_eq_getElem?_getD, hc]; rfl
  have ha : (stA cs A w).acked[i]? = some false := by simp [stA, List.getElem?_range hi, hA]
  simp only [hearB, Int.reduceEq, if_false, if_true, heard, ackB, ha, Option.some.injEq, Bool.false_eq_true, Prod.mk.injEq, and_true]
  simp only [stA]
  congr 1
  · refine List.ext_getElem? fun j => ?_
    rw [List.getElem?_set]
    by_cases hj : j < cs.length
    · by_cases hij : i = j
      · subst hij; simp [hi]
      · have : j ≠ i := Ne.symm hij
        rw [if_neg hij]; simp [List.getElem?_range hj, this]
    · simp [Nat.not_lt.1 hj]; omega
  · refine List.ext_getElem? fun j => ?_
    rw [List.getElem?_set]
    by_cases hj : j < cs.length
    · by_cases hij : i = j
      · subst hij; simp [hi, ← hcd]
      · have : j ≠ i := Ne.symm hij
        rw [if_neg hij]; simp [List.getElem?_range hj, this]
    · simp [Nat.not_lt.1 hj]; omega
theorem stA_whole (cs : List Int) (A : Nat → Bool) (w : List Int) : whole (stA cs A w) = true ↔ ∀ e, e < cs.length → A e = true := by
  simp only [whole, stA, List.all_map, List.all_eq_true, List.mem_range]
  exact ⟨fun h e he => by simpa using h e he, fun h e he => by simpa using h e he⟩
theorem stA_count (cs : List Int) (A : Nat → Bool) (w : List Int) (h : ∀ e, e < cs.length → A e = true) : (stA cs A w).count = cs := by
  simp only [stA]
  refine List.ext_getElem? fun j => ?_
  by_cases hj : j < cs.length
  · have := h j hj
    simp [List.getElem?_range hj, this, List.getElem?_eq_getElem hj]
  · simp [Nat.not_lt.1 hj]
theorem w64_ne (x : Int) : w64 (w64 x + 1) ≠ w64 x := by
  have hb : -9223372036854775808 ≤ w64 x ∧ w64 x ≤ 9223372036854775807 := by
    unfold w64 IntKind.wrap
    simp only [show IntKind.i64.bits = 64 from rfl, show IntKind.i64.signed = true from rfl]
    split <;> rename_i h <;> simp at h ⊢ <;> omega
  by_cases h : w64 x = 9223372036854775807
  · rw [h]; decide
  · rw [w64_id (by omega) (by omega)]; omega
/-- A new barrier, with its flush and an install. -/
theorem st_two (cs w : List Int) (hn : 0 < cs.length) (hw : w.length = cs.length) : hearB (newB (cs.length : Int)) 0 ⟨4, 1, 0, 0, 0, 0, [], []⟩ = ({ newB (cs.length : Int) with on := true }, 0) ∧
    hearB { newB (cs.length : Int) with on := true } 0 ⟨6, 2, 0, 0, 0, 0, w, []⟩ = (stA cs (fun _ => false) w, 0) := by
  refine ⟨by simp [hearB, heard, flushB, newB], ?_⟩
  simp [hearB, heard, instB, newB, hw, stA, List.map_const']
set_option maxHeartbeats 2000000 in
theorem flushOther (l : List Int) (a b : UInt8) : Cl 7 [.sl false (l.map (fun n : Int => PV.lit (.int .u16 n))), U8 a, U8 b] [.pv (B true)] := t7 _ _ _ (by
  simp only [P7, Ln, SmA_true, true_and, List.length_map]
  refine ⟨_, c8, fun _ => Fk_of (fun _ => .refl _) fun h1 => Fk_of (fun _ => .refl _) fun h2 => ?_⟩
  simp only [decide_eq_false_iff_not] at h1 h2
  have hn0 : 2 ≤ l.length := by omega
  have hn : l.length ≤ 9 := by omega
  obtain ⟨cs, hcs⟩ : ∃ cs, cs = l.map w64 := ⟨_, rfl⟩
  have hl : cs.length = l.length := by rw [hcs, List.length_map]
  have hpos : 0 < cs.length := by omega
  refine Lo_up l.length (fun i v => v = (true, (cs.take i).map I, (i : Int), ())) ?_ (Nat.zero_le _) rfl
  rintro L i _ hi rfl hL
  by_cases hlt : i < l.length
  · obtain ⟨x, hli⟩ : ∃ x, l[i]? = some x := ⟨_, List.getElem?_eq_getElem hlt⟩
    have hci : cs[i]? = some (w64 x) := by rw [hcs, List.getElem?_map, hli]; rfl
    refine Fk_t (by simpa using hlt) (Ix_nat hli (Sz_of (by simp; omega) (hL _ hlt ?_)))
    simp only [Prod.mk.injEq, true_and]
    refine ⟨?_, w64_succ hlt (by omega), trivial⟩
    rw [List.take_add_one, hci]; simp
  obtain rfl : i = l.length := by omega
  rw [← hl, List.take_length]
  have hu := u8_le b
  have hv := u8_le a
  have jb : b.toNat % cs.length < cs.length := Nat.mod_lt _ hpos
  have ja : a.toNat % cs.length < cs.length := Nat.mod_lt _ hpos
  obtain ⟨x, hx⟩ : ∃ x, cs[b.toNat % cs.length]? = some x := ⟨_, List.getElem?_eq_getElem jb⟩
  have hwx : w64 (x + 1) ≠ x := by
    rw [hcs, List.getElem?_map, Option.map_eq_some_iff] at hx
    obtain ⟨y, _, rfl⟩ := hx
    exact w64_ne y
  rw [tmod_nat _ _ (by omega)]
  refine Fk_f (by simp) (Ok_of (okI _) (Sz_of (by simp; omega) ⟨by omega, Rx_nat (by simpa using jb) ?_⟩))
  simp only [Nat.zero_add, Int.toNat_natCast]
  refine Ld_map hx (Rx_nat (by simpa using jb) (Ld_map hx ?_))
  obtain ⟨w, hw⟩ : ∃ w, w = cs.set (b.toNat % cs.length) (w64 (x + 1)) := ⟨_, rfl⟩
  have hwl : w.length = cs.length := by rw [hw, List.length_set]
  have hwne : w ≠ cs := fun e => by
    have : w[b.toNat % cs.length]? = some (w64 (x + 1)) := by rw [hw, List.getElem?_set_self jb]
    rw [e, hx] at this
    exact hwx (Option.some.inj this).symm
  rw [← List.map_set, ← hw]
  have nl : (newB (cs.length : Int)).acked.length = cs.length ∧ (newB (cs.length : Int)).count.length = cs.length := by simp [newB]
  obtain ⟨f1, g1⟩ := st_two cs w hpos hwl
  obtain ⟨_, g2⟩ := st_two cs cs hpos rfl
  refine ⟨_, c19 (by omega) (by omega), _, c19 (by omega) (by omega), _, _, hear_is (i := 0) f1 (by rw [nl.1]; exact hpos) (by rw [nl.1, nl.2]) (by rw [nl.1]; omega) rfl, _, _, hear_is (i := 0) f1 (by rw [nl.1]; exact hpos) (by rw [nl.1, nl.2]) (by rw [nl.1]; omega) rfl,
    _, _, hear_is (i := 0) g1 (by show 0 < (newB (cs.length : Int)).acked.length; rw [nl.1]; exact hpos) (nl.2.trans nl.1.symm) (by show (newB (cs.length : Int)).acked.length ≤ 1000; rw [nl.1]; omega) rfl,
    _, _, hear_is (i := 0) g2 (by show 0 < (newB (cs.length : Int)).acked.length; rw [nl.1]; exact hpos) (nl.2.trans nl.1.symm) (by show (newB (cs.length : Int)).acked.length ≤ 1000; rw [nl.1]; omega) rfl, Fk_f rfl (Fk_f rfl (Fk_f rfl (Fk_f rfl ?_)))⟩
  obtain ⟨k, hk⟩ : ∃ k, k = a.toNat % cs.length := ⟨_, rfl⟩
  refine Lo_up cs.length (fun i v => v = (true, cs.map I, (i : Int), bx (stA cs (fun e => decide (e < i)) w), bx (stA cs (fun e => decide (e < i) && e != k) cs), ())) ?_ (Nat.zero_le _) (by
    rw [show (fun e => decide (e < 0)) = fun _ => false from by funext e; simp, show (fun e => decide (e < 0) && e != k) = fun _ => false from by funext e; simp]; rfl)
  rintro L i _ hi rfl hL
  have l1 := stA_len cs (fun e => decide (e < i)) w
  have l2 := stA_len cs (fun e => decide (e < i) && e != k) cs
  by_cases hlt : i < cs.length
  · obtain ⟨c, hc⟩ : ∃ c, cs[i]? = some c := ⟨_, List.getElem?_eq_getElem hlt⟩
    have s1 := stA_step (w := w) (A := fun e => decide (e < i)) hc (by simp)
    have t1 : stA cs (fun e => decide (e < i) || e == i) w = stA cs (fun e => decide (e < i + 1)) w := stA_ext fun e _ => by
      rw [Bool.eq_iff_iff]; simp; omega
    rw [t1] at s1
    have s2 := stA_step (w := cs) (A := fun e => decide (e < i) && e != k) hc (by simp)
    refine Fk_t (by simpa using hlt) ?_
    refine Jn_mid (fun v => v = (true, cs.map I, (i : Int), bx (stA cs (fun e => decide (e < i + 1)) w), bx (stA cs (fun e => decide (e < i + 1) && e != k) cs), ())) ?_ ?_
    · intro j hj
      rw [tmod_nat _ _ (by omega), ← hk]
      refine Ix_nat hc ⟨_, _, hear_is s1 (by rw [l1.1]; exact hlt) (by rw [l1.1, l1.2]) (by rw [l1.1]; omega) rfl, by omega, Fk_of (fun h => ?_) fun h => ?_⟩
      · have hik : i ≠ k := by simp at h; omega
        have t2 : stA cs (fun e => (decide (e < i) && e != k) || e == i) cs = stA cs (fun e => decide (e < i + 1) && e != k) cs := stA_ext fun e _ => by
          rw [Bool.eq_iff_iff]; simp; omega
        rw [t2] at s2
        exact Ix_nat hc ⟨_, _, hear_is s2 (by rw [l2.1]; exact hlt) (by rw [l2.1, l2.2]) (by rw [l2.1]; omega) rfl, hj _ rfl⟩
      · have hik : i = k := by simp at h; omega
        have e2 : stA cs (fun e => decide (e < i) && e != k) cs = stA cs (fun e => decide (e < i + 1) && e != k) cs := stA_ext fun e _ => by
          rw [Bool.eq_iff_iff]; simp; omega
        refine hj _ ?_
        rw [← e2]; rfl
    · rintro _ rfl
      have := hL _ hlt rfl
      rw [← w64_succ (n := cs.length) hlt (by omega)] at this
      exact this
  obtain rfl : i = cs.length := by omega
  have wh1 : whole (stA cs (fun e => decide (e < cs.length)) w) = true := (stA_whole _ _ _).2 fun e he => by simpa using he
  have rd1 : ready (stA cs (fun e => decide (e < cs.length)) w) = false := by
    have e1 : (stA cs (fun e => decide (e < cs.length)) w).count = cs := stA_count _ _ _ fun e he => by simpa using he
    have e2 : (stA cs (fun e => decide (e < cs.length)) w).l = w := rfl
    simp only [ready, e1, e2, Bool.and_eq_false_iff, beq_eq_false_iff_ne]
    exact .inr hwne
  have wh2 : whole (stA cs (fun e => decide (e < cs.length) && e != k) cs) = false := by
    cases h : whole (stA cs (fun e => decide (e < cs.length) && e != k) cs) with
    | false => rfl
    | true => have := (stA_whole _ _ _).1 h k (by omega); simp at this
  have rd2 : ready (stA cs (fun e => decide (e < cs.length) && e != k) cs) = false := by simp [ready, wh2]
  have s6 : hearB (stA cs (fun e => decide (e < cs.length)) w) 0 ⟨6, 4, 0, 0, 0, 0, cs, []⟩ = (stA cs (fun e => decide (e < cs.length)) w, 2) := by simp [hearB, heard, instB, stA]
  refine Fk_f (by simp) ⟨_, _, hear_is (i := 0) s6 (by rw [l1.1]; exact hpos) (by rw [l1.1, l1.2]) (by rw [l1.1]; omega) rfl, Fk_t rfl ⟨_, c21 (stA cs (fun e => decide (e < cs.length)) w), Fk_t wh1 ⟨_, c23 (stA cs (fun e => decide (e < cs.length)) w), Fk_t (by rw [rd1]; rfl) ⟨_, c21 (stA cs (fun e => decide (e < cs.length) && e != k) cs), Fk_t (by rw [wh2]; rfl) ⟨_, c23 (stA cs (fun e => decide (e < cs.length) && e != k) cs), Fk_t (by rw [rd2]; rfl) (Fk_t rfl ⟨_, c23 _, rvB.2 (by rw [rd1]; rfl)⟩)⟩⟩⟩⟩⟩)
end Go.Proofs.Ytnekeanhkkfpnaa.M
