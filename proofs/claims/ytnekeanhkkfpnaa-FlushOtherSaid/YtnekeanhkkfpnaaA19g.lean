import Derived.Test.YtnekeanhkkfpnaaA19f
set_option linter.all false
set_option linter.unusedVariables false
set_option linter.unusedSimpArgs false
set_option linter.unnecessarySimpa false
namespace Go.Proofs.Ytnekeanhkkfpnaa.M
open Go Go.Mir Go.Proofs

def qd (n k : Nat) : List Nat := (List.range n).filter (fun e => decide (k ≤ e)) ++ [n]
theorem mem_qd {n k e : Nat} : e ∈ qd n k ↔ (e < n ∧ k ≤ e) ∨ e = n := by simp [qd]
theorem st_count (cs : List Int) (nx : Int) {q : List Nat} (h : ∀ e, e < cs.length → e ∈ q) : (stB cs nx q).count = cs := by
  simp only [stB]
  refine List.ext_getElem? fun j => ?_
  by_cases hj : j < cs.length
  · have := h j hj
    simp [List.getElem?_range hj, this, List.getElem?_eq_getElem hj]
  · simp [Nat.not_lt.1 hj]
theorem st_whole (cs : List Int) (nx : Int) (q : List Nat) : whole (stB cs nx q) = true ↔ ∀ e, e < cs.length → e ∈ q := by
  simp only [whole, stB, List.all_map, List.all_eq_true, List.mem_range]
  exact ⟨fun h e he => by simpa using h e he, fun h e he => by simpa using h e he⟩
theorem say_is {b : Barrier} {i : Nat} {n : Int} {r : Item × Bool} (h : sayB b i n = r) (hi : i < b.acked.length) (hc : b.count.length ≤ 1000) : Cl 17 [eBarrier b, I i, I n] [.pv (eItem r.1), .pv (B r.2)] := h ▸ c17 b i n hi hc
set_option maxHeartbeats 1000000 in
theorem flushSays (l : List Int) (a : UInt8) : Cl 6 [.sl false (l.map (fun n : Int => PV.lit (.int .u16 n))), U8 a] [.pv (B true)] := t6 _ _ (by
  simp only [P6, Ln, SmA_true, true_and, List.length_map]
  refine ⟨_, c8, fun _ => Fk_of (fun _ => .refl _) fun h1 => Fk_of (fun _ => .refl _) fun h2 => ?_⟩
  simp only [decide_eq_false_iff_not] at h1 h2
  have hn0 : 2 ≤ l.length := by omega
  have hn : l.length ≤ 9 := by omega
  obtain ⟨cs, hcs⟩ : ∃ cs, cs = l.map w64 := ⟨_, rfl⟩
  have hl : cs.length = l.length := by rw [hcs, List.length_map]
  obtain ⟨nx, hnx⟩ : ∃ nx, nx = Int.tmod (w64 (a.toNat : Int)) 2 := ⟨_, rfl⟩
  refine ⟨_, c19 (by omega) (by omega), ?_⟩
  rw [← hl, st_new cs nx]
  have len := st_len cs nx
  have hpos : 0 < cs.length := by omega
  have ev4 : ev cs nx cs.length = ⟨4, 1, 0, nx, 0, 0, [], []⟩ := by rw [ev, if_neg (by omega), if_pos rfl]
  have ev6 : ev cs nx (cs.length + 1) = ⟨6, 1, 0, 0, 0, 0, cs, []⟩ := by rw [ev, if_neg (by omega), if_neg (by omega)]
  have fr4 : fr cs.length cs.length = 0 := if_neg (by omega)
  have fr6 : fr cs.length (cs.length + 1) = 0 := if_neg (by omega)
  have s4 := st_step cs nx (q := []) (e := cs.length) (by omega) (by simp)
  rw [ev4, fr4] at s4
  have hq : stB cs nx ([] ++ [cs.length]) = stB cs nx (qd cs.length cs.length) := st_ext cs nx fun e he => by rw [mem_qd]; simp; omega
  rw [hq] at s4
  refine ⟨_, _, say_is (say_off (b := stB cs nx []) (i := 0) (n := 0) (by simp [stB])) (by rw [(len _).1]; exact hpos) (by rw [(len _).2]; omega), by omega, _, _, hear_is (i := 0) s4 (by rw [(len _).1]; omega) (by rw [(len _).1, (len _).2]) (by rw [(len _).1]; omega) (by rw [hnx]; rfl), Fk_f rfl (Fk_f rfl ?_)⟩
  refine Lo_up cs.length (fun t v => ∃ k, k + t = cs.length ∧ v = (true, (k : Int) - 1, bx (stB cs nx (qd cs.length k)), ())) ?_ (Nat.zero_le _) ⟨cs.length, rfl, by rw [w64_id (by omega) (by omega)]; rfl⟩
  rintro L t _ ht ⟨k, hk, rfl⟩ hL
  cases k with
  | succ i =>
    have hi : i < cs.length := by omega
    have ei : ((i + 1 : Nat) : Int) - 1 = (i : Int) := by omega
    rw [ei]
    obtain ⟨x, hli⟩ : ∃ x, l[i]? = some x := ⟨_, List.getElem?_eq_getElem (by omega : i < l.length)⟩
    have hci : cs[i]? = some (w64 x) := by rw [hcs, List.getElem?_map, hli]; rfl
    have hcd : cs.getD i 0 = w64 x := by rw [List.getD_eq_getElem?_getD, hci]; rfl
    have e5 : ev cs nx i = ⟨5, 1, 0, 0, 0, w64 x, [], []⟩ := by rw [ev, if_pos hi, hcd]
    have hnot : i ∉ qd cs.length (i + 1) := by rw [mem_qd]; omega
    have on1 : (stB cs nx (qd cs.length (i + 1))).on = true := by simp [stB, mem_qd]
    have s5 := st_step cs nx (q := qd cs.length (i + 1)) (e := i) (by omega) hnot
    have hq5 : stB cs nx (qd cs.length (i + 1) ++ [i]) = stB cs nx (qd cs.length i) := st_ext cs nx fun e he => by rw [List.mem_append, mem_qd, mem_qd]; simp; omega
    rw [hq5, e5, show fr cs.length i = i from if_pos hi] at s5
    have hsay := say_ack (n := w64 x) on1 (by rw [st_acked cs nx _ hi]; simp [hnot])
    have hack : (stB cs nx (qd cs.length i)).acked[i]? = some true := by rw [st_acked cs nx _ hi]; simp [mem_qd, hi]
    refine Fk_t (by simp) (Ix_nat hli ⟨_, _, say_is hsay (by rw [(len _).1]; omega) (by rw [(len _).2]; omega), Fk_f rfl (Fk_f rfl (Ix_nat hli (Fk_f (by simp [ackI]) ⟨_, _, hear_is s5 (by rw [(len _).1]; omega) (by rw [(len _).1, (len _).2]) (by rw [(len _).1]; omega) rfl, Ix_nat hli ⟨_, _, c17 _ _ _ (by rw [(len _).1]; omega) (by rw [(len _).2]; omega), Fk_f rfl (Fk_f ?_ ?_)⟩⟩)))⟩)
    · rw [say_rest hack]
      by_cases h0 : i = 0
      · subst h0
        have hw : whole (stB cs nx (qd cs.length 0)) = true := (st_whole _ _ _).2 fun e he => by rw [mem_qd]; omega
        have on2 : (stB cs nx (qd cs.length 0)).on = true := by simp [stB, mem_qd]
        have dn : (stB cs nx (qd cs.length 0)).done = false := by simp [stB, mem_qd]
        simp [hw, on2, dn]
      · have : ((i : Int) == 0) = false := by simp; omega
        rw [if_neg (fun h => h0 h.1), this]; rfl
    · refine hL _ (by omega) ⟨i, by omega, ?_⟩
      rw [show ((i : Int) - 1) = (i : Int) - 1 from rfl]
      show (true, w64 ((i : Int) - 1), _, ()) = _
      rw [w64_id (by omega) (by omega)]; rfl
  | zero =>
    have hnot : cs.length + 1 ∉ qd cs.length 0 := by rw [mem_qd]; omega
    have hw : whole (stB cs nx (qd cs.length 0)) = true := (st_whole _ _ _).2 fun e he => by rw [mem_qd]; omega
    have on2 : (stB cs nx (qd cs.length 0)).on = true := by simp [stB, mem_qd]
    have dn : (stB cs nx (qd cs.length 0)).done = false := by simp [stB, mem_qd]
    have hack : (stB cs nx (qd cs.length 0)).acked[0]? = some true := by rw [st_acked cs nx _ (by omega)]; simp [mem_qd]; omega
    have hcount : (stB cs nx (qd cs.length 0)).count = cs := st_count cs nx fun e he => by rw [mem_qd]; omega
    have hsay : sayB (stB cs nx (qd cs.length 0)) 0 0 = (instI cs, true) := by rw [say_rest hack, if_pos ⟨rfl, on2, dn, hw⟩, hcount]
    have s6 := st_step cs nx (q := qd cs.length 0) (e := cs.length + 1) (by omega) hnot
    rw [ev6, fr6] at s6
    have hr : ready (stB cs nx (qd cs.length 0 ++ [cs.length + 1])) = true := (st_ready _ _ _).2 fun e he => by rw [List.mem_append, mem_qd]; simp; omega
    have hack2 : (stB cs nx (qd cs.length 0 ++ [cs.length + 1])).acked[0]? = some true := by rw [st_acked cs nx _ (by omega)]; simp [mem_qd]; omega
    have dn2 : (stB cs nx (qd cs.length 0 ++ [cs.length + 1])).done = true := by simp [stB]
    have hsay2 : sayB (stB cs nx (qd cs.length 0 ++ [cs.length + 1])) 0 0 = (zI, false) := by rw [say_rest hack2, if_neg (by simp [dn2])]
    refine Fk_f (by simp) ⟨_, _, say_is hsay (by rw [(len _).1]; exact hpos) (by rw [(len _).2]; omega), ?_⟩
    intro _ _
    refine Fk_f rfl (Fk_f rfl (Fk_f (by simp [instI]) ⟨_, _, hear_is (i := 0) s6 (by rw [(len _).1]; omega) (by rw [(len _).1, (len _).2]) (by rw [(len _).1]; omega) rfl, _, _, say_is hsay2 (by rw [(len _).1]; exact hpos) (by rw [(len _).2]; omega), Fk_t rfl (Fk_t rfl ⟨_, c23 _, Fk_t hr (.refl _)⟩)⟩)))
end Go.Proofs.Ytnekeanhkkfpnaa.M
