import Derived.Test.YtnekeanhkkfpnaaA19e
set_option linter.all false
set_option linter.unusedVariables false
set_option linter.unusedSimpArgs false
set_option linter.unnecessarySimpa false
namespace Go.Proofs.Ytnekeanhkkfpnaa.M
open Go Go.Mir Go.Proofs

/-! ### A flush, acknowledgements, an install, in whatever order -/
def fr (n e : Nat) : Nat := if e < n then e else 0
def ev (cs : List Int) (nx : Int) (e : Nat) : Item := if e < cs.length then ⟨5, 1, 0, 0, 0, cs.getD e 0, [], []⟩ else if e = cs.length then ⟨4, 1, 0, nx, 0, 0, [], []⟩ else ⟨6, 1, 0, 0, 0, 0, cs, []⟩
/-- What a barrier is, that heard of these. -/
def stB (cs : List Int) (nx : Int) (q : List Nat) : Barrier := ⟨decide (cs.length ∈ q), if cs.length ∈ q then nx else 0, (List.range cs.length).map (fun e => decide (e ∈ q)), (List.range cs.length).map (fun e => if e ∈ q then cs.getD e 0 else 0), decide (cs.length + 1 ∈ q), if cs.length + 1 ∈ q then cs else []⟩
theorem st_new (cs : List Int) (nx : Int) : newB (cs.length : Int) = stB cs nx [] := by
  simp [newB, stB, List.map_const']
theorem st_ext (cs : List Int) (nx : Int) {q r : List Nat} (h : ∀ e, e < cs.length + 2 → (e ∈ q ↔ e ∈ r)) : stB cs nx q = stB cs nx r := by
  have e1 := h cs.length (by omega)
  have e2 := h (cs.length + 1) (by omega)
  have e3 : (List.range cs.length).map (fun e => decide (e ∈ q)) = (List.range cs.length).map (fun e => decide (e ∈ r)) := List.map_congr_left fun e he => by
    have := h e (by have := List.mem_range.1 he; omega); simp [this]
  have e4 : (List.range cs.length).map (fun e => if e ∈ q then cs.getD e 0 else 0) = (List.range cs.length).map (fun e => if e ∈ r then cs.getD e 0 else 0) := List.map_congr_left fun e he => by
    have := h e (by have := List.mem_range.1 he; omega); simp only [this]
  simp only [stB, e1, e2, e3, e4]
theorem st_acked (cs : List Int) (nx : Int) (q : List Nat) {e : Nat} (h : e < cs.length) : (stB cs nx q).acked[e]? = some (decide (e ∈ q)) := by
  simp [stB, List.getElem?_map, List.getElem?_range h]
theorem st_len (cs : List Int) (nx : Int) (q : List Nat) : (stB cs nx q).acked.length = cs.length ∧ (stB cs nx q).count.length = cs.length := by simp [stB]
theorem st_step (cs : List Int) (nx : Int) {q : List Nat} {e : Nat} (he : e < cs.length + 2) (hq : e ∉ q) : hearB (stB cs nx q) (fr cs.length e) (ev cs nx e) = (stB cs nx (q ++ [e]), 0) := by
  by_cases h : e < cs.length
  · have h1 : cs.length ≠ e := by omega
    have h2 : cs.length + 1 ≠ e := by omega
    have ha := st_acked cs nx q h
    simp only [hearB, ev, fr, h, if_true, heard, ackB, ha, hq]
    simp only [Int.reduceEq, if_false, decide_false, Option.some.injEq, Bool.false_eq_true, if_true, Prod.mk.injEq, and_true]
    simp only [stB, List.mem_append, List.mem_singleton, h1, h2, or_false]
    congr 1
    · refine List.ext_getElem? fun j => ?_
      rw [List.getElem?_set]
      by_cases hj : j < cs.length
      · by_cases hje : e = j
        · subst hje; simp [h]
        · have hje' : j ≠ e := Ne.symm hje
          rw [if_neg hje]; simp [List.getElem?_range hj, hje']
      · simp [List.getElem?_eq_none, Nat.not_lt.1 hj]; omega
    · refine List.ext_getElem? fun j => ?_
      rw [List.getElem?_set]
      by_cases hj : j < cs.length
      · by_cases hje : e = j
        · subst hje; simp [h]
        · have hje' : j ≠ e := Ne.symm hje
          rw [if_neg hje]; simp [List.getElem?_range hj, hje']
      · simp [List.getElem?_eq_none, Nat.not_lt.1 hj]; omega
  · have hk : (List.range cs.length).map (fun j => decide (j ∈ q ++ [e])) = (List.range cs.length).map (fun j => decide (j ∈ q)) := List.map_congr_left fun j hj => by
      have := List.mem_range.1 hj
      have : j ≠ e := by omega
      simp [this]
    have hk' : (List.range cs.length).map (fun j => if j ∈ q ++ [e] then cs.getD j 0 else 0) = (List.range cs.length).map (fun j => if j ∈ q then cs.getD j 0 else 0) := List.map_congr_left fun j hj => by
      have := List.mem_range.1 hj
      have : j ≠ e := by omega
      simp [this]
    by_cases h1 : e = cs.length
    · subst h1
      have h2 : cs.length + 1 ≠ cs.length := by omega
      simp [hearB, ev, fr, heard, flushB]
      simp only [stB, hk, hk']
      simp [hq]
    · obtain rfl : e = cs.length + 1 := by omega
      have e1 : ev cs nx (cs.length + 1) = ⟨6, 1, 0, 0, 0, 0, cs, []⟩ := by rw [ev, if_neg h, if_neg h1]
      have e2 : fr cs.length (cs.length + 1) = 0 := if_neg h
      have e3 : (stB cs nx q).done = false := by simp [stB, hq]
      have e4 := (st_len cs nx q).1
      rw [e1, e2]
      simp only [hearB, Int.reduceEq, if_false, if_true, heard, instB, e3, e4, ne_eq, not_true_eq_false, Bool.false_eq_true, or_self, Prod.mk.injEq, and_true]
      simp only [stB, hk, hk']
      simp
theorem st_ready (cs : List Int) (nx : Int) (q : List Nat) : ready (stB cs nx q) = true ↔ ∀ e, e < cs.length + 2 → e ∈ q := by
  constructor
  · intro h e he
    simp only [ready, Bool.and_eq_true] at h
    obtain ⟨⟨⟨h1, h2⟩, h3⟩, _⟩ := h
    by_cases h4 : e < cs.length
    · have := whole_get h3 (i := e) (by rw [(st_len _ _ _).1]; exact h4)
      rw [st_acked _ _ _ h4] at this
      simpa using this
    · by_cases h5 : e = cs.length
      · subst h5; simpa [stB] using h1
      · obtain rfl : e = cs.length + 1 := by omega
        simpa [stB] using h2
  · intro h
    have h1 := h cs.length (by omega)
    have h2 := h (cs.length + 1) (by omega)
    have e4 : (List.range cs.length).map (fun e => if e ∈ q then cs.getD e 0 else 0) = cs := by
      refine List.ext_getElem? fun j => ?_
      by_cases hj : j < cs.length
      · have := h j (by omega)
        simp [List.getElem?_range hj, this, List.getElem?_eq_getElem hj]
      · simp [List.getElem?_eq_none, Nat.not_lt.1 hj]
    have e3 : whole (stB cs nx q) = true := by
      simp only [whole, stB, List.all_map, List.all_eq_true]
      intro e he
      have := h e (by have := List.mem_range.1 he; omega)
      simpa using this
    have e5 : (stB cs nx q).count = cs := e4
    simp only [ready, Bool.and_eq_true, e3, e5]
    simp [stB, h1, h2]
theorem nodup_take {p : List Nat} (h : p.Nodup) {i e : Nat} (hi : p[i]? = some e) : e ∉ p.take i := by
  obtain ⟨hlt, rfl⟩ := List.getElem?_eq_some_iff.1 hi
  rw [← List.take_append_drop i p, List.drop_eq_getElem_cons hlt] at h
  intro hm
  exact (List.nodup_append.1 h).2.2 _ hm _ (List.mem_cons_self ..) rfl
theorem perm_swap {l : List Nat} {i j a b : Nat} (hi : l[i]? = some a) (hj : l[j]? = some b) : ((l.set i b).set j a).Perm l := by
  obtain ⟨hil, ea⟩ := List.getElem?_eq_some_iff.1 hi
  obtain ⟨hjl, eb⟩ := List.getElem?_eq_some_iff.1 hj
  rw [List.perm_iff_count]
  intro c
  rw [List.count_set (by simpa using hjl), List.count_set hil, List.getElem_set]
  have h1 : l[i] = c → 0 < l.count c := fun e => List.count_pos_iff.2 (e ▸ List.getElem_mem hil)
  have h2 : l[j] = c → 0 < l.count c := fun e => List.count_pos_iff.2 (e ▸ List.getElem_mem hjl)
  subst ea; subst eb
  have h3 : i = j → l[i] = l[j] := fun e => by subst e; rfl
  have e4 : (if i = j then l[j] else l[j]) = l[j] := by split <;> rfl
  rw [e4]
  generalize l.count c = m at *
  generalize l[i] = a at *
  generalize l[j] = b at *
  by_cases e1 : a = c <;> by_cases e2 : b = c <;> simp only [beq_iff_eq, e1, e2, if_true, if_false] <;> simp only [e1, e2, true_implies, false_implies] at h1 h2 <;> omega
def rowF (n : Nat) (p : List Nat) : List PV := p.map fun e => I ((fr n e : Nat) : Int)
def rowI (cs : List Int) (nx : Int) (p : List Nat) : List PV := p.map fun e => eItem (ev cs nx e)
theorem Ld_row {α : Type} {e : α → PV} {f : Nat → α} {p : List Nat} {i x : Nat} {K : α → Prop} (h : p[i]? = some x) (hk : K (f x)) : Ld e (p.map fun x => e (f x)) i K := ⟨_, by rw [List.getElem?_map, h]; rfl, hk⟩
theorem order_step (cs : List Int) (nx : Int) {p : List Nat} (hp : p.Perm (List.range (cs.length + 2))) (hn0 : 2 ≤ cs.length) (hn : cs.length ≤ 100) {i : Nat} (hi : i < cs.length + 2) {Fail : Prop} {K : Barrier → Prop} (hK : K (stB cs nx (p.take (i + 1)))) :
    Rx (i : Int) (rowF cs.length p).length (Ld I (rowF cs.length p) (0 + (i : Int).toNat) fun x9 => Rx (i : Int) (rowI cs nx p).length (Ld eItem (rowI cs nx p) (0 + (i : Int).toNat) fun x10 =>
      ∃ x11 x12, Cl 15 [eBarrier (stB cs nx (p.take i)), I x9, eItem x10] [.pv (eBarrier x11), .pv (I x12)] ∧ Fk (x12 != 0) Fail (∃ x13, Cl 23 [eBarrier x11] [.pv (B x13)] ∧ Fk (x13 != ((i : Int) == w64 (((rowI cs nx p).length : Int) - 1))) Fail (K x11)))) := by
  have hlen : p.length = cs.length + 2 := by rw [hp.length_eq, List.length_range]
  have hnd : p.Nodup := hp.nodup_iff.2 List.nodup_range
  have hpi := List.getElem?_eq_getElem (hlen ▸ hi : i < p.length)
  have hlt : p[i] < cs.length + 2 := by
    have := hp.mem_iff.1 (List.getElem_mem (hlen ▸ hi : i < p.length))
    exact List.mem_range.1 this
  have hnot := nodup_take hnd hpi
  have hst := st_step cs nx hlt hnot
  have htk : p.take (i + 1) = p.take i ++ [p[i]] := by rw [List.take_add_one, hpi]; rfl
  rw [← htk] at hst
  have hfr : fr cs.length p[i] < cs.length ∨ fr cs.length p[i] = 0 := by
    unfold fr; split
    · left; assumption
    · right; rfl
  obtain ⟨l1, l2⟩ := st_len cs nx (p.take i)
  have c := c15 (stB cs nx (p.take i)) (fr cs.length p[i]) (ev cs nx p[i]) (by omega) (by omega) (by omega)
  rw [hst] at c
  have hr : ready (stB cs nx (p.take (i + 1))) = ((i : Int) == w64 (((rowI cs nx p).length : Int) - 1)) := by
    simp only [rowI, List.length_map, hlen]
    rw [w64_id (by omega) (by omega)]
    by_cases hlast : i = cs.length + 1
    · have : p.take (i + 1) = p := List.take_of_length_le (by omega)
      rw [this, (st_ready _ _ _).2 fun e he => hp.mem_iff.2 (List.mem_range.2 he)]
      subst hlast
      symm
      simp only [beq_iff_eq]
      omega
    · have h2 : ((i : Int) == ((cs.length + 2 : Nat) : Int) - 1) = false := by simp; omega
      rw [h2]
      cases hh : ready (stB cs nx (p.take (i + 1))) with
      | false => rfl
      | true =>
        have hp2 := List.getElem?_eq_getElem (by omega : i + 1 < p.length)
        have := nodup_take hnd hp2
        refine absurd ((st_ready _ _ _).1 hh _ ?_) this
        exact List.mem_range.1 (hp.mem_iff.1 (List.getElem_mem _))
  refine Rx_nat (by simp [rowF, hlen]; omega) ?_
  rw [Nat.zero_add, Int.toNat_natCast]
  refine Ld_row hpi (Rx_nat (by simp [rowI, hlen]; omega) (Ld_row hpi ⟨_, _, c, Fk_f rfl ⟨_, c23 _, Fk_f (by rw [hr]; simp) hK⟩⟩))
theorem rowF_len (n : Nat) (p : List Nat) : (rowF n p).length = p.length := List.length_map ..
theorem rowI_len (cs : List Int) (nx : Int) (p : List Nat) : (rowI cs nx p).length = p.length := List.length_map ..
theorem range2 (n : Nat) : List.range (n + 2) = List.range n ++ [n, n + 1] := by simp [List.range_succ]
abbrev Bx := Bool × Int × (List PV) × (List PV) × Bool × (List PV) × Unit
def bx (b : Barrier) : Bx := (b.on, b.next, b.acked.map B, b.count.map I, b.done, b.l.map I, ())
set_option maxHeartbeats 1000000 in
theorem flushOrder (l : List Int) (a : UInt8) (s : List UInt8) : Cl 5 [.sl false (l.map (fun n : Int => PV.lit (.int .u16 n))), U8 a, lU8 s] [.pv (B true)] := t5 _ _ _ (by
  simp only [P5, Ln, SmA_true, true_and, List.length_map]
  refine ⟨_, c8, fun _ _ => Fk_of (fun _ => .refl _) fun h1 => Fk_of (fun _ => .refl _) fun h2 => Fk_of (fun _ => .refl _) fun h3 => ?_⟩
  simp only [decide_eq_false_iff_not] at h1 h2 h3
  have hn0 : 2 ≤ l.length := by omega
  have hn : l.length ≤ 9 := by omega
  obtain ⟨cs, hcs⟩ : ∃ cs, cs = l.map w64 := ⟨_, rfl⟩
  have hl : cs.length = l.length := by rw [hcs, List.length_map]
  obtain ⟨nx, hnx⟩ : ∃ nx, nx = Int.tmod (w64 (a.toNat : Int)) 2 := ⟨_, rfl⟩
  refine Lo_up l.length (fun i v => v = (true, rowF cs.length (List.range i), rowI cs nx (List.range i), (cs.take i).map I, (i : Int), ())) ?_ (Nat.zero_le _) rfl
  rintro L i _ hi rfl hL
  by_cases hlt : i < l.length
  · have ha := List.getElem?_eq_getElem hlt
    refine Fk_t (by simpa using hlt) (Sz_of (by simp [rowF_len]; omega) (Ix_nat ha (Sz_of (by simp [rowI_len]; omega) (Ix_nat ha (Sz_of (by simp; omega) (hL _ hlt ?_))))))
    have hci : cs[i]? = some (w64 l[i]) := by rw [hcs, List.getElem?_map, ha]; rfl
    have hcd : cs.getD i 0 = w64 l[i] := by rw [List.getD_eq_getElem?_getD, hci]; rfl
    simp only [Prod.mk.injEq, true_and]
    refine ⟨?_, ?_, ?_, w64_succ hlt (by omega), trivial⟩
    · simp [rowF, List.range_succ, fr, hl, hlt]
    · have e : ev cs nx i = ⟨5, 1, 0, 0, 0, w64 l[i], [], []⟩ := by rw [ev, if_pos (by omega), hcd]
      simp only [rowI, List.range_succ, List.map_append, List.map_cons, List.map_nil, e]
      rfl
    · rw [List.take_add_one, hci]; simp
  obtain rfl : i = l.length := by omega
  refine Fk_f (by simp) (Sz_of (by simp [rowF_len]; omega) ⟨by omega, Sz_of (by simp [rowI_len]; omega) ⟨_, c19 (by omega) (by omega), ?_⟩⟩)
  rw [← hl, st_new cs nx]
  have pf := fun (p : List Nat) (hp : p.Perm (List.range (cs.length + 2))) (i : Nat) (hi : i < cs.length + 2) (Fail : Prop) (K : Barrier → Prop) hK => order_step cs nx hp (by omega) (by omega) (i := i) hi (Fail := Fail) (K := K) hK
  have lenp : ∀ p : List Nat, p.Perm (List.range (cs.length + 2)) → p.length = cs.length + 2 := fun p hp => by rw [hp.length_eq, List.length_range]
  refine Lo_up (cs.length + 2) (fun i v => v = (true, rowF cs.length (List.range (cs.length + 2)), rowI cs nx (List.range (cs.length + 2)), (i : Int), bx (stB cs nx ((List.range (cs.length + 2)).take i)), ())) ?_ (Nat.zero_le _) ?_
  rotate_left
  · simp only [List.take_zero, Prod.mk.injEq, true_and, bx, and_true]
    refine ⟨?_, ?_, rfl⟩
    · have f1 : fr cs.length cs.length = 0 := if_neg (by omega)
      have f2 : fr cs.length (cs.length + 1) = 0 := if_neg (by omega)
      rw [range2]
      simp only [rowF, List.map_append, List.map_cons, List.map_nil, f1, f2]
      rfl
    · have e1 : ev cs nx cs.length = ⟨4, 1, 0, nx, 0, 0, [], []⟩ := by rw [ev, if_neg (by omega), if_pos rfl]
      have e2 : ev cs nx (cs.length + 1) = ⟨6, 1, 0, 0, 0, 0, cs, []⟩ := by rw [ev, if_neg (by omega), if_neg (by omega)]
      rw [range2, ← hnx]
      simp only [rowI, List.map_append, List.map_cons, List.map_nil, e1, e2, ← hl, List.take_length]
      rfl
  rintro L i _ hi rfl hL _
  by_cases hlt : i < cs.length + 2
  · refine Fk_t (by simp [rowI_len]; omega) ?_
    refine pf _ (.refl _) i hlt _ _ ?_
    have := hL _ hlt rfl
    rw [← w64_succ (n := cs.length + 2) hlt (by omega)] at this
    exact this
  obtain rfl : i = cs.length + 2 := by omega
  refine Fk_f (by simp [rowI_len]) ?_
  have hfull : (List.range (cs.length + 2)).take (cs.length + 2) = List.range (cs.length + 2) := List.take_of_length_le (by simp)
  rw [hfull]
  refine Lo_up s.length (fun i v => ∃ p : List Nat, p.Perm (List.range (cs.length + 2)) ∧ v = (true, rowF cs.length p, rowI cs nx p, (i : Int), bx (stB cs nx (List.range (cs.length + 2))), ())) ?_ (Nat.zero_le _) ⟨_, .refl _, rfl⟩
  rintro L i _ hi ⟨p, hp, rfl⟩ hL
  have hplen := lenp p hp
  by_cases hlt : i < s.length
  · have hs := List.getElem?_eq_getElem hlt
    refine Fk_t (by simpa using hlt) fun _ => Ix_nat hs ?_
    simp only [rowI_len, rowF_len, hplen]
    have hu := u8_le s[i]
    have ja : s[i].toNat % (cs.length + 2) < p.length := by rw [hplen]; exact Nat.mod_lt _ (by omega)
    have jb : i % (cs.length + 2) < p.length := by rw [hplen]; exact Nat.mod_lt _ (by omega)
    have pa := List.getElem?_eq_getElem ja
    have pb := List.getElem?_eq_getElem jb
    have eb : Int.tmod (i : Int) ((cs.length + 2 : Nat) : Int) = ((i % (cs.length + 2) : Nat) : Int) := rfl
    rw [tmod_nat _ _ (by omega), eb]
    simp only [Nat.zero_add, Int.toNat_natCast]
    have perm := perm_swap pa pb
    generalize s[i].toNat % (cs.length + 2) = x at *
    generalize i % (cs.length + 2) = y at *
    rw [hplen] at ja jb
    have hp2 := perm.trans hp
    have pb' : (p.set x p[y])[y]? = some (if x = y then p[y] else p[y]) := by
      rw [List.getElem?_set]; split
      · rename_i e; subst e; simp [ja, hplen]
      · exact pb
    refine ⟨by omega, by omega, Rx_nat jb (Ld_row pb (Rx_nat ja (Ld_row pa (Rx_nat ja (Ld_row pa (Rx_nat jb ?_))))))⟩
    have e1 : ((rowI cs nx p).set x (eItem (ev cs nx p[y]))) = rowI cs nx (p.set x p[y]) := List.map_set.symm
    have e2 : ((rowF cs.length p).set x (I (fr cs.length p[y] : Nat))) = rowF cs.length (p.set x p[y]) := List.map_set.symm
    have e3 : (rowI cs nx (p.set x p[y])).set y (eItem (ev cs nx p[x])) = rowI cs nx ((p.set x p[y]).set y p[x]) := List.map_set.symm
    have e4 : (rowF cs.length (p.set x p[y])).set y (I (fr cs.length p[x] : Nat)) = rowF cs.length ((p.set x p[y]).set y p[x]) := List.map_set.symm
    rw [e1]
    refine Ld_row pb' (Rx_nat jb (Ld_row pb (Rx_nat ja (Ld_row pa (Rx_nat ja (Ld_row pa (Rx_nat jb ?_)))))))
    rw [e2]
    refine Ld_row pb' ?_
    rw [e3, e4, w64_succ hlt (by omega)]
    exact hL _ hlt ⟨_, hp2, rfl⟩
  obtain rfl : i = s.length := by omega
  refine Fk_f (by simp) ⟨_, c19 (by omega) (by omega), ?_⟩
  rw [st_new cs nx]
  refine Lo_up (cs.length + 2) (fun i v => v = (true, rowF cs.length p, rowI cs nx p, (i : Int), bx (stB cs nx (List.range (cs.length + 2))), bx (stB cs nx (p.take i)), ())) ?_ (Nat.zero_le _) rfl
  rintro L i _ hi rfl hL _
  by_cases hlt : i < cs.length + 2
  · refine Fk_t (by simp [rowI_len]; omega) ?_
    refine pf p hp i hlt _ _ ?_
    have := hL _ hlt rfl
    rw [← w64_succ (n := cs.length + 2) hlt (by omega)] at this
    exact this
  obtain rfl : i = cs.length + 2 := by omega
  refine Fk_f (by simp [rowI_len, hplen]) (Fk_t rfl ⟨_, c13 (stB cs nx (p.take (cs.length + 2))) (stB cs nx (List.range (cs.length + 2))), rvB.2 ?_⟩)
  rw [List.take_of_length_le (by omega), sameB_iff]
  exact st_ext cs nx fun e _ => hp.mem_iff)
end Go.Proofs.Ytnekeanhkkfpnaa.M
