import Derived.Test.YtnhaofaeaokgdaaGreatR20g
set_option linter.all false
set_option linter.unusedVariables false
set_option linter.unusedSimpArgs false
set_option linter.unnecessarySimpa false
namespace Go.Proofs.YtnhaofaeaokgdaaGreat.M
open Go Go.Mir Go.Proofs

/-! ### What is freed -/
/-- Rows of all members but one, up to a place. -/
def othersUp (h : List (List Int)) (me : Int) : Nat → List (List Int)
  | 0 => []
  | i + 1 => othersUp h me i ++ (if (i : Int) ≠ me then [nthL h i] else [])
theorem othersUp_len (h : List (List Int)) (me : Int) : ∀ i, (othersUp h me i).length ≤ i
  | 0 => by simp [othersUp]
  | i + 1 => by have := othersUp_len h me i; unfold othersUp; split <;> simp <;> omega
def uptoR (r : Rel) (done : List Int) : Int := leastV (done :: othersUp r.have_ r.me r.win.length) r.me
def keepF (r : Rel) (done : List Int) : Keep := ⟨r.keep.next, K8.freeL (uptoR r done) r.keep.l⟩
def keptF (r : Rel) (done : List Int) (n : Int) : Bool := (K8.getL n (keepF r done).l).2
def freeR (r : Rel) (done : List Int) : Rel := { r with keep := keepF r done, lost := r.lost.filter (keptF r done) }
/-- Those that are kept stand ahead, the others go. -/
theorem take_set_lt {α : Type} (l : List α) (i : Nat) (x : α) (h : i < l.length) : (l.set i x).take (i + 1) = l.take i ++ [x] := by
  rw [List.take_add_one, List.take_set_of_le (Nat.le_refl _), List.getElem?_set_self h]; rfl
theorem c16 {r : Rel} {N : Nat} (hr : WF r N) {done : List Int} (hd : done.length = N) : Cl 16 [eRel r, lI done] [.pv (eRel (freeR r done))] := t16 _ _ (by
  have n64 := hr.n64
  unfold P16
  refine ⟨Tryz.func47, Tryz.func102, ?_⟩
  simp only [Ln, List.length_map, SmA_true, true_and]
  intro _ hw _ _ _ _
  refine Lo_up N (fun i v => v = ((i : Int), (), (), ((done :: othersUp r.have_ r.me i).map lI, ()), (), ())) ?_ (i := 0) (Nat.zero_le _) rfl
  rintro L i _ hi rfl hL
  have hol := othersUp_len r.have_ r.me i
  refine Fk_of (fun h => ?_) fun h => ?_
  · have hlt : i < N := by simp [hr.win] at h; omega
    refine Jn_mid (fun v => v = ((i : Int), (), (), ((done :: othersUp r.have_ r.me (i + 1)).map lI, ()), (), ())) ?_ ?_
    · intro j hj
      refine Fk_of (fun hm => ?_) fun hm => hj _ ?_
      · have hm' : (i : Int) ≠ r.me := by simpa using hm
        refine Ix_nat (nthL_get (by rw [hr.have_]; exact hlt)) (Sz_of (by simp; omega) (hj _ ?_))
        simp only [othersUp, if_pos hm', List.map_cons, List.map_append, List.map_nil, List.cons_append]
      · have hm' : ¬ (i : Int) ≠ r.me := by simpa using hm
        simp only [othersUp, if_neg hm', List.append_nil]
    · rintro _ rfl
      simp only [w64_succ hlt (by omega)]
      exact hL _ hlt rfl
  · have hiN : i = N := by simp [hr.win] at h; omega
    subst hiN
    refine ⟨_, c59 _ _, _, K8.c58 _ _, _, c51 _ (by have := hr.lost; omega), ?_⟩
    have hu : leastV (done :: othersUp r.have_ r.me i) r.me = uptoR r done := by unfold uptoR; rw [hr.win]
    rw [hu]
    have hlost := hr.lost
    have hget : ∀ x, Cl 46 [.agg [I (keepF r done).next, .sl false ((keepF r done).l.map eItem)], I x] [.pv (eItem (K8.getL x (keepF r done).l).1), .pv (B (keptF r done x))] := fun x => K8.c46 (keepF r done) x
    refine Jn_mid (fun v => v = ((r.lost.filter (keptF r done)).map I, ((keepF r done).next, (keepF r done).l.map eItem, ()), (), ())) ?_ ?_
    · intro j10 hj10
      refine ⟨Tryz.func60, ?_⟩
      refine Jn_mid (fun v => (v = (r.lost.map I, -1, ((keepF r done).next, (keepF r done).l.map eItem, ()), (), ()) ∧ ∀ x ∈ r.lost, keptF r done x = true) ∨ ∃ (i : Nat) (x : Int), v = (r.lost.map I, (i : Int), ((keepF r done).next, (keepF r done).l.map eItem, ()), (), ()) ∧ r.lost[i]? = some x ∧ keptF r done x = false ∧ ∀ y ∈ r.lost.take i, keptF r done y = true) ?_ ?_
      · intro j12 hj12
        refine ⟨Tryz.func108, ?_⟩
        intro _
        refine Lo_drop r.lost (fun i s v => v = ((r.lost.length : Int), (i : Int), r.lost.map I, ((keepF r done).next, (keepF r done).l.map eItem, ()), (), ()) ∧ ∀ y ∈ r.lost.take i, keptF r done y = true) ?_ ?_ ⟨by rw [List.length_map]; rfl, by simp⟩
        · rintro L _ ⟨rfl, ha⟩
          refine Fk_f (by simp) (hj12 _ (.inl ⟨rfl, ?_⟩))
          simpa using ha
        · rintro L i x s _ hi hx _ ⟨rfl, ha⟩ hL
          refine Fk_t (by simpa using hi) (Rx_nat (by simpa using hi) ?_)
          rw [Nat.zero_add, Int.toNat_natCast]
          refine Ld_map hx ⟨Tryz.func61, _, _, hget x, Fk_of (fun h => hj12 _ (.inr ⟨i, x, rfl, hx, by simpa using h, ha⟩)) fun h => hL _ ⟨?_, fun y hy => ?_⟩⟩
          · simp only [w64_succ hi (by omega)]
          · rw [take_zip _ _ _ hx] at hy
            rcases List.mem_append.1 hy with hy | hy
            · exact ha y hy
            · have : y = x := by simpa using hy
              rw [this]; simpa using h
      · rintro _ (⟨rfl, ha⟩ | ⟨i0, x0, rfl, hx0, hk0, ha⟩)
        · refine Fk_t rfl (hj10 _ ?_)
          rw [List.filter_eq_self.2 ha]
        · have hi0 : i0 < r.lost.length := (List.getElem?_eq_some_iff.1 hx0).1
          refine Fk_f (by first | (simp; done) | (simp; omega)) ?_
          have hfil : (r.lost.take i0).filter (keptF r done) = r.lost.take i0 := List.filter_eq_self.2 ha
          refine Lo_up r.lost.length (fun j v => ∃ (zs : List Int) (i : Nat), v = (zs.map I, (i : Int), (j : Int), ((keepF r done).next, (keepF r done).l.map eItem, ()), (), ()) ∧ zs.length = r.lost.length ∧ i < j ∧ zs.take i = (r.lost.take j).filter (keptF r done) ∧ zs.drop j = r.lost.drop j) ?_ (i := i0 + 1) (by omega)
            ⟨r.lost, i0, by simp only [w64_succ hi0 (by omega)], rfl, by omega, by rw [take_zip _ _ _ hx0, List.filter_append, hfil]; simp [hk0], rfl⟩
          rintro L j _ hj ⟨zs, i, rfl, hz, hij, h1, h2⟩ hL
          simp only [Ln, List.length_map]
          intro _
          refine Fk_of (fun h => ?_) fun h => ?_
          · have hlt : j < r.lost.length := by simp only [decide_eq_true_eq] at h; omega
            have hxj := List.getElem?_eq_getElem hlt
            have hzj : zs[j]? = some r.lost[j] := by
              have : (zs.drop j)[0]? = (r.lost.drop j)[0]? := by rw [h2]
              simpa [List.getElem?_drop] using this.trans (by simp)
            have hdrop : zs.drop (j + 1) = r.lost.drop (j + 1) := by
              have : (zs.drop j).drop 1 = (r.lost.drop j).drop 1 := by rw [h2]
              simpa [List.drop_drop] using this
            refine Jn_mid (fun v => ∃ (zs : List Int) (i : Nat), v = (zs.map I, (i : Int), (j : Int), ((keepF r done).next, (keepF r done).l.map eItem, ()), (), ()) ∧ zs.length = r.lost.length ∧ i < j + 1 ∧ zs.take i = (r.lost.take (j + 1)).filter (keptF r done) ∧ zs.drop (j + 1) = r.lost.drop (j + 1)) ?_ ?_
            · intro j16 hj16
              refine Rx_nat (by omega) ?_
              rw [Nat.zero_add, Int.toNat_natCast]
              refine Ld_map hzj ⟨Tryz.func61, _, _, hget _, Fk_of (fun hk => Rx_nat (by omega) ?_) fun hk => hj16 _ ⟨zs, i, rfl, hz, by omega, ?_, hdrop⟩⟩
              · rw [Nat.zero_add, Int.toNat_natCast]
                refine Ld_map (List.getElem?_eq_getElem (show i < zs.length by omega)) ?_
                rw [← List.map_set, w64_succ (show i < r.lost.length by omega) (by omega)]
                refine hj16 _ ⟨_, i + 1, rfl, by simp [hz], by omega, ?_, ?_⟩
                · have hk' : keptF r done r.lost[j] = true := by simpa using hk
                  rw [take_set_lt _ _ _ (by omega), h1, take_zip _ _ _ hxj, List.filter_append]
                  simp [hk']
                · rw [List.drop_set_of_lt (by omega)]; exact hdrop
              · have hk' : keptF r done r.lost[j] = false := by simpa using hk
                rw [h1, take_zip _ _ _ hxj, List.filter_append]
                simp [hk']
            · rintro _ ⟨zs', i', rfl, hz', hi', h1', h2'⟩
              simp only [w64_succ hlt (by omega)]
              exact hL _ hlt ⟨zs', i', rfl, hz', hi', h1', h2'⟩
          · have hjl : j = r.lost.length := by simp only [decide_eq_false_iff_not] at h; omega
            subst hjl
            refine ⟨by omega, by omega, by simp only [Int.toNat_natCast]; omega, by omega, by omega, ?_, ?_⟩
            · simp only [Int.toNat_natCast, Nat.zero_add, List.length_append, List.length_take, List.length_replicate, List.length_drop, List.length_map]; omega
            · simp only [Int.toNat_natCast, Nat.zero_add, List.drop_zero]
              refine hj10 _ ?_
              rw [List.append_assoc, List.take_append_of_le_length (by simp; omega), List.take_take, Nat.min_self, ← List.map_take, h1, List.take_length]
    · rintro _ rfl
      exact .refl _)
theorem getL_ref {k : Keep} (u : Int) : (⟨k.next, k.l⟩ : Keep) = k := rfl
theorem fold_up (h : List (List Int)) (me : Int) (d : Int) (i : Nat) : (othersUp h me (i + 1)).foldl (fun n x => min n (atV x me)) d = if (i : Int) ≠ me then min ((othersUp h me i).foldl (fun n x => min n (atV x me)) d) (atV (nthL h i) me) else (othersUp h me i).foldl (fun n x => min n (atV x me)) d := by
  simp only [othersUp]
  split
  · rw [List.foldl_append]; rfl
  · rw [List.append_nil]
theorem c17 {r : Rel} {N : Nat} (hr : WF r N) {done : List Int} (hd : done.length = N) : Cl 17 [eRel r, lI done] [.pv (eRel (freeR r done))] := t17 _ _ (by
  have n64 := hr.n64
  obtain ⟨m, hm⟩ : ∃ m : Nat, r.me = m := ⟨r.me.toNat, by have := hr.me0; omega⟩
  have hmN : m < N := by have := hr.meN; omega
  simp only [P17, SmA_true, true_and]
  rw [hm]
  refine Ix_nat (atN_get (by omega)) ?_
  refine Lo_up N (fun i v => v = ((othersUp r.have_ r.me i).foldl (fun n x => min n (atV x r.me)) (atV done r.me), (i : Int), (), (), ())) ?_ (i := 0) (Nat.zero_le _) (by simp only [othersUp, List.foldl_nil, hm, atV_nat]; rfl)
  rintro L i _ hi rfl hL
  simp only [Ln, List.length_map]
  intro _ _ _ _ _ _
  refine Fk_of (fun h => ?_) fun h => ?_
  · have hlt : i < N := by simp [hr.win] at h; omega
    refine Jn_mid (fun v => v = ((othersUp r.have_ r.me (i + 1)).foldl (fun n x => min n (atV x r.me)) (atV done r.me), (i : Int), (), (), ())) ?_ ?_
    · intro j hj
      refine Fk_of (fun hne => ?_) fun hne => hj _ ?_
      · have hne' : (i : Int) ≠ r.me := by rw [hm]; simpa using hne
        have hh := nthL_get (l := r.have_) (i := i) (by rw [hr.have_]; exact hlt)
        have hx := atN_get (l := nthL r.have_ i) (i := m) (by rw [hr.h hlt]; exact hmN)
        refine Ix_nat hh (Ix_nat hx (Fk_of (fun hc => Ix_nat hh (Ix_nat hx (hj _ ?_))) fun hc => hj _ ?_))
        · rw [fold_up, if_pos hne']
          simp only [hm, atV_nat, decide_eq_true_eq] at hc ⊢
          rw [Int.min_eq_right (by omega)]
        · rw [fold_up, if_pos hne']
          simp only [hm, atV_nat, decide_eq_false_iff_not] at hc ⊢
          rw [Int.min_eq_left (by omega)]
      · have hne' : ¬ (i : Int) ≠ r.me := by rw [hm]; simpa using hne
        rw [fold_up, if_neg hne']
    · rintro _ rfl
      simp only [w64_succ hlt (by omega)]
      exact hL _ hlt rfl
  · have hiN : i = N := by simp [hr.win] at h; omega
    subst hiN
    have hk := K8.right_parts hr.keep
    refine ⟨_, K8.c62 _ _ (by omega), ?_⟩
    rw [← K8.free_filter hk.2.2.2]
    have hu : (othersUp r.have_ r.me i).foldl (fun n x => min n (atV x r.me)) (atV done r.me) = uptoR r done := by unfold uptoR leastV; rw [hr.win]
    rw [hu]
    have hget : ∀ x, Cl 52 [.agg [I (keepF r done).next, .sl false ((keepF r done).l.map eItem)], I x] [.pv (eItem (K8.getL x (keepF r done).l).1), .pv (B (keptF r done x))] := fun x => K8.c52 (keepF r done) x
    have hlost := hr.lost
    refine Lo_drop r.lost (fun i s v => ∃ acc : List Int, v = (acc.map I, (i : Int), ((keepF r done).next, (keepF r done).l.map eItem, ()), (), ()) ∧ acc.length ≤ i ∧ r.lost.filter (keptF r done) = acc ++ s.filter (keptF r done)) ?_ ?_ ⟨[], rfl, by simp, rfl⟩
    · rintro L _ ⟨acc, rfl, _, he⟩
      simp only [Ln, List.length_map]
      intro _ _ _ _ _ _
      refine Fk_f (by simp) ?_
      rw [List.filter_nil, List.append_nil] at he
      rw [← he, ← hm]; exact .refl _
    · rintro L i x s _ hi hx _ ⟨acc, rfl, hacc, he⟩ hL
      simp only [Ln, List.length_map]
      intro _ _ _ _ _ _
      refine Fk_t (by simpa using hi) ?_
      refine Jn_mid (fun v => ∃ acc : List Int, v = (acc.map I, (i : Int), ((keepF r done).next, (keepF r done).l.map eItem, ()), (), ()) ∧ acc.length ≤ i + 1 ∧ r.lost.filter (keptF r done) = acc ++ s.filter (keptF r done)) ?_ ?_
      · intro j hj
        refine Ix_nat hx ⟨_, _, hget x, Fk_of (fun hkx => Ix_nat hx (Sz_of (by first | omega | (simp; omega)) (hj _ ⟨acc ++ [x], by simp, by simp; omega, ?_⟩))) fun hkx => hj _ ⟨acc, rfl, by omega, ?_⟩⟩
        · rw [he]; simp [hkx]
        · rw [he]; simp [hkx]
      · rintro _ ⟨acc', rfl, h1, h2⟩
        simp only [w64_succ hi (by omega)]
        exact hL _ ⟨acc', rfl, by omega, h2⟩)
end Go.Proofs.YtnhaofaeaokgdaaGreat.M
