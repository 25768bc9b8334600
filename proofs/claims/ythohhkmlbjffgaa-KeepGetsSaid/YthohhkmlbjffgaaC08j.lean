import Derived.Test.YthohhkmlbjffgaaC08i
namespace Go.Proofs.Ythohhkmlbjffgaa.M
open Go Go.Mir Go.Proofs Go.RowKit
set_option maxRecDepth 100000
theorem ixA (lf : Bool) (l : List Item) (i : Nat) (a : Item) (hg : l[i]? = some a) (σ : Store) : indexAddrE E.P 22 (.pv (.sl lf (l.map eI))) (.pv (I i)) σ = some ⟨.pv (.ip (eI a).cells 0), [], []⟩ := by
  have h1 : (0 : Int) ≤ (i : Int) := by omega
  simp only [indexAddrE, EP, Try.underlying22, asI, List.getElem?_map, hg, Int.toNat_natCast, Option.map_some, h1, if_true, sz28, PV.cells, valE, List.length_cons, List.length_nil]
  rw [if_pos ⟨trivial, by omega⟩]
theorem asc_at (may : Item → Bool) (n : Int) (l : List Item) (h : asc may n l = true) : ∀ (j : Nat) (hj : j < l.length), l[j].seq = n - ((l.length : Int) - (j : Int)) := by
  induction l with
  | nil => intro j hj; simp at hj
  | cons x r ih =>
    unfold asc at h
    simp only [Bool.and_eq_true, beq_iff_eq] at h
    intro j hj
    cases j with
    | zero => simp only [List.getElem_cons_zero, List.length_cons]; omega
    | succ j =>
      have := ih h.2.2 j (by simpa using hj)
      simp only [List.getElem_cons_succ, List.length_cons]
      omega
theorem keepGets7 (may : Item → Bool) (lf : Bool) (n u : Int) (l : List Item) (hl : l.length < 4611686018427387904)
    (hm : ∀ a ∈ l, call E 27 [.agg [I a.kind, I a.seq, I a.epoch, I a.index, I a.total, I a.count, .sl a.lf (a.l.map I), .sl a.bf (a.body.map U8)]] = some [.pv (B (may a))]) :
    call E 7 [.agg [I n, .sl lf (l.map eI)], I u] = some [.pv (B true)] := by
  have h10 := few10 lf l hl
  have h12 := right12 may lf n l hl hm
  generalize hf : (decide ((l.length : Int) ≤ 80) && l.all fewI) = few at h10
  generalize hr : rightL may n l = right at h12
  cases few
  · exact callQ (fn := Try.f7) 400 [(2, .call [.pv (B true)]), (6, .call [.pv (B false)])] (qs := [call E 9 [] = some [.pv (B true)], call E 10 [.sl lf (l.map eI)] = some [.pv (B false)]]) rfl rfl (Nat.le_of_ble_eq_true rfl) (by kernel_rfl) (Holds.cons (shown9) (Holds.cons (h10) Holds.nil))
  cases right
  · exact callQ (fn := Try.f7) 400 [(2, .call [.pv (B true)]), (6, .call [.pv (B true)]), (10, .call [.pv (B false)])] (qs := [call E 9 [] = some [.pv (B true)], call E 10 [.sl lf (l.map eI)] = some [.pv (B true)], call E 12 [.agg [I n, .sl lf (l.map eI)]] = some [.pv (B false)]]) rfl rfl (Nat.le_of_ble_eq_true rfl) (by kernel_rfl) (Holds.cons (shown9) (Holds.cons (h10) (Holds.cons (h12) Holds.nil)))
  simp only [rightL, Bool.and_eq_true, decide_eq_true_eq] at hf hr
  have hL := few_len l hf.2
  have hA := asc_at may n l hr.2.2.2
  have hw : IntKind.i64.wrap (n - (l.length : Int)) = n - l.length := wrapI (by omega) (by omega)
  cases hi : l.findIdx? (fun a => a.seq == u) with
  | none =>
    have g20 := get20n lf n u l hl hi
    by_cases h1 : u < n
    · have h2 : ¬ n - (l.length : Int) ≤ u := by
        intro h2
        have hj : (u - (n - l.length)).toNat < l.length := by omega
        have e := hA _ hj
        have hne := List.findIdx?_eq_none_iff.1 hi _ (List.getElem_mem hj)
        simp only [beq_eq_false_iff_ne, ne_eq] at hne
        omega
      exact callQ (fn := Try.f7) 400 [(2, .call [.pv (B true)]), (6, .call [.pv (B true)]), (10, .call [.pv (B true)]), (15, .call [.pv zI, .pv (B false)]), (25, .val (.pv (B true))), (33, .val (.pv (I (n - l.length)))), (34, .val (.pv (B false)))] (qs := [call E 9 [] = some [.pv (B true)], call E 10 [.sl lf (l.map eI)] = some [.pv (B true)], call E 12 [.agg [I n, .sl lf (l.map eI)]] = some [.pv (B true)], call E 20 [.agg [I n, .sl lf (l.map eI)], I u] = some [.pv zI, .pv (B false)], AV.pv (B (decide (u < n))) = .pv (B true), AV.pv (I (IntKind.i64.wrap (n - ((List.map eI l).length : Int)))) = .pv (I (n - l.length)), AV.pv (B (decide (n - (l.length : Int) ≤ u))) = .pv (B false)]) rfl rfl (Nat.le_of_ble_eq_true rfl) (by kernel_rfl) (Holds.cons (shown9) (Holds.cons (h10) (Holds.cons (h12) (Holds.cons (g20) (Holds.cons (by rw [decide_eq_true h1]) (Holds.cons (by rw [List.length_map, hw]) (Holds.cons (by rw [decide_eq_false h2]) Holds.nil)))))))
    · exact callQ (fn := Try.f7) 400 [(2, .call [.pv (B true)]), (6, .call [.pv (B true)]), (10, .call [.pv (B true)]), (15, .call [.pv zI, .pv (B false)]), (25, .val (.pv (B false)))] (qs := [call E 9 [] = some [.pv (B true)], call E 10 [.sl lf (l.map eI)] = some [.pv (B true)], call E 12 [.agg [I n, .sl lf (l.map eI)]] = some [.pv (B true)], call E 20 [.agg [I n, .sl lf (l.map eI)], I u] = some [.pv zI, .pv (B false)], AV.pv (B (decide (u < n))) = .pv (B false)]) rfl rfl (Nat.le_of_ble_eq_true rfl) (by kernel_rfl) (Holds.cons (shown9) (Holds.cons (h10) (Holds.cons (h12) (Holds.cons (g20) (Holds.cons (by rw [decide_eq_false h1]) Holds.nil)))))
  | some i =>
    obtain ⟨hil, hq, _⟩ := List.findIdx?_eq_some_iff_getElem.1 hi
    have hg : l[i]? = some l[i] := List.getElem?_eq_getElem hil
    have e := hA i hil
    have s24 := same24 l[i] l[i] (hL _ (List.getElem_mem hil))
    rw [sameI_refl] at s24
    have g20 := get20s lf n u l hl i l[i] hi hg
    generalize l[i] = a at hg e s24 g20 hq
    have hu : a.seq = u := by simpa using hq
    have h1 : u < n := by omega
    have h2 : n - (l.length : Int) ≤ u := by omega
    have h3 : (a.seq != u) = false := by simpa using hu
    have hw2 : IntKind.i64.wrap (u - (n - (l.length : Int))) = i := by rw [wrapI (by omega) (by omega)]; omega
    exact callQ (fn := Try.f7) 400 [(2, .call [.pv (B true)]), (6, .call [.pv (B true)]), (10, .call [.pv (B true)]), (15, .call [.pv (eI a), .pv (B true)]), (25, .val (.pv (B true))), (33, .val (.pv (I (n - l.length)))), (34, .val (.pv (B true))), (46, .val (.pv (B false))), (72, .val (.pv (I (n - l.length)))), (73, .val (.pv (I i))), (74, .eff ⟨.pv (.ip (eI a).cells 0), [], []⟩), (76, .call [.pv (B true)])] (qs := [call E 9 [] = some [.pv (B true)], call E 10 [.sl lf (l.map eI)] = some [.pv (B true)], call E 12 [.agg [I n, .sl lf (l.map eI)]] = some [.pv (B true)], call E 20 [.agg [I n, .sl lf (l.map eI)], I u] = some [.pv (eI a), .pv (B true)], AV.pv (B (decide (u < n))) = .pv (B true), AV.pv (I (IntKind.i64.wrap (n - ((List.map eI l).length : Int)))) = .pv (I (n - l.length)), AV.pv (B (decide (n - (l.length : Int) ≤ u))) = .pv (B true), AV.pv (B (a.seq != u)) = .pv (B false), AV.pv (I (IntKind.i64.wrap (n - ((List.map eI l).length : Int)))) = .pv (I (n - l.length)), AV.pv (I (IntKind.i64.wrap (u - (n - (l.length : Int))))) = .pv (I i), indexAddrE E.P 22 (.pv (.sl lf (l.map eI))) (.pv (I i)) [(65552, .box true [.pv (I n), .pv (.sl lf (l.map eI))]), (262192, .box true ((eI a).cells.map .pv))] = some ⟨.pv (.ip (eI a).cells 0), [], []⟩, call E 24 [eI a, eI a] = some [.pv (B true)]]) rfl rfl (Nat.le_of_ble_eq_true rfl) (by kernel_rfl) (Holds.cons (shown9) (Holds.cons (h10) (Holds.cons (h12) (Holds.cons (g20) (Holds.cons (by rw [decide_eq_true h1]) (Holds.cons (by rw [List.length_map, hw]) (Holds.cons (by rw [decide_eq_true h2]) (Holds.cons (by rw [h3]) (Holds.cons (by rw [List.length_map, hw]) (Holds.cons (by rw [hw2]) (Holds.cons (ixA lf l i a hg _) (Holds.cons (s24) Holds.nil))))))))))))
end Go.Proofs.Ythohhkmlbjffgaa.M
