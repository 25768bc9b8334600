/- An operation hangs on what it meets alone; what lies apart may stand in either order (lemmas; conditions: what they say). -/
import Derived.Test.YthcmkipbdgndoaaGreatDoorNx11
set_option linter.all false
set_option linter.unusedVariables false
set_option linter.unusedSimpArgs false
set_option linter.unnecessarySimpa false
namespace Go.Mir
open Go Go.RowKit
variable {P : Program} {σ σ' : Store}

/-- Alike at some names. -/
noncomputable def Agree (σ σ' : Store) (ks : List Nat) : Prop := ∀ k ∈ ks, lk σ' k = lk σ k

theorem Agree.left {a b : List Nat} (h : Agree σ σ' (a ++ b)) : Agree σ σ' a := fun k hk => h k (List.mem_append_left _ hk)
theorem Agree.right {a b : List Nat} (h : Agree σ σ' (a ++ b)) : Agree σ σ' b := fun k hk => h k (List.mem_append_right _ hk)
theorem Agree.head {k : Nat} {b : List Nat} (h : Agree σ σ' (k :: b)) : lk σ' k = lk σ k := h k (by simp)
theorem Agree.tail {k : Nat} {b : List Nat} (h : Agree σ σ' (k :: b)) : Agree σ σ' b := fun j hj => h j (List.mem_cons_of_mem _ hj)

theorem readCells_det {n : Nat} {x : AV} {cs : List AV} {ks : List Nat} (h : readCells σ n x = some (cs, ks)) (hl : Agree σ σ' ks) : readCells σ' n x = some (cs, ks) := by
  unfold readCells at h ⊢
  split at h
  · split at h
    · rename_i he
      split at h
      · simp only [Option.some.injEq, Prod.mk.injEq] at h
        obtain ⟨rfl, rfl⟩ := h
        simp only [hl.head, he]
        rw [if_pos (by assumption)]
      · cases h
    · cases h
  · split at h
    · rename_i he
      split at h
      · rename_i hp
        split at h
        · simp only [Option.some.injEq, Prod.mk.injEq] at h
          obtain ⟨rfl, rfl⟩ := h
          simp only [hl.head, he, hp]
          rw [if_pos (by assumption)]
        · cases h
      · cases h
    · cases h
  · exact h
  · split at h
    · rename_i he
      split at h
      · simp only [Option.some.injEq, Prod.mk.injEq] at h
        obtain ⟨rfl, rfl⟩ := h
        simp only [hl.head, he]
        rw [if_pos (by assumption)]
      · cases h
    · cases h
  · cases h

theorem loadE_det {t : TypeId} {x : AV} {e : Eff} (h : loadE P t σ x = some e) (hl : Agree σ σ' e.reads) : loadE P t σ' x = some e := by
  unfold loadE at h ⊢
  split at h
  · split at h
    · rename_i hr
      cases h
      simp only [readCells_det hr hl]
    · cases h
  · split at h
    · rename_i hr
      cases h
      simp only [readCells_det hr hl]
    · cases h
  · cases h

theorem mapR_det {f g : AV → Option (PV × List Nat)} : ∀ {xs : List AV} {ps : List PV} {ks : List Nat}, mapR f xs = some (ps, ks) → (∀ x p l, f x = some (p, l) → (∀ k ∈ l, k ∈ ks) → g x = some (p, l)) → mapR g xs = some (ps, ks)
  | [], ps, ks, h, _ => h
  | y :: r, ps, ks, h, hf => by
    simp only [mapR] at h ⊢
    split at h
    · rename_i p l ps' ks' h1 h2
      simp only [Option.some.injEq, Prod.mk.injEq] at h
      obtain ⟨rfl, rfl⟩ := h
      rw [hf y p l h1 (fun k hk => List.mem_append_left _ hk), mapR_det h2 fun x p l h3 h4 => hf x p l h3 fun k hk => List.mem_append_right _ (h4 k hk)]
    · cases h

theorem resolve_det : ∀ (n : Nat) {x : AV} {p : PV} {ks : List Nat}, resolve σ n x = some (p, ks) → Agree σ σ' ks → resolve σ' n x = some (p, ks) := by
  intro n
  induction n with
  | zero => intro x p ks h; simp [resolve] at h
  | succ n ih =>
    intro x p ks h hl
    have lists : ∀ {xs : List AV} {ps : List PV} {l : List Nat}, mapR (resolve σ n) xs = some (ps, l) → (∀ k ∈ l, k ∈ ks) → mapR (resolve σ' n) xs = some (ps, l) := fun h1 h2 =>
      mapR_det h1 fun x p l' h3 h4 => ih h3 fun k hk => hl k (h2 k (h4 k hk))
    cases x with
    | bot => exact h
    | nilq b es => exact h
    | yl k => exact h
    | gp g off =>
      simp only [resolve] at h ⊢
      split at h
      · rename_i he
        split at h
        · simp only [Option.some.injEq, Prod.mk.injEq] at h
          obtain ⟨rfl, rfl⟩ := h
          simp only [hl.head, he]
          rw [if_pos (by assumption)]
        · cases h
      · cases h
    | pv q => exact h
    | ms k off len own =>
      simp only [resolve] at h ⊢
      split at h
      · rename_i he
        have hh : lk σ' k = lk σ k := by
          cases own
          · simp only [Bool.false_eq_true, if_false] at h
            split at h
            · simp only [Option.some.injEq, Prod.mk.injEq] at h; obtain ⟨rfl, rfl⟩ := h; exact hl.head
            · cases h
          · simp only [if_true, Option.some.injEq, Prod.mk.injEq] at h; obtain ⟨rfl, rfl⟩ := h; exact hl.head
        simp only [hh, he]
        exact h
      · cases h
    | rp k i off =>
      simp only [resolve] at h ⊢
      split at h
      · rename_i he
        split at h
        · rename_i hp
          simp only [Option.some.injEq, Prod.mk.injEq] at h
          obtain ⟨rfl, rfl⟩ := h
          simp only [hl.head, he, hp]
        · cases h
      · cases h
    | bp k off =>
      simp only [resolve] at h ⊢
      split at h
      · rename_i he
        split at h
        · rename_i hp
          simp only [Option.some.injEq, Prod.mk.injEq] at h
          obtain ⟨rfl, rfl⟩ := h
          simp only [hl.head, he, lists hp (fun k hk => List.mem_cons_of_mem _ hk)]
        · cases h
      · cases h
    | mm k =>
      simp only [resolve] at h ⊢
      split at h
      · rename_i he
        simp only [Option.some.injEq, Prod.mk.injEq] at h
        obtain ⟨rfl, rfl⟩ := h
        simp only [hl.head, he]
      · cases h
    | agg cs =>
      simp only [resolve] at h ⊢
      split at h
      · rename_i hp
        simp only [Option.some.injEq, Prod.mk.injEq] at h
        obtain ⟨rfl, rfl⟩ := h
        simp only [lists hp (fun k hk => hk)]
      · cases h
    | tuple cs =>
      simp only [resolve] at h ⊢
      split at h
      · rename_i hp
        simp only [Option.some.injEq, Prod.mk.injEq] at h
        obtain ⟨rfl, rfl⟩ := h
        simp only [lists hp (fun k hk => hk)]
      · cases h
    | fn f a c =>
      simp only [resolve] at h ⊢
      split at h
      · rename_i hp hq
        simp only [Option.some.injEq, Prod.mk.injEq] at h
        obtain ⟨rfl, rfl⟩ := h
        simp only [lists hp (fun k hk => List.mem_append_left _ hk), lists hq (fun k hk => List.mem_append_right _ hk)]
      · cases h

theorem freezeE_det : ∀ (ks : List Nat), Agree σ σ' ks → freezeE σ' ks = freezeE σ ks
  | [], _ => rfl
  | k :: ks, h => by simp only [freezeE, h.head, freezeE_det ks h.tail]

theorem newE_det {k : Nat} {x : AV} {b : Blk} {rd : List Nat} {m m' : List (Nat × Blk)} {e : Eff} (h : newE k σ x b rd m = some e) (hl : Agree σ σ' e.reads) (hm : Agree σ σ' rd → m' = m) : newE k σ' x b rd m' = some e := by
  unfold newE at h ⊢
  split at h
  · rename_i hk
    cases h
    rw [hm hl.tail, hl.head, hk]
  · cases h
theorem newE_reads {k : Nat} {x : AV} {b : Blk} {rd : List Nat} {m : List (Nat × Blk)} {e : Eff} (h : newE k σ x b rd m = some e) : e.reads = k :: rd := by
  unfold newE at h
  split at h
  · cases h; rfl
  · cases h

theorem storeE_det {t : TypeId} {a x : AV} {e : Eff} (h : storeE P t σ a x = some e) (hl : Agree σ σ' e.reads) : storeE P t σ' a x = some e := by
  unfold storeE at h ⊢
  split at h
  · split at h
    · rename_i he
      split at h
      · cases h
        simp only [hl.head, he]
        rw [if_pos (by assumption)]
      · cases h
    · cases h
  · split at h
    · rename_i he
      split at h
      · rename_i hy hres
        split at h
        · split at h
          · rename_i hz
            cases h
            simp only [hl.head, he, hy, resolve_det _ hres hl.tail, hz, freezeE_det _ hl.tail]
            rw [if_pos (by assumption)]
          · cases h
        · cases h
      · cases h
    · cases h
  · cases h

theorem sliceE_det {n : Nat} {x : AV} {lo hi mx : Option AV} {e : Eff} (h : sliceE n σ x lo hi mx = some e) (hl : Agree σ σ' e.reads) : sliceE n σ' x lo hi mx = some e := by
  cases x with
  | ms k off len own =>
    have hk : k ∈ e.reads := by
      simp only [sliceE] at h
      repeat' split at h
      all_goals first | (cases h; simp; done) | cases h
    have e1 := hl k hk
    simp only [sliceE, e1] at h ⊢
    exact h
  | pv p => cases p <;> exact h
  | _ => exact h

theorem sliceK_det {z : Bool} {k n : Nat} {x : AV} {lo hi mx : Option AV} {e : Eff} (h : sliceK z k n σ x lo hi mx = some e) (hl : Agree σ σ' e.reads) : sliceK z k n σ' x lo hi mx = some e := by
  unfold sliceK at h ⊢
  cases z with
  | false => exact sliceE_det h hl
  | true =>
  simp only at h ⊢
  split at h
  · rename_i r off len
    unfold truncE at h ⊢
    split at h
    · rename_i e0 s es he
      split at h
      · cases h
      · rename_i hrk
        have hr : r ∈ e.reads := by
          unfold newE at h
          split at h
          · cases h; simp
          · cases h
        rw [hl r hr, he]
        simp only
        rw [if_neg hrk]
        exact newE_det h hl fun _ => rfl
    · cases h
  · rename_i r off len own m
    unfold clipE at h ⊢
    split at h
    · rename_i p ks hr
      split at h
      · rename_i e' he'
        cases h
        have he2 : sliceE n σ' (.pv p) lo hi (some m) = some e' := by cases p <;> exact he'
        rw [resolve_det _ hr hl]
        simp only [he2, freezeE_det _ hl]
      · cases h
    · cases h
  · exact sliceE_det h hl

theorem indexAddrE_det {t : TypeId} {x ix : AV} {e : Eff} (h : indexAddrE P t x ix σ = some e) (hl : Agree σ σ' e.reads) : indexAddrE P t x ix σ' = some e := by
  cases x with
  | ms k off len own =>
    by_cases hk : k ∈ e.reads
    · have e1 := hl k hk
      simp only [indexAddrE, e1] at h ⊢
      exact h
    · simp only [indexAddrE] at h
      repeat' split at h
      all_goals first | (cases h; done) | (exfalso; apply hk; cases h; simp; done) | (rename_i hh; simp [addrAdd] at hh; done)
  | pv p => cases p <;> exact h
  | _ => exact h

theorem lookupE_det {t : TypeId} {x ix : AV} {ok : Bool} {e : Eff} (h : lookupE P t x ix ok σ = some e) (hl : Agree σ σ' e.reads) : lookupE P t x ix ok σ' = some e := by
  cases x with
  | mm k =>
    have hk : k ∈ e.reads := by
      simp only [lookupE] at h
      split at h
      · split at h
        · split at h
          · rename_i es ks z hm hz
            split at hm
            · cases hm
              split at h
              · cases h; simp
              · cases h; simp
              · cases h
            · cases hm
          · cases h
        · cases h
      · cases h
    have e1 := hl k hk
    simp only [lookupE, e1] at h ⊢
    exact h
  | pv p =>
    cases p with
    | lit v =>
      cases v with
      | map r => cases r <;> exact h
      | _ => exact h
    | _ => exact h
  | _ => exact h

theorem insertE_det {t : TypeId} {m k x : AV} {e : Eff} (h : insertE P t m k x σ = some e) (hl : Agree σ σ' e.reads) : insertE P t m k x σ' = some e := by
  unfold insertE at h ⊢
  split at h
  · split at h
    · split at h
      · rename_i he hres
        split at h
        · rename_i hf
          split at h
          · cases h
          · rename_i hr
            cases h
            simp only [hl.head, he, resolve_det _ hres hl.tail, hf, freezeE_det _ hl.tail]
            rw [if_pos (by assumption), if_neg hr]
        · cases h
      · cases h
    · cases h
  · cases h

theorem insertF_det {t : TypeId} {m k x : AV} {e : Eff} (h : insertF P t m k x σ = some e) (hl : Agree σ σ' e.reads) : insertF P t m k x σ' = some e := by
  unfold insertF at h
  split at h
  · rename_i kt et r key ht
    split at h
    · rename_i hk
      split at h
      · rename_i he
        cases h
        have e1 := hl.head
        simp only [insertF, ht, hk, if_true, e1, he]
      · rename_i es he
        split at h
        · rename_i hf
          cases h
          have e1 := hl.head
          simp only [insertF, ht, hk, if_true, e1, he, hf]
        · cases h
      · cases h
    · cases h
  · cases h
theorem lookupF_cong {t : TypeId} {x ix : AV} {ok : Bool} (hk : ∀ k, x = .mm k → lk σ' k = lk σ k) : lookupF P t x ix ok σ' = lookupF P t x ix ok σ := by
  cases x with
  | mm k => simp only [lookupF, hk k rfl]
  | _ => rfl
theorem lookupF_reads {t : TypeId} {x ix : AV} {ok : Bool} {e : Eff} (h : lookupF P t x ix ok σ = some e) : ∃ k, x = .mm k ∧ e.reads = [k] := by
  cases x with
  | mm k =>
    refine ⟨k, rfl, ?_⟩
    simp only [lookupF] at h
    repeat' split at h
    all_goals first | (cases h; done) | (cases h; rfl)
  | _ => cases h
theorem lookupE_reads {t : TypeId} {k : Nat} {ix : AV} {ok : Bool} {e : Eff} (h : lookupE P t (.mm k) ix ok σ = some e) : e.reads = [k] := by
  simp only [lookupE] at h
  split at h
  · split at h
    · split at h
      · rename_i es ks z hm hz
        split at hm
        · cases hm
          split at h
          · cases h; rfl
          · cases h; rfl
          · cases h
        · cases hm
      · cases h
    · cases h
  · cases h
theorem lookupZ_det {z : Bool} {t : TypeId} {x ix : AV} {ok : Bool} {e : Eff} (h : lookupZ P z t x ix ok σ = some e) (hl : Agree σ σ' e.reads) : lookupZ P z t x ix ok σ' = some e := by
  cases z with
  | false => exact lookupE_det h hl
  | true =>
    simp only [lookupZ] at h ⊢
    cases e1 : lookupF P t x ix ok σ with
    | some e' =>
      rw [e1] at h; cases h
      obtain ⟨k, rfl, hr⟩ := lookupF_reads e1
      rw [lookupF_cong (σ := σ) (σ' := σ') (fun j hj => by cases hj; exact hl k (by rw [hr]; simp)), e1]
    | none =>
      rw [e1] at h
      have := lookupF_cong (P := P) (σ := σ) (σ' := σ') (t := t) (x := x) (ix := ix) (ok := ok) (fun j hj => by subst hj; exact hl j (by rw [lookupE_reads h]; simp))
      rw [this, e1]
      exact lookupE_det h hl
theorem insertZ_det {z : Bool} {t : TypeId} {m k x : AV} {e : Eff} (h : insertZ P z t m k x σ = some e) (hl : Agree σ σ' e.reads) : insertZ P z t m k x σ' = some e := by
  cases z with
  | false => exact insertE_det h hl
  | true => exact insertF_det h hl

theorem elems_det {x : AV} {es : List PV} {ks : List Nat} (h : elems σ x = some (es, ks)) (hl : Agree σ σ' ks) : elems σ' x = some (es, ks) := by
  unfold elems at h ⊢
  split at h
  · exact h
  · rename_i k off len own
    split at h
    · rename_i he
      have hh : lk σ' k = lk σ k := by
        cases own
        · simp only [Bool.false_eq_true, if_false] at h
          split at h
          · simp only [Option.some.injEq, Prod.mk.injEq] at h; obtain ⟨rfl, rfl⟩ := h; exact hl.head
          · cases h
        · simp only [if_true, Option.some.injEq, Prod.mk.injEq] at h; obtain ⟨rfl, rfl⟩ := h; exact hl.head
      simp only [hh, he]
      exact h
    · cases h
  · cases h

theorem lenE_det {t : TypeId} {x : AV} {e : Eff} (h : lenE P t x σ = some e) (hl : Agree σ σ' e.reads) : lenE P t x σ' = some e := by
  unfold lenE at h ⊢
  split at h
  · exact h
  · exact h
  · exact h
  · exact h
  · split at h
    · rename_i he
      cases h
      simp only [hl.head, he]
    · cases h
  · cases h

theorem appendE_det {t tx : TypeId} {s x : AV} {k : Nat} {e : Eff} (h : appendE P t tx s x k σ = some e) (hl : Agree σ σ' e.reads) : appendE P t tx s x k σ' = some e := by
  unfold appendE at h ⊢
  split at h
  · rename_i ht htx hel
    split at h
    · rename_i h1 h2 h3
      split at h
      · rename_i hc
        split at h
        · split at h
          · rename_i he
            split at h
            · rename_i hc2
              have hr := newE_reads h
              rw [hr] at hl
              rw [elems_det hel hl.tail.tail]
              simp only [ht, htx, h1, h2, h3, hl.tail.head, he]
              rw [if_pos hc, if_pos hc2]
              exact newE_det h (by rw [hr]; exact hl) (fun _ => rfl)
            · cases h
          · cases h
        · split at h
          · rename_i hc2
            split at h
            · rename_i hc3
              have hr := newE_reads h
              rw [hr] at hl
              rw [elems_det hel hl.tail]
              simp only [ht, htx, h1, h2, h3]
              rw [if_pos hc, if_pos hc2, if_pos hc3]
              exact newE_det h (by rw [hr]; exact hl) (fun _ => rfl)
            · rename_i hc3
              split at h
              · rename_i hc4
                cases h
                rw [elems_det hel hl]
                simp only [ht, htx, h1, h2, h3]
                rw [if_pos hc, if_pos hc2, if_neg hc3, if_pos hc4]
              · cases h
          · cases h
        · cases h
      · cases h
    · cases h
  · cases h

theorem fillS_det {n : Nat} : ∀ {parts : List (Nat × AV)} {es es' : List PV} {ks : List Nat}, fillS σ n es parts = some (es', ks) → Agree σ σ' ks → fillS σ' n es parts = some (es', ks)
  | [], es, es', ks, h, _ => h
  | (i, x) :: r, es, es', ks, h, hl => by
    simp only [fillS] at h ⊢
    split at h
    · rename_i hres
      split at h
      · rename_i hc
        split at h
        · rename_i hf
          simp only [Option.some.injEq, Prod.mk.injEq] at h
          obtain ⟨rfl, rfl⟩ := h
          simp only [resolve_det _ hres hl.left, fillS_det hf hl.right]
          rw [if_pos hc]
        · cases h
      · cases h
    · cases h

theorem buildSliceE_det {t : TypeId} {len k : Nat} {parts : List (Nat × AV)} {e : Eff} (h : buildSliceE P t len parts k σ = some e) (hl : Agree σ σ' e.reads) : buildSliceE P t len parts k σ' = some e := by
  unfold buildSliceE at h ⊢
  split at h
  · rename_i ht
    split at h
    · rename_i h1 h2
      split at h
      · rename_i hc
        split at h
        · rename_i hf
          have hr := newE_reads h
          rw [hr] at hl
          simp only [fillS_det hf hl.tail]
          rw [if_pos hc]
          exact newE_det h (by rw [hr]; exact hl) (fun ha => freezeE_det _ ha)
        · cases h
      · cases h
    · cases h
  · cases h

theorem makeSliceE_det {t : TypeId} {l c : AV} {k : Nat} {e : Eff} (h : makeSliceE P t l c k σ = some e) (hl : Agree σ σ' e.reads) : makeSliceE P t l c k σ' = some e := by
  unfold makeSliceE at h ⊢
  split at h
  · split at h
    · rename_i h1 h2 h3
      split at h
      · rename_i hc
        skip
        rw [if_pos hc]
        exact newE_det h hl (fun _ => rfl)
      · cases h
    · cases h
  · cases h

theorem clearE_det {t : TypeId} {x : AV} {e : Eff} (h : clearE P t x σ = some e) (hl : Agree σ σ' e.reads) : clearE P t x σ' = some e := by
  unfold clearE at h ⊢
  split at h
  · split at h
    · rename_i hlk hn hz
      split at h
      · rename_i hc
        cases h
        simp only [hl.head, hlk, hn, hz]
        rw [if_pos hc]
      · cases h
    · cases h
  · cases h
theorem copyE_det {t : TypeId} {x y : AV} {e : Eff} (h : copyE P t x y σ = some e) (hl : Agree σ σ' e.reads) : copyE P t x y σ' = some e := by
  unfold copyE at h
  split at h
  · rename_i el k off len own fs ks ht hel
    split at h
    · rename_i e0 s es n hlk hn
      split at h
      · rename_i hc
        cases h
        have e1 := hl.head
        have e2 := elems_det hel hl.tail
        simp only [copyE, ht, e2, e1, hlk, hn]
        rw [if_pos hc]
      · cases h
    · cases h
  · cases h
theorem builtinE_det {b : Builtin} {ts : Array TypeId} {ty : TypeId} {xs : List AV} {k : Nat} {e : Eff} (h : builtinE P b ts ty xs k σ = some e) (hl : Agree σ σ' e.reads) : builtinE P b ts ty xs k σ' = some e := by
  unfold builtinE at h ⊢
  split at h
  · rename_i hts; exact lenE_det h hl
  · exact h
  · rename_i hts
    split at h
    · unfold appendZ at h ⊢
      split at h
      · split at h
        · split at h
          · rename_i hc; rw [if_pos hc]; exact newE_det h hl fun _ => rfl
          · cases h
        · cases h
      · cases h
    · exact appendE_det h hl
  · exact clearE_det h hl
  · exact copyE_det h hl
  · exact h
  · exact h
  · exact h
  · exact h
  · exact h
  · cases h

theorem convE_det {src dst : TypeId} {x : AV} {e : Eff} (h : convE P src dst x σ = some e) (hl : Agree σ σ' e.reads) : convE P src dst x σ' = some e := by
  unfold convE at h ⊢
  split at h
  · exact h
  · rename_i hx
    split at h
    · rename_i h1 h2 hel
      split at h
      · rename_i h3 h4
        cases h
        simp only [h1, h2, elems_det hel hl, h3, h4]
      · cases h
    · cases h

theorem convZ_det {src dst : TypeId} {x : AV} {e : Eff} (h : convZ P src dst x σ = some e) (hl : Agree σ σ' e.reads) : convZ P src dst x σ' = some e := by
  unfold convZ at h ⊢
  split at h
  · rename_i e' he
    cases h
    rw [convE_det he hl]
  · have hm := h
    unfold markE at h
    split at h
    · rename_i k off len el hs hcv
      split at h
      · rename_i e0 es he hu
        split at h
        · rename_i hc
          cases h
          have hn : convE P src dst (.ms k off len true) σ' = none := by
            unfold convE
            simp only
            rw [← hc.1, hs]
          rw [hn]
          simp only [markE, hs, hl.head, he, hu]
          rw [if_pos hc]
        · cases h
      · cases h
    · cases h
theorem arrAddrE_det {t : TypeId} {x ix : AV} {e : Eff} (h : arrAddrE P t x ix σ = some e) (hl : Agree σ σ' e.reads) : arrAddrE P t x ix σ' = some e := by
  unfold arrAddrE at h ⊢
  split at h
  · split at h
    · rename_i k
      split at h
      · rename_i he
        split at h
        · rename_i hc
          cases h
          have := hl k (by simp)
          rw [he] at this
          simp only [this]
          rw [if_pos hc]
        · cases h
      · cases h
    · cases h
  · cases h
theorem sliceArr_det {n el : Nat} {x : AV} {e : Eff} (h : sliceArr P n el x σ = some e) (hl : Agree σ σ' e.reads) : sliceArr P n el x σ' = some e := by
  unfold sliceArr at h ⊢
  split at h
  · rename_i k s hsz
    split at h
    · rename_i he
      split at h
      · rename_i hc
        cases h
        have := hl k (by simp)
        rw [he] at this
        simp only [this]
        rw [if_pos hc]
      · cases h
    · cases h
  · cases h
theorem indexAddrZ_det {z : Bool} {t : TypeId} {x ix : AV} {e : Eff} (h : indexAddrZ P z t x ix σ = some e) (hl : Agree σ σ' e.reads) : indexAddrZ P z t x ix σ' = some e := by
  cases z with
  | false => exact indexAddrE_det h hl
  | true => exact arrAddrE_det h hl

theorem storeA_det {t : TypeId} {a x : AV} {e : Eff} (h : storeA P t σ a x = some e) (hl : Agree σ σ' e.reads) : storeA P t σ' a x = some e := by
  unfold storeA at h ⊢
  split at h
  · split at h
    · rename_i he
      split at h
      · rename_i hc
        cases h
        simp only [hl.head, he]
        rw [if_pos hc]
      · cases h
    · cases h
  · cases h
theorem storeA_cong {t : TypeId} {a x : AV} (hk : ∀ k i off, a = .rp k i off → lk σ' k = lk σ k) : storeA P t σ' a x = storeA P t σ a x := by
  cases a with
  | rp k i off =>
    have e1 := hk k i off rfl
    unfold storeA
    cases sz P t with
    | none => rfl
    | some n => cases i <;> cases off <;> cases x <;> first | rfl | (simp only [e1])
  | _ => unfold storeA; cases sz P t <;> rfl
theorem storeE_reads {t : TypeId} {k i off : Nat} {x : AV} {e : Eff} (h : storeE P t σ (.rp k i off) x = some e) : k ∈ e.reads := by
  simp only [storeE] at h
  repeat' split at h
  all_goals first | (cases h; done) | contradiction | (cases h; simp_all; done)
theorem storeZ_det {z : Bool} {t : TypeId} {a x : AV} {e : Eff} (h : storeZ P z t σ a x = some e) (hl : Agree σ σ' e.reads) : storeZ P z t σ' a x = some e := by
  cases z with
  | false => exact storeE_det h hl
  | true =>
    simp only [storeZ] at h ⊢
    cases e1 : storeA P t σ a x with
    | some e' => rw [e1] at h; cases h; rw [storeA_det e1 hl]
    | none =>
      rw [e1] at h
      rw [storeA_cong (σ := σ) (σ' := σ') (fun k i off hj => by subst hj; exact hl k (storeE_reads h)), e1]
      exact storeE_det h hl

theorem nextE_det {b : Bool} {x : AV} {e : Eff} (h : nextE b x σ = some e) (hl : Agree σ σ' e.reads) : nextE b x σ' = some e := by
  unfold nextE at h ⊢
  split at h
  · split at h
    · rename_i he
      split at h
      · rename_i hc; cases h; simp only [hl.head, he]; rw [if_pos hc]
      · rename_i hc; cases h; simp only [hl.head, he]; rw [if_neg hc]
    · cases h
  · cases h
/-- The same, wherever what is met is the same. -/
theorem prep_det {z : Bool} {ev : Operand → AV} {k : Nat} {o : Oper} {e : Eff} (h : prepZ P z ev σ k o = some (.eff e)) (hl : Agree σ σ' e.reads) : prepZ P z ev σ' k o = some (.eff e) := by
  have eo : ∀ {m m' : Option Eff}, effO m = some (.eff e) → (m = some e → m' = some e) → effO m' = some (.eff e) := fun h h' => by rw [h' (effO_some h)]; rfl
  unfold prepZ at h ⊢
  split at h
  · exact h
  · exact h
  · exact h
  · split at h
    · rename_i h1 h2
      split at h
      · rename_i hc; rw [if_pos hc]; exact eo h fun h => (by
          unfold allocE at h ⊢
          split at h
          · exact newE_det h hl fun _ => rfl
          · split at h
            · exact newE_det h hl fun _ => rfl
            · cases h)
      · cases h
    · cases h
  · split at h
    · rename_i h1
      split at h
      · rename_i hc; rw [if_pos hc]; exact eo h fun h => newE_det h hl fun _ => rfl
      · cases h
    · cases h
  · exact h
  · exact eo h fun h => buildSliceE_det h hl
  · exact eo h fun h => insertZ_det h hl
  · exact eo h fun h => insertZ_det h hl
  · exact eo h fun h => loadE_det h hl
  · exact eo h fun h => storeZ_det h hl
  · exact h
  · exact h
  · exact h
  · exact eo h fun h => convZ_det h hl
  · exact h
  · split at h
    · rename_i h1 h2; exact eo h fun h => newE_det h hl fun _ => rfl
    · rename_i h1 h2
      split at h
      · rename_i h3; exact eo h fun h => newE_det h hl fun _ => rfl
      · cases h
    · cases h
  · exact eo h fun h => makeSliceE_det h hl
  · split at h
    · rename_i h1
      split at h
      · rename_i h2; exact eo h fun h => sliceK_det h hl
      · cases h
    · exact h
    · split at h
      · exact eo h fun h => sliceArr_det h hl
      · cases h
    · cases h
  · exact h
  · exact h
  · exact eo h fun h => indexAddrZ_det h hl
  · exact h
  · exact eo h fun h => lookupZ_det h hl
  · exact h
  · exact h
  · exact h
  · split at h
    · rename_i hb; exact eo h fun h => builtinE_det h hl
    · exact h
    · exact h
  · split at h
    · exact eo h fun h => newE_det h hl fun _ => rfl
    · cases h
  · exact eo h fun h => nextE_det h hl
  · exact h
  · cases h

theorem prep_det_call {z : Bool} {ev : Operand → AV} {k : Nat} {o : Oper} {f : Nat} {xs : List AV} (h : prepZ P z ev σ k o = some (.call f xs)) : prepZ P z ev σ' k o = some (.call f xs) := by
  have no : ∀ {m : Option Eff}, effO m = some (.call f xs) → False := fun h => effO_call h
  unfold prepZ at h ⊢
  split at h
  all_goals first
    | exact (no h).elim
    | skip
  all_goals (repeat' split at h)
  all_goals first
    | exact (no h).elim
    | (cases h; done)
    | exact h
    | (simp_all; done)
end Go.Mir
