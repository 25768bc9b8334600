/- What is built: new blocks, structs, slices (lemmas; conditions: what they say). -/
import Derived.Test.YthcmkipbdgndoaaGreatDoorNx5
set_option linter.all false
set_option linter.unusedVariables false
set_option linter.unusedSimpArgs false
set_option linter.unnecessarySimpa false
namespace Go.Mir
open Go Go.RowKit
variable {P : Program} {μ μ' : Nat → Option KS} {S S' : Nat → Prop} {w w' : World} {σ σ' : Store}

theorem box_ok (hσ : StoRep μ S w σ) {k : Nat} {t : TypeId} {x : AV} {v : Value} {e : Eff} (hx : RepA μ S w x v) (hc : x.cells.all AV.isCell = true) (h : newE k σ (.bp k 0) (.box true x.cells) [] [] = some e) :
    EffOk μ S w σ (.ok (.pointer (some ⟨w.heap.size, 0, none⟩)) (w.alloc (.cells v.cells t))) e := by
  unfold newE at h
  split at h
  · rename_i hk
    cases h
    obtain ⟨hp, _⟩ := cells_PW hx hc
    have ko := keysOk_new (hσ.dom k hk) (.box w.heap.size)
    obtain ⟨s1, s2⟩ := alloc_ok hσ hk (m := .box w.heap.size) (fun b hb => hb.symm) (x := .box true x.cells) (o := .cells v.cells t)
      ⟨w.heap.size, v.cells, t, updK_same _ _, ⟨fun h => absurd (hσ.slt _ h) (by omega), fun h => by cases h⟩, heap_alloc_new w _, by simpa using hp.1.symm, fun j y u hy hu => (hp.2 j y u hy (by simpa using hu)).mono ko (fun _ h => h) (fun b hb => heap_alloc_old w _ b (hσ.slt b hb))⟩
    exact ⟨_, _, S, _, rfl, .bp (by rw [updK_same]; rfl), by simpa [applyMem] using s1, s2⟩
  · cases h

theorem run_newVar (t : TypeId) (v : Value) (w : World) : (newVar t v).run P w = .ok ⟨w.heap.size, 0, none⟩ (w.alloc (.cells v.cells t)) := by
  simp [newVar, newRow]

theorem foldl_set (off : Nat) : ∀ (l : List Value) (k : Nat) (cs : Array Value), off + k + l.length ≤ cs.size → ((l.zipIdx k).foldl (fun (cs : Array Value) (x : Value × Nat) => cs.setIfInBounds (off + x.2) x.1) cs).toList = cs.toList.take (off + k) ++ l ++ cs.toList.drop (off + k + l.length)
  | [], k, cs, _ => by simp
  | v :: l, k, cs, h => by
    simp only [List.zipIdx_cons, List.foldl_cons]
    simp only [List.length_cons] at h
    rw [foldl_set off l (k + 1) (cs.setIfInBounds (off + k) v) (by simp; omega)]
    simp only [Array.toList_setIfInBounds]
    have hlt : off + k < cs.toList.length := by simp; omega
    have e1 : (cs.toList.set (off + k) v).take (off + (k + 1)) = cs.toList.take (off + k) ++ [v] := by
      apply List.ext_getElem?
      intro m
      rw [List.getElem?_take, List.getElem?_set]
      have l1 : (cs.toList.take (off + k)).length = off + k := by rw [List.length_take]; omega
      by_cases c1 : m < off + k
      · rw [if_pos (by omega), if_neg (by omega), List.getElem?_append_left (by omega), List.getElem?_take, if_pos c1]
      · by_cases c2 : m = off + k
        · subst c2
          rw [if_pos (by omega), if_pos rfl, if_pos (by omega), List.getElem?_append_right (by omega), l1]; simp
        · rw [if_neg (by omega), List.getElem?_append_right (by omega), List.getElem?_eq_none (by simp; omega)]
    have e2 : (cs.toList.set (off + k) v).drop (off + (k + 1) + l.length) = cs.toList.drop (off + k + (l.length + 1)) := by
      rw [List.drop_set_of_lt (by omega)]
      congr 1
      omega
    rw [e1, e2]
    simp

theorem fill_step (place : Nat → Option (Nat × Nat)) (cs : Array Value) (i off n : Nat) (v : Value) (rest : List (Nat × Value)) (hp : place i = some (off, n)) (hn : v.cells.size = n) (hle : off + n ≤ cs.size) :
    Instr.fill place cs ((i, v) :: rest) = Instr.fill place (cs.toList.take off ++ v.cells.toList ++ cs.toList.drop (off + v.cells.toList.length)).toArray rest := by
  have h := foldl_set off v.cells.toList 0 cs (by simp; omega)
  simp only [Nat.add_zero] at h
  have e : (v.cells.zipIdx.foldl (fun cs (x : Value × Nat) => cs.setIfInBounds (off + x.2) x.1) cs) = (cs.toList.take off ++ v.cells.toList ++ cs.toList.drop (off + v.cells.toList.length)).toArray := by
    apply Array.toList_inj.1
    rw [← h, ← Array.foldl_toList, Array.toList_zipIdx]
  simp only [Instr.fill, hp, hn]
  rw [if_neg (by simp; omega), ← e]

/-- Parts laid into cells. -/
theorem fillA_ok {place : Nat → Option (Nat × Nat)} : ∀ {parts : List (Nat × AV)} {vparts : List (Nat × Value)} {cs cs' : List AV} {vs : Array Value}, PW (fun (x : Nat × AV) (v : Nat × Value) => x.1 = v.1 ∧ RepA μ S w x.2 v.2) parts vparts →
    PW (RepA μ S w) cs vs.toList → fillA place cs parts = some cs' → ∃ vs' : Array Value, Instr.fill place vs vparts = some vs' ∧ PW (RepA μ S w) cs' vs'.toList
  | [], vp, cs, cs', vs, hp, hc, h => by
    have : vp = [] := List.eq_nil_of_length_eq_zero (by simpa using hp.1.symm)
    subst this
    simp [fillA] at h; subst h
    exact ⟨vs, rfl, hc⟩
  | (i, x) :: r, [], cs, cs', vs, hp, hc, h => by have := hp.1; simp at this
  | (i, x) :: r, (i', v) :: vr, cs, cs', vs, hp, hc, h => by
    obtain ⟨e0, hxv⟩ := hp.2 0 (i, x) (i', v) rfl rfl
    obtain rfl : i = i' := e0
    simp only [fillA] at h
    split at h
    · cases h
    · rename_i off n hpl
      split at h
      · rename_i hcond
        obtain ⟨h1, h2, h3⟩ := hcond
        obtain ⟨hpw, _⟩ := cells_PW hxv h3
        have hn : v.cells.size = n := by rw [← h1]; simpa using hpw.1.symm
        have hsz := hc.1
        have hle : off + n ≤ vs.size := by simp at hsz; omega
        rw [fill_step place vs i off n v vr hpl hn hle]
        have sp := hc.splice hpw off
        rw [h1] at sp
        exact fillA_ok (parts := r) ⟨by have := hp.1; simpa using this, fun j y u hy hu => hp.2 (j + 1) y u (by simpa using hy) (by simpa using hu)⟩ (by simpa using sp) h
      · cases h

theorem mapM_places {fs : List Field} : ∀ {ps : List (Nat × Nat)}, placesOf P fs = some ps → ∀ w, (fs.mapM fun f => do pure (f.offset, ← sizeOf f.type) : Sem (List (Nat × Nat))).run P w = .ok ps w := by
  induction fs with
  | nil => intro ps h w; simp [placesOf] at h; subst h; simp
  | cons f fs ih =>
    intro ps h w
    simp only [placesOf] at h
    split at h
    · rename_i n r h1 h2
      cases h
      simp only [List.mapM_cons, Sem.run_bind, sz_run h1, Result.andThen_ok, Sem.run_pure, ih h2]
    · cases h

theorem buildE_ok (hσ : StoRep μ S w σ) {t : TypeId} {parts : List (Nat × AV)} {vparts : Array (Nat × Value)} {e : Eff} (hp : PW (fun (x : Nat × AV) (v : Nat × Value) => x.1 = v.1 ∧ RepA μ S w x.2 v.2) parts vparts.toList) (h : buildE P t parts = some e) :
    EffOk μ S w σ ((Instr.build t vparts).run P w) e := by
  unfold buildE at h
  split at h
  · rename_i z fs hz ht
    obtain ⟨i, zv, hi, hzi, hov, hzr⟩ := zr_run hz
    split at h
    · rename_i ps hps
      split at h
      · rename_i cs hcs
        obtain ⟨zr1, zr2⟩ := ofValue_rep (S := S) (w := w) hov
        have zpw : PW (RepA μ S w) (z.cells.map .pv) zv.cells.toList := by
          obtain ⟨q1, _⟩ := cells_PWp zr1 zr2
          refine ⟨by simpa using q1.1, fun j x v hx hv => ?_⟩
          rw [List.getElem?_map, Option.map_eq_some_iff] at hx
          obtain ⟨q, hq, rfl⟩ := hx
          exact .pv (q1.2 j q v hq hv)
        obtain ⟨vs', hf, hpw⟩ := fillA_ok hp zpw hcs
        have hm := mapM_places hps w
        have hm' : (fs.mapM fun f => do pure (f.offset, ← sizeOf f.type) : Sem (Array (Nat × Nat))).run P w = .ok ps.toArray w := by
          rw [← Array.toArray_toList (xs := fs), List.mapM_toArray, Sem.run_map]
          rw [Array.toArray_toList, hm]
          rfl
        refine EffOk.valE hσ h (v := .agg vs') ?_ (by have := mkAgg_rep hpw.1 hpw.2; simpa using this)
        have hf' : Instr.fill (fun i => ps.toArray[i]?) zv.cells vparts.toList = some vs' := by simpa using hf
        simp only [Instr.build, Sem.run_bind, hzr w, Result.andThen_ok, run_underlying ht, hm', hf', Sem.run_pure]
      · cases h
    · cases h
  · rename_i z n el hz ht
    obtain ⟨i, zv, hi, hzi, hov, hzr⟩ := zr_run hz
    split at h
    · rename_i s hs
      split at h
      · rename_i cs hcs
        obtain ⟨zr1, zr2⟩ := ofValue_rep (S := S) (w := w) hov
        have zpw : PW (RepA μ S w) (z.cells.map .pv) zv.cells.toList := by
          obtain ⟨q1, _⟩ := cells_PWp zr1 zr2
          refine ⟨by simpa using q1.1, fun j x v hx hv => ?_⟩
          rw [List.getElem?_map, Option.map_eq_some_iff] at hx
          obtain ⟨q, hq, rfl⟩ := hx
          exact .pv (q1.2 j q v hq hv)
        obtain ⟨vs', hf, hpw⟩ := fillA_ok hp zpw hcs
        refine EffOk.valE hσ h (v := .agg vs') ?_ (by have := mkAgg_rep hpw.1 hpw.2; simpa using this)
        simp only [Instr.build, Sem.run_bind, hzr w, Result.andThen_ok, run_underlying ht, sz_run hs, hf, Sem.run_pure]
      · cases h
    · cases h
  · cases h

/-- Elements and the cells of a row. -/
noncomputable def RowRel (S : Nat → Prop) (w : World) (s : Nat) (es : List PV) (cur : List Value) : Prop :=
  es.length * s ≤ cur.length ∧ ∀ (i : Nat) (p : PV), es[i]? = some p → p.cells.length = s ∧ ∀ (j : Nat) (q : PV) (v : Value), p.cells[j]? = some q → cur[i * s + j]? = some v → Rep S w q v

theorem RowRel.mono (hS : ∀ b, S b → S' b) (hm : ∀ b, S b → w'.heap[b]? = w.heap[b]?) {s : Nat} {es : List PV} {cur : List Value} (h : RowRel S w s es cur) : RowRel S' w' s es cur :=
  ⟨h.1, fun i p hp => ⟨(h.2 i p hp).1, fun j q v h1 h2 => ((h.2 i p hp).2 j q v h1 h2).mono hS hm⟩⟩

theorem RowRel.set {s i : Nat} {es : List PV} {cur us : List Value} {p : PV} (h : RowRel S w s es cur) (hi : i < es.length) (hp : PW (Rep S w) p.cells us) (hl : p.cells.length = s) :
    RowRel S w s (es.set i p) (cur.take (i * s) ++ us ++ cur.drop (i * s + us.length)) := by
  have hin : i * s + s ≤ cur.length := by
    have := Nat.mul_le_mul_right s (show i + 1 ≤ es.length by omega)
    rw [Nat.add_mul i 1 s, Nat.one_mul] at this
    exact Nat.le_trans this h.1
  have hul : us.length = s := by rw [← hp.1, hl]
  have sp := fun m => get_splice cur us (i * s) m (by omega)
  rw [hul] at sp ⊢
  refine ⟨?_, fun i' q hq => ?_⟩
  · have := h.1
    simp only [List.length_set, List.length_append, List.length_take, List.length_drop]
    omega
  · rw [List.getElem?_set] at hq
    split at hq
    · rename_i hii
      subst hii
      obtain rfl : p = q := by simpa [hi] using hq
      refine ⟨hl, fun j r u hr hu => ?_⟩
      have hj : j < s := by rw [← hl]; exact (List.getElem?_eq_some_iff.1 hr).1
      rw [sp, if_neg (by omega), if_pos (by omega), show i * s + j - i * s = j by omega] at hu
      exact hp.2 j r u hr hu
    · rename_i hii
      obtain ⟨e2, hq2⟩ := h.2 i' q hq
      refine ⟨e2, fun j r u hr hu => ?_⟩
      have hj : j < s := by rw [← e2]; exact (List.getElem?_eq_some_iff.1 hr).1
      rw [sp] at hu
      rcases Nat.lt_or_gt_of_ne hii with c | c
      · have := Nat.mul_le_mul_right s (show i + 1 ≤ i' by omega)
        rw [Nat.add_mul i 1 s, Nat.one_mul] at this
        rw [if_neg (by omega), if_neg (by omega)] at hu
        exact hq2 j r u hr hu
      · have := Nat.mul_le_mul_right s (show i' + 1 ≤ i by omega)
        rw [Nat.add_mul i' 1 s, Nat.one_mul] at this
        rw [if_pos (by omega)] at hu
        exact hq2 j r u hr hu

theorem RowRel.made {z : PV} {zv : Value} {s n cap : Nat} (hz : Rep S w z zv) (hc : z.cells.all PV.isCell = true) (hl : z.cells.length = s) (hs : 0 < s) (hn : n ≤ cap) :
    RowRel S w s (List.replicate n z) (madeCells zv.cells (cap * s)).toList := by
  obtain ⟨q1, _⟩ := cells_PWp hz hc
  have hzs : zv.cells.size = s := by rw [← hl]; simpa using q1.1.symm
  refine ⟨by simp [madeCells]; exact Nat.mul_le_mul_right _ hn, fun i p hp => ?_⟩
  have hi : i < n := by simpa using (List.getElem?_eq_some_iff.1 hp).1
  obtain rfl : z = p := by rw [List.getElem?_replicate, if_pos hi] at hp; exact Option.some.inj hp
  refine ⟨hl, fun j q v hq hv => ?_⟩
  have hj : j < s := by rw [← hl]; exact (List.getElem?_eq_some_iff.1 hq).1
  have hin : i * s + j < cap * s := row_in (by omega) hj
  have : v = zv.cells[j]'(by omega) := by
    simp only [madeCells, Array.toList_map, List.getElem?_map, Option.map_eq_some_iff] at hv
    obtain ⟨m, hm, rfl⟩ := hv
    have hm' : m = i * s + j := by
      rw [Array.getElem?_toList, Array.getElem?_range] at hm
      split at hm
      · exact (Option.some.inj hm).symm
      · exact absurd hin (by assumption)
    subst hm'
    have e : (i * s + j) % zv.cells.size = j := by rw [hzs, Nat.add_comm, Nat.add_mul_mod_self_right, Nat.mod_eq_of_lt hj]
    rw [e, getElem!_pos zv.cells j (by omega)]
  rw [this]
  exact q1.2 j q _ hq (by simp [hzs, hj])

theorem row_new (hσ : StoRep μ S w σ) {k : Nat} (hk : lk σ k = none) {t : TypeId} {s cap : Nat} {es : List PV} {cur : Array Value} (hr : RowRel S w s es cur.toList) (hle : es.length ≤ cap) (hcap : cap ≤ maxLen) (hsz : cur.size = cap * s) :
    StoRep (updK μ k (.row w.heap.size cap s es.length)) S (w.alloc (.cells cur t)) (ins k (.row true t s es) σ) ∧ Ext μ S w (updK μ k (.row w.heap.size cap s es.length)) S (w.alloc (.cells cur t)) :=
  alloc_ok hσ hk (m := .row w.heap.size cap s es.length) (fun b hb => hb.symm) (x := .row true t s es) (o := .cells cur t)
    (.inr ⟨w.heap.size, cap, cur, updK_same _ _, ⟨fun h => absurd (hσ.slt _ h) (by omega), fun h => by cases h⟩, heap_alloc_new w _, hle, hcap, hsz, fun i p hp => ⟨(hr.2 i p hp).1, fun j q v h1 h2 =>
      ((hr.2 i p hp).2 j q v h1 (by simpa using h2)).mono (fun _ h => h) (fun b hb => heap_alloc_old w _ b (hσ.slt b hb))⟩⟩)

theorem arr_ok (hσ : StoRep μ S w σ) {k : Nat} {t : TypeId} {x : PV} {v : Value} {e : Eff} (hx : Rep S w x v) (hc : x.cells.all PV.isCell = true) (hn : x.cells.length ≤ 65536) (h : newE k σ (.rp k 0 0) (.row true t 1 x.cells) [] [] = some e) :
    EffOk μ S w σ (.ok (.pointer (some ⟨w.heap.size, 0, none⟩)) (w.alloc (.cells v.cells t))) e := by
  unfold newE at h
  split at h
  · rename_i hk
    cases h
    obtain ⟨e1, e2⟩ := rep_cells hx hc
    have one : ∀ (i : Nat) (p : PV), x.cells[i]? = some p → p.cells = [p] := fun i p hp => by
      have : p.isCell = true := (List.all_eq_true.1 hc) p (List.mem_of_getElem? hp)
      cases p <;> first | rfl | (simp [PV.isCell] at this; done)
    have hr : RowRel S w 1 x.cells v.cells.toList := ⟨by simp [e1], fun i p hp => ⟨by rw [one i p hp]; rfl, fun j q u h1 h2 => by
      rw [one i p hp] at h1
      cases j with
      | zero => simp at h1; subst h1; exact e2 i p u hp (by simpa using h2)
      | succ j => simp at h1⟩⟩
    have hm : x.cells.length ≤ maxLen := Nat.le_trans hn (by decide)
    obtain ⟨s1, s2⟩ := row_new (t := t) hσ hk hr (Nat.le_refl _) hm (by simp [e1])
    exact ⟨_, _, S, _, rfl, .rp (by rw [updK_same]; show _ = _; simp), by simpa [applyMem] using s1, s2⟩
  · cases h

theorem ms_new (k len cap s b n : Nat) (hl : len ≤ cap) (w : World) (hn : len = n) : RepA (updK μ k (.row b cap s n)) S w (.ms k 0 len true) (.slice (some ⟨b, 0, none⟩) len cap) :=
  .ms (by rw [updK_same]; exact ⟨_, cap, rfl, hl, .inr (by simp), fun _ => ⟨rfl, hn, rfl, rfl⟩⟩)

theorem makeSliceE_ok (hσ : StoRep μ S w σ) {t : TypeId} {k : Nat} {l c : AV} {vl vc : Value} {e : Eff} (hl : RepA μ S w l vl) (hc : RepA μ S w c vc) (h : makeSliceE P t l c k σ = some e) :
    EffOk μ S w σ ((Instr.makeSlice t vl vc).run P w) e := by
  unfold makeSliceE at h
  split at h
  · rename_i el lz cz ht hal hac
    have asI_int : ∀ {x : AV} {v : Value} {i : Int}, RepA μ S w x v → asI x = some i → ∃ kd, v = .int kd i := by
      intro x v i hx hi
      unfold asI at hi
      split at hi
      · cases hi
        cases hx with
        | pv hp => cases hp with | lit _ => exact ⟨_, rfl⟩
      · cases hi
    obtain ⟨kl, rfl⟩ := asI_int hl hal
    obtain ⟨kc, rfl⟩ := asI_int hc hac
    split at h
    · rename_i s z b hs hz hb
      split at h
      · rename_i hcond
        obtain ⟨h1, h2, h3, h4, h5, h6⟩ := hcond
        obtain ⟨i, zv, hi, hzi, hov, hzr⟩ := zr_run hz
        have hsi : i.size = s := by simpa [sz, hi] using hs
        have hbi : i.bytes = b := by simpa [byt, hi] using hb
        have hrun := run_make (P := P) w t el i zv ht hi hzi kl kc lz cz h3 h4 (by rw [hbi]; exact h5) h6
        unfold newE at h
        split at h
        · rename_i hk
          cases h
          obtain ⟨q1, q2⟩ := ofValue_rep (S := S) (w := w) hov
          rw [hsi] at hrun
          have rr := RowRel.made (n := lz.toNat) (cap := cz.toNat) q1 q2 h1 h2 (by omega)
          obtain ⟨s1, s2⟩ := row_new hσ hk (t := el) (cap := cz.toNat) rr (by simp; omega) (by unfold maxLen; omega) (by simp [madeCells])
          refine ⟨_, _, S, _, hrun, ms_new k _ _ s _ _ (by omega) _ (by simp), by simpa only [applyMem, List.nil_append] using s1, s2⟩
        · cases h
      · cases h
    · cases h
  · cases h

theorem fillS_ok (hσ : StoRep μ S w σ) {s : Nat} {S' : Nat → Prop} (hS : ∀ b, S b → S' b) : ∀ {parts : List (Nat × AV)} {vparts : List (Nat × Value)} {es es' : List PV} {ks : List Nat} {cur : Array Value}, PW (fun (x : Nat × AV) (v : Nat × Value) => x.1 = v.1 ∧ RepA μ S w x.2 v.2) parts vparts →
    RowRel S' w s es cur.toList → fillS σ s es parts = some (es', ks) → (∀ k ∈ ks, ∀ b, owns (μ k) b → S' b) →
    ∃ cur' : Array Value, Instr.fill (fun i => some (i * s, s)) cur vparts = some cur' ∧ RowRel S' w s es' cur'.toList ∧ es'.length = es.length ∧ cur'.size = cur.size
  | [], vp, es, es', ks, cur, hp, hr, h, _ => by
    have : vp = [] := List.eq_nil_of_length_eq_zero (by simpa using hp.1.symm)
    subst this
    simp [fillS] at h; obtain ⟨rfl, rfl⟩ := h
    exact ⟨cur, rfl, hr, rfl, rfl⟩
  | (i, x) :: r, [], es, es', ks, cur, hp, hr, h, _ => by have := hp.1; simp at this
  | (i, x) :: r, (i', v) :: vr, es, es', ks, cur, hp, hr, h, hks => by
    obtain ⟨e0, hxv⟩ := hp.2 0 (i, x) (i', v) rfl rfl
    obtain rfl : i = i' := e0
    simp only [fillS] at h
    split at h
    · rename_i p l hres
      split at h
      · rename_i hcond
        obtain ⟨h1, h2, h3⟩ := hcond
        split at h
        · rename_i es2 ks2 h4
          simp only [Option.some.injEq, Prod.mk.injEq] at h
          obtain ⟨rfl, rfl⟩ := h
          have hrep := resolve_sound hσ hS deep x v p l hxv hres (fun k hk => hks k (List.mem_append_left _ hk))
          obtain ⟨hpw, _⟩ := cells_PWp hrep h3
          have hn : v.cells.size = s := by rw [← h1]; simpa using hpw.1.symm
          have hle : i * s + s ≤ cur.size := by
            have := Nat.mul_le_mul_right s (show i + 1 ≤ es.length by omega)
            rw [Nat.add_mul i 1 s, Nat.one_mul] at this
            have := hr.1
            simp at this
            omega
          rw [fill_step _ cur i (i * s) s v vr rfl hn hle]
          have rr := hr.set h2 hpw h1
          obtain ⟨cur', f1, f2, f3, f4⟩ := fillS_ok hσ hS (parts := r) (vparts := vr) ⟨by have := hp.1; simpa using this, fun j y u hy hu => hp.2 (j + 1) y u (by simpa using hy) (by simpa using hu)⟩ (cur := (cur.toList.take (i * s) ++ v.cells.toList ++ cur.toList.drop (i * s + v.cells.toList.length)).toArray) (by simpa using rr) h4 (fun k hk => hks k (List.mem_append_right _ hk))
          refine ⟨cur', f1, f2, by simpa using f3, ?_⟩
          rw [f4]
          simp; omega
        · cases h
      · cases h
    · cases h

theorem buildSliceE_ok (hσ : StoRep μ S w σ) {t : TypeId} {len k : Nat} {parts : List (Nat × AV)} {vparts : Array (Nat × Value)} {e : Eff} (hp : PW (fun (x : Nat × AV) (v : Nat × Value) => x.1 = v.1 ∧ RepA μ S w x.2 v.2) parts vparts.toList) (h : buildSliceE P t len parts k σ = some e) :
    EffOk μ S w σ ((Instr.buildSlice t len vparts).run P w) e := by
  unfold buildSliceE at h
  split at h
  · rename_i el ht
    split at h
    · rename_i s z hs hz
      split at h
      · rename_i hcond
        obtain ⟨h1, h2, h3⟩ := hcond
        split at h
        · rename_i es ks hf
          obtain ⟨i, zv, hi, hzi, hov, hzr⟩ := zr_run hz
          obtain ⟨f1, f2⟩ := freeze_ok hσ ks
          obtain ⟨q1, q2⟩ := ofValue_rep (S := frozenBy μ S ks) (w := w) hov
          have rr := RowRel.made (n := len) (cap := len) q1 q2 h1 h2 (Nat.le_refl _)
          obtain ⟨cur', g1, g2, g3, g4⟩ := fillS_ok hσ (S' := frozenBy μ S ks) (fun b hb => .inl hb) hp rr hf (fun k' hk b hb => .inr ⟨k', hk, hb⟩)
          simp only [List.length_replicate] at g3
          simp [madeCells] at g4
          unfold newE at h
          split at h
          · rename_i hk
            cases h
            have hk' : lk (applyMem σ (freezeE σ ks)) k = none := by
              rw [lk_applyMem_freeze, hk]; simp
            obtain ⟨s1, s2⟩ := row_new f1 hk' (t := el) (cap := len) g2 (by omega) (by unfold maxLen; have : len ≤ len * s := Nat.le_mul_of_pos_right _ h2; omega) g4
            refine ⟨_, _, _, _, ?_, ms_new k _ _ s _ _ (Nat.le_refl _) _ g3.symm, by rw [applyMem_append]; simpa only [applyMem] using s1, f2.trans s2⟩
            have hns : ¬ len * s > 2 ^ 24 := by omega
            by_cases h0 : len * s = 0
            · have hl0 : len = 0 := by
                rcases Nat.mul_eq_zero.1 h0 with h0 | h0
                · exact h0
                · omega
              subst hl0
              have g1' : Instr.fill (fun i => some (i * s, s)) #[] vparts.toList = some cur' := by simpa [madeCells, Array.range_zero'] using g1
              simp [Instr.buildSlice, run_underlying ht, sz_run hs, g1', newRow, Array.range_zero']
            · have g1' : Instr.fill (fun i => some (i * s, s)) ((Array.range (len * s)).map (zv.cells[· % zv.cells.size]!)) vparts.toList = some cur' := g1
              simp [Instr.buildSlice, run_underlying ht, sz_run hs, hns, h0, hzr w, g1', newRow]
          · cases h
        · cases h
      · cases h
    · cases h
  · cases h
end Go.Mir
