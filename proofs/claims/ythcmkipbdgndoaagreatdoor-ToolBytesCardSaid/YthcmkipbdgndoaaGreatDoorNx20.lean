/- What is shown of an operation, it does (lemmas; conditions: what they say). -/
import Derived.Test.YthcmkipbdgndoaaGreatDoorNx19
set_option linter.all false
set_option linter.unusedVariables false
set_option linter.unusedSimpArgs false
set_option linter.unnecessarySimpa false
namespace Go.Mir
open Go Go.RowKit
variable {P : Program} {σ : Store}
variable [Globs P]

theorem opX_eff {ev : Operand → AV} {k : Nat} {o : Oper} {K : Eff → List (Nat × Q) → Prop} {e : Eff} (h : prep P ev σ k o = some (.eff e)) (hk : K e []) : ∃ q e ov, q.Ok P ∧ did P q ev σ k o e ∧ K e ov := ⟨_, e, [], plainOrc_ok, did_eff h, hk⟩

theorem rep_u8 (bs : List UInt8) : toBytes (bs.map fun b => PV.lit (.int .u8 b.toNat)) = some bs := by
  induction bs with
  | nil => rfl
  | cons b r ih => simp [toBytes, ih]

theorem take_one {α : Type} {l : List α} {i : Nat} {p : α} (h : l[i]? = some p) : (l.drop i).take 1 = [p] := by
  obtain ⟨hi, rfl⟩ := List.getElem?_eq_some_iff.1 h
  rw [List.drop_eq_getElem_cons hi]; rfl

noncomputable def bop (P : Program) (op : BinOp) (t : TypeId) (x y : Operand) (a b : Value) : Option Value := (do eqGuard op t x y a b; binOp op t a b : Sem Value).val? P
section
variable (P : Program) (t : TypeId) (x y : Operand) (a b : Int)
theorem bop_rem (h : b ≠ 0) : bop P .rem t x y (.int .i64 a) (.int .i64 b) = some (.int .i64 (a.tmod b)) := by
  have h' : ¬ b = 0 := h
  unfold bop eqGuard binOp Op.intDiv
  simp only [ne_eq, not_true_eq_false, if_false, if_neg h']
  rfl
theorem bop_quo (h : b ≠ 0) : bop P .quo t x y (.int .i64 a) (.int .i64 b) = some (.int .i64 (IntKind.i64.wrap (a.tdiv b))) := by
  have h' : ¬ b = 0 := h
  unfold bop eqGuard binOp Op.intDiv
  simp only [ne_eq, not_true_eq_false, if_false, if_neg h']
  rfl
end
theorem effV {m : Option Value} {v : Value} (h : m = some v) (hf : v.flat = true) : (match m with
    | some v => effO (litE v)
    | none => none) = some (.eff ⟨.pv (.lit v), [], []⟩) := by
  subst h
  simp only [litE, hf, if_true, effO]
theorem forkX_spec {l r : List (Nat × Q)} {K : Eff → List (Nat × Q) → Prop} {e : Eff} (h : forkX l r K e) : ∃ ov, K e ov := by
  unfold forkX at h
  split at h
  · rename_i b hb
    cases b with
    | true => have := h.1 rfl; rw [← hb] at this; exact ⟨_, this⟩
    | false => have := h.2 rfl; rw [← hb] at this; exact ⟨_, this⟩
  · exact h.elim
theorem lendX_spec {k : Nat} {bset : List Nat} {rps : List RP} {bps : List BQ} {p : Option Prep} {K : Eff → Prop} (h : lendX P σ k bset rps bps p K) :
    ∃ g args q e, p = some (.call g args) ∧ q.Ok P ∧ effA q k σ (.call g args) = some e ∧ (q.wk = (fun x => x) ∧ q.frz = false ∧ q.trn = false) ∧ K e := by
  unfold lendX at h
  split at h
  · rename_i g args
    split at h
    · rename_i as keys ks h1
      split at h
      · rename_i bs ks' h2
        split at h
        · rename_i h3
          split at h
          · exact h.elim
          · rename_i h4
            obtain ⟨rs, h⟩ := exRs_spec h
            obtain ⟨cs, h⟩ := exBs_spec h
            obtain ⟨h5, h⟩ := h
            split at h
            · rename_i h6
              split at h
              · rename_i e h7
                refine ⟨g, args, lendOrc g bset as bs rs cs, e, rfl, lendOrc_ok h5, ?_, ⟨rfl, rfl, rfl⟩, h⟩
                simp only [effA]
                rw [if_neg (by simp [lendOrc])]
                rw [if_neg (by simpa [lendOrc] using h4)]
                simp only [pureB, lendOrc, h1, h2]
                rw [if_pos h3]
                simp only [and_self, if_true]
                rw [if_pos h6, h7]
              · exact h.elim
            · exact h.elim
        · exact h.elim
      · exact h.elim
    · exact h.elim
  · exact h.elim
theorem builtinE_append {ts : Array TypeId} {t tx ty : TypeId} {s x : AV} {k : Nat} {e : Eff} (h : (∃ el, P.underlying tx = some (.slice el)) ∧ appendE P t tx s x k σ = some e)  (hts : ts.toList = [t, tx]) : builtinE P .append ts ty [s, x] k σ = some e := by
  obtain ⟨⟨el, h1⟩, h2⟩ := h
  simp only [builtinE, hts, h1, h2]
theorem appX_spec {t tx : TypeId} {s x : AV} {news : List PV} {ks : List Nat} {c1 c2 : Bool} {k : Nat} {K : Eff → Prop} (hel : elems σ x = some (news, ks)) (h : appX P σ k t tx s news ks c1 c2 K) :
    ∃ e, ((∃ el, P.underlying tx = some (.slice el)) ∧ appendE P t tx s x k σ = some e) ∧ K e := by
  unfold appX at h
  split at h
  · rename_i el el' ht htx
    split at h
    · rename_i n z b hs hz hb
      split at h
      · rename_i hc
        obtain ⟨h1, h⟩ := ask_spec h
        simp only [okNews, Bool.and_eq_true] at h1
        obtain ⟨h1, h1'⟩ := h1
        split at h
        · rename_i r off len
          split at h
          · rename_i e' s' es hr
            split at h
            · rename_i hc2
              obtain ⟨h3, h⟩ := h
              split at h
              · rename_i e he
                refine ⟨e, ⟨⟨_, htx⟩, ?_⟩, h⟩
                simp only [appendE, ht, htx, hel, hs, hz, hb, hr]
                rw [if_pos ⟨hc.1, hc.2.1, hc.2.2, h1, h1'⟩, if_pos ⟨trivial, hc2.1, hc2.2.1, hc2.2.2, h3⟩, he]
              · exact h.elim
            · exact h.elim
          · exact h.elim
        · rename_i es
          obtain ⟨h2, h3, h⟩ := ask_spec h
          split at h
          · rename_i e he
            refine ⟨e, ⟨⟨_, htx⟩, ?_⟩, h⟩
            simp only [appendE, ht, htx, hel, hs, hz, hb]
            unfold okOld at h2
            rw [if_pos ⟨hc.1, hc.2.1, hc.2.2, h1, h1'⟩, if_pos h3, if_pos h2, he]
          · exact h.elim
        · exact h.elim
      · exact h.elim
    · exact h.elim
  · exact h.elim
theorem opX_ok {q : Option Q} {ev : Operand → AV} {k : Nat} {o : Oper} {K : Eff → List (Nat × Q) → Prop} (h : opX P q ev σ k o K) : ∃ q e ov, q.Ok P ∧ did P q ev σ k o e ∧ K e ov := by
  unfold opX at h
  simp only at h
  split at h
  · -- none
    split at h
    · exact opX_eff (by assumption) h
    · exact h.elim
  · -- off
    split at h
    · exact opX_eff (by assumption) h
    · exact h.elim
  · -- fork
    split at h
    · rename_i e he
      obtain ⟨ov, h⟩ := forkX_spec h
      exact ⟨_, _, ov, plainOrc_ok, did_eff he, h⟩
    · exact h.elim
  · -- dull
    split at h
    · rename_i e he
      exact ⟨dullOrc, _, [], dullOrc_ok, ⟨_, e, e, he, rfl, rfl, rfl⟩, h⟩
    · exact h.elim
  · -- wk
    split at h
    · rename_i e he
      exact ⟨_, _, [], wkOrc_ok _, did_wk he h.1, h.2⟩
    · exact h.elim
  · -- eff
    exact opX_eff h.1 h.2
  · -- efn
    split at h
    · exact opX_eff h.1 h.2
    · exact h.elim
  · -- nxt
    split at h
    · rename_i x hop
      split at h
      · rename_i kk hx
        split at h
        · rename_i s pos hk
          have hp : ∀ e, nextE true (ev x) σ = some e → prep P ev σ k o = some (.eff e) := fun e he => by
            show prepZ P false ev σ k o = _
            unfold prepZ
            rw [hop]
            show effO (nextE true (ev x) σ) = _
            rw [he]; rfl
          by_cases hlt : pos < s.size
          · refine ⟨_, _, _, plainOrc_ok, did_eff (hp _ ?_), h.1 hlt⟩
            simp only [nextE, hx, hk, if_pos hlt]
          · refine ⟨_, _, _, plainOrc_ok, did_eff (hp _ ?_), h.2 hlt⟩
            simp only [nextE, hx, hk, if_neg hlt]
        · exact h.elim
      · exact h.elim
    · exact h.elim
  · -- call
    split at h
    · rename_i g args he
      split at h
      · rename_i ps ks hm
        obtain ⟨rs, h⟩ := exRs_spec h
        obtain ⟨h1, h2⟩ := h
        split at h2
        · rename_i e hc
          refine ⟨callOrc g ps rs, e, [], callOrc_ok h1, ⟨_, e, e, he, ?_, rfl, rfl⟩, h2⟩
          simp only [effA, pureA, hm, callOrc, and_self, if_true, hc, List.isEmpty_nil, Bool.false_eq_true, if_false]
        · exact h2.elim
      · exact h.elim
    · exact h.elim
  · -- callf
    split at h
    · rename_i g args he
      split at h
      · rename_i ps ks hm
        obtain ⟨rs, h⟩ := exRs_spec h
        obtain ⟨h1, h2⟩ := h
        split at h2
        · rename_i e hc
          obtain ⟨ov, h2⟩ := forkX_spec h2
          refine ⟨callOrc g ps rs, e, ov, callOrc_ok h1, ⟨_, e, e, he, ?_, rfl, rfl⟩, h2⟩
          simp only [effA, pureA, hm, callOrc, and_self, if_true, hc, List.isEmpty_nil, Bool.false_eq_true, if_false]
        · exact h2.elim
      · exact h.elim
    · exact h.elim
  · -- callb
    obtain ⟨g, args, q, e, hp, hq, he, hw, h⟩ := lendX_spec h
    exact ⟨q, e, [], hq, ⟨_, e, e, by rw [hw.2.2]; exact hp, he, by rw [hw.2.1]; rfl, by rw [hw.1]⟩, h⟩
  · -- callbf
    obtain ⟨g, args, q, e, hp, hq, he, hw, h⟩ := lendX_spec h
    obtain ⟨ov, h⟩ := forkX_spec h
    exact ⟨q, e, ov, hq, ⟨_, e, e, by rw [hw.2.2]; exact hp, he, by rw [hw.2.1]; rfl, by rw [hw.1]⟩, h⟩
  · -- ix
    split at h
    · rename_i t x ix hop
      split at h
      · rename_i el ht
        split at h
        · rename_i i full es hi hx
          obtain ⟨h0, a, ha, h⟩ := h
          split at h
          · rename_i h1
            split at h
            · rename_i h2
              refine opX_eff (e := ⟨.pv (.ip _ 0), [], []⟩) ?_ h
              unfold prep prepZ
              simp only [hop, indexAddrZ, Bool.false_and, indexAddrE, ht, hi, hx, h0, if_true, ha, h1, h2, and_self, valE, effO]
            · exact h.elim
          · exact h.elim
        · exact h.elim
      · exact h.elim
    · exact h.elim
  · -- ixr
    split at h
    · rename_i t x ix hop
      split at h
      · rename_i el ht
        split at h
        · rename_i i r off len own hi hx
          split at h
          · rename_i hr
            obtain ⟨h0, h1, h⟩ := h
            split at h
            · rename_i hs
              refine opX_eff ?_ h
              unfold prep prepZ
              simp only [hop, indexAddrZ, Bool.false_and, indexAddrE, ht, hi, hx, hr, h0, h1, hs, and_self, if_true, effO]
            · exact h.elim
          · exact h.elim
        · exact h.elim
      · rename_i n el ht
        split at h
        · rename_i i r hi hx
          split at h
          · rename_i hr
            obtain ⟨h0, h1, h⟩ := h
            split at h
            · rename_i hs
              refine ⟨trnOrc, ⟨.rp r i.toNat 0, [], [r]⟩, [], trnOrc_ok, ⟨.eff ⟨.rp r i.toNat 0, [], [r]⟩, ⟨.rp r i.toNat 0, [], [r]⟩, ⟨.rp r i.toNat 0, [], [r]⟩, ?_, rfl, rfl, rfl⟩, h⟩
              unfold trnOrc prepZ
              simp only [hop, indexAddrZ, isSliceT, Bool.not_false, Bool.and_self, arrAddrE, ht, hi, hx, hr, h0, h1, hs, and_self, if_true, effO]
            · exact h.elim
          · exact h.elim
        · exact h.elim
      · exact h.elim
    · exact h.elim
  · -- ld
    split at h
    · rename_i t x hop
      split at h
      · rename_i r i off n ag hx hs hag
        split at h
        · rename_i es hr
          obtain ⟨a, ha, h⟩ := h
          split at h
          · rename_i hle
            split at h
            · refine opX_eff ?_ h
              unfold prep prepZ
              simp only [hop, loadE, hs, hag, hx, readCells, hr, ha, hle, if_true, effO]
            · split at h
              · rename_i p hp
                split at h
                · rename_i h1
                  subst h1
                  refine opX_eff ?_ h
                  unfold prep prepZ
                  simp only [hop, loadE, hs, hag, hx, readCells, hr, ha, hle, if_true, take_one hp, List.map_cons, List.map_nil, effO]
                · exact h.elim
              · exact h.elim
          · exact h.elim
        · exact h.elim
      · exact h.elim
    · exact h.elim
  · -- st
    split at h
    · rename_i t x y hop
      split at h
      · rename_i r i off n hx hs
        split at h
        · rename_i el s' es hr
          split at h
          · rename_i p ks hp
            obtain ⟨a, ha, h⟩ := h
            split at h
            · rename_i hc
              split at h
              · rename_i z hz
                refine opX_eff ?_ h
                unfold prep prepZ
                simp only [hop, storeZ, storeE, hs, hx, hr, ha, hp]
                rw [if_pos hc]
                simp only [hz, effO]
              · exact h.elim
            · exact h.elim
          · exact h.elim
        · exact h.elim
      · exact h.elim
    · exact h.elim
  · -- slc
    split at h
    · rename_i t x lo hi mx hop
      split at h
      · rename_i el ht
        split at h
        · rename_i n full es hs hx
          obtain ⟨y', y, h1, h2, h3⟩ := sliceX_spec (σ := σ) h
          have hp : prep P ev σ k o = some (.eff ⟨y', [], []⟩) := by
            unfold prep prepZ
            simp only [hop, ht, hs, hx, sliceK, h1, effO]
          exact ⟨_, _, [], wkOrc_ok y, did_wk hp h2, h3⟩
        · exact h.elim
      · exact h.elim
    · exact h.elim
  · -- slr
    split at h
    · rename_i t x lo hi mx hop
      split at h
      · rename_i el ht
        split at h
        · rename_i n r off len own hs hx
          split at h
          · rename_i hr
            split at h
            · rename_i hsn
              obtain ⟨l, j, h1, h2, h3, h4, h5, h⟩ := pieceX_spec h
              refine opX_eff ?_ h
              unfold prep prepZ
              simp only [hop, ht, hs, hx]
              simp only [sliceK, sliceE, hr, h1, h2, h3]
              rw [if_pos hsn, if_pos ⟨h4, h5⟩]
              rfl
            · exact h.elim
          · exact h.elim
        · exact h.elim
      · exact h.elim
    · exact h.elim
  · -- slf
    split at h
    · rename_i t x lo hi mx hop
      split at h
      · rename_i el ht
        split at h
        · rename_i n r off len own hs hx
          split at h
          · rename_i e0 s0 es hr
            split at h
            · rename_i hsn
              obtain ⟨l, j, h1, h2, h3, h4, h5, h6, h⟩ := pieceX_spec h
              refine ⟨frzOrc, ⟨.pv (.sl false ((es.drop (off + l)).take (j - l))), [(r, .row false e0 s0 es)], [r, r]⟩, [], frzOrc_ok, ⟨.eff ⟨.ms r (off + l) (j - l) false, [], [r]⟩, ⟨.ms r (off + l) (j - l) false, [], [r]⟩, ⟨.pv (.sl false ((es.drop (off + l)).take (j - l))), [(r, .row false e0 s0 es)], [r, r]⟩, ?_, rfl, ?_, rfl⟩, h⟩
              · show prep P ev σ k o = _
                unfold prep prepZ
                simp only [hop, ht, hs, hx]
                simp only [sliceK, sliceE, hr, h1, h2, h3]
                rw [if_pos hsn, if_pos ⟨h4, h5⟩]
                rfl
              · simp only [frzE, frzOrc, isSl, hop, Bool.and_true, resolve, deep, hr, Bool.false_eq_true, if_false]
                rw [if_pos h6]
                simp only [freezeE, hr, Blk.freeze, List.singleton_append]
            · exact h.elim
          · exact h.elim
        · exact h.elim
      · exact h.elim
    · exact h.elim
  · -- clr
    split at h
    · rename_i as ts hop
      split at h
      · rename_i x t has hts
        split at h
        · rename_i el r off len own ht
          split at h
          · rename_i e s es n z hr hs hz
            split at h
            · rename_i hc
              obtain ⟨h1, h⟩ := h
              refine opX_eff ?_ h
              unfold prep prepZ
              simp only [hop, builtinE, hts, has, clearE, ht, hr, hs, hz]
              rw [if_pos ⟨hc.1, hc.2.1, hc.2.2.1, hc.2.2.2, h1⟩]
              rfl
            · exact h.elim
          · exact h.elim
        · exact h.elim
      · exact h.elim
    · exact h.elim
  · -- srt
    split at h
    · rename_i g r off len hp
      split at h
      · rename_i e es hr
        obtain ⟨h1, zs, rfl, h2, h⟩ := h
        refine ⟨srtOrc g, ⟨.pv (.tuple []), [(r, .row true e 1 ((zs.mergeSort fun x y => decide (x ≤ y)).map intE))], [r]⟩, [], srtOrc_ok h1, ⟨_, ⟨.pv (.tuple []), [(r, .row true e 1 ((zs.mergeSort fun x y => decide (x ≤ y)).map intE))], [r]⟩, ⟨.pv (.tuple []), [(r, .row true e 1 ((zs.mergeSort fun x y => decide (x ≤ y)).map intE))], [r]⟩, hp, ?_, rfl, rfl⟩, h⟩
        simp only [effA, srtOrc, Nat.beq_refl, if_true, pureS, hr, intsOf_map]
        rw [if_pos h2]
      · exact h.elim
    · exact h.elim
  · -- frz
    split at h
    · rename_i e hs he
      split at h
      · rename_i e2 hf
        exact ⟨frdOrc, _, [], frdOrc_ok, ⟨_, e, e2, he, rfl, by simpa [frdOrc, hs] using hf, rfl⟩, h⟩
      · exact h.elim
    · exact h.elim
  · -- trn
    split at h
    · rename_i e he
      exact ⟨trnOrc, _, [], trnOrc_ok, ⟨_, e, e, he, rfl, rfl, rfl⟩, h⟩
    · exact h.elim
  · -- app
    split at h
    · rename_i as ts hop
      split at h
      · rename_i s x t tx has hts
        split at h
        · rename_i news ks hel
          obtain ⟨e, he, h⟩ := appX_spec hel h
          refine opX_eff ?_ h
          unfold prep prepZ
          simp only [hop, has, builtinE_append he hts, effO]
        · exact h.elim
      · exact h.elim
    · exact h.elim
  · -- appm
    split at h
    · rename_i as ts hop
      split at h
      · rename_i s r off len t tx has hts
        split at h
        · rename_i es hr
          obtain ⟨hle, h⟩ := h
          obtain ⟨e, he, h⟩ := appX_spec (x := .ms r off len false) (by simp only [elems, hr, Bool.false_eq_true, if_false, hle, if_true]) h
          refine opX_eff ?_ h
          unfold prep prepZ
          simp only [hop, has, builtinE_append he hts, effO]
        · exact h.elim
      · exact h.elim
    · exact h.elim
  · -- mk
    split at h
    · rename_i t l c hop
      split at h
      · rename_i el l c ht hl hc
        split at h
        · rename_i n z b hs hz hb
          split at h
          · rename_i hcnd
            obtain ⟨h1, h2, h3, h4, h⟩ := h
            split at h
            · rename_i e he
              refine opX_eff ?_ h
              unfold prep prepZ
              simp only [hop, makeSliceE, ht, hl, hc, hs, hz, hb]
              rw [if_pos ⟨hcnd.1, hcnd.2, h1, h2, h3, h4⟩, he]
              rfl
            · exact h.elim
          · exact h.elim
        · exact h.elim
      · exact h.elim
    · exact h.elim
  · -- appz
    split at h
    · rename_i as ts hop
      split at h
      · rename_i s x t tx has hts
        split at h
        · rename_i el kt i ht htx
          split at h
          · rename_i n z b hs hz hb
            split at h
            · rename_i hcnd
              obtain ⟨h1, h2, h3, h⟩ := h
              split at h
              · rename_i e he
                refine opX_eff ?_ h
                unfold prep prepZ
                simp only [hop, builtinE, hts, has, htx, appendZ, ht, hs, hz, hb]
                rw [if_pos ⟨hcnd.1, hcnd.2.1, hcnd.2.2, h1, h2, h3⟩, he]
                rfl
              · exact h.elim
            · exact h.elim
          · exact h.elim
        · exact h.elim
      · exact h.elim
    · exact h.elim
  · -- look
    split at h
    · rename_i t x ix ok hop
      split at h
      · rename_i kt et key ht hix
        split at h
        · rename_i hk
          split at h
          · rename_i es ks z hes hz
            obtain ⟨r, ov, h1, h2⟩ := lookC_spec h
            have hp : prep P ev σ k o = some (.eff (match r with
                | some p => (⟨if ok then .pv (.tuple [p, .lit (.bool true)]) else .pv p, [], ks⟩ : Eff)
                | none => ⟨if ok then .pv (.tuple [z, .lit (.bool false)]) else .pv z, [], ks⟩)) := by
              unfold prep prepZ
              split at hes
              · rename_i hx
                cases hes
                simp only [hop, lookupZ, lookupE, ht, hix, hk, if_true, hx, hz, h1]
                cases r <;> rfl
              · rename_i hx
                cases hes
                simp only [hop, lookupZ, lookupE, ht, hix, hk, if_true, hx, hz, h1]
                cases r <;> rfl
              · rename_i rr hx
                split at hes
                · rename_i hr
                  cases hes
                  simp only [hop, lookupZ, lookupE, ht, hix, hk, if_true, hx, hr, hz, h1]
                  cases r <;> rfl
                · cases hes
              · cases hes
            cases r with
            | some p => exact ⟨_, _, ov, plainOrc_ok, did_eff hp, h2⟩
            | none => exact ⟨_, _, ov, plainOrc_ok, did_eff hp, h2⟩
          · exact h.elim
        · exact h.elim
      · exact h.elim
    · exact h.elim
  · -- div
    split at h
    · rename_i op _ x y _ hop
      split at h
      · rename_i a b hx hy
        split at h
        · refine opX_eff ?_ h.2
          unfold prep prepZ
          simp only [hop, hx, hy]
          exact effV (bop_rem (P := P) _ _ _ _ _ h.1) rfl
        · refine opX_eff ?_ h.2
          unfold prep prepZ
          simp only [hop, hx, hy]
          exact effV (bop_quo (P := P) _ _ _ _ _ h.1) rfl
        · exact h.elim
      · exact h.elim
    · exact h.elim
  · -- b2s
    split at h
    · rename_i src dst x hop
      split at h
      · rename_i e es ks hs hd hel
        split at h
        · rename_i hu
          obtain ⟨bs, rfl, h⟩ := h
          refine opX_eff ?_ h
          unfold prep prepZ
          have hcv : convE P src dst (ev x) σ = some ⟨.pv (.lit (.string ⟨bs.toArray⟩)), [], ks⟩ := by
            unfold convE
            split
            · rename_i v hv
              rw [hv] at hel; cases hel
            · simp only [hs, hd, hel, hu, rep_u8]
          simp only [hop, convZ, hcv, effO]
        · exact h.elim
      · exact h.elim
    · exact h.elim
  · exact h.elim
end Go.Mir
