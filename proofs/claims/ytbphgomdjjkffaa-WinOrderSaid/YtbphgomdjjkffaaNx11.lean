/- Each operation, at once (lemmas; conditions: what they say). -/
import Derived.Test.YtbphgomdjjkffaaNx12
import Derived.Test.YtbphgomdjjkffaaNx28
set_option linter.all false
set_option linter.unusedVariables false
set_option linter.unusedSimpArgs false
set_option linter.unnecessarySimpa false
namespace Go.Mir
open Go Go.RowKit
variable {P : Program} {μ μ' : Nat → Option KS} {S S' : Nat → Prop} {w w' : World} {σ σ' : Store}

theorem rep_lit {v u : Value} (h : Rep S w (.lit v) u) : u = v := by cases h; rfl
theorem repA_lit {v u : Value} (h : RepA μ S w (.pv (.lit v)) u) : u = v := by cases h with | pv h => exact rep_lit h
theorem repA_fnp {f : Fn} {as cs : List PV} {u : Value} (h : RepA μ S w (.pv (.fn f as cs)) u) : ∃ vs us : List Value, u = .func f vs.toArray us.toArray ∧ PW (RepA μ S w) (as.map .pv) vs ∧ PW (RepA μ S w) (cs.map .pv) us := by
  cases h with
  | pv h =>
    cases h with
    | @fn _ _ _ vs us hl hr hl' hr' =>
      refine ⟨vs, us, rfl, ⟨by simpa using hl, fun j x v hx hv => ?_⟩, ⟨by simpa using hl', fun j x v hx hv => ?_⟩⟩
      · rw [List.getElem?_map, Option.map_eq_some_iff] at hx
        obtain ⟨q, hq, rfl⟩ := hx
        exact .pv (hr j q v hq hv)
      · rw [List.getElem?_map, Option.map_eq_some_iff] at hx
        obtain ⟨q, hq, rfl⟩ := hx
        exact .pv (hr' j q v hq hv)
theorem repA_fn {f : Fn} {as cs : List AV} {u : Value} (h : RepA μ S w (.fn f as cs) u) : ∃ vs us : List Value, u = .func f vs.toArray us.toArray ∧ PW (RepA μ S w) as vs ∧ PW (RepA μ S w) cs us := by
  cases h with
  | @fn _ _ _ vs us hl hr hl' hr' => exact ⟨vs, us, rfl, ⟨hl, hr⟩, ⟨hl', hr'⟩⟩
theorem repA_tupp {as : List PV} {u : Value} (h : RepA μ S w (.pv (.tuple as)) u) : ∃ vs : List Value, u = .tuple vs.toArray ∧ PW (Rep S w) as vs := by
  cases h with
  | pv h => cases h with | @tuple _ vs hl hr => exact ⟨vs, rfl, hl, hr⟩
theorem repA_tup {as : List AV} {u : Value} (h : RepA μ S w (.tuple as) u) : ∃ vs : List Value, u = .tuple vs.toArray ∧ PW (RepA μ S w) as vs := by
  cases h with
  | @tuple _ vs hl hr => exact ⟨vs, rfl, hl, hr⟩
theorem resolve_builtin {c : Call} {b : Builtin} {ρ : Operand → Value} {t : TypeId} (h : c.callee = .builtin b) : Go.resolve ρ c t = pure { target := .builtin b c.argTypes t (c.args.map fun | .const _ => true | _ => false), args := c.args.map ρ } := by
  unfold Go.resolve; rw [h]; rfl

theorem litE_ok {v : Value} {e : Eff} (h : litE v = some e) : RepA μ S w e.val v ∧ e.mem = [] := by
  unfold litE at h
  split at h
  · cases h; exact ⟨.pv (.lit (by assumption)), rfl⟩
  · cases h

theorem foldl_push (bs : List UInt8) : ∀ s : ByteArray, bs.foldl (fun r b => r.push b) s = ⟨s.data ++ bs.toArray⟩ := by
  induction bs with
  | nil => intro s; simp
  | cons b bs ih =>
    intro s
    simp only [List.foldl_cons, ih]
    congr 1
    simp [ByteArray.push]

theorem toBytes_spec : ∀ {es : List PV} {bs : List UInt8}, toBytes es = some bs → ∃ ns : List Int, es = ns.map (fun n => .lit (.int .u8 n)) ∧ bs = ns.map fun n => UInt8.ofNat n.toNat
  | [], bs, h => by simp [toBytes] at h; subst h; exact ⟨[], rfl, rfl⟩
  | p :: r, bs, h => by
    unfold toBytes at h
    split at h
    · rename_i h0; cases h0
    · rename_i n r' heq
      cases heq
      split at h
      · rename_i bs' h1
        cases h
        obtain ⟨ns, rfl, rfl⟩ := toBytes_spec h1
        exact ⟨n :: ns, rfl, rfl⟩
      · cases h
    · cases h

theorem convE_ok (hσ : StoRep μ S w σ) {src dst : TypeId} {x : AV} {v : Value} {e : Eff} (hx : RepA μ S w x v) (h : convE P src dst x σ = some e) :
    ∃ u, (convert src dst v).run P w = .ok u w ∧ RepA μ S w e.val u ∧ e.mem = [] := by
  unfold convE at h
  split at h
  · rename_i lv
    cases hx with
    | pv hp =>
      cases hp with
      | lit _ =>
        split at h
        · rename_i u hu
          obtain ⟨h1, h2⟩ := litE_ok (μ := μ) (S := S) (w := w) h
          exact ⟨u, val?_run hu w, h1, h2⟩
        · cases h
  · split at h
    · rename_i el es ks hs hd hel
      split at h
      · rename_i bs hu8 hb
        cases h
        obtain ⟨ns, rfl, rfl⟩ := toBytes_spec hb
        obtain ⟨a, cap, cs, rfl, hl, hrel, hrun⟩ := elems_ok (P := P) (n := 1) hσ hx hel (fun i p hp => by
          rw [List.getElem?_map, Option.map_eq_some_iff] at hp
          obtain ⟨n, _, rfl⟩ := hp
          rfl) (by omega)
        have hcs : cs = ns.map (Value.int .u8) := by
          apply List.ext_getElem?
          intro m
          by_cases hm : m < ns.length
          · have hp : (ns.map (fun n => PV.lit (.int .u8 n)))[m]? = some (.lit (.int .u8 ns[m])) := by simp [hm]
            have hlm : m < cs.length := by rw [hl]; simpa using hm
            have := rep_lit ((hrel.2 m _ hp).2 0 (.lit (.int .u8 ns[m])) cs[m] rfl (by simp [hlm]))
            simp [hm, hlm, this]
          · rw [List.getElem?_eq_none (by rw [hl]; simp; omega), List.getElem?_eq_none (by simp; omega)]
        have hr := hrun w rfl
        refine ⟨.string ⟨(ns.map fun n => UInt8.ofNat n.toNat).toArray⟩, ?_, .pv (.lit rfl), rfl⟩
        rw [run_convert_bytes_string w src dst el a _ cap hs hu8 hd]
        cases a with
        | none =>
          have : ns = [] := by
            simp only [Builtin.firstCells, Sem.run_pure, Result.ok.injEq, and_true] at hr
            have h2 := congrArg Array.size hr
            simp [hcs] at h2
            exact List.eq_nil_of_length_eq_zero h2.symm
          subst this
          simp [Conv.bytesToString]; rfl
        | some ad =>
          simp only [Builtin.firstCells, List.length_map, Nat.mul_one] at hr
          rw [hcs] at hr
          have := run_bytesToString (P := P) w ad ns.length cap ns hr
          simp only [List.length_map]
          rw [this]
          congr 2
          have h3 := foldl_push (ns.map fun n => UInt8.ofNat n.toNat) ByteArray.empty
          rw [List.foldl_map] at h3
          rw [h3]
          simp [ByteArray.empty, ByteArray.emptyWithCapacity]
          rfl
      · cases h
    · cases h

theorem litVals_ok : ∀ {xs : List AV} {vs us : List Value}, PW (RepA μ S w) xs us → litVals xs = some vs → vs = us
  | [], vs, us, h, hl => by
    simp [litVals] at hl; subst hl
    exact (List.eq_nil_of_length_eq_zero (by simpa using h.1.symm)).symm
  | x :: r, vs, [], h, hl => by have := h.1; simp at this
  | x :: r, vs, u :: us, h, hl => by
    unfold litVals at hl
    split at hl
    · rename_i h0; cases h0
    · rename_i v r' heq
      cases heq
      split at hl
      · rename_i vs' h1
        cases hl
        have h0 := h.2 0 _ u rfl rfl
        cases h0 with
        | pv hp =>
          cases hp with
          | lit _ => rw [litVals_ok ⟨by have := h.1; simpa using this, fun j x v hx hv => h.2 (j + 1) x v (by simpa using hx) (by simpa using hv)⟩ h1]
      · cases hl
    · cases hl

theorem builtinE_ok (hσ : StoRep μ S w σ) {b : Builtin} {ts : Array TypeId} {ty : TypeId} {cs : Array Bool} {xs : List AV} {us : Array Value} {k : Nat} {e : Eff} (hx : PW (RepA μ S w) xs us.toList) (h : builtinE P b ts ty xs k σ = some e) :
    ∃ v μ' S' w', (builtin b ts ty cs us).run P w = .ok (.value v) w' ∧ RepA μ' S' w' e.val v ∧ StoRep μ' S' w' (applyMem σ e.mem) ∧ Ext μ S w μ' S' w' := by
  unfold builtinE at h
  split at h
  · rename_i t x hts
    obtain rfl : ts = #[t] := by rw [← Array.toArray_toList (xs := ts), hts]
    match us, hx with
    | ⟨[u]⟩, hx =>
      obtain ⟨v, h1, h2, h3⟩ := lenE_ok (ty := ty) hσ (hx.2 0 x u rfl rfl) h
      exact ⟨v, μ, S, w, by simp [builtin, h1], h2, by rw [h3]; exact hσ, Ext.refl _ _ _⟩
    | ⟨[]⟩, hx => exact absurd hx.1 (by simp)
    | ⟨_ :: _ :: _⟩, hx => exact absurd hx.1 (by simp)
  · rename_i t x hts
    obtain rfl : ts = #[t] := by rw [← Array.toArray_toList (xs := ts), hts]
    match us, hx with
    | ⟨[u]⟩, hx =>
      obtain ⟨v, h1, h2, h3⟩ := capE_ok (P := P) (w := w) (ty := ty) (hx.2 0 x u rfl rfl) h
      exact ⟨v, μ, S, w, by simp [builtin, h1], h2, by rw [h3]; exact hσ, Ext.refl _ _ _⟩
    | ⟨[]⟩, hx => exact absurd hx.1 (by simp)
    | ⟨_ :: _ :: _⟩, hx => exact absurd hx.1 (by simp)
  · rename_i t tx s x hts
    obtain rfl : ts = #[t, tx] := by rw [← Array.toArray_toList (xs := ts), hts]
    match us, hx with
    | ⟨[u, u2]⟩, hx =>
      obtain ⟨v, μ', S', w', h1, h2, h3, h4⟩ : EffOk μ S w σ ((Builtin.append_ #[t, tx] ty #[u, u2]).run P w) e := by
        split at h
        · exact appendZ_ok (ty := ty) hσ (hx.2 0 s u rfl rfl) (hx.2 1 x u2 rfl rfl) h
        · exact appendE_ok (ty := ty) hσ (hx.2 0 s u rfl rfl) (hx.2 1 x u2 rfl rfl) h
      exact ⟨v, μ', S', w', by simp [builtin, h1], h2, h3, h4⟩
    | ⟨[]⟩, hx => exact absurd hx.1 (by simp)
    | ⟨[_]⟩, hx => exact absurd hx.1 (by simp)
    | ⟨_ :: _ :: _ :: _⟩, hx => exact absurd hx.1 (by simp)
  · rename_i t x hts
    obtain rfl : ts = #[t] := by rw [← Array.toArray_toList (xs := ts), hts]
    match us, hx with
    | ⟨[u]⟩, hx =>
      obtain ⟨v, μ', S', w', h1, h2, h3, h4⟩ := clearE_ok (ty := ty) hσ (hx.2 0 x u rfl rfl) h
      exact ⟨v, μ', S', w', by simp [builtin, h1], h2, h3, h4⟩
    | ⟨[]⟩, hx => exact absurd hx.1 (by simp)
    | ⟨_ :: _ :: _⟩, hx => exact absurd hx.1 (by simp)
  · split at h
    · rename_i vs hv
      split at h
      · rename_i u hu
        have := litVals_ok hx hv
        subst this
        obtain ⟨h1, h2⟩ := litE_ok (μ := μ) (S := S) (w := w) h
        exact ⟨u, μ, S, w, by have := val?_run hu w; simp only [Array.toArray_toList] at this; simp [builtin, this], h1, by rw [h2]; exact hσ, Ext.refl _ _ _⟩
      · cases h
    · cases h
  · split at h
    · rename_i vs hv
      split at h
      · rename_i u hu
        have := litVals_ok hx hv
        subst this
        obtain ⟨h1, h2⟩ := litE_ok (μ := μ) (S := S) (w := w) h
        exact ⟨u, μ, S, w, by have := val?_run hu w; simp only [Array.toArray_toList] at this; simp [builtin, this], h1, by rw [h2]; exact hσ, Ext.refl _ _ _⟩
      · cases h
    · cases h
  · cases h

def OpOk (μ : Nat → Option KS) (S : Nat → Prop) (w : World) (σ : Store) (r : Result Next) (e : Eff) : Prop :=
  ∃ v μ' S' w', (r = .ok (.value v) w' ∨ (r = .ok .skip w' ∧ v = undef)) ∧ RepA μ' S' w' e.val v ∧ StoRep μ' S' w' (applyMem σ e.mem) ∧ Ext μ S w μ' S' w'

theorem truncE_ok (hσ : StoRep μ S w σ) {z : Bool} {t el : TypeId} {n k : Nat} {x : AV} {v : Value} {lo hi mx : Option AV} {vlo vhi vmx : Option Value} {e : Eff} (ht : P.underlying t = some (.slice el)) (hn : sz P el = some n) (hx : RepA μ S w x v) (hlo : OptRep μ S w lo vlo) (hhi : OptRep μ S w hi vhi) (hmx : OptRep μ S w mx vmx) (h : sliceK z k n σ x lo hi mx = some e) :
    EffOk μ S w σ ((Instr.sliceAt t v vlo vhi vmx).run P w) e := by
  unfold sliceK at h
  split at h
  · obtain ⟨u, g1, g2, g3⟩ := sliceE_ok hσ ht hn hx hlo hhi hmx h
    exact ⟨u, μ, S, w, g1, g2, by rw [g3]; exact hσ, Ext.refl μ S w⟩
  split at h
  · rename_i r off len
    unfold truncE at h
    split at h
    · rename_i e0 s es he
      split at h
      · cases h
      · rename_i hrk
        unfold newE at h
        split at h
        · rename_i hk
          cases h
          obtain ⟨t1, t2, t3⟩ := take_row hσ hx he rfl
          have hk' : lk (ins r .stale σ) k = none := by rw [lk_ins, if_neg hrk]; exact hk
          cases hmx
          have run : ∀ (a : Option Addr) (m cap : Nat), m ≤ cap → (Instr.sliceAt t (.slice a m cap) vlo vhi none).run P w = .ok (.slice (if cap = 0 then a else a.map (·.add (0 * n))) 0 cap) w := fun a m cap hm => by
            have hb := run_bounds (P := P) (isS := true) (l := 0) (h := 0) (len := m) (cap := cap) (w := w) hlo hhi rfl rfl (Nat.le_refl _) (Nat.zero_le _) hm
            simp [Instr.sliceAt, Instr.slice, run_underlying ht, hb, sz_run hn]
          rcases t3 with ⟨rfl, a, rfl⟩ | ⟨b, ⟨cap, cur, rfl, f2, f3, f4, f5, f6⟩, t5, t6, t7, t8⟩
          · obtain ⟨g1, g2⟩ := give_nil (e := e0) (s := s) (a := a) t1 hk'
            refine ⟨_, _, S, w, run a 0 0 (Nat.le_refl _), g2, g1, t2.keys.trans (keysOk_new (t1.dom k hk') _), fun _ h => h, fun _ _ => rfl, fun _ _ _ => rfl, fun j c hj => ?_, fun _ h => .inl h, Nat.le_refl _, rfl, rfl, rfl⟩
            by_cases hjk : j = k
            · subst hjk; rw [updK_same] at hj; exact hj.elim
            · rw [updK_ne hjk] at hj; exact t2.own' j c hj
          · have hv : (if cap = 0 then some (⟨b, 0, none⟩ : Addr) else (some (⟨b, 0, none⟩ : Addr)).map (·.add (0 * n))) = some ⟨b, 0, none⟩ := by
              split
              · rfl
              · simp [Addr.add]
            have fresh : FreshAt S w e0 s [] (.slice (some ⟨b, 0, none⟩) 0 cap) b := ⟨cap, cur, rfl, Nat.zero_le _, f3, f4, f5, ⟨by simp, fun i p hp => by simp at hp⟩⟩
            obtain ⟨m, m1, m2, m3, m4⟩ := give_row t1 hk' fresh t6 t8
            refine ⟨_, _, S, w, run _ _ _ f2, by rw [hv]; exact m4, m3, t2.keys.trans (keysOk_new (t1.dom k hk') _), fun _ h => h, fun _ _ => rfl, fun _ _ _ => rfl, fun j c hj => ?_, fun _ h => .inl h, Nat.le_refl _, rfl, rfl, rfl⟩
            by_cases hjk : j = k
            · subst hjk; rw [updK_same] at hj; rw [m2 c hj]; exact .inl ⟨r, t5⟩
            · rw [updK_ne hjk] at hj; exact t2.own' j c hj
        · cases h
    · cases h
  · obtain ⟨u, g1, g2, g3⟩ := sliceE_ok hσ ht hn hx hlo hhi hmx h
    exact ⟨u, μ, S, w, g1, g2, by rw [g3]; exact hσ, Ext.refl μ S w⟩
theorem equal_nil {P : Program} {t : TypeId} {el : TypeId} (hu : P.underlying t = some (.slice el)) (a : Option Addr) (n c a1 a2 : Nat) (w : World) :
    (Op.equal t (.slice a n c) (.slice none a1 a2)).run P w = .ok a.isNone w := by
  unfold Op.equal
  show (Op.equalIn (9999 + 1) t _ _).run P w = _
  rw [Op.equalIn]
  rw [Sem.run_bind, run_underlying hu]
  cases a <;> rfl
theorem OpOk.same (hσ : StoRep μ S w σ) {r : Result Next} {e : Eff} {v : Value} (hr : r = .ok (.value v) w) (hv : RepA μ S w e.val v) (hm : e.mem = []) : OpOk μ S w σ r e :=
  ⟨v, μ, S, w, .inl hr, hv, by rw [hm]; exact hσ, Ext.refl μ S w⟩
theorem OpOk.val (hσ : StoRep μ S w σ) {r : Result Next} {x : AV} {e : Eff} {v : Value} (h : effO (valE x) = some (.eff e)) (hr : r = .ok (.value v) w) (hv : RepA μ S w x v) : OpOk μ S w σ r e := by
  cases h; exact OpOk.same hσ hr hv rfl
theorem OpOk.of {s : Sem Value} {e : Eff} (h : EffOk μ S w σ (s.run P w) e) : OpOk μ S w σ ((do pure (Next.value (← s)) : Sem Next).run P w) e := by
  obtain ⟨v, μ', S', w', h1, h2, h3, h4⟩ := h
  exact ⟨v, μ', S', w', .inl (by simp [h1]), h2, h3, h4⟩
theorem OpOk.ofU {s : Sem Unit} {e : Eff} (h : EffOkU μ S w σ (s.run P w) e) : OpOk μ S w σ ((do s; pure Next.skip : Sem Next).run P w) e := by
  obtain ⟨μ', S', w', h1, h2, h3, h4⟩ := h
  exact ⟨undef, μ', S', w', .inr ⟨by simp [h1], rfl⟩, h2, h3, h4⟩
theorem OpOk.ofSame (hσ : StoRep μ S w σ) {s : Sem Value} {e : Eff} (h : ∃ u, s.run P w = .ok u w ∧ RepA μ S w e.val u ∧ e.mem = []) : OpOk μ S w σ ((do pure (Next.value (← s)) : Sem Next).run P w) e := by
  obtain ⟨u, h1, h2, h3⟩ := h
  exact OpOk.same hσ (by simp [h1]) h2 h3
theorem effO_some {m : Option Eff} {e : Eff} (h : effO m = some (.eff e)) : m = some e := by
  cases m with
  | none => cases h
  | some x => cases h; rfl
theorem effO_call {m : Option Eff} {f : Nat} {xs : List AV} : effO m ≠ some (.call f xs) := by
  cases m <;> simp [effO]

theorem optRep {ev : Operand → AV} {ρ : Operand → Value} (hev : ∀ x, RepA μ S w (ev x) (ρ x)) (o : Option Operand) : OptRep μ S w (o.map ev) (o.map ρ) := by
  cases o
  · exact .none
  · exact .some (hev _)
theorem argsRep {ev : Operand → AV} {ρ : Operand → Value} (hev : ∀ x, RepA μ S w (ev x) (ρ x)) (xs : List Operand) : PW (RepA μ S w) (xs.map ev) (xs.map ρ) := by
  refine ⟨by simp, fun j x v hx hv => ?_⟩
  rw [List.getElem?_map, Option.map_eq_some_iff] at hx hv
  obtain ⟨q, hq, rfl⟩ := hx
  obtain ⟨q', hq', rfl⟩ := hv
  rw [hq] at hq'
  cases hq'
  exact hev q
theorem partsRep {ev : Operand → AV} {ρ : Operand → Value} (hev : ∀ x, RepA μ S w (ev x) (ρ x)) (xs : Array (Nat × Operand)) :
    PW (fun (x : Nat × AV) (v : Nat × Value) => x.1 = v.1 ∧ RepA μ S w x.2 v.2) (xs.toList.map fun p => (p.1, ev p.2)) (xs.map fun (i, x) => (i, ρ x)).toList := by
  refine ⟨by simp, fun j x v hx hv => ?_⟩
  rw [Array.toList_map, List.getElem?_map, Option.map_eq_some_iff] at hv
  rw [List.getElem?_map, Option.map_eq_some_iff] at hx
  obtain ⟨q, hq, rfl⟩ := hx
  obtain ⟨q', hq', rfl⟩ := hv
  rw [hq] at hq'
  cases hq'
  exact ⟨rfl, hev _⟩

theorem prep_eff {z : Bool} (hσ : StoRep μ S w σ) {ev : Operand → AV} {a : Act} (hev : ∀ x, RepA μ S w (ev x) (a.eval x)) {k : Nat} {o : Oper} {e : Eff} (h : prepZ P z ev σ k o = some (.eff e)) :
    OpOk μ S w σ ((execOp a.eval o).run P w) e := by
  unfold prepZ at h
  split at h
  · rename_i x hop; simp only [execOp, hop]; exact OpOk.val hσ h rfl (hev x)
  · rename_i x hop; simp only [execOp, hop]; exact OpOk.val hσ h rfl (hev x)
  · rename_i c x y hop
    split at h
    · rename_i t hc
      have h1 := hev c
      rw [hc] at h1
      have hcv : a.eval c = .bool t := repA_lit h1
      refine OpOk.val hσ h (v := if t then a.eval x else a.eval y) (by simp [execOp, hop, hcv, asBool]) ?_
      cases t
      · exact hev y
      · exact hev x
    · cases h
  · rename_i t hop
    split at h
    · rename_i n z hn hz
      split at h
      · rename_i hc
        obtain ⟨i, zv, _, _, hov, hzr⟩ := zr_run hz
        obtain ⟨q1, q2⟩ := ofValue_rep (S := S) (w := w) hov
        have hh := effO_some h
        simp only [execOp, hop]
        refine OpOk.of ?_
        have : (Instr.alloc t true (.tuple #[])).run P w = .ok (.pointer (some ⟨w.heap.size, 0, none⟩)) (w.alloc (.cells zv.cells t)) := by
          simp [Instr.alloc, hzr w, run_newVar]
        rw [this]
        unfold allocE at hh
        split at hh
        · exact box_ok (t := t) hσ (RepA.pv (μ := μ) q1) (by simpa [AV.cells, List.all_map, Function.comp_def, AV.isCell] using q2) (by simpa [AV.cells] using hh)
        · split at hh
          · rename_i hle
            exact arr_ok (t := t) hσ q1 q2 (by rw [hc.1]; exact Nat.le_of_ble_eq_true hle) hh
          · cases hh
      · cases h
    · cases h
  · rename_i t x hop
    split at h
    · rename_i n hn
      split at h
      · rename_i hc
        have hb := box_ok (t := t) hσ (hev x) hc.2 (effO_some h)
        simp only [execOp, hop]
        refine OpOk.of ?_
        have : (Instr.box t (a.eval x)).run P w = .ok (.pointer (some ⟨w.heap.size, 0, none⟩)) (w.alloc (.cells (a.eval x).cells t)) := by
          simp [Instr.box, run_newVar]
        rw [this]
        exact hb
      · cases h
    · cases h
  · rename_i t parts hop; simp only [execOp, hop]; exact OpOk.of (buildE_ok hσ (partsRep hev parts) (effO_some h))
  · rename_i t n parts hop; simp only [execOp, hop]; exact OpOk.of (buildSliceE_ok hσ (partsRep hev parts) (effO_some h))
  · rename_i t m key x hop; simp only [execOp, hop]; exact OpOk.ofU (insertE_ok hσ (hev m) (hev key) (hev x) (effO_some h))
  · rename_i t m key x hop; simp only [execOp, hop]; exact OpOk.ofU (insertE_ok hσ (hev m) (hev key) (hev x) (effO_some h))
  · rename_i t x hop
    simp only [execOp, hop]
    obtain ⟨u, h1, h2, h3, _⟩ := loadE_ok hσ (hev x) (effO_some h)
    exact OpOk.ofSame hσ ⟨u, h1, h2, h3⟩
  · rename_i t x y hop; simp only [execOp, hop]; exact OpOk.ofU (storeZ_ok hσ (hev x) (hev y) (effO_some h))
  · rename_i x hop
    have hx := hev x
    split at h
    · rename_i k off he
      rw [he] at hx
      refine OpOk.val hσ h (v := a.eval x) ?_ hx
      cases hx with
      | bp hm => obtain ⟨b, o, e⟩ := hm.stale; simp [execOp, hop, e]
    · rename_i k i off he
      rw [he] at hx
      refine OpOk.val hσ h (v := a.eval x) ?_ hx
      cases hx with
      | rp hm => obtain ⟨b, o, e⟩ := hm.stale; simp [execOp, hop, e]
    · rename_i cs off he
      rw [he] at hx
      refine OpOk.val hσ h (v := a.eval x) ?_ hx
      have : ∃ ad, a.eval x = .pointer (some ad) := by
        generalize a.eval x = vv at hx
        cases hx with
        | pv hp => cases hp with | ip => exact ⟨_, rfl⟩
      obtain ⟨ad, e⟩ := this
      simp [execOp, hop, e]
    · rename_i f as cs he
      rw [he] at hx
      obtain ⟨vs, us, e, _, _⟩ := repA_fnp hx
      exact OpOk.val hσ h (v := a.eval x) (by simp [execOp, hop, e]) hx
    · rename_i f as cs he
      rw [he] at hx
      obtain ⟨vs, us, e, _, _⟩ := repA_fn hx
      exact OpOk.val hσ h (v := a.eval x) (by simp [execOp, hop, e]) hx
    · cases h
  · rename_i op t x y ty hop
    split at h
    · rename_i va vb h1 h2
      have hx := hev x; have hy := hev y
      rw [h1] at hx; rw [h2] at hy
      have ea : a.eval x = va := repA_lit hx
      have eb : a.eval y = vb := repA_lit hy
      split at h
      · rename_i v hv
        obtain ⟨g1, g2⟩ := litE_ok (μ := μ) (S := S) (w := w) (effO_some h)
        refine OpOk.same hσ (v := v) ?_ g1 g2
        have hr := val?_run hv w
        simp only [execOp, hop, ea, eb]
        rw [Sem.run_bind, hr]
        rfl
      · cases h
    · rename_i fl es fl2 es2 h1 h2
      have hx := hev x
      rw [h1] at hx
      split at h
      · rename_i el a1 a2 hu
        obtain ⟨ad, c, hv, hnil⟩ : ∃ ad c, a.eval x = .slice ad es.length c ∧ (ad.isNone = true → ∀ p ∈ es, p.cells = []) := by
          generalize a.eval x = vv at hx
          cases hx with
          | pv hp =>
            cases hp with
            | sl s f hn hc hf hs ha hr =>
              refine ⟨_, _, rfl, fun hnn p hp => ?_⟩
              obtain ⟨i, hi⟩ := List.getElem?_of_mem hp
              cases hcs : p.cells with
              | nil => rfl
              | cons q r =>
                obtain ⟨b, o, e, _⟩ := ha i p 0 q hi (by rw [hcs]; rfl)
                rw [e] at hnn; cases hnn
        have he : ∀ w : World, (Op.equal t (a.eval x) (.slice none a1 a2)).run P w = .ok ad.isNone w := fun w => by rw [hv]; exact equal_nil hu ..
        split at h
        · refine OpOk.val hσ h (v := .bool ad.isNone) ?_ (.nilq fun h => hnil (by simpa using h))
          have h0 := he w
          rw [hv] at h0
          simp only [execOp, hop, show a.eval (Operand.const (Value.slice none a1 a2)) = Value.slice none a1 a2 from rfl, hv]
          simp [eqGuard, binOp, h0]
        · refine OpOk.val hσ h (v := .bool (!ad.isNone)) ?_ (.nilq fun h => hnil (by simpa using h))
          have h0 := he w
          rw [hv] at h0
          simp only [execOp, hop, show a.eval (Operand.const (Value.slice none a1 a2)) = Value.slice none a1 a2 from rfl, hv]
          simp [eqGuard, binOp, h0]
        · cases h
      · cases h
    · rename_i cs ds h1 h2
      have hx := hev x; have hy := hev y
      rw [h1] at hx; rw [h2] at hy
      obtain ⟨r, r1, r2, r3⟩ := eqE_ok (μ := μ) (x := x) (y := y) (by cases hx with | pv h => exact h) (by cases hy with | pv h => exact h) (effO_some h)
      refine OpOk.same hσ (v := r) ?_ r2 r3
      simp only [execOp, hop]
      rw [Sem.run_bind, r1]
      rfl
    · cases h
  · rename_i op t x hop
    split at h
    · rename_i va h1
      have hx := hev x
      rw [h1] at hx
      have ea : a.eval x = va := repA_lit hx
      split at h
      · rename_i v hv
        obtain ⟨g1, g2⟩ := litE_ok (μ := μ) (S := S) (w := w) (effO_some h)
        refine OpOk.same hσ (v := v) ?_ g1 g2
        have hr := val?_run hv w
        simp only [execOp, hop, ea]
        rw [Sem.run_bind, hr]
        rfl
      · cases h
    · cases h
  · rename_i src dst x hop; simp only [execOp, hop]; exact OpOk.ofSame hσ (convE_ok hσ (hev x) (effO_some h))
  · rename_i f first caps hop
    have p1 := argsRep hev first.toList
    have p2 := argsRep hev caps.toList
    refine OpOk.val hσ h (v := .func f (first.map a.eval) (caps.map a.eval)) (by simp [execOp, hop, Instr.makeFunc]) ?_
    have := mkFn_rep (f := f) p1.1 p1.2 p2.1 p2.2
    rw [← List.map_toArray, ← List.map_toArray] at this
    simpa using this
  · rename_i t r hop
    have mk : newE k σ (.mm k) (.map true []) [] [] = some e → EffOk μ S w σ (.ok (.map (some w.heap.size)) (w.alloc (.map #[] 0))) e := by
      intro h
      unfold newE at h
      split at h
      · rename_i hk
        cases h
        obtain ⟨s1, s2⟩ := alloc_ok hσ hk (m := .map w.heap.size) (fun b hb => hb.symm) (x := .map true []) (o := .map #[] 0)
          ⟨w.heap.size, #[], 0, updK_same _ _, ⟨fun h => absurd (hσ.slt _ h) (by omega), fun h => by cases h⟩, heap_alloc_new w _, rfl, fun i e m h1 => by simp at h1⟩
        exact ⟨_, _, S, _, rfl, .mm (by rw [updK_same]; rfl), by simpa [applyMem] using s1, s2⟩
      · cases h
    split at h
    · rename_i kt et ht hr
      have : r = none := by cases r with | none => rfl | some _ => simp at hr
      subst this
      simp only [execOp, hop]
      refine OpOk.of ?_
      have hrun : (Instr.makeMap t (Option.map a.eval none)).run P w = .ok (.map (some w.heap.size)) (w.alloc (.map #[] 0)) := by simp [Instr.makeMap]
      rw [hrun]
      exact mk (effO_some h)
    · rename_i kt et x ht hr
      obtain ⟨y, rfl, rfl⟩ : ∃ y, r = some y ∧ ev y = x := by cases r with | none => simp at hr | some y => exact ⟨y, rfl, by simpa using hr⟩
      split at h
      · rename_i i hi
        obtain ⟨kd, hv⟩ := asI_int (hev y) hi
        simp only [execOp, hop]
        refine OpOk.of ?_
        have hrun : (Instr.makeMap t (Option.map a.eval (some y))).run P w = .ok (.map (some w.heap.size)) (w.alloc (.map #[] 0)) := by simp [Instr.makeMap, hv, run_underlying ht, asInt, asIntOf]
        rw [hrun]
        exact mk (effO_some h)
      · cases h
    · cases h
  · rename_i t l c hop; simp only [execOp, hop]; exact OpOk.of (makeSliceE_ok hσ (hev l) (hev c) (effO_some h))
  · rename_i t x lo hi mx hop
    split at h
    · rename_i el ht
      split at h
      · rename_i n hn
        simp only [execOp, hop]
        exact OpOk.of (truncE_ok hσ ht hn (hev x) (optRep hev lo) (optRep hev hi) (optRep hev mx) (effO_some h))
      · cases h
    · rename_i ht
      split at h
      · rename_i s hs
        have hx := hev x
        rw [hs] at hx
        have ea : a.eval x = .string s := repA_lit hx
        simp only [execOp, hop, ea]
        exact OpOk.ofSame hσ (sliceS_ok ht (optRep hev lo) (optRep hev hi) (optRep hev mx) (effO_some h))
      · cases h
    · cases h
  · rename_i t x f hop
    split at h
    · rename_i fs ht
      split at h
      · rename_i fd hf
        split at h
        · rename_i n hn
          split at h
          · rename_i y hy
            obtain ⟨b, o', ev', hr⟩ := addrAdd_ok (hev x) hy
            refine OpOk.val hσ h (v := .pointer (some ⟨b, o' + fd.offset, none⟩)) ?_ hr
            simp [execOp, hop, ev', run_fieldAt ht hf hn]
          · cases h
        · cases h
      · cases h
    · cases h
  · rename_i t x f hop
    split at h
    · rename_i fs cs ht hc
      split at h
      · rename_i fd hf
        simp only [execOp, hop]
        exact OpOk.ofSame hσ (fieldE_ok (hev x) hc ht hf (effO_some h))
      · cases h
    · cases h
  · rename_i t x ix hop; simp only [execOp, hop]; exact OpOk.ofSame hσ (indexAddrZ_ok hσ (hev x) (hev ix) (effO_some h))
  · rename_i t x ix hop; simp only [execOp, hop]; exact OpOk.ofSame hσ (indexE_ok (hev x) (hev ix) (effO_some h))
  · rename_i t x ix ok hop; simp only [execOp, hop]; exact OpOk.ofSame hσ (lookupE_ok hσ (hev x) (hev ix) (effO_some h))
  · rename_i x i hop
    have hx := hev x
    split at h
    · rename_i vs he
      rw [he] at hx
      split at h
      · rename_i p hp
        obtain ⟨us, e, h1, h2⟩ := repA_tupp hx
        have hlt : i < us.length := by rw [← h1]; exact (List.getElem?_eq_some_iff.1 hp).1
        exact OpOk.val hσ h (v := us[i]) (by simp [execOp, hop, e, Instr.extract, hlt]) (.pv (h2 i p _ hp (List.getElem?_eq_getElem hlt)))
      · cases h
    · rename_i vs he
      rw [he] at hx
      split at h
      · rename_i p hp
        obtain ⟨us, e, h1, h2⟩ := repA_tup hx
        have hlt : i < us.length := by rw [← h1]; exact (List.getElem?_eq_some_iff.1 hp).1
        exact OpOk.val hσ h (v := us[i]) (by simp [execOp, hop, e, Instr.extract, hlt]) (h2 i p _ hp (List.getElem?_eq_getElem hlt))
      · cases h
    · cases h
  · rename_i c hop
    split at h
    · rename_i b hb
      simp only [execOp, hop]
      have hx := argsRep hev c.args.toList
      obtain ⟨v, μ', S', w', h1, h2, h3, h4⟩ := builtinE_ok (P := P) (cs := c.args.map fun | .const _ => true | _ => false) (us := c.args.map a.eval) hσ (by simpa using hx) (effO_some h)
      refine ⟨v, μ', S', w', .inl ?_, h2, h3, h4⟩
      rw [resolve_builtin hb]; exact h1
    · split at h
      · cases h
      · cases h
      · cases h
    · cases h
  · cases h
end Go.Mir
