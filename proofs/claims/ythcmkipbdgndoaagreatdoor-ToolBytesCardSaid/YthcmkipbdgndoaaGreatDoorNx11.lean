/- Each operation, at once (lemmas; conditions: what they say). -/
import Derived.Test.YthcmkipbdgndoaaGreatDoorNx12
import Derived.Test.YthcmkipbdgndoaaGreatDoorNx28
set_option linter.all false
set_option linter.unusedVariables false
set_option linter.unusedSimpArgs false
set_option linter.unnecessarySimpa false
namespace Go.Mir
open Go Go.RowKit
variable {P : Program} {μ μ' : Nat → Option KS} {S S' : Nat → Prop} {w w' : World} {σ σ' : Store}

theorem rep_lit {v u : Value} (h : Rep S w (.lit v) u) : u = v := by cases h; rfl
theorem repA_lit {v u : Value} (h : RepA μ S w (.pv (.lit v)) u) : u = v := by cases h with | pv h => exact rep_lit h
theorem repA_fnp {f : Fn} {as cs : List PV} {u : Value} (h : RepA μ S w (.pv (.fn f as cs)) u) : ∃ vs us : List Value, u = .func f vs.toArray us.toArray ∧ PW (RepA μ S w) (as.map .pv) vs ∧ PW (RepA μ S w) (cs.map .pv) us := by
  cases h with
  | pv h =>
    cases h with
    | @fn _ _ _ vs us hl hr hl' hr' =>
      refine ⟨vs, us, rfl, ⟨by simpa using hl, fun j x v hx hv => ?_⟩, ⟨by simpa using hl', fun j x v hx hv => ?_⟩⟩
      · rw [List.getElem?_map, Option.map_eq_some_iff] at hx
        obtain ⟨q, hq, rfl⟩ := hx
        exact .pv (hr j q v hq hv)
      · rw [List.getElem?_map, Option.map_eq_some_iff] at hx
        obtain ⟨q, hq, rfl⟩ := hx
        exact .pv (hr' j q v hq hv)
theorem repA_fn {f : Fn} {as cs : List AV} {u : Value} (h : RepA μ S w (.fn f as cs) u) : ∃ vs us : List Value, u = .func f vs.toArray us.toArray ∧ PW (RepA μ S w) as vs ∧ PW (RepA μ S w) cs us := by
  cases h with
  | @fn _ _ _ vs us hl hr hl' hr' => exact ⟨vs, us, rfl, ⟨hl, hr⟩, ⟨hl', hr'⟩⟩
theorem repA_tupp {as : List PV} {u : Value} (h : RepA μ S w (.pv (.tuple as)) u) : ∃ vs : List Value, u = .tuple vs.toArray ∧ PW (Rep S w) as vs := by
  cases h with
  | pv h => cases h with | @tuple _ vs hl hr => exact ⟨vs, rfl, hl, hr⟩
theorem repA_tup {as : List AV} {u : Value} (h : RepA μ S w (.tuple as) u) : ∃ vs : List Value, u = .tuple vs.toArray ∧ PW (RepA μ S w) as vs := by
  cases h with
  | @tuple _ vs hl hr => exact ⟨vs, rfl, hl, hr⟩
theorem resolve_builtin {c : Call} {b : Builtin} {ρ : Operand → Value} {t : TypeId} (h : c.callee = .builtin b) : Go.resolve ρ c t = pure { target := .builtin b c.argTypes t (c.args.map fun | .const _ => true | _ => false), args := c.args.map ρ } := by
  unfold Go.resolve; rw [h]; rfl

theorem litE_ok {v : Value} {e : Eff} (h : litE v = some e) : RepA μ S w e.val v ∧ e.mem = [] := by
  unfold litE at h
  split at h
  · cases h; exact ⟨.pv (.lit (by assumption)), rfl⟩
  · cases h

theorem foldl_push (bs : List UInt8) : ∀ s : ByteArray, bs.foldl (fun r b => r.push b) s = ⟨s.data ++ bs.toArray⟩ := by
  induction bs with
  | nil => intro s; simp
  | cons b bs ih =>
    intro s
    simp only [List.foldl_cons, ih]
    congr 1
    simp [ByteArray.push]

theorem toBytes_spec : ∀ {es : List PV} {bs : List UInt8}, toBytes es = some bs → ∃ ns : List Int, es = ns.map (fun n => .lit (.int .u8 n)) ∧ bs = ns.map fun n => UInt8.ofNat n.toNat
  | [], bs, h => by simp [toBytes] at h; subst h; exact ⟨[], rfl, rfl⟩
  | p :: r, bs, h => by
    unfold toBytes at h
    split at h
    · rename_i h0; cases h0
    · rename_i n r' heq
      cases heq
      split at h
      · rename_i bs' h1
        cases h
        obtain ⟨ns, rfl, rfl⟩ := toBytes_spec h1
        exact ⟨n :: ns, rfl, rfl⟩
      · cases h
    · cases h

theorem convE_ok (hσ : StoRep μ S w σ) {src dst : TypeId} {x : AV} {v : Value} {e : Eff} (hx : RepA μ S w x v) (h : convE P src dst x σ = some e) :
    ∃ u, (convert src dst v).run P w = .ok u w ∧ RepA μ S w e.val u ∧ e.mem = [] := by
  unfold convE at h
  split at h
  · rename_i lv
    cases hx with
    | pv hp =>
      cases hp with
      | lit _ =>
        split at h
        · rename_i u hu
          obtain ⟨h1, h2⟩ := litE_ok (μ := μ) (S := S) (w := w) h
          exact ⟨u, val?_run hu w, h1, h2⟩
        · cases h
  · split at h
    · rename_i el es ks hs hd hel
      split at h
      · rename_i bs hu8 hb
        cases h
        obtain ⟨ns, rfl, rfl⟩ := toBytes_spec hb
        obtain ⟨a, cap, cs, rfl, hl, hrel, hrun⟩ := elems_ok (P := P) (n := 1) hσ hx hel (fun i p hp => by
          rw [List.getElem?_map, Option.map_eq_some_iff] at hp
          obtain ⟨n, _, rfl⟩ := hp
          rfl) (by omega)
        have hcs : cs = ns.map (Value.int .u8) := by
          apply List.ext_getElem?
          intro m
          by_cases hm : m < ns.length
          · have hp : (ns.map (fun n => PV.lit (.int .u8 n)))[m]? = some (.lit (.int .u8 ns[m])) := by simp [hm]
            have hlm : m < cs.length := by rw [hl]; simpa using hm
            have := rep_lit ((hrel.2 m _ hp).2 0 (.lit (.int .u8 ns[m])) cs[m] rfl (by simp [hlm]))
            simp [hm, hlm, this]
          · rw [List.getElem?_eq_none (by rw [hl]; simp; omega), List.getElem?_eq_none (by simp; omega)]
        have hr := hrun w rfl
        refine ⟨.string ⟨(ns.map fun n => UInt8.ofNat n.toNat).toArray⟩, ?_, .pv (.lit rfl), rfl⟩
        rw [run_convert_bytes_string w src dst el a _ cap hs hu8 hd]
        cases a with
        | none =>
          have : ns = [] := by
            simp only [Builtin.firstCells, Sem.run_pure, Result.ok.injEq, and_true] at hr
            have h2 := congrArg Array.size hr
            simp [hcs] at h2
            exact List.eq_nil_of_length_eq_zero h2.symm
          subst this
          simp [Conv.bytesToString]; rfl
        | some ad =>
          simp only [Builtin.firstCells, List.length_map, Nat.mul_one] at hr
          rw [hcs] at hr
          have := run_bytesToString (P := P) w ad ns.length cap ns hr
          simp only [List.length_map]
          rw [this]
          congr 2
          have h3 := foldl_push (ns.map fun n => UInt8.ofNat n.toNat) ByteArray.empty
          rw [List.foldl_map] at h3
          rw [h3]
          simp [ByteArray.empty, ByteArray.emptyWithCapacity]
          rfl
      · cases h
    · cases h

theorem litVals_ok : ∀ {xs : List AV} {vs us : List Value}, PW (RepA μ S w) xs us → litVals xs = some vs → vs = us
  | [], vs, us, h, hl => by
    simp [litVals] at hl; subst hl
    exact (List.eq_nil_of_length_eq_zero (by simpa using h.1.symm)).symm
  | x :: r, vs, [], h, hl => by have := h.1; simp at this
  | x :: r, vs, u :: us, h, hl => by
    unfold litVals at hl
    split at hl
    · rename_i h0; cases h0
    · rename_i v r' heq
      cases heq
      split at hl
      · rename_i vs' h1
        cases hl
        have h0 := h.2 0 _ u rfl rfl
        cases h0 with
        | pv hp =>
          cases hp with
          | lit _ => rw [litVals_ok ⟨by have := h.1; simpa using this, fun j x v hx hv => h.2 (j + 1) x v (by simpa using hx) (by simpa using hv)⟩ h1]
      · cases hl
    · cases hl

theorem builtinE_ok (hσ : StoRep μ S w σ) {b : Builtin} {ts : Array TypeId} {ty : TypeId} {cs : Array Bool} {xs : List AV} {us : Array Value} {k : Nat} {e : Eff} (hx : PW (RepA μ S w) xs us.toList) (h : builtinE P b ts ty xs k σ = some e) :
    ∃ v μ' S' w', (builtin b ts ty cs us).run P w = .ok (.value v) w' ∧ RepA μ' S' w' e.val v ∧ StoRep μ' S' w' (applyMem σ e.mem) ∧ Ext μ S w μ' S' w' := by
  unfold builtinE at h
  split at h
  · rename_i t x hts
    obtain rfl : ts = #[t] := by rw [← Array.toArray_toList (xs := ts), hts]
    match us, hx with
    | ⟨[u]⟩, hx =>
      obtain ⟨v, h1, h2, h3⟩ := lenE_ok (ty := ty) hσ (hx.2 0 x u rfl rfl) h
      exact ⟨v, μ, S, w, by simp [builtin, h1], h2, by rw [h3]; exact hσ, Ext.refl _ _ _⟩
    | ⟨[]⟩, hx => exact absurd hx.1 (by simp)
    | ⟨_ :: _ :: _⟩, hx => exact absurd hx.1 (by simp)
  · rename_i t x hts
    obtain rfl : ts = #[t] := by rw [← Array.toArray_toList (xs := ts), hts]
    match us, hx with
    | ⟨[u]⟩, hx =>
      obtain ⟨v, h1, h2, h3⟩ := capE_ok (P := P) (w := w) (ty := ty) (hx.2 0 x u rfl rfl) h
      exact ⟨v, μ, S, w, by simp [builtin, h1], h2, by rw [h3]; exact hσ, Ext.refl _ _ _⟩
    | ⟨[]⟩, hx => exact absurd hx.1 (by simp)
    | ⟨_ :: _ :: _⟩, hx => exact absurd hx.1 (by simp)
  · rename_i t tx s x hts
    obtain rfl : ts = #[t, tx] := by rw [← Array.toArray_toList (xs := ts), hts]
    match us, hx with
    | ⟨[u, u2]⟩, hx =>
      obtain ⟨v, μ', S', w', h1, h2, h3, h4⟩ : EffOk μ S w σ ((Builtin.append_ #[t, tx] ty #[u, u2]).run P w) e := by
        split at h
        · exact appendZ_ok (ty := ty) hσ (hx.2 0 s u rfl rfl) (hx.2 1 x u2 rfl rfl) h
        · exact appendE_ok (ty := ty) hσ (hx.2 0 s u rfl rfl) (hx.2 1 x u2 rfl rfl) h
      exact ⟨v, μ', S', w', by simp [builtin, h1], h2, h3, h4⟩
    | ⟨[]⟩, hx => exact absurd hx.1 (by simp)
    | ⟨[_]⟩, hx => exact absurd hx.1 (by simp)
    | ⟨_ :: _ :: _ :: _⟩, hx => exact absurd hx.1 (by simp)
  · rename_i t x hts
    obtain rfl : ts = #[t] := by rw [← Array.toArray_toList (xs := ts), hts]
    match us, hx with
    | ⟨[u]⟩, hx =>
      obtain ⟨v, μ', S', w', h1, h2, h3, h4⟩ := clearE_ok (ty := ty) hσ (hx.2 0 x u rfl rfl) h
      exact ⟨v, μ', S', w', by simp [builtin, h1], h2, h3, h4⟩
    | ⟨[]⟩, hx => exact absurd hx.1 (by simp)
    | ⟨_ :: _ :: _⟩, hx => exact absurd hx.1 (by simp)
  · rename_i t tx x y hts
    obtain rfl : ts = #[t, tx] := by rw [← Array.toArray_toList (xs := ts), hts]
    match us, hx with
    | ⟨[u, u2]⟩, hx =>
      obtain ⟨v, μ', S', w', h1, h2, h3, h4⟩ := copyE_ok (tx := tx) (ty := ty) hσ (hx.2 0 x u rfl rfl) (hx.2 1 y u2 rfl rfl) h
      exact ⟨v, μ', S', w', by simp [builtin, h1], h2, h3, h4⟩
    | ⟨[]⟩, hx => exact absurd hx.1 (by simp)
    | ⟨[_]⟩, hx => exact absurd hx.1 (by simp)
    | ⟨_ :: _ :: _ :: _⟩, hx => exact absurd hx.1 (by simp)
  · split at h
    · rename_i vs hv
      split at h
      · rename_i u hu
        have := litVals_ok hx hv
        subst this
        obtain ⟨h1, h2⟩ := litE_ok (μ := μ) (S := S) (w := w) h
        exact ⟨u, μ, S, w, by have := val?_run hu w; simp only [Array.toArray_toList] at this; simp [builtin, this], h1, by rw [h2]; exact hσ, Ext.refl _ _ _⟩
      · cases h
    · cases h
  · split at h
    · rename_i vs hv
      split at h
      · rename_i u hu
        have := litVals_ok hx hv
        subst this
        obtain ⟨h1, h2⟩ := litE_ok (μ := μ) (S := S) (w := w) h
        exact ⟨u, μ, S, w, by have := val?_run hu w; simp only [Array.toArray_toList] at this; simp [builtin, this], h1, by rw [h2]; exact hσ, Ext.refl _ _ _⟩
      · cases h
    · cases h
  · split at h
    · rename_i vs hv
      split at h
      · rename_i u hu
        have := litVals_ok hx hv
        subst this
        obtain ⟨h1, h2⟩ := litE_ok (μ := μ) (S := S) (w := w) h
        exact ⟨u, μ, S, w, by have := val?_run hu w; simp only [Array.toArray_toList] at this; simp [builtin, this], h1, by rw [h2]; exact hσ, Ext.refl _ _ _⟩
      · cases h
    · cases h
  · split at h
    · rename_i vs hv
      split at h
      · rename_i u hu
        have := litVals_ok hx hv
        subst this
        obtain ⟨h1, h2⟩ := litE_ok (μ := μ) (S := S) (w := w) h
        exact ⟨u, μ, S, w, by have := val?_run hu w; simp only [Array.toArray_toList] at this; simp [builtin, this], h1, by rw [h2]; exact hσ, Ext.refl _ _ _⟩
      · cases h
    · cases h
  · split at h
    · rename_i vs hv
      split at h
      · rename_i u hu
        have := litVals_ok hx hv
        subst this
        obtain ⟨h1, h2⟩ := litE_ok (μ := μ) (S := S) (w := w) h
        exact ⟨u, μ, S, w, by have := val?_run hu w; simp only [Array.toArray_toList] at this; simp [builtin, this], h1, by rw [h2]; exact hσ, Ext.refl _ _ _⟩
      · cases h
    · cases h
  · cases h

noncomputable def OpOk (μ : Nat → Option KS) (S : Nat → Prop) (w : World) (σ : Store) (r : Result Next) (e : Eff) : Prop :=
  ∃ v μ' S' w', (r = .ok (.value v) w' ∨ (r = .ok .skip w' ∧ v = undef)) ∧ RepA μ' S' w' e.val v ∧ StoRep μ' S' w' (applyMem σ e.mem) ∧ Ext μ S w μ' S' w'

theorem optRep_mono (hx : Ext μ S w μ' S' w') {x : Option AV} {v : Option Value} (h : OptRep μ S w x v) : OptRep μ' S' w' x v := by
  cases h with
  | none => exact .none
  | some h => exact .some (h.mono hx.keys hx.st hx.mem)
theorem truncE_ok (hσ : StoRep μ S w σ) {z : Bool} {t el : TypeId} {n k : Nat} {x : AV} {v : Value} {lo hi mx : Option AV} {vlo vhi vmx : Option Value} {e : Eff} (ht : P.underlying t = some (.slice el)) (hn : sz P el = some n) (hx : RepA μ S w x v) (hlo : OptRep μ S w lo vlo) (hhi : OptRep μ S w hi vhi) (hmx : OptRep μ S w mx vmx) (h : sliceK z k n σ x lo hi mx = some e) :
    EffOk μ S w σ ((Instr.sliceAt t v vlo vhi vmx).run P w) e := by
  unfold sliceK at h
  split at h
  · obtain ⟨u, g1, g2, g3⟩ := sliceE_ok hσ ht hn hx hlo hhi hmx h
    exact ⟨u, μ, S, w, g1, g2, by rw [g3]; exact hσ, Ext.refl μ S w⟩
  split at h
  · rename_i r off len
    unfold truncE at h
    split at h
    · rename_i e0 s es he
      split at h
      · cases h
      · rename_i hrk
        unfold newE at h
        split at h
        · rename_i hk
          cases h
          obtain ⟨t1, t2, t3⟩ := take_row hσ hx he rfl
          have hk' : lk (ins r .stale σ) k = none := by rw [lk_ins, if_neg hrk]; exact hk
          cases hmx
          have run : ∀ (a : Option Addr) (m cap : Nat), m ≤ cap → (Instr.sliceAt t (.slice a m cap) vlo vhi none).run P w = .ok (.slice (if cap = 0 then a else a.map (·.add (0 * n))) 0 cap) w := fun a m cap hm => by
            have hb := run_bounds (P := P) (isS := true) (l := 0) (h := 0) (len := m) (cap := cap) (w := w) hlo hhi rfl rfl (Nat.le_refl _) (Nat.zero_le _) hm
            simp [Instr.sliceAt, Instr.slice, run_underlying ht, hb, sz_run hn]
          rcases t3 with ⟨rfl, a, rfl⟩ | ⟨b, ⟨cap, cur, rfl, f2, f3, f4, f5, f6⟩, t5, t6, t7, t8⟩
          · obtain ⟨g1, g2⟩ := give_nil (e := e0) (s := s) (a := a) t1 hk'
            refine ⟨_, _, S, w, run a 0 0 (Nat.le_refl _), g2, g1, t2.keys.trans (keysOk_new (t1.dom k hk') _), fun _ h => h, fun _ _ => rfl, fun _ _ _ => rfl, fun j c hj => ?_, fun _ h => .inl h, Nat.le_refl _, rfl, rfl, rfl⟩
            by_cases hjk : j = k
            · subst hjk; rw [updK_same] at hj; exact hj.elim
            · rw [updK_ne hjk] at hj; exact t2.own' j c hj
          · have hv : (if cap = 0 then some (⟨b, 0, none⟩ : Addr) else (some (⟨b, 0, none⟩ : Addr)).map (·.add (0 * n))) = some ⟨b, 0, none⟩ := by
              split
              · rfl
              · simp [Addr.add]
            have fresh : FreshAt S w e0 s [] (.slice (some ⟨b, 0, none⟩) 0 cap) b := ⟨cap, cur, rfl, Nat.zero_le _, f3, f4, f5, ⟨by simp, fun i p hp => by simp at hp⟩⟩
            obtain ⟨m, m1, m2, m3, m4⟩ := give_row t1 hk' fresh t6 t8
            refine ⟨_, _, S, w, run _ _ _ f2, by rw [hv]; exact m4, m3, t2.keys.trans (keysOk_new (t1.dom k hk') _), fun _ h => h, fun _ _ => rfl, fun _ _ _ => rfl, fun j c hj => ?_, fun _ h => .inl h, Nat.le_refl _, rfl, rfl, rfl⟩
            by_cases hjk : j = k
            · subst hjk; rw [updK_same] at hj; rw [m2 c hj]; exact .inl ⟨r, t5⟩
            · rw [updK_ne hjk] at hj; exact t2.own' j c hj
        · cases h
    · cases h
  · rename_i r off len own m
    unfold clipE at h
    split at h
    · rename_i p ks hr
      split at h
      · rename_i e' he'
        cases h
        obtain ⟨f1, f2⟩ := freeze_ok hσ ks
        have hp := resolve_rep hσ hx hr
        have he2 : sliceE n (applyMem σ (freezeE σ ks)) (.pv p) lo hi (some m) = some e' := by cases p <;> exact he'
        obtain ⟨u, g1, g2, g3⟩ := sliceE_ok f1 ht hn (RepA.pv (μ := μ) hp) (optRep_mono f2 hlo) (optRep_mono f2 hhi) (optRep_mono f2 hmx) he2
        exact ⟨u, μ, frozenBy μ S ks, w, g1, g2, f1, f2⟩
      · cases h
    · cases h
  · obtain ⟨u, g1, g2, g3⟩ := sliceE_ok hσ ht hn hx hlo hhi hmx h
    exact ⟨u, μ, S, w, g1, g2, by rw [g3]; exact hσ, Ext.refl μ S w⟩
theorem FreshAt.rep {e s b : Nat} {es : List PV} {v : Value} (hf : FreshAt S w e s es v b) (hS : ∀ c, S c → S' c) (hb : S' b) : Rep S' w (.sl false es) v := by
  obtain ⟨cap, cur, rfl, h2, h3, h4, h5, h6⟩ := hf
  have cellOf : ∀ (i : Nat) (p : PV) (j : Nat) (q : PV), es[i]? = some p → p.cells[j]? = some q → ∃ u, cur[i * s + j]? = some u ∧ Rep S w q u := by
    intro i p j q hp hq
    obtain ⟨e1, h⟩ := h6.2 i p hp
    have hi : i < es.length := (List.getElem?_eq_some_iff.1 hp).1
    have hj : j < s := by rw [← e1]; exact (List.getElem?_eq_some_iff.1 hq).1
    have hin : i * s + j < cur.size := by rw [h5]; exact row_in (by omega) hj
    exact ⟨cur[i * s + j], Array.getElem?_eq_getElem hin, h j q _ hq (by simpa using Array.getElem?_eq_getElem hin)⟩
  refine .sl s (fun i j => (cur[i * s + j]?).getD undef) (by omega) h2 (fun h => by cases h) (fun i p hp => (h6.2 i p hp).1) (fun i p j q hp hq => ?_) (fun i p j q hp hq => ?_)
  · obtain ⟨u, hu, _⟩ := cellOf i p j q hp hq
    refine ⟨b, 0, rfl, hb, ?_⟩
    rw [hu]
    simp [World.cell?, h4, hu]
  · obtain ⟨u, hu, hr⟩ := cellOf i p j q hp hq
    rw [hu]
    exact hr.mono hS (fun _ _ => rfl)

/-- Memory in which cells read as before. -/
theorem Rep.cells {S' : Nat → Prop} {w w' : World} (hS : ∀ b, S b → S' b) (hc : ∀ b o v, S b → w.cell? ⟨b, o, none⟩ = some v → w'.cell? ⟨b, o, none⟩ = some v) (hm : ∀ b ents clk, S b → w.heap[b]? = some (.map ents clk) → w'.heap[b]? = some (.map ents clk)) {p : PV} {v : Value} (h : Rep S w p v) : Rep S' w' p v := by
  induction h with
  | lit h => exact .lit h
  | sl s f hn hcap hf hs ha hr ih =>
    refine .sl s f hn hcap hf hs (fun i p j q h1 h2 => ?_) ih
    obtain ⟨b, o, e, hb, hcell⟩ := ha i p j q h1 h2
    exact ⟨b, o, e, hS b hb, hc _ _ _ hb hcell⟩
  | ip f hb hcl hr ih => exact .ip f (hS _ hb) (fun j q h => hc _ _ _ hb (hcl j q h)) ih
  | agg hl hr ih => exact .agg hl ih
  | tuple hl hr ih => exact .tuple hl ih
  | fn hl hr hl' hr' ih ih' => exact .fn hl ih hl' ih'
  | map hb hh hl hk hr ih => exact .map (hS _ hb) (hm _ _ _ hb hh) hl hk ih
  | iface h ih => exact .iface ih
theorem run_mark {P : Program} {t el : TypeId} {b n c : Nat} {cur : Array Value} {e : TypeId} (ht : P.underlying t = some (.slice el)) (he : P.underlying el = some (.int .u8)) (hh : w.heap[b]? = some (.cells cur e (0, 0))) :
    (convert t t (.slice (some ⟨b, 0, none⟩) n c)).run P w = .ok (.slice (some ⟨b, 0, none⟩) n c) (w.freeze ⟨b, cur.size, none⟩ 1) := by
  have hsh : w.shape? b = some (e, cur.size) := by simp [World.shape?, hh]
  simp [convert, run_underlying ht, run_underlying he, markStringish, hsh]
theorem markE_ok (hσ : StoRep μ S w σ) {src dst : TypeId} {x : AV} {v : Value} {e : Eff} (hx : RepA μ S w x v) (h : markE P src dst x σ = some e) :
    EffOk μ S w σ ((convert src dst v).run P w) e := by
  unfold markE at h
  split at h
  · rename_i k off len el hs
    split at h
    · rename_i e0 es he hu
      split at h
      · rename_i hc
        obtain ⟨rfl, hne⟩ := hc
        cases h
        obtain ⟨t1, t2, t3⟩ := take_row hσ hx he rfl
        rcases t3 with ⟨rfl, _⟩ | ⟨b, hf, ho, hS, hlt, hno⟩
        · simp at hne
        · obtain ⟨cap, cur, rfl, f2, f3, f4, f5, f6⟩ := hf
          have hf : FreshAt S w e0 1 es (.slice (some ⟨b, 0, none⟩) es.length cap) b := ⟨cap, cur, rfl, f2, f3, f4, f5, f6⟩
          generalize hw' : w.freeze ⟨b, cur.size, none⟩ 1 = w'
          have hb' : w'.heap[b]? = some (.cells cur e0 (cur.size, cur.size + 1)) := by
            rw [← hw']; simp [World.freeze, Array.getElem?_modify, f4]
          have hne' : ∀ c, c ≠ b → w'.heap[c]? = w.heap[c]? := fun c hc => by
            rw [← hw']; simp [World.freeze, Array.getElem?_modify, Ne.symm hc]
          have hsz : w'.heap.size = w.heap.size := by rw [← hw']; simp [World.freeze]
          have hmS : ∀ c, S c → w'.heap[c]? = w.heap[c]? := fun c hc => hne' c fun e => hS (e ▸ hc)
          have rep : Rep (fun c => S c ∨ c = b) w' (.sl false es) (.slice (some ⟨b, 0, none⟩) es.length cap) := by
            refine Rep.cells (S := fun c => S c ∨ c = b) (w := w) (fun _ h => h) (fun c o v hc hv => ?_) (fun c ents clk hc hv => ?_) (hf.rep (fun _ h => .inl h) (.inr rfl))
            · by_cases e : c = b
              · subst e
                simp only [World.cell?, f4, hb'] at hv ⊢
                exact hv
              · rw [World.cell?_of_block (w := w) (hne' c e)]; exact hv
            · by_cases e : c = b
              · subst e; rw [f4] at hv; cases hv
              · rw [hne' c e]; exact hv
          have s2 : StoRep (updK μ k .stale) (fun c => S c ∨ c = b) w' (ins k .stale σ) := by
            refine ⟨fun j x hj => (t1.blk j x hj).mono (KeysOk.refl _) (fun _ h => .inl h) hmS rfl (fun c hc => ?_), t1.dom, t1.inj, fun j c hj => by rw [hsz]; exact t1.lt j c hj, fun c hc => by
              rw [hsz]; rcases hc with hc | rfl
              · exact hσ.slt c hc
              · exact hlt⟩
            have hcb : c ≠ b := fun e => hno j (e ▸ hc)
            exact ⟨⟨fun h => h.resolve_right hcb, .inl⟩, hne' c hcb⟩
          refine ⟨_, updK μ k .stale, fun c => S c ∨ c = b, w', ?_, .pv rep, s2, ⟨t2.keys, fun _ h => .inl h, hmS, fun c hc hn => hne' c fun e => hn k (e ▸ ho), fun j c hj => t2.own' j c hj, fun c hc => ?_, by omega, by rw [← hw']; simp [World.freeze], by rw [← hw']; simp [World.freeze], by rw [← hw']; simp [World.freeze]⟩⟩
          · rw [run_mark hs hu f4, hw']
          · rcases hc with hc | rfl
            · exact .inl hc
            · exact .inr (.inl ⟨k, ho⟩)
      · cases h
    · cases h
  · cases h
theorem ifaceE_ok {t : TypeId} {x : AV} {v : Value} {e : Eff} (hx : RepA μ S w x v) (h : ifaceE P t x = some e) :
    ∃ u, (Instr.makeInterface t v).run P w = .ok u w ∧ RepA μ S w e.val u ∧ e.mem = [] := by
  unfold ifaceE at h
  split at h
  · cases h
  · rename_i d p hno ht
    cases h
    cases hx with
    | pv hp =>
      refine ⟨.iface t v, ?_, .pv (.iface hp), rfl⟩
      unfold Instr.makeInterface
      rw [Sem.run_bind, run_underlying ht, Result.andThen_ok]
      cases d <;> first | rfl | (exact (hno _ rfl).elim)
  · cases h
theorem least_some : ∀ {l : List String}, l ≠ [] → ∃ m, Instr.least l = some m
  | [], h => absurd rfl h
  | s :: r, _ => ⟨_, rfl⟩
theorem missing_none {want : Array (String × TypeId)} {got : Array Method} (h : lacks want got = true) : Instr.missingMethod want got = none := by
  have e : (want.toList.filter fun x => !got.any fun m => m.name == x.1 && m.sig == x.2) = [] := by simpa [lacks] using h
  unfold Instr.missingMethod
  have e2 : (want.toList.filter fun (name, sig) => !got.any fun m => m.name == name && m.sig == sig) = [] := e
  simp only [e2]
  rfl
theorem missing_some {want : Array (String × TypeId)} {got : Array Method} (h : lacks want got = false) : ∃ m, Instr.missingMethod want got = some m := by
  have e : (want.toList.filter fun x => !got.any fun m => m.name == x.1 && m.sig == x.2) ≠ [] := fun e => by simp [lacks, e] at h
  unfold Instr.missingMethod
  generalize hl : (want.toList.filter fun (name, sig) => !got.any fun m => m.name == name && m.sig == sig).map (·.1) = l
  have hne : l ≠ [] := fun e' => by
    rw [← hl] at e'
    exact e (by simpa using e')
  simp only [List.partition_eq_filter_filter]
  generalize hu : l.filter (fun x => x.contains '.') = un
  generalize hx : l.filter ((!·) ∘ fun x => x.contains '.') = ex
  cases ex with
  | cons s r => exact ⟨_, rfl⟩
  | nil =>
    cases un with
    | cons s r =>
      obtain ⟨m, hm⟩ := least_some (l := ((s :: r).map fun id => (id.splitOn ".").getLastD id)) (by simp)
      exact ⟨m, by rw [show Instr.least [] = none from rfl]; exact hm⟩
    | nil =>
      exfalso
      cases l with
      | nil => exact hne rfl
      | cons s r =>
        cases hc : s.contains '.' with
        | true => exact absurd hc (List.filter_eq_nil_iff.1 hu s (by simp))
        | false => exact List.filter_eq_nil_iff.1 hx s (by simp) (by show (!s.contains '.') = true; rw [hc]; rfl)
theorem assertE_ok {x : AV} {v : Value} {xt t : TypeId} {ok : Bool} {e : Eff} (hx : RepA μ S w x v) (h : assertE P x t ok = some e) :
    ∃ u, (Instr.typeAssert v xt t ok).run P w = .ok u w ∧ RepA μ S w e.val u ∧ e.mem = [] := by
  unfold assertE at h
  split at h
  · rename_i want t' p z ht hz
    cases hx with
    | pv hp =>
      cases hp with
      | @iface _ _ v' hv =>
        split at h
        · rename_i i hi
          obtain ⟨iz, zv, _, _, hov, hzr⟩ := zr_run hz
          have hti : (typeInfo t').run P w = .ok i w := by simp [typeInfo, hi]
          split at h
          · rename_i hl
            cases h
            refine ⟨.tuple #[.iface t' v', .bool true], ?_, .pv (.tuple (cs := [.iface t' p, .lit (.bool true)]) (vs := [.iface t' v', .bool true]) rfl fun j q u hq hu => ?_), rfl⟩
            · simp [Instr.typeAssert, run_underlying ht, hti, missing_none hl]
            · match j with
              | 0 => simp at hq hu; subst hq; subst hu; exact .iface hv
              | 1 => simp at hq hu; subst hq; subst hu; exact .lit rfl
              | j + 2 => simp at hq
          · rename_i hl
            cases h
            obtain ⟨m, hm⟩ := missing_some (by simpa using hl)
            refine ⟨.tuple #[zv, .bool false], ?_, .pv (.tuple (cs := [z, .lit (.bool false)]) (vs := [zv, .bool false]) rfl fun j q u hq hu => ?_), rfl⟩
            · simp [Instr.typeAssert, run_underlying ht, hti, hm, hzr w]
            · match j with
              | 0 => simp at hq hu; subst hq; subst hu; exact (ofValue_rep hov).1
              | 1 => simp at hq hu; subst hq; subst hu; exact .lit rfl
              | j + 2 => simp at hq
        · cases h
  · cases h
theorem equal_nil {P : Program} {t : TypeId} {el : TypeId} (hu : P.underlying t = some (.slice el)) (a : Option Addr) (n c a1 a2 : Nat) (w : World) :
    (Op.equal t (.slice a n c) (.slice none a1 a2)).run P w = .ok a.isNone w := by
  unfold Op.equal
  show (Op.equalIn (9999 + 1) t _ _).run P w = _
  rw [Op.equalIn]
  rw [Sem.run_bind, run_underlying hu]
  cases a <;> rfl
theorem OpOk.same (hσ : StoRep μ S w σ) {r : Result Next} {e : Eff} {v : Value} (hr : r = .ok (.value v) w) (hv : RepA μ S w e.val v) (hm : e.mem = []) : OpOk μ S w σ r e :=
  ⟨v, μ, S, w, .inl hr, hv, by rw [hm]; exact hσ, Ext.refl μ S w⟩
theorem OpOk.val (hσ : StoRep μ S w σ) {r : Result Next} {x : AV} {e : Eff} {v : Value} (h : effO (valE x) = some (.eff e)) (hr : r = .ok (.value v) w) (hv : RepA μ S w x v) : OpOk μ S w σ r e := by
  cases h; exact OpOk.same hσ hr hv rfl
theorem OpOk.of {s : Sem Value} {e : Eff} (h : EffOk μ S w σ (s.run P w) e) : OpOk μ S w σ ((do pure (Next.value (← s)) : Sem Next).run P w) e := by
  obtain ⟨v, μ', S', w', h1, h2, h3, h4⟩ := h
  exact ⟨v, μ', S', w', .inl (by simp [h1]), h2, h3, h4⟩
theorem OpOk.ofU {s : Sem Unit} {e : Eff} (h : EffOkU μ S w σ (s.run P w) e) : OpOk μ S w σ ((do s; pure Next.skip : Sem Next).run P w) e := by
  obtain ⟨μ', S', w', h1, h2, h3, h4⟩ := h
  exact ⟨undef, μ', S', w', .inr ⟨by simp [h1], rfl⟩, h2, h3, h4⟩
theorem OpOk.ofSame (hσ : StoRep μ S w σ) {s : Sem Value} {e : Eff} (h : ∃ u, s.run P w = .ok u w ∧ RepA μ S w e.val u ∧ e.mem = []) : OpOk μ S w σ ((do pure (Next.value (← s)) : Sem Next).run P w) e := by
  obtain ⟨u, h1, h2, h3⟩ := h
  exact OpOk.same hσ (by simp [h1]) h2 h3
theorem effO_some {m : Option Eff} {e : Eff} (h : effO m = some (.eff e)) : m = some e := by
  cases m with
  | none => cases h
  | some x => cases h; rfl
theorem effO_call {m : Option Eff} {f : Nat} {xs : List AV} : effO m ≠ some (.call f xs) := by
  cases m <;> simp [effO]

theorem optRep {ev : Operand → AV} {ρ : Operand → Value} (hev : ∀ x, RepA μ S w (ev x) (ρ x)) (o : Option Operand) : OptRep μ S w (o.map ev) (o.map ρ) := by
  cases o
  · exact .none
  · exact .some (hev _)
theorem argsRep {ev : Operand → AV} {ρ : Operand → Value} (hev : ∀ x, RepA μ S w (ev x) (ρ x)) (xs : List Operand) : PW (RepA μ S w) (xs.map ev) (xs.map ρ) := by
  refine ⟨by simp, fun j x v hx hv => ?_⟩
  rw [List.getElem?_map, Option.map_eq_some_iff] at hx hv
  obtain ⟨q, hq, rfl⟩ := hx
  obtain ⟨q', hq', rfl⟩ := hv
  rw [hq] at hq'
  cases hq'
  exact hev q
theorem partsRep {ev : Operand → AV} {ρ : Operand → Value} (hev : ∀ x, RepA μ S w (ev x) (ρ x)) (xs : Array (Nat × Operand)) :
    PW (fun (x : Nat × AV) (v : Nat × Value) => x.1 = v.1 ∧ RepA μ S w x.2 v.2) (xs.toList.map fun p => (p.1, ev p.2)) (xs.map fun (i, x) => (i, ρ x)).toList := by
  refine ⟨by simp, fun j x v hx hv => ?_⟩
  rw [Array.toList_map, List.getElem?_map, Option.map_eq_some_iff] at hv
  rw [List.getElem?_map, Option.map_eq_some_iff] at hx
  obtain ⟨q, hq, rfl⟩ := hx
  obtain ⟨q', hq', rfl⟩ := hv
  rw [hq] at hq'
  cases hq'
  exact ⟨rfl, hev _⟩

theorem prep_eff {z : Bool} (hσ : StoRep μ S w σ) {ev : Operand → AV} {a : Act} (hev : ∀ x, RepA μ S w (ev x) (a.eval x)) {k : Nat} {o : Oper} {e : Eff} (h : prepZ P z ev σ k o = some (.eff e)) :
    OpOk μ S w σ ((execOp a.eval o).run P w) e := by
  unfold prepZ at h
  split at h
  · rename_i x hop; simp only [execOp, hop]; exact OpOk.val hσ h rfl (hev x)
  · rename_i x hop; simp only [execOp, hop]; exact OpOk.val hσ h rfl (hev x)
  · rename_i c x y hop
    split at h
    · rename_i t hc
      have h1 := hev c
      rw [hc] at h1
      have hcv : a.eval c = .bool t := repA_lit h1
      refine OpOk.val hσ h (v := if t then a.eval x else a.eval y) (by simp [execOp, hop, hcv, asBool]) ?_
      cases t
      · exact hev y
      · exact hev x
    · cases h
  · rename_i t hop
    split at h
    · rename_i n z hn hz
      split at h
      · rename_i hc
        obtain ⟨i, zv, _, _, hov, hzr⟩ := zr_run hz
        obtain ⟨q1, q2⟩ := ofValue_rep (S := S) (w := w) hov
        have hh := effO_some h
        simp only [execOp, hop]
        refine OpOk.of ?_
        have : (Instr.alloc t true (.tuple #[])).run P w = .ok (.pointer (some ⟨w.heap.size, 0, none⟩)) (w.alloc (.cells zv.cells t)) := by
          simp [Instr.alloc, hzr w, run_newVar]
        rw [this]
        unfold allocE at hh
        split at hh
        · exact box_ok (t := t) hσ (RepA.pv (μ := μ) q1) (by simpa [AV.cells, List.all_map, Function.comp_def, AV.isCell] using q2) (by simpa [AV.cells] using hh)
        · split at hh
          · rename_i hle
            exact arr_ok (t := t) hσ q1 q2 (by rw [hc.1]; exact Nat.le_of_ble_eq_true hle) hh
          · cases hh
      · cases h
    · cases h
  · rename_i t x hop
    split at h
    · rename_i n hn
      split at h
      · rename_i hc
        have hb := box_ok (t := t) hσ (hev x) hc.2 (effO_some h)
        simp only [execOp, hop]
        refine OpOk.of ?_
        have : (Instr.box t (a.eval x)).run P w = .ok (.pointer (some ⟨w.heap.size, 0, none⟩)) (w.alloc (.cells (a.eval x).cells t)) := by
          simp [Instr.box, run_newVar]
        rw [this]
        exact hb
      · cases h
    · cases h
  · rename_i t parts hop; simp only [execOp, hop]; exact OpOk.of (buildE_ok hσ (partsRep hev parts) (effO_some h))
  · rename_i t n parts hop; simp only [execOp, hop]; exact OpOk.of (buildSliceE_ok hσ (partsRep hev parts) (effO_some h))
  · rename_i t m key x hop; simp only [execOp, hop]; exact OpOk.ofU (insertZ_ok hσ (hev m) (hev key) (hev x) (effO_some h))
  · rename_i t m key x hop; simp only [execOp, hop]; exact OpOk.ofU (insertZ_ok hσ (hev m) (hev key) (hev x) (effO_some h))
  · rename_i t x hop
    simp only [execOp, hop]
    obtain ⟨u, h1, h2, h3, _⟩ := loadE_ok hσ (hev x) (effO_some h)
    exact OpOk.ofSame hσ ⟨u, h1, h2, h3⟩
  · rename_i t x y hop; simp only [execOp, hop]; exact OpOk.ofU (storeZ_ok hσ (hev x) (hev y) (effO_some h))
  · rename_i x hop
    have hx := hev x
    split at h
    · rename_i k off he
      rw [he] at hx
      refine OpOk.val hσ h (v := a.eval x) ?_ hx
      cases hx with
      | bp hm => obtain ⟨b, o, e⟩ := hm.stale; simp [execOp, hop, e]
    · rename_i k i off he
      rw [he] at hx
      refine OpOk.val hσ h (v := a.eval x) ?_ hx
      cases hx with
      | rp hm => obtain ⟨b, o, e⟩ := hm.stale; simp [execOp, hop, e]
    · rename_i g off he
      rw [he] at hx
      have : ∃ ad, a.eval x = .pointer (some ad) := by
        generalize a.eval x = vv at hx
        cases hx with
        | gp => exact ⟨_, rfl⟩
      obtain ⟨ad, e⟩ := this
      exact OpOk.val hσ h (v := a.eval x) (by simp [execOp, hop, e]) hx
    · rename_i cs off he
      rw [he] at hx
      refine OpOk.val hσ h (v := a.eval x) ?_ hx
      have : ∃ ad, a.eval x = .pointer (some ad) := by
        generalize a.eval x = vv at hx
        cases hx with
        | pv hp => cases hp with | ip => exact ⟨_, rfl⟩
      obtain ⟨ad, e⟩ := this
      simp [execOp, hop, e]
    · rename_i f as cs he
      rw [he] at hx
      obtain ⟨vs, us, e, _, _⟩ := repA_fnp hx
      exact OpOk.val hσ h (v := a.eval x) (by simp [execOp, hop, e]) hx
    · rename_i f as cs he
      rw [he] at hx
      obtain ⟨vs, us, e, _, _⟩ := repA_fn hx
      exact OpOk.val hσ h (v := a.eval x) (by simp [execOp, hop, e]) hx
    · cases h
  · rename_i op t x y ty hop
    split at h
    · rename_i va vb h1 h2
      have hx := hev x; have hy := hev y
      rw [h1] at hx; rw [h2] at hy
      have ea : a.eval x = va := repA_lit hx
      have eb : a.eval y = vb := repA_lit hy
      split at h
      · rename_i v hv
        obtain ⟨g1, g2⟩ := litE_ok (μ := μ) (S := S) (w := w) (effO_some h)
        refine OpOk.same hσ (v := v) ?_ g1 g2
        have hr := val?_run hv w
        simp only [execOp, hop, ea, eb]
        rw [Sem.run_bind, hr]
        rfl
      · cases h
    · rename_i fl es fl2 es2 h1 h2
      have hx := hev x
      rw [h1] at hx
      split at h
      · rename_i el a1 a2 hu
        obtain ⟨ad, c, hv, hnil⟩ : ∃ ad c, a.eval x = .slice ad es.length c ∧ (ad.isNone = true → ∀ p ∈ es, p.cells = []) := by
          generalize a.eval x = vv at hx
          cases hx with
          | pv hp =>
            cases hp with
            | sl s f hn hc hf hs ha hr =>
              refine ⟨_, _, rfl, fun hnn p hp => ?_⟩
              obtain ⟨i, hi⟩ := List.getElem?_of_mem hp
              cases hcs : p.cells with
              | nil => rfl
              | cons q r =>
                obtain ⟨b, o, e, _⟩ := ha i p 0 q hi (by rw [hcs]; rfl)
                rw [e] at hnn; cases hnn
        have he : ∀ w : World, (Op.equal t (a.eval x) (.slice none a1 a2)).run P w = .ok ad.isNone w := fun w => by rw [hv]; exact equal_nil hu ..
        split at h
        · refine OpOk.val hσ h (v := .bool ad.isNone) ?_ (.nilq fun h => hnil (by simpa using h))
          have h0 := he w
          rw [hv] at h0
          simp only [execOp, hop, show a.eval (Operand.const (Value.slice none a1 a2)) = Value.slice none a1 a2 from rfl, hv]
          simp [eqGuard, binOp, h0]
        · refine OpOk.val hσ h (v := .bool (!ad.isNone)) ?_ (.nilq fun h => hnil (by simpa using h))
          have h0 := he w
          rw [hv] at h0
          simp only [execOp, hop, show a.eval (Operand.const (Value.slice none a1 a2)) = Value.slice none a1 a2 from rfl, hv]
          simp [eqGuard, binOp, h0]
        · cases h
      · cases h
    · rename_i cs ds h1 h2
      have hx := hev x; have hy := hev y
      rw [h1] at hx; rw [h2] at hy
      obtain ⟨r, r1, r2, r3⟩ := eqE_ok (μ := μ) (x := x) (y := y) (by cases hx with | pv h => exact h) (by cases hy with | pv h => exact h) (effO_some h)
      refine OpOk.same hσ (v := r) ?_ r2 r3
      simp only [execOp, hop]
      rw [Sem.run_bind, r1]
      rfl
    · cases h
  · rename_i op t x hop
    split at h
    · rename_i va h1
      have hx := hev x
      rw [h1] at hx
      have ea : a.eval x = va := repA_lit hx
      split at h
      · rename_i v hv
        obtain ⟨g1, g2⟩ := litE_ok (μ := μ) (S := S) (w := w) (effO_some h)
        refine OpOk.same hσ (v := v) ?_ g1 g2
        have hr := val?_run hv w
        simp only [execOp, hop, ea]
        rw [Sem.run_bind, hr]
        rfl
      · cases h
    · cases h
  · rename_i src dst x hop
    simp only [execOp, hop]
    have h1 := effO_some h
    unfold convZ at h1
    split at h1
    · rename_i e' he; cases h1; exact OpOk.ofSame hσ (convE_ok hσ (hev x) he)
    · exact OpOk.of (markE_ok hσ (hev x) h1)
  · rename_i f first caps hop
    have p1 := argsRep hev first.toList
    have p2 := argsRep hev caps.toList
    refine OpOk.val hσ h (v := .func f (first.map a.eval) (caps.map a.eval)) (by simp [execOp, hop, Instr.makeFunc]) ?_
    have := mkFn_rep (f := f) p1.1 p1.2 p2.1 p2.2
    rw [← List.map_toArray, ← List.map_toArray] at this
    simpa using this
  · rename_i t r hop
    have mk : newE k σ (.mm k) (.map true []) [] [] = some e → EffOk μ S w σ (.ok (.map (some w.heap.size)) (w.alloc (.map #[] 0))) e := by
      intro h
      unfold newE at h
      split at h
      · rename_i hk
        cases h
        obtain ⟨s1, s2⟩ := alloc_ok hσ hk (m := .map w.heap.size) (fun b hb => hb.symm) (x := .map true []) (o := .map #[] 0)
          ⟨w.heap.size, #[], 0, updK_same _ _, ⟨fun h => absurd (hσ.slt _ h) (by omega), fun h => by cases h⟩, heap_alloc_new w _, rfl, fun i e m h1 => by simp at h1⟩
        exact ⟨_, _, S, _, rfl, .mm (by rw [updK_same]; rfl), by simpa [applyMem] using s1, s2⟩
      · cases h
    split at h
    · rename_i kt et ht hr
      have : r = none := by cases r with | none => rfl | some _ => simp at hr
      subst this
      simp only [execOp, hop]
      refine OpOk.of ?_
      have hrun : (Instr.makeMap t (Option.map a.eval none)).run P w = .ok (.map (some w.heap.size)) (w.alloc (.map #[] 0)) := by simp [Instr.makeMap]
      rw [hrun]
      exact mk (effO_some h)
    · rename_i kt et x ht hr
      obtain ⟨y, rfl, rfl⟩ : ∃ y, r = some y ∧ ev y = x := by cases r with | none => simp at hr | some y => exact ⟨y, rfl, by simpa using hr⟩
      split at h
      · rename_i i hi
        obtain ⟨kd, hv⟩ := asI_int (hev y) hi
        simp only [execOp, hop]
        refine OpOk.of ?_
        have hrun : (Instr.makeMap t (Option.map a.eval (some y))).run P w = .ok (.map (some w.heap.size)) (w.alloc (.map #[] 0)) := by simp [Instr.makeMap, hv, run_underlying ht, asInt, asIntOf]
        rw [hrun]
        exact mk (effO_some h)
      · cases h
    · cases h
  · rename_i t l c hop; simp only [execOp, hop]; exact OpOk.of (makeSliceE_ok hσ (hev l) (hev c) (effO_some h))
  · rename_i t x lo hi mx hop
    split at h
    · rename_i el ht
      split at h
      · rename_i n hn
        simp only [execOp, hop]
        exact OpOk.of (truncE_ok hσ ht hn (hev x) (optRep hev lo) (optRep hev hi) (optRep hev mx) (effO_some h))
      · cases h
    · rename_i ht
      split at h
      · rename_i s hs
        have hx := hev x
        rw [hs] at hx
        have ea : a.eval x = .string s := repA_lit hx
        simp only [execOp, hop, ea]
        exact OpOk.ofSame hσ (sliceS_ok ht (optRep hev lo) (optRep hev hi) (optRep hev mx) (effO_some h))
      · cases h
    · rename_i n el ht
      split at h
      · rename_i e1 e2 e3
        have l1 : lo = none := by cases lo with | none => rfl | some y => cases e1
        have l2 : hi = none := by cases hi with | none => rfl | some y => cases e2
        have l3 : mx = none := by cases mx with | none => rfl | some y => cases e3
        subst l1; subst l2; subst l3
        simp only [execOp, hop]
        exact OpOk.ofSame hσ (sliceArr_ok hσ ht (hev x) (effO_some h))
      · cases h
    · cases h
  · rename_i t x f hop
    split at h
    · rename_i fs ht
      split at h
      · rename_i fd hf
        split at h
        · rename_i n hn
          split at h
          · rename_i y hy
            obtain ⟨b, o', ev', hr⟩ := addrAdd_ok (hev x) hy
            refine OpOk.val hσ h (v := .pointer (some ⟨b, o' + fd.offset, none⟩)) ?_ hr
            simp [execOp, hop, ev', run_fieldAt ht hf hn]
          · cases h
        · cases h
      · cases h
    · cases h
  · rename_i t x f hop
    split at h
    · rename_i fs cs ht hc
      split at h
      · rename_i fd hf
        simp only [execOp, hop]
        exact OpOk.ofSame hσ (fieldE_ok (hev x) hc ht hf (effO_some h))
      · cases h
    · cases h
  · rename_i t x ix hop; simp only [execOp, hop]; exact OpOk.ofSame hσ (indexAddrZ_ok hσ (hev x) (hev ix) (effO_some h))
  · rename_i t x ix hop; simp only [execOp, hop]; exact OpOk.ofSame hσ (indexE_ok (hev x) (hev ix) (effO_some h))
  · rename_i t x ix ok hop; simp only [execOp, hop]; exact OpOk.ofSame hσ (lookupZ_ok hσ (hev x) (hev ix) (effO_some h))
  · rename_i t x hop; simp only [execOp, hop]; exact OpOk.ofSame hσ (ifaceE_ok (hev x) (effO_some h))
  · rename_i x xt t ok hop; simp only [execOp, hop]; exact OpOk.ofSame hσ (assertE_ok (hev x) (effO_some h))
  · rename_i x i hop
    have hx := hev x
    split at h
    · rename_i vs he
      rw [he] at hx
      split at h
      · rename_i p hp
        obtain ⟨us, e, h1, h2⟩ := repA_tupp hx
        have hlt : i < us.length := by rw [← h1]; exact (List.getElem?_eq_some_iff.1 hp).1
        exact OpOk.val hσ h (v := us[i]) (by simp [execOp, hop, e, Instr.extract, hlt]) (.pv (h2 i p _ hp (List.getElem?_eq_getElem hlt)))
      · cases h
    · rename_i vs he
      rw [he] at hx
      split at h
      · rename_i p hp
        obtain ⟨us, e, h1, h2⟩ := repA_tup hx
        have hlt : i < us.length := by rw [← h1]; exact (List.getElem?_eq_some_iff.1 hp).1
        exact OpOk.val hσ h (v := us[i]) (by simp [execOp, hop, e, Instr.extract, hlt]) (h2 i p _ hp (List.getElem?_eq_getElem hlt))
      · cases h
    · cases h
  · rename_i c hop
    split at h
    · rename_i b hb
      simp only [execOp, hop]
      have hx := argsRep hev c.args.toList
      obtain ⟨v, μ', S', w', h1, h2, h3, h4⟩ := builtinE_ok (P := P) (cs := c.args.map fun | .const _ => true | _ => false) (us := c.args.map a.eval) hσ (by simpa using hx) (effO_some h)
      refine ⟨v, μ', S', w', .inl ?_, h2, h3, h4⟩
      rw [resolve_builtin hb]; exact h1
    · split at h
      · cases h
      · cases h
      · cases h
    · split at h <;> cases h
  · rename_i t x hop
    have hx := hev x
    split at h
    · rename_i s ht he
      rw [he] at hx
      generalize hq : a.eval x = v at hx
      cases hx with
      | pv hp =>
        cases hp
        have h1 := effO_some h
        unfold newE at h1
        split at h1
        · rename_i hk
          cases h1
          obtain ⟨s1, s2⟩ := alloc_ok hσ hk (m := .box w.heap.size) (fun b hb => hb.symm) (x := .it true s 0) (o := .stringIter s 0)
            ⟨w.heap.size, by rw [updK_same], ⟨fun hb => absurd (hσ.slt _ hb) (Nat.lt_irrefl _), fun h => by cases h⟩, heap_alloc_new w _⟩
          simp only [execOp, hop, hq]
          refine OpOk.of ?_
          exact ⟨.pointer (some ⟨w.heap.size, 0, none⟩), _, S, _, (by simp [Instr.range, run_underlying ht]), .bp (by rw [updK_same]; rfl), by simpa [applyMem] using s1, s2⟩
        · cases h1
    · cases h
  · rename_i x b hop
    have hx := hev x
    simp only [execOp, hop]
    exact OpOk.of (nextE_ok hσ hx (effO_some h))
  · rename_i t x hop
    have hx := hev x
    split at h
    · rename_i n el full es ht he
      rw [he] at hx
      split at h
      · rename_i hc
        obtain ⟨h1, h2, h3⟩ := hc
        cases hx with
        | pv hp =>
          generalize hq : a.eval x = v at hp
          cases hp with
          | @sl _ _ ad cap s f hn hcap hf hs ha hr =>
            have one : ∀ p ∈ es, p.cells = [p] := fun p hp => by
              have := List.all_eq_true.1 h3 p hp
              cases p <;> first | rfl | (simp [PV.isCell] at this)
            have hp0 := List.getElem?_eq_getElem (l := es) (i := 0) (by omega)
            obtain ⟨b, o, rfl, hb, _⟩ := ha 0 _ 0 _ hp0 (by rw [one _ (List.getElem_mem _)]; rfl)
            have hs1 : s = 1 := by rw [← hs 0 _ hp0, one _ (List.getElem_mem _)]; rfl
            subst hs1
            refine OpOk.val hσ h (v := .pointer (some ⟨b, o, none⟩)) ?_ (.pv (.ip (o := o) (fun j => f j 0) hb (fun j q hj => ?_) (fun j q hj => hr j q 0 q hj (by rw [one q (List.mem_of_getElem? hj)]; rfl))))
            · simp only [execOp, hop, hq]
              simp [Instr.arrayAt, run_underlying ht, Nat.not_lt.2 h1]
            · obtain ⟨b', o', e, _, hcell⟩ := ha j q 0 q hj (by rw [one q (List.mem_of_getElem? hj)]; rfl)
              cases e
              simpa using hcell
      · cases h
    · cases h
  · cases h
end Go.Mir
