/- What an argument's data is as plain values; a law that answers true (lemmas; conditions: what they say). -/
import Derived.Test.YthcmkipbdgndoaaGreatDoorNx24
import Derived.ProofKit
import Derived.ChangeArms
import Derived.ChangeOld
import Derived.SizedLaws
import Derived.Deep.Slices
set_option linter.all false
set_option linter.unusedVariables false
set_option linter.unusedSimpArgs false
set_option linter.unnecessarySimpa false
namespace Go.Mir
open Go Go.RowKit Go.ChangeShapes Go.WideShapes

/-! ### Arguments -/
/-- Whatever reads as data at type t is, cell by cell, what 'en' says of something that meets ok. -/
noncomputable def ReadsM {α : Type} (P : Program) (t : TypeId) (en : α → List PV) (ok : α → Prop) : Prop :=
  ∀ (H : Type) (enc : TypeId × Value → H) (W : World) (spare : Nat → Bool) (held : Bool) (fuel : Nat) (cs : List Value) (x : DataW H × List MemPlace),
    DataW.trod enc P W 0 spare held fuel t cs = some x → (∀ n ∈ x.1.weights P t, n ≤ reachBytes) → ∃ a, PW (Rep (fun b => b < W.heap.size) W) (en a) cs ∧ ok a

theorem PW.one {α β : Type} {R : α → β → Prop} {x : α} {v : β} (h : R x v) : PW R [x] [v] := ⟨rfl, fun j y u hy hu => by
  cases j with
  | zero => simp at hy hu; subst hy; subst hu; exact h
  | succ j => simp at hy⟩

theorem readsM_int {P : Program} {t : TypeId} {k : IntKind} (ht : P.underlying t = some (.int k)) : ReadsM P t (fun n : Int => [.lit (.int k n)]) (fun n => (Lit.int k n).wf = true) := by
  intro H enc W spare held fuel cs x h _
  obtain ⟨n, rfl, _, hw⟩ := DataW.trod_int ht h
  exact ⟨n, PW.one (.lit rfl), hw⟩
theorem readsM_bool {P : Program} {t : TypeId} (ht : P.underlying t = some .bool) : ReadsM P t (fun b : Bool => [.lit (.bool b)]) (fun _ => True) := by
  intro H enc W spare held fuel cs x h _
  obtain ⟨b, rfl, _⟩ := DataW.trod_bool ht h
  exact ⟨b, PW.one (.lit rfl), trivial⟩
theorem mem_weightsAll {H : Type} {P : Program} {e : TypeId} : ∀ {l : List (DataW H)} {d : DataW H}, d ∈ l → ∀ n ∈ d.weights P e, n ∈ DataW.weightsAll P e l
  | d0 :: l, d, hd, n, hn => by
    simp only [DataW.weightsAll, List.mem_append]
    rcases List.mem_cons.1 hd with rfl | hd
    · exact .inl hn
    · exact .inr (mem_weightsAll hd n hn)

/-- An element out of its cells. -/
noncomputable def elemOf (isAgg : Bool) (ps : List PV) : PV := if isAgg then .agg ps else ps.headD (.lit .nilFunc)

theorem readsM_slice {α : Type} {P : Program} {t e : TypeId} {en : α → List PV} {ok : α → Prop} {B s : Nat} {ag : Bool} (ht : P.underlying t = some (.slice e)) (he : ReadsM P e en ok) (hs : P.cellsOf e = s) (hB : P.bytesOf e = B)
    (hen : ∀ a, (elemOf ag (en a)).cells = en a) (h0B : 0 < B) :
    ReadsM P t (fun x : List α => [.sl false (x.map fun a => elemOf ag (en a))]) (fun xs => ∀ x ∈ xs, ok x) := by
  intro H enc W spare held fuel cs x h hz
  rcases DataW.trod_slice ht h with ⟨rfl, rfl⟩ | ⟨a, len, cap, elems, rest, n, _, rfl, rfl, _, hl, hm, hlen, hel, _⟩
  · refine ⟨[], PW.one ?_, fun x hx => by simp at hx⟩
    exact .sl (es := []) 0 (fun _ _ => undef) (Nat.zero_le _) (Nat.le_refl _) (fun h => by cases h) (fun i p h => by simp at h) (fun i p j q h => by simp at h) (fun i p j q h => by simp at h)
  · have hw : (elems.length + rest.length) * P.bytesOf e ≤ reachBytes := hz _ (by simp [DataW.weights, ht])
    have each : ∀ i : _root_.Fin len, ∃ a1 : α, ∃ c, W.cells? 0 (a.add (i.1 * P.cellsOf e)) (P.cellsOf e) = some c ∧ PW (Rep (fun b => b < W.heap.size) W) (en a1) c ∧ ok a1 := by
      intro i
      have hi := hel i.1 i.2
      rw [List.getElem?_eq_getElem (show i.1 < elems.length by omega)] at hi
      obtain ⟨c, hc, hd⟩ := Option.bind_eq_some_iff.1 hi
      obtain ⟨a1, hk, ho⟩ := he H enc W spare held n c _ hd (fun m hm' => hz m (by
        simp only [DataW.weights, ht, List.mem_cons, List.mem_append]
        exact .inr (.inl (mem_weightsAll (List.mem_map.2 ⟨_, List.getElem_mem _, rfl⟩) m hm'))))
      exact ⟨a1, c, hc, hk, ho⟩
    have hx : ∀ i (hi : i < len), (List.ofFn fun i : _root_.Fin len => Classical.choose (each i))[i]? = some (Classical.choose (each ⟨i, hi⟩)) := by
      intro i hi
      rw [List.getElem?_ofFn, dif_pos hi]
    refine ⟨List.ofFn fun i : _root_.Fin len => Classical.choose (each i), PW.one ?_, ?_⟩
    · have cellOf : ∀ (i : Nat) (hi : i < len) (j : Nat) (q : PV), (en (Classical.choose (each ⟨i, hi⟩)))[j]? = some q → ∃ u, W.cell? (a.add (i * s + j)) = some u ∧ Rep (fun b => b < W.heap.size) W q u ∧ j < s := by
        intro i hi j q hq
        obtain ⟨c, hc, hk, _⟩ := Classical.choose_spec (each ⟨i, hi⟩)
        obtain ⟨_, hcl, hcell⟩ := World.cells?_some hc
        rw [hs] at hcl hcell
        have hj : j < s := by rw [← hcl, ← hk.1]; exact (List.getElem?_eq_some_iff.1 hq).1
        have hcj : c[j]? = some c[j] := List.getElem?_eq_getElem (by omega)
        refine ⟨c[j], ?_, hk.2 j q _ hq hcj, hj⟩
        have := hcell j hj
        rw [Go.Deep.add_add] at this
        rw [this, hcj]
      have lenM : len ≤ maxLen := by
        rw [hB] at hw
        have h1 : len ≤ elems.length + rest.length := by omega
        have h2 : elems.length + rest.length ≤ (elems.length + rest.length) * B := Nat.le_mul_of_pos_right _ h0B
        have h3 : reachBytes ≤ maxLen := by decide
        omega
      have lenE : (List.map (fun a => elemOf ag (en a)) (List.ofFn fun i : _root_.Fin len => Classical.choose (each i))).length = len := by simp
      have get : ∀ (i : Nat) (p : PV), (List.map (fun a => elemOf ag (en a)) (List.ofFn fun i : _root_.Fin len => Classical.choose (each i)))[i]? = some p → ∃ hi : i < len, p.cells = en (Classical.choose (each ⟨i, hi⟩)) := by
        intro i p hp
        have hi : i < len := by rw [← lenE]; exact (List.getElem?_eq_some_iff.1 hp).1
        rw [List.getElem?_map, hx i hi] at hp
        refine ⟨hi, ?_⟩
        simp only [Option.map_some, Option.some.injEq] at hp
        rw [← hp, hen]
      have key := Rep.sl (S := fun b => b < W.heap.size) (w := W) (full := false) (es := List.map (fun a => elemOf ag (en a)) (List.ofFn fun i : _root_.Fin len => Classical.choose (each i))) (a := some a) (cap := cap) s (fun i j => (W.cell? (a.add (i * s + j))).getD undef) (by rw [lenE]; exact lenM) (by rw [lenE]; exact hl) (fun h => by cases h)
        (fun i p hp => by
          obtain ⟨hi, e1⟩ := get i p hp
          rw [e1]
          obtain ⟨c, hc, hk, _⟩ := Classical.choose_spec (each ⟨i, hi⟩)
          obtain ⟨_, hcl, _⟩ := World.cells?_some hc
          rw [hs] at hcl
          exact hk.1.trans hcl)
        (fun i p j q hp hq => by
          obtain ⟨hi, e1⟩ := get i p hp
          rw [e1] at hq
          obtain ⟨u, hu, _, hj⟩ := cellOf i hi j q hq
          have hb := World.block_lt_of_cell? W _ hu
          obtain ⟨b, o, sp⟩ := a
          have hsp : sp = none := by
            have h0 : 0 < len := by omega
            obtain ⟨c, hc, hk, _⟩ := Classical.choose_spec (each ⟨0, h0⟩)
            obtain ⟨_, hcl, _⟩ := World.cells?_some hc
            rw [hs] at hcl
            have hq0 := List.getElem?_eq_getElem (l := en (Classical.choose (each ⟨0, h0⟩))) (i := 0) (by rw [hk.1]; omega)
            obtain ⟨u0, hu0, _, _⟩ := cellOf 0 h0 0 _ hq0
            simp only [Nat.zero_mul, Nat.add_zero, Addr.add, if_true] at hu0
            cases sp with
            | none => rfl
            | some x =>
              unfold World.cell? at hu0
              split at hu0
              · simp at hu0
              · cases hu0
          subst hsp
          rw [add_at] at hu hb
          refine ⟨b, o, rfl, hb, ?_⟩
          rw [add_at, hu]
          rfl)
        (fun i p j q hp hq => by
          obtain ⟨hi, e1⟩ := get i p hp
          rw [e1] at hq
          obtain ⟨u, hu, hr, _⟩ := cellOf i hi j q hq
          rw [hu]
          exact hr)
      rw [lenE] at key
      exact key
    · intro x hxm
      obtain ⟨i, rfl⟩ := List.mem_ofFn.1 hxm
      obtain ⟨_, _, _, ho⟩ := Classical.choose_spec (each i)
      exact ho

/-- Fields in line, from cell off on. -/
noncomputable def ReadsMF {α : Type} (P : Program) (fs : List Field) (off total : Nat) (en : α → List PV) (ok : α → Prop) : Prop :=
  ∀ (H : Type) (enc : TypeId × Value → H) (W : World) (spare : Nat → Bool) (held : Bool) (n : Nat) (cs : List Value) (xs : List (DataW H × List MemPlace)),
    cs.length = total → xs.length = fs.length → (∀ (i : Nat) (f : Field), fs[i]? = some f → DataW.trod enc P W 0 spare held n f.type ((cs.drop f.offset).take (P.cellsOf f.type)) = xs[i]?) →
    (∀ m ∈ DataW.weightsEach P (fs.map (·.type)) (xs.map (·.1)), m ≤ reachBytes) → ∃ a, PW (Rep (fun b => b < W.heap.size) W) (en a) (cs.drop off) ∧ ok a
theorem ReadsMF.one {α : Type} {P : Program} {f : Field} {off total : Nat} {en : α → List PV} {ok : α → Prop} (h : ReadsM P f.type en ok) (ho : f.offset = off) (hs : off + P.cellsOf f.type = total) : ReadsMF P [f] off total en ok := by
  intro H enc W spare held n cs xs hc hl he hw
  match xs, hl with
  | [x], _ =>
    have h0 := he 0 f rfl
    obtain ⟨a, hk, hok⟩ := h H enc W spare held n _ x h0 (fun m hm => hw m (by simpa [DataW.weightsEach] using hm))
    rw [ho, List.take_of_length_le (by rw [List.length_drop]; omega)] at hk
    exact ⟨a, hk, hok⟩
theorem ReadsMF.cons {α β : Type} {P : Program} {f : Field} {fs : List Field} {off total : Nat} {en : α → List PV} {en' : β → List PV} {ok : α → Prop} {ok' : β → Prop} (h : ReadsM P f.type en ok) (ho : f.offset = off) (hr : ReadsMF P fs (off + P.cellsOf f.type) total en' ok') :
    ReadsMF P (f :: fs) off total (fun x : α × β => en x.1 ++ en' x.2) (fun x => ok x.1 ∧ ok' x.2) := by
  intro H enc W spare held n cs xs hc hl he hw
  match xs, hl with
  | x :: xs, hl =>
    have h0 := he 0 f rfl
    obtain ⟨a, hk, hok⟩ := h H enc W spare held n _ x h0 (fun m hm => hw m (by simp [DataW.weightsEach, hm]))
    obtain ⟨b, hk', hok'⟩ := hr H enc W spare held n cs xs hc (by simpa using hl) (fun i g hg => by simpa using he (i + 1) g (by simpa using hg)) (fun m hm => hw m (by simp [DataW.weightsEach, hm]))
    refine ⟨(a, b), ?_, hok, hok'⟩
    have := hk.append hk'
    rwa [ho, ← List.drop_drop, List.take_append_drop] at this
theorem readsM_struct {α : Type} {P : Program} {t : TypeId} {fs : Array Field} {en : α → List PV} {ok : α → Prop} (ht : P.underlying t = some (.struct fs)) (h : ReadsMF P fs.toList 0 (P.cellsOf t) en ok) : ReadsM P t en ok := by
  intro H enc W spare held fuel cs x hx hz
  obtain ⟨xs, n, _, rfl, hl, hxs, he⟩ := DataW.trod_struct ht hx
  obtain ⟨a, hk, ho⟩ := h H enc W spare held n cs xs hl (by simpa using hxs) (fun i f hf => he i f (by simpa using hf)) (fun m hm => hz m (by simpa [DataW.weights, ht] using hm))
  exact ⟨a, by simpa using hk, ho⟩
theorem ReadsM.weaken {α : Type} {P : Program} {t : TypeId} {en : α → List PV} {ok ok' : α → Prop} (h : ReadsM P t en ok) (ho : ∀ a, ok a → ok' a) : ReadsM P t en ok' := by
  intro H enc W spare held fuel cs x hx hz
  obtain ⟨a, hk, hok⟩ := h H enc W spare held fuel cs x hx hz
  exact ⟨a, hk, ho a hok⟩
theorem sizes_of {H : Type} {P : Program} {ts : List TypeId} {ds : List (DataW H)} {j : Nat} {t : TypeId} {d : DataW H} (h : (DataW.weightsEach P ts ds).all (· ≤ reachBytes) = true) (ht : ts[j]? = some t) (hd : ds[j]? = some d) : ∀ n ∈ d.weights P t, n ≤ reachBytes := by
  intro n hn
  have := List.all_eq_true.1 h n (DataW.weights_mem_each ht hd n hn)
  simpa using this
theorem readsM_map {α β : Type} {P : Program} {t : TypeId} {en : α → List PV} {ok : α → Prop} (h : ReadsM P t en ok) (en' : β → List PV) (g : α → β) {ok' : β → Prop} (hg : ∀ a, ok a → en' (g a) = en a) (ho : ∀ a, ok a → ok' (g a)) : ReadsM P t en' ok' := by
  intro H enc W spare held fuel cs x hx hz
  obtain ⟨a, hk, hok⟩ := h H enc W spare held fuel cs x hx hz
  exact ⟨g a, by rw [hg a hok]; exact hk, ho a hok⟩
theorem readsM_u8 {P : Program} {t : TypeId} (ht : P.underlying t = some (.int .u8)) : ReadsM P t (fun n : UInt8 => [U8 n]) (fun _ => True) :=
  readsM_map (readsM_int ht) (fun n : UInt8 => [U8 n]) (fun n : Int => UInt8.ofNat n.toNat) (fun a h => by
    have h' : IntKind.u8.min ≤ a ∧ a ≤ IntKind.u8.max := by simpa [Lit.wf] using h
    have h1 : IntKind.u8.min = 0 := by decide
    have h2 : IntKind.u8.max = 255 := by decide
    have e : ((UInt8.ofNat a.toNat).toNat : Int) = a := by
      rw [UInt8.toNat_ofNat']; omega
    show [U8 _] = _
    rw [show U8 (UInt8.ofNat a.toNat) = PV.lit (.int .u8 ((UInt8.ofNat a.toNat).toNat : Int)) from rfl, e]) (fun _ _ => trivial)
theorem readsM_u16 {P : Program} {t : TypeId} (ht : P.underlying t = some (.int .u16)) : ReadsM P t (fun n : UInt16 => [U16 n]) (fun _ => True) :=
  readsM_map (readsM_int ht) (fun n : UInt16 => [U16 n]) (fun n : Int => UInt16.ofNat n.toNat) (fun a h => by
    have h' : IntKind.u16.min ≤ a ∧ a ≤ IntKind.u16.max := by simpa [Lit.wf] using h
    have h1 : IntKind.u16.min = 0 := by decide
    have h2 : IntKind.u16.max = 65535 := by decide
    have e : ((UInt16.ofNat a.toNat).toNat : Int) = a := by
      rw [UInt16.toNat_ofNat']; omega
    show [U16 _] = _
    rw [show U16 (UInt16.ofNat a.toNat) = PV.lit (.int .u16 ((UInt16.ofNat a.toNat).toNat : Int)) from rfl, e]) (fun _ _ => trivial)
theorem readsM_num {P : Program} {t : TypeId} {k : IntKind} (ht : P.underlying t = some (.int k)) : ReadsM P t (fun n : Int => [.lit (.int k n)]) (fun _ => True) := (readsM_int ht).weaken fun _ _ => trivial
theorem readsM_list {α : Type} {P : Program} {t e : TypeId} {en : α → List PV} {B : Nat} (f : α → PV) (ag : Bool) (ht : P.underlying t = some (.slice e)) (he : ReadsM P e en (fun _ => True)) (hB : P.bytesOf e = B) (h0 : 0 < B) (hf : ∀ a, f a = elemOf ag (en a)) (hen : ∀ a, (elemOf ag (en a)).cells = en a) :
    ReadsM P t (fun x : List α => [.sl false (x.map f)]) (fun _ => True) := by
  have h := readsM_slice ht he rfl hB hen h0
  have e : (fun a => elemOf ag (en a)) = f := funext fun a => (hf a).symm
  rw [e] at h
  exact h.weaken fun _ _ => trivial

theorem PW.consM {α β : Type} {R : α → β → Prop} {x : α} {v : β} {xs : List α} {vs : List β} (h : R x v) (hr : PW R xs vs) : PW R (x :: xs) (v :: vs) := ⟨by simp [hr.1], fun j y u hy hu => by
  cases j with
  | zero => simp at hy hu; subst hy; subst hu; exact h
  | succ j => exact hr.2 j y u (by simpa using hy) (by simpa using hu)⟩
theorem Rep.aggOf {S : Nat → Prop} {w : World} {cs : List PV} {vs : Array Value} (h : PW (Rep S w) cs vs.toList) : Rep S w (.agg cs) (.agg vs) := by
  have := Rep.agg (S := S) (w := w) h.1 h.2
  simpa using this
theorem PW.head {α β : Type} {R : α → β → Prop} {x : α} {v : β} (h : PW R [x] [v]) : R x v := h.2 0 x v rfl rfl

theorem ct_trueG {P : Program} [Globs P] {g : Nat} {ps : List PV} {vs : List Value} {w : World} (hgl : GlobOk P (fun b => b < w.heap.size) w) (h : Ct P g ps [.pv (.lit (.bool true))]) (ha : PW (Rep (fun b => b < w.heap.size) w) ps vs) :
    Calls P g vs.toArray w fun e w' => e = .returned (.bool true) ∧ Below w.heap.size w w' := by
  obtain ⟨h1, _⟩ := h (fun b => b < w.heap.size) w vs (fun _ h => h) hgl ha
  refine h1.mono fun e w' ⟨S', rs, us, bs, hl, he, hr, hg, _⟩ => ?_
  cases hl with
  | cons hl hs =>
    cases hs
    cases hl with
    | pv hl =>
      cases hl
      cases hr with
      | pv h1 h2 =>
        cases h1
        cases h2
        exact ⟨he, ⟨hg.os, hg.tape, hg.output, hg.size, hg.mem⟩⟩
theorem ct_true {P : Program} [Globs P] {g : Nat} {ps : List PV} {vs : List Value} {w : World} (h : Ct P g ps [.pv (.lit (.bool true))]) (ha : PW (Rep (fun b => b < w.heap.size) w) ps vs) (hn : Globs.tab P = [] := by rfl) :
    Calls P g vs.toArray w fun e w' => e = .returned (.bool true) ∧ Below w.heap.size w w' := ct_trueG (fun x hx => by rw [hn] at hx; cases hx) h ha
end Go.Mir
