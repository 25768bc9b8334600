/- Loops by rounds; what an argument's data is as plain values (lemmas; conditions: what they say). -/
import Derived.Test.YthohhkmlbjffgaaMir19
import Derived.ProofKit
import Derived.ChangeArms
import Derived.ChangeOld
import Derived.SizedLaws
import Derived.Deep.Slices
namespace Go.Mir
open Go Go.RowKit Go.ChangeShapes Go.WideShapes

/-! ### Calls and loops -/
def fin (P : Program) (rs : List ResultVar) (t : St) : Option (List RV) := match results? P t.env t.sto rs with
  | some xs => (finRV t.sto xs).map (·.1)
  | none => none

theorem call_def' {E : MEnv} {g : Nat} {ps : List PV} {fn : Func} {c : Code} (hf : E.fn g = some fn) (hb : fn.body = some c) (hn : ps.length ≤ fn.ntmps) : call E g ps = (run E g [.code c] { env := envOf 0 (ps.map .pv), sto := [], clk := 0, nt := fn.ntmps }).bind (fin E.P fn.results.toList) := by
  rw [call_def hf hb (by simpa using hn)]
  cases run E g [.code c] { env := envOf 0 (ps.map .pv), sto := [], clk := 0, nt := fn.ntmps } <;> rfl

theorem loop_ind {ι R : Type} {E : MEnv} {f c0 : Nat} {c : Code} {k : List It} {post : St → Option R} (st : ι → St) (spec : ι → Option R) (m : ι → Nat)
    (step : ∀ i, (∀ j, m j < m i → (run E f (.code c :: .loop c c0 :: k) (st j)).bind post = spec j) → (run E f (.code c :: .loop c c0 :: k) (st i)).bind post = spec i) :
    ∀ i, (run E f (.code c :: .loop c c0 :: k) (st i)).bind post = spec i := by
  intro i
  generalize hn : m i = n
  induction n using Nat.strongRecOn generalizing i with
  | _ n ih => exact step i fun j hj => ih (m j) (hn ▸ hj) j rfl

/-! ### Arguments -/
/-- Whatever reads as data at type t is, cell by cell, what 'en' says of something that meets ok. -/
def ReadsM {α : Type} (P : Program) (t : TypeId) (en : α → List PV) (ok : α → Prop) : Prop :=
  ∀ (H : Type) (enc : TypeId × Value → H) (W : World) (spare : Nat → Bool) (held : Bool) (fuel : Nat) (cs : List Value) (x : DataW H × List MemPlace),
    DataW.trod enc P W 0 spare held fuel t cs = some x → (∀ n ∈ x.1.weights P t, n ≤ reachBytes) → ∃ a, PW (Rep (fun b => b < W.heap.size) W) (en a) cs ∧ ok a

theorem PW.one {α β : Type} {R : α → β → Prop} {x : α} {v : β} (h : R x v) : PW R [x] [v] := ⟨rfl, fun j y u hy hu => by
  cases j with
  | zero => simp at hy hu; subst hy; subst hu; exact h
  | succ j => simp at hy⟩

theorem readsM_int {P : Program} {t : TypeId} {k : IntKind} (ht : P.underlying t = some (.int k)) : ReadsM P t (fun n : Int => [.lit (.int k n)]) (fun n => (Lit.int k n).wf = true) := by
  intro H enc W spare held fuel cs x h _
  obtain ⟨n, rfl, _, hw⟩ := DataW.trod_int ht h
  exact ⟨n, PW.one (.lit rfl), hw⟩
theorem readsM_bool {P : Program} {t : TypeId} (ht : P.underlying t = some .bool) : ReadsM P t (fun b : Bool => [.lit (.bool b)]) (fun _ => True) := by
  intro H enc W spare held fuel cs x h _
  obtain ⟨b, rfl, _⟩ := DataW.trod_bool ht h
  exact ⟨b, PW.one (.lit rfl), trivial⟩
theorem mem_weightsAll {H : Type} {P : Program} {e : TypeId} : ∀ {l : List (DataW H)} {d : DataW H}, d ∈ l → ∀ n ∈ d.weights P e, n ∈ DataW.weightsAll P e l
  | d0 :: l, d, hd, n, hn => by
    simp only [DataW.weightsAll, List.mem_append]
    rcases List.mem_cons.1 hd with rfl | hd
    · exact .inl hn
    · exact .inr (mem_weightsAll hd n hn)

/-- An element out of its cells. -/
def elemOf (isAgg : Bool) (ps : List PV) : PV := if isAgg then .agg ps else ps.headD (.lit .nilFunc)

theorem readsM_slice {α : Type} {P : Program} {t e : TypeId} {en : α → List PV} {ok : α → Prop} {B s : Nat} {ag : Bool} (ht : P.underlying t = some (.slice e)) (he : ReadsM P e en ok) (hs : P.cellsOf e = s) (hB : P.bytesOf e = B)
    (hen : ∀ a, (elemOf ag (en a)).cells = en a) :
    ReadsM P t (fun x : List α => [.sl false (x.map fun a => elemOf ag (en a))]) (fun xs => xs.length * B ≤ 140737488351232 ∧ ∀ x ∈ xs, ok x) := by
  intro H enc W spare held fuel cs x h hz
  rcases DataW.trod_slice ht h with ⟨rfl, rfl⟩ | ⟨a, len, cap, elems, rest, n, _, rfl, rfl, _, hl, hm, hlen, hel, _⟩
  · refine ⟨[], PW.one ?_, by simp, fun x hx => by simp at hx⟩
    exact .sl (es := []) 0 (fun _ _ => undef) (Nat.le_refl _) (fun h => by cases h) (fun i p h => by simp at h) (fun i p j q h => by simp at h) (fun i p j q h => by simp at h)
  · have hw : (elems.length + rest.length) * P.bytesOf e ≤ reachBytes := hz _ (by simp [DataW.weights, ht])
    have each : ∀ i : _root_.Fin len, ∃ a1 : α, ∃ c, W.cells? 0 (a.add (i.1 * P.cellsOf e)) (P.cellsOf e) = some c ∧ PW (Rep (fun b => b < W.heap.size) W) (en a1) c ∧ ok a1 := by
      intro i
      have hi := hel i.1 i.2
      rw [List.getElem?_eq_getElem (show i.1 < elems.length by omega)] at hi
      obtain ⟨c, hc, hd⟩ := Option.bind_eq_some_iff.1 hi
      obtain ⟨a1, hk, ho⟩ := he H enc W spare held n c _ hd (fun m hm' => hz m (by
        simp only [DataW.weights, ht, List.mem_cons, List.mem_append]
        exact .inr (.inl (mem_weightsAll (List.mem_map.2 ⟨_, List.getElem_mem _, rfl⟩) m hm'))))
      exact ⟨a1, c, hc, hk, ho⟩
    have hx : ∀ i (hi : i < len), (List.ofFn fun i : _root_.Fin len => Classical.choose (each i))[i]? = some (Classical.choose (each ⟨i, hi⟩)) := by
      intro i hi
      rw [List.getElem?_ofFn, dif_pos hi]
    refine ⟨List.ofFn fun i : _root_.Fin len => Classical.choose (each i), PW.one ?_, ?_, ?_⟩
    · have cellOf : ∀ (i : Nat) (hi : i < len) (j : Nat) (q : PV), (en (Classical.choose (each ⟨i, hi⟩)))[j]? = some q → ∃ u, W.cell? (a.add (i * s + j)) = some u ∧ Rep (fun b => b < W.heap.size) W q u ∧ j < s := by
        intro i hi j q hq
        obtain ⟨c, hc, hk, _⟩ := Classical.choose_spec (each ⟨i, hi⟩)
        obtain ⟨_, hcl, hcell⟩ := World.cells?_some hc
        rw [hs] at hcl hcell
        have hj : j < s := by rw [← hcl, ← hk.1]; exact (List.getElem?_eq_some_iff.1 hq).1
        have hcj : c[j]? = some c[j] := List.getElem?_eq_getElem (by omega)
        refine ⟨c[j], ?_, hk.2 j q _ hq hcj, hj⟩
        have := hcell j hj
        rw [Go.Deep.add_add] at this
        rw [this, hcj]
      have lenE : (List.map (fun a => elemOf ag (en a)) (List.ofFn fun i : _root_.Fin len => Classical.choose (each i))).length = len := by simp
      have get : ∀ (i : Nat) (p : PV), (List.map (fun a => elemOf ag (en a)) (List.ofFn fun i : _root_.Fin len => Classical.choose (each i)))[i]? = some p → ∃ hi : i < len, p.cells = en (Classical.choose (each ⟨i, hi⟩)) := by
        intro i p hp
        have hi : i < len := by rw [← lenE]; exact (List.getElem?_eq_some_iff.1 hp).1
        rw [List.getElem?_map, hx i hi] at hp
        refine ⟨hi, ?_⟩
        simp only [Option.map_some, Option.some.injEq] at hp
        rw [← hp, hen]
      have key := Rep.sl (S := fun b => b < W.heap.size) (w := W) (full := false) (es := List.map (fun a => elemOf ag (en a)) (List.ofFn fun i : _root_.Fin len => Classical.choose (each i))) (a := some a) (cap := cap) s (fun i j => (W.cell? (a.add (i * s + j))).getD undef) (by rw [lenE]; exact hl) (fun h => by cases h)
        (fun i p hp => by
          obtain ⟨hi, e1⟩ := get i p hp
          rw [e1]
          obtain ⟨c, hc, hk, _⟩ := Classical.choose_spec (each ⟨i, hi⟩)
          obtain ⟨_, hcl, _⟩ := World.cells?_some hc
          rw [hs] at hcl
          exact hk.1.trans hcl)
        (fun i p j q hp hq => by
          obtain ⟨hi, e1⟩ := get i p hp
          rw [e1] at hq
          obtain ⟨u, hu, _, hj⟩ := cellOf i hi j q hq
          have hb := World.block_lt_of_cell? W _ hu
          obtain ⟨b, o, sp⟩ := a
          have hsp : sp = none := by
            have h0 : 0 < len := by omega
            obtain ⟨c, hc, hk, _⟩ := Classical.choose_spec (each ⟨0, h0⟩)
            obtain ⟨_, hcl, _⟩ := World.cells?_some hc
            rw [hs] at hcl
            have hq0 := List.getElem?_eq_getElem (l := en (Classical.choose (each ⟨0, h0⟩))) (i := 0) (by rw [hk.1]; omega)
            obtain ⟨u0, hu0, _, _⟩ := cellOf 0 h0 0 _ hq0
            simp only [Nat.zero_mul, Nat.add_zero, Addr.add, if_true] at hu0
            cases sp with
            | none => rfl
            | some x =>
              unfold World.cell? at hu0
              split at hu0
              · simp at hu0
              · cases hu0
          subst hsp
          rw [add_at] at hu hb
          refine ⟨b, o, rfl, hb, ?_⟩
          rw [add_at, hu]
          rfl)
        (fun i p j q hp hq => by
          obtain ⟨hi, e1⟩ := get i p hp
          rw [e1] at hq
          obtain ⟨u, hu, hr, _⟩ := cellOf i hi j q hq
          rw [hu]
          exact hr)
      rw [lenE] at key
      exact key
    · rw [List.length_ofFn, ← hB]
      refine Nat.le_trans (Nat.mul_le_mul_right _ ?_) hw
      omega
    · intro x hxm
      obtain ⟨i, rfl⟩ := List.mem_ofFn.1 hxm
      obtain ⟨_, _, _, ho⟩ := Classical.choose_spec (each i)
      exact ho

/-- Fields in line, from cell off on. -/
def ReadsMF {α : Type} (P : Program) (fs : List Field) (off total : Nat) (en : α → List PV) (ok : α → Prop) : Prop :=
  ∀ (H : Type) (enc : TypeId × Value → H) (W : World) (spare : Nat → Bool) (held : Bool) (n : Nat) (cs : List Value) (xs : List (DataW H × List MemPlace)),
    cs.length = total → xs.length = fs.length → (∀ (i : Nat) (f : Field), fs[i]? = some f → DataW.trod enc P W 0 spare held n f.type ((cs.drop f.offset).take (P.cellsOf f.type)) = xs[i]?) →
    (∀ m ∈ DataW.weightsEach P (fs.map (·.type)) (xs.map (·.1)), m ≤ reachBytes) → ∃ a, PW (Rep (fun b => b < W.heap.size) W) (en a) (cs.drop off) ∧ ok a
theorem ReadsMF.one {α : Type} {P : Program} {f : Field} {off total : Nat} {en : α → List PV} {ok : α → Prop} (h : ReadsM P f.type en ok) (ho : f.offset = off) (hs : off + P.cellsOf f.type = total) : ReadsMF P [f] off total en ok := by
  intro H enc W spare held n cs xs hc hl he hw
  match xs, hl with
  | [x], _ =>
    have h0 := he 0 f rfl
    obtain ⟨a, hk, hok⟩ := h H enc W spare held n _ x h0 (fun m hm => hw m (by simpa [DataW.weightsEach] using hm))
    rw [ho, List.take_of_length_le (by rw [List.length_drop]; omega)] at hk
    exact ⟨a, hk, hok⟩
theorem ReadsMF.cons {α β : Type} {P : Program} {f : Field} {fs : List Field} {off total : Nat} {en : α → List PV} {en' : β → List PV} {ok : α → Prop} {ok' : β → Prop} (h : ReadsM P f.type en ok) (ho : f.offset = off) (hr : ReadsMF P fs (off + P.cellsOf f.type) total en' ok') :
    ReadsMF P (f :: fs) off total (fun x : α × β => en x.1 ++ en' x.2) (fun x => ok x.1 ∧ ok' x.2) := by
  intro H enc W spare held n cs xs hc hl he hw
  match xs, hl with
  | x :: xs, hl =>
    have h0 := he 0 f rfl
    obtain ⟨a, hk, hok⟩ := h H enc W spare held n _ x h0 (fun m hm => hw m (by simp [DataW.weightsEach, hm]))
    obtain ⟨b, hk', hok'⟩ := hr H enc W spare held n cs xs hc (by simpa using hl) (fun i g hg => by simpa using he (i + 1) g (by simpa using hg)) (fun m hm => hw m (by simp [DataW.weightsEach, hm]))
    refine ⟨(a, b), ?_, hok, hok'⟩
    have := hk.append hk'
    rwa [ho, ← List.drop_drop, List.take_append_drop] at this
theorem readsM_struct {α : Type} {P : Program} {t : TypeId} {fs : Array Field} {en : α → List PV} {ok : α → Prop} (ht : P.underlying t = some (.struct fs)) (h : ReadsMF P fs.toList 0 (P.cellsOf t) en ok) : ReadsM P t en ok := by
  intro H enc W spare held fuel cs x hx hz
  obtain ⟨xs, n, _, rfl, hl, hxs, he⟩ := DataW.trod_struct ht hx
  obtain ⟨a, hk, ho⟩ := h H enc W spare held n cs xs hl (by simpa using hxs) (fun i f hf => he i f (by simpa using hf)) (fun m hm => hz m (by simpa [DataW.weights, ht] using hm))
  exact ⟨a, by simpa using hk, ho⟩
theorem readsM_iso {α β : Type} {P : Program} {t : TypeId} {en : α → List PV} {ok : α → Prop} (h : ReadsM P t en ok) (f : β → α) (g : α → β) (hg : ∀ a, f (g a) = a) {ok' : β → Prop} (ho : ∀ a, ok a → ok' (g a)) : ReadsM P t (fun b => en (f b)) ok' := by
  intro H enc W spare held fuel cs x hx hz
  obtain ⟨a, hk, hok⟩ := h H enc W spare held fuel cs x hx hz
  exact ⟨g a, by show PW _ (en (f (g a))) cs; rw [hg]; exact hk, ho a hok⟩
theorem ReadsM.weaken {α : Type} {P : Program} {t : TypeId} {en : α → List PV} {ok ok' : α → Prop} (h : ReadsM P t en ok) (ho : ∀ a, ok a → ok' a) : ReadsM P t en ok' := by
  intro H enc W spare held fuel cs x hx hz
  obtain ⟨a, hk, hok⟩ := h H enc W spare held fuel cs x hx hz
  exact ⟨a, hk, ho a hok⟩
theorem sizes_of {H : Type} {P : Program} {ts : List TypeId} {ds : List (DataW H)} {j : Nat} {t : TypeId} {d : DataW H} (h : (DataW.weightsEach P ts ds).all (· ≤ reachBytes) = true) (ht : ts[j]? = some t) (hd : ds[j]? = some d) : ∀ n ∈ d.weights P t, n ≤ reachBytes := by
  intro n hn
  have := List.all_eq_true.1 h n (DataW.weights_mem_each ht hd n hn)
  simpa using this
end Go.Mir
