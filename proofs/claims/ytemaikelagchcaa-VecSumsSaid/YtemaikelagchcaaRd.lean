/- What an argument's memory holds, kind by kind, out of how the argument reads as data (conditions: none but that it reads so, within the reach). -/
import Derived.Test.YtemaikelagchcaaWMore
import Derived.ProofKit
import Derived.ChangeArms
import Derived.ChangeOld
import Derived.Below
import Derived.SizedLaws
import Derived.Deep.Slices
namespace Go.Proofs.YtemaikelagchcaaR
open Go.RowKit Go.Proofs.YtemaikelagchcaaW.PrintWords Go.Proofs.YtemaikelagchcaaW.PrintLast Go.Proofs.YtemaikelagchcaaW.PrintMore
open Go.ChangeShapes Go.WideShapes

/-- Whatever reads as data at type t holds a value of the kind d that meets ok. -/
def Reads {α : Type} (P : Program) (t : TypeId) (d : Kd α) (ok : α → Prop) : Prop :=
  ∀ (H : Type) (enc : TypeId × Value → H) (W : World) (spare : Nat → Bool) (held : Bool) (fuel : Nat) (cs : List Value) (x : DataW H × List MemPlace),
    DataW.trod enc P W 0 spare held fuel t cs = some x → (∀ n ∈ x.1.weights P t, n ≤ reachBytes) → ∃ a, d.K W a cs ∧ ok a

theorem reads_int {P : Program} {t : TypeId} {k : IntKind} (ht : P.underlying t = some (.int k)) : Reads P t (Kd.int k) (fun n => (Lit.int k n).wf = true) := by
  intro H enc W spare held fuel cs x h _
  obtain ⟨n, rfl, _, hw⟩ := DataW.trod_int ht h
  exact ⟨n, rfl, hw⟩
theorem reads_bool {P : Program} {t : TypeId} (ht : P.underlying t = some .bool) : Reads P t Kd.bool (fun _ => True) := by
  intro H enc W spare held fuel cs x h _
  obtain ⟨b, rfl, _⟩ := DataW.trod_bool ht h
  exact ⟨b, rfl, trivial⟩
theorem reads_string {P : Program} {t : TypeId} (ht : P.underlying t = some .string) : Reads P t Kd.string (fun s => s.size ≤ 140737488351232) := by
  intro H enc W spare held fuel cs x h hz
  obtain ⟨s, rfl, rfl, _⟩ := DataW.trod_string ht h
  refine ⟨s, rfl, ?_⟩
  have := hz s.data.toList.length (by simp [DataW.weights])
  have e : s.data.toList.length = s.size := by rw [Array.length_toList]; rfl
  rw [e] at this
  simpa [reachBytes] using this
theorem mem_weightsAll {H : Type} {P : Program} {e : TypeId} : ∀ {l : List (DataW H)} {d : DataW H}, d ∈ l → ∀ n ∈ d.weights P e, n ∈ DataW.weightsAll P e l
  | d0 :: l, d, hd, n, hn => by
    simp only [DataW.weightsAll, List.mem_append]
    rcases List.mem_cons.1 hd with rfl | hd
    · exact .inl hn
    · exact .inr (mem_weightsAll hd n hn)
theorem reads_slice {α : Type} {P : Program} {t e : TypeId} {d : Kd α} {ok : α → Prop} {B : Nat} (ht : P.underlying t = some (.slice e)) (he : Reads P e d ok) (hs : P.cellsOf e = d.sz) (hB : P.bytesOf e = B) :
    Reads P t (Kd.slice e d) (fun xs => xs.length * B ≤ 140737488351232 ∧ ∀ x ∈ xs, ok x) := by
  intro H enc W spare held fuel cs x h hz
  rcases DataW.trod_slice ht h with ⟨rfl, rfl⟩ | ⟨a, len, cap, elems, rest, n, _, rfl, rfl, _, hl, hm, hlen, hel, _⟩
  · exact ⟨[], ⟨none, 0, rfl, Nat.le_refl _, rfl, Nat.zero_le _, fun h0 => absurd h0 (Nat.lt_irrefl _)⟩, by simp, fun x hx => by simp at hx⟩
  · have hw : (elems.length + rest.length) * P.bytesOf e ≤ reachBytes := hz _ (by simp [DataW.weights, ht])
    have each : ∀ i : Fin len, ∃ a1 : α, ∃ c, W.cells? 0 (a.add (i.1 * P.cellsOf e)) (P.cellsOf e) = some c ∧ d.K W a1 c ∧ ok a1 := by
      intro i
      have hi := hel i.1 i.2
      rw [List.getElem?_eq_getElem (show i.1 < elems.length by omega)] at hi
      obtain ⟨c, hc, hd⟩ := Option.bind_eq_some_iff.1 hi
      obtain ⟨a1, hk, ho⟩ := he H enc W spare held n c _ hd (fun m hm' => hz m (by
        simp only [DataW.weights, ht, List.mem_cons, List.mem_append]
        exact .inr (.inl (mem_weightsAll (List.mem_map.2 ⟨_, List.getElem_mem _, rfl⟩) m hm'))))
      exact ⟨a1, c, hc, hk, ho⟩
    have hx : ∀ i (hi : i < len), (List.ofFn fun i : Fin len => Classical.choose (each i))[i]? = some (Classical.choose (each ⟨i, hi⟩)) := by
      intro i hi
      rw [List.getElem?_ofFn, dif_pos hi]
    refine ⟨List.ofFn fun i : Fin len => Classical.choose (each i), ⟨some a, cap, by simp, by simpa using hl, ?_⟩, ?_, ?_⟩
    · refine ⟨rfl, by rw [List.length_ofFn]; exact Nat.le_trans hl hm, fun _ => ⟨a, rfl, fun j p hp => ?_⟩⟩
      have hj : j < len := by
        have := (List.getElem?_eq_some_iff.1 hp).1
        simpa using this
      rw [hx j hj] at hp
      obtain rfl := Option.some.inj hp
      obtain ⟨c, hc, hk, _⟩ := Classical.choose_spec (each ⟨j, hj⟩)
      obtain ⟨_, hcl, hcell⟩ := World.cells?_some hc
      rw [hs] at hcl hcell
      refine ⟨c, hcl, hk, fun i u hu => ?_⟩
      have hi : i < d.sz := by rw [← hcl]; exact (List.getElem?_eq_some_iff.1 hu).1
      have := hcell i hi
      rw [Go.Deep.add_add] at this
      rw [this, hu]
    · rw [List.length_ofFn, ← hB]
      refine Nat.le_trans (Nat.mul_le_mul_right _ ?_) hw
      omega
    · intro x hxm
      obtain ⟨i, rfl⟩ := List.mem_ofFn.1 hxm
      obtain ⟨_, _, _, ho⟩ := Classical.choose_spec (each i)
      exact ho

/-- Fields in line, from cell off on. -/
def ReadsF {α : Type} (P : Program) (fs : List Field) (off total : Nat) (d : Kd α) (ok : α → Prop) : Prop :=
  ∀ (H : Type) (enc : TypeId × Value → H) (W : World) (spare : Nat → Bool) (held : Bool) (n : Nat) (cs : List Value) (xs : List (DataW H × List MemPlace)),
    cs.length = total → xs.length = fs.length → (∀ (i : Nat) (f : Field), fs[i]? = some f → DataW.trod enc P W 0 spare held n f.type ((cs.drop f.offset).take (P.cellsOf f.type)) = xs[i]?) →
    (∀ m ∈ DataW.weightsEach P (fs.map (·.type)) (xs.map (·.1)), m ≤ reachBytes) → ∃ a, d.K W a (cs.drop off) ∧ ok a
theorem ReadsF.one {α : Type} {P : Program} {f : Field} {off total : Nat} {d : Kd α} {ok : α → Prop} (h : Reads P f.type d ok) (ho : f.offset = off) (hs : off + P.cellsOf f.type = total) : ReadsF P [f] off total d ok := by
  intro H enc W spare held n cs xs hc hl he hw
  match xs, hl with
  | [x], _ =>
    have h0 := he 0 f rfl
    obtain ⟨a, hk, hok⟩ := h H enc W spare held n _ x h0 (fun m hm => hw m (by simpa [DataW.weightsEach] using hm))
    rw [ho, List.take_of_length_le (by rw [List.length_drop]; omega)] at hk
    exact ⟨a, hk, hok⟩
theorem ReadsF.cons {α β : Type} {P : Program} {f : Field} {fs : List Field} {off total : Nat} {d : Kd α} {d' : Kd β} {ok : α → Prop} {ok' : β → Prop} (h : Reads P f.type d ok) (ho : f.offset = off) (hr : ReadsF P fs (off + P.cellsOf f.type) total d' ok') :
    ReadsF P (f :: fs) off total (Kd.pair d d') (fun x => ok x.1 ∧ ok' x.2) := by
  intro H enc W spare held n cs xs hc hl he hw
  match xs, hl with
  | x :: xs, hl =>
    have h0 := he 0 f rfl
    obtain ⟨a, hk, hok⟩ := h H enc W spare held n _ x h0 (fun m hm => hw m (by simp [DataW.weightsEach, hm]))
    obtain ⟨b, hk', hok'⟩ := hr H enc W spare held n cs xs hc (by simpa using hl) (fun i g hg => by simpa using he (i + 1) g (by simpa using hg)) (fun m hm => hw m (by simp [DataW.weightsEach, hm]))
    refine ⟨(a, b), ⟨_, _, ?_, hk, hk'⟩, hok, hok'⟩
    rw [ho, ← List.drop_drop, List.take_append_drop]
theorem reads_struct {α : Type} {P : Program} {t : TypeId} {fs : Array Field} {d : Kd α} {ok : α → Prop} (ht : P.underlying t = some (.struct fs)) (h : ReadsF P fs.toList 0 (P.cellsOf t) d ok) : Reads P t d ok := by
  intro H enc W spare held fuel cs x hx hz
  obtain ⟨xs, n, _, rfl, hl, hxs, he⟩ := DataW.trod_struct ht hx
  obtain ⟨a, hk, ho⟩ := h H enc W spare held n cs xs hl (by simpa using hxs) (fun i f hf => he i f (by simpa using hf)) (fun m hm => hz m (by simpa [DataW.weights, ht] using hm))
  exact ⟨a, by simpa using hk, ho⟩
theorem reads_iso {α β : Type} {P : Program} {t : TypeId} {d : Kd α} {ok : α → Prop} {ok' : β → Prop} (h : Reads P t d ok) (f : β → α) (g : α → β) (hg : ∀ a, f (g a) = a) (ho : ∀ a, ok a → ok' (g a)) : Reads P t (Kd.iso d f) ok' := by
  intro H enc W spare held fuel cs x hx hz
  obtain ⟨a, hk, hok⟩ := h H enc W spare held fuel cs x hx hz
  exact ⟨g a, by show d.K W (f (g a)) cs; rw [hg]; exact hk, ho a hok⟩
theorem Reads.weaken {α : Type} {P : Program} {t : TypeId} {d : Kd α} {ok ok' : α → Prop} (h : Reads P t d ok) (ho : ∀ a, ok a → ok' a) : Reads P t d ok' := by
  intro H enc W spare held fuel cs x hx hz
  obtain ⟨a, hk, hok⟩ := h H enc W spare held fuel cs x hx hz
  exact ⟨a, hk, ho a hok⟩
theorem sizes_of {H : Type} {P : Program} {ts : List TypeId} {ds : List (DataW H)} {j : Nat} {t : TypeId} {d : DataW H} (h : (DataW.weightsEach P ts ds).all (· ≤ reachBytes) = true) (ht : ts[j]? = some t) (hd : ds[j]? = some d) : ∀ n ∈ d.weights P t, n ≤ reachBytes := by
  intro n hn
  have := List.all_eq_true.1 h n (DataW.weights_mem_each ht hd n hn)
  simpa using this
end Go.Proofs.YtemaikelagchcaaR
