/- How the plain values stand for Go's values in memory (definitions, and how they stay true while memory grows; no condition). -/
import Derived.Test.YthcmkipbdgndoaaGreatDoorNx1
set_option linter.all false
set_option linter.unusedVariables false
set_option linter.unusedSimpArgs false
set_option linter.unnecessarySimpa false
namespace Go.Mir
open Go Go.RowKit

theorem add_at (b o n : Nat) : (⟨b, o, none⟩ : Addr).add n = ⟨b, o + n, none⟩ := by
  unfold Addr.add; split <;> simp_all

inductive Rep (S : Nat → Prop) (w : World) : PV → Value → Prop
  | lit {v : Value} (h : v.flat = true) : Rep S w (.lit v) v
  | sl {full : Bool} {es : List PV} {a : Option Addr} {cap : Nat} (s : Nat) (f : Nat → Nat → Value) (hn : es.length ≤ maxLen) (hc : es.length ≤ cap) (hf : full = true → cap = es.length)
      (hs : ∀ (i : Nat) (p : PV), es[i]? = some p → p.cells.length = s)
      (ha : ∀ (i : Nat) (p : PV) (j : Nat) (q : PV), es[i]? = some p → p.cells[j]? = some q → ∃ b o, a = some ⟨b, o, none⟩ ∧ S b ∧ w.cell? ⟨b, o + (i * s + j), none⟩ = some (f i j))
      (hr : ∀ (i : Nat) (p : PV) (j : Nat) (q : PV), es[i]? = some p → p.cells[j]? = some q → Rep S w q (f i j)) : Rep S w (.sl full es) (.slice a es.length cap)
  | ip {cs : List PV} {off b o : Nat} (f : Nat → Value) (hS : S b) (hc : ∀ (j : Nat) (q : PV), cs[j]? = some q → w.cell? ⟨b, o + j, none⟩ = some (f j))
      (hr : ∀ (j : Nat) (q : PV), cs[j]? = some q → Rep S w q (f j)) : Rep S w (.ip cs off) (.pointer (some ⟨b, o + off, none⟩))
  | agg {cs : List PV} {vs : List Value} (hl : cs.length = vs.length) (hr : ∀ (j : Nat) (q : PV) (v : Value), cs[j]? = some q → vs[j]? = some v → Rep S w q v) : Rep S w (.agg cs) (.agg vs.toArray)
  | tuple {cs : List PV} {vs : List Value} (hl : cs.length = vs.length) (hr : ∀ (j : Nat) (q : PV) (v : Value), cs[j]? = some q → vs[j]? = some v → Rep S w q v) : Rep S w (.tuple cs) (.tuple vs.toArray)
  | fn {f : Fn} {as cs : List PV} {vs us : List Value} (hl : as.length = vs.length) (hr : ∀ (j : Nat) (q : PV) (v : Value), as[j]? = some q → vs[j]? = some v → Rep S w q v)
      (hl' : cs.length = us.length) (hr' : ∀ (j : Nat) (q : PV) (v : Value), cs[j]? = some q → us[j]? = some v → Rep S w q v) : Rep S w (.fn f as cs) (.func f vs.toArray us.toArray)
  | map {es : List (Value × PV)} {b : Nat} {ents : Array MapEntry} {clk : Nat} (hS : S b) (hb : w.heap[b]? = some (.map ents clk)) (hl : ents.size = es.length)
      (hk : ∀ (i : Nat) (e : Value × PV) (m : MapEntry), es[i]? = some e → ents[i]? = some m → m.key = e.1) (hr : ∀ (i : Nat) (e : Value × PV) (m : MapEntry), es[i]? = some e → ents[i]? = some m → Rep S w e.2 m.val) : Rep S w (.map es) (.map (some b))
  | iface {t : TypeId} {p : PV} {v : Value} (h : Rep S w p v) : Rep S w (.iface t p) (.iface t v)

theorem Rep.mono {S S' : Nat → Prop} {w w' : World} (hS : ∀ b, S b → S' b) (hm : ∀ b, S b → w'.heap[b]? = w.heap[b]?) {p : PV} {v : Value} (h : Rep S w p v) : Rep S' w' p v := by
  induction h with
  | lit h => exact .lit h
  | sl s f hn hc hf hs ha hr ih =>
    refine .sl s f hn hc hf hs (fun i p j q h1 h2 => ?_) ih
    obtain ⟨b, o, e, hb, hcell⟩ := ha i p j q h1 h2
    exact ⟨b, o, e, hS b hb, by rw [World.cell?_of_block (w := w) (hm b hb)]; exact hcell⟩
  | ip f hb hc hr ih => exact .ip f (hS _ hb) (fun j q h => by rw [World.cell?_of_block (w := w) (hm _ hb)]; exact hc j q h) ih
  | agg hl hr ih => exact .agg hl ih
  | tuple hl hr ih => exact .tuple hl ih
  | fn hl hr hl' hr' ih ih' => exact .fn hl ih hl' ih'
  | map hb hh hl hk hr ih => exact .map (hS _ hb) (by rw [hm _ hb]; exact hh) hl hk ih
  | iface h ih => exact .iface ih

/-- Where a name's memory lies. -/
inductive KS where
  | stale
  | nil
  | box (b : Nat)
  | row (b cap s n : Nat)
  | map (b : Nat)
  | loop (l : Nat) (tmps : Array Value) (ps : List Nat) (assign body : Code)

noncomputable def owns : Option KS → Nat → Prop
  | some (.box b), x => b = x
  | some (.row b _ _ _), x => b = x
  | some (.map b), x => b = x
  | some (.loop l _ _ _ _), x => l = x
  | _, _ => False

noncomputable def MsRep : Option KS → Nat → Nat → Bool → Value → Prop
  | some .stale, _, len, _, v => ∃ a c, v = .slice a len c ∧ len ≤ c ∧ (c = 0 ∨ ∃ b o, a = some ⟨b, o, none⟩)
  | some .nil, off, len, _, v => off = 0 ∧ len = 0 ∧ ∃ a, v = .slice a 0 0
  | some (.row b cap s n), off, len, own, v => ∃ a c, v = .slice a len c ∧ len ≤ c ∧ (c = 0 ∨ a = some ⟨b, off * s, none⟩) ∧ (own = true → off = 0 ∧ len = n ∧ c = cap ∧ a = some ⟨b, 0, none⟩)
  | _, _, _, _, _ => False
noncomputable def RpRep : Option KS → Nat → Nat → Value → Prop
  | some .stale, _, _, v => ∃ b o, v = .pointer (some ⟨b, o, none⟩)
  | some (.row b _ s _), i, off, v => v = .pointer (some ⟨b, i * s + off, none⟩)
  | _, _, _, _ => False
noncomputable def BpRep : Option KS → Nat → Value → Prop
  | some .stale, _, v => ∃ b o, v = .pointer (some ⟨b, o, none⟩)
  | some (.box b), off, v => v = .pointer (some ⟨b, off, none⟩)
  | _, _, _ => False
noncomputable def MmRep : Option KS → Value → Prop
  | some .stale, v => ∃ r, v = .map r
  | some (.map b), v => v = .map (some b)
  | _, _ => False

noncomputable def YlRep : Option KS → Value → Prop
  | some .stale, v => ∃ l, v = .func (.yield l) #[] #[]
  | some (.loop l _ _ _ _), v => v = .func (.yield l) #[] #[]
  | _, _ => False

inductive RepA (μ : Nat → Option KS) (S : Nat → Prop) (w : World) : AV → Value → Prop
  | bot (v : Value) : RepA μ S w .bot v
  | pv {p : PV} {v : Value} (h : Rep S w p v) : RepA μ S w (.pv p) v
  | ms {k off len : Nat} {own : Bool} {v : Value} (h : MsRep (μ k) off len own v) : RepA μ S w (.ms k off len own) v
  | rp {k i off : Nat} {v : Value} (h : RpRep (μ k) i off v) : RepA μ S w (.rp k i off) v
  | bp {k off : Nat} {v : Value} (h : BpRep (μ k) off v) : RepA μ S w (.bp k off) v
  | mm {k : Nat} {v : Value} (h : MmRep (μ k) v) : RepA μ S w (.mm k) v
  | agg {cs : List AV} {vs : List Value} (hl : cs.length = vs.length) (hr : ∀ (j : Nat) (q : AV) (v : Value), cs[j]? = some q → vs[j]? = some v → RepA μ S w q v) : RepA μ S w (.agg cs) (.agg vs.toArray)
  | tuple {cs : List AV} {vs : List Value} (hl : cs.length = vs.length) (hr : ∀ (j : Nat) (q : AV) (v : Value), cs[j]? = some q → vs[j]? = some v → RepA μ S w q v) : RepA μ S w (.tuple cs) (.tuple vs.toArray)
  | fn {f : Fn} {as cs : List AV} {vs us : List Value} (hl : as.length = vs.length) (hr : ∀ (j : Nat) (q : AV) (v : Value), as[j]? = some q → vs[j]? = some v → RepA μ S w q v)
      (hl' : cs.length = us.length) (hr' : ∀ (j : Nat) (q : AV) (v : Value), cs[j]? = some q → us[j]? = some v → RepA μ S w q v) : RepA μ S w (.fn f as cs) (.func f vs.toArray us.toArray)
  | nilq {neg b : Bool} {es : List PV} (h : b = !neg → ∀ p ∈ es, p.cells = []) : RepA μ S w (.nilq neg es) (.bool b)
  | yl {k : Nat} {v : Value} (h : YlRep (μ k) v) : RepA μ S w (.yl k) v
  | gp {g off : Nat} : RepA μ S w (.gp g off) (.pointer (some ⟨g, off, none⟩))

/-- Names stay where they are, or go. -/
noncomputable def KeysOk (μ μ' : Nat → Option KS) : Prop := ∀ k m, μ k = some m → μ' k = some m ∨ μ' k = some .stale

theorem KeysOk.refl (μ : Nat → Option KS) : KeysOk μ μ := fun _ _ h => .inl h
theorem KeysOk.trans {a b c : Nat → Option KS} (h : KeysOk a b) (h' : KeysOk b c) : KeysOk a c := fun k m hk => by
  rcases h k m hk with e | e
  · exact h' k m e
  · rcases h' k _ e with e' | e' <;> exact .inr e'

theorem MsRep.stale {m : Option KS} {off len : Nat} {own : Bool} {v : Value} (h : MsRep m off len own v) : MsRep (some .stale) off len own v := by
  rcases m with _ | m
  · exact h.elim
  · cases m with
    | stale => exact h
    | nil => obtain ⟨_, rfl, a, rfl⟩ := h; exact ⟨_, _, rfl, Nat.le_refl _, .inl rfl⟩
    | row b cap s n => obtain ⟨a, c, rfl, h1, h2, _⟩ := h; exact ⟨_, _, rfl, h1, h2.imp id fun h => ⟨_, _, h⟩⟩
    | _ => exact h.elim
theorem RpRep.stale {m : Option KS} {i off : Nat} {v : Value} (h : RpRep m i off v) : RpRep (some .stale) i off v := by
  rcases m with _ | m
  · exact h.elim
  · cases m with
    | stale => exact h
    | row b cap s n => exact ⟨_, _, h⟩
    | _ => exact h.elim
theorem BpRep.stale {m : Option KS} {off : Nat} {v : Value} (h : BpRep m off v) : BpRep (some .stale) off v := by
  rcases m with _ | m
  · exact h.elim
  · cases m with
    | stale => exact h
    | box b => exact ⟨_, _, h⟩
    | _ => exact h.elim
theorem MmRep.stale {m : Option KS} {v : Value} (h : MmRep m v) : MmRep (some .stale) v := by
  rcases m with _ | m
  · exact h.elim
  · cases m with
    | stale => exact h
    | map b => exact ⟨_, h⟩
    | _ => exact h.elim

theorem YlRep.stale {m : Option KS} {v : Value} (h : YlRep m v) : YlRep (some .stale) v := by
  rcases m with _ | m
  · exact h.elim
  · cases m with
    | stale => exact h
    | loop l => exact ⟨_, h⟩
    | _ => exact h.elim

theorem RepA.mono {μ μ' : Nat → Option KS} {S S' : Nat → Prop} {w w' : World} (hk : KeysOk μ μ') (hS : ∀ b, S b → S' b) (hm : ∀ b, S b → w'.heap[b]? = w.heap[b]?) {x : AV} {v : Value} (h : RepA μ S w x v) : RepA μ' S' w' x v := by
  induction h with
  | bot v => exact .bot v
  | pv h => exact .pv (h.mono hS hm)
  | @ms k off len own v h =>
    refine .ms ?_
    cases e : μ k with
    | none => rw [e] at h; exact h.elim
    | some m => rcases hk k m e with e' | e' <;> rw [e']
                · rw [e] at h; exact h
                · exact h.stale
  | @rp k i off v h =>
    refine .rp ?_
    cases e : μ k with
    | none => rw [e] at h; exact h.elim
    | some m => rcases hk k m e with e' | e' <;> rw [e']
                · rw [e] at h; exact h
                · exact h.stale
  | @bp k off v h =>
    refine .bp ?_
    cases e : μ k with
    | none => rw [e] at h; exact h.elim
    | some m => rcases hk k m e with e' | e' <;> rw [e']
                · rw [e] at h; exact h
                · exact h.stale
  | @mm k v h =>
    refine .mm ?_
    cases e : μ k with
    | none => rw [e] at h; exact h.elim
    | some m => rcases hk k m e with e' | e' <;> rw [e']
                · rw [e] at h; exact h
                · exact h.stale
  | agg hl _ ih => exact .agg hl ih
  | tuple hl _ ih => exact .tuple hl ih
  | fn hl _ hl' _ ih ih' => exact .fn hl ih hl' ih'
  | nilq h => exact .nilq h
  | gp => exact .gp
  | @yl k v h =>
    refine .yl ?_
    cases e : μ k with
    | none => rw [e] at h; exact h.elim
    | some m => rcases hk k m e with e' | e' <;> rw [e']
                · rw [e] at h; exact h
                · exact h.stale

noncomputable def BlkRep (μ : Nat → Option KS) (S : Nat → Prop) (w : World) (k : Nat) : Blk → Prop
  | .stale => μ k = some .stale
  | .box live cs => ∃ b cur e, μ k = some (.box b) ∧ (S b ↔ live = false) ∧ w.heap[b]? = some (.cells cur e (0, 0)) ∧ cur.size = cs.length ∧ ∀ (j : Nat) (x : AV) (v : Value), cs[j]? = some x → cur[j]? = some v → RepA μ S w x v
  | .row live e s es => (es = [] ∧ μ k = some .nil) ∨ ∃ b cap cur, μ k = some (.row b cap s es.length) ∧ (S b ↔ live = false) ∧ w.heap[b]? = some (.cells cur e (0, 0)) ∧ es.length ≤ cap ∧ cap ≤ maxLen ∧ cur.size = cap * s ∧
      ∀ (i : Nat) (p : PV), es[i]? = some p → p.cells.length = s ∧ ∀ (j : Nat) (q : PV) (v : Value), p.cells[j]? = some q → cur[i * s + j]? = some v → Rep S w q v
  | .map live es => ∃ b ents clk, μ k = some (.map b) ∧ (S b ↔ live = false) ∧ w.heap[b]? = some (.map ents clk) ∧ ents.size = es.length ∧
      ∀ (i : Nat) (e : Value × PV) (m : MapEntry), es[i]? = some e → ents[i]? = some m → m.key = e.1 ∧ Rep S w e.2 m.val
  | .fmap live es => ∃ b ents clk, μ k = some (.map b) ∧ (S b ↔ live = false) ∧ w.heap[b]? = some (.map ents clk) ∧ ents.size = es.length ∧
      ∀ (i : Nat) (e : Value × AV) (m : MapEntry), es[i]? = some e → ents[i]? = some m → m.key = e.1 ∧ RepA μ S w e.2 m.val
  | .it live s pos => ∃ b, μ k = some (.box b) ∧ (S b ↔ live = false) ∧ w.heap[b]? = some (.stringIter s pos)
  | .lp live busy pend => ∃ l tmps ps assign body rec, μ k = some (.loop l tmps ps assign body) ∧ (S l ↔ live = false) ∧ w.heap[l]? = some (.loop rec) ∧ rec.state = (if busy then .busy else if pend.isNone then .ready else .done) ∧ rec.pending = pend ∧ rec.params.toList = ps ∧ rec.assign = assign ∧ rec.body = body ∧ rec.tmps = tmps
  | .gl g cs => μ k = some .stale ∧ Rep S w (.ip cs 0) (.pointer (some ⟨g, 0, none⟩))

structure StoRep (μ : Nat → Option KS) (S : Nat → Prop) (w : World) (σ : Store) : Prop where
  blk : ∀ k b, lk σ k = some b → BlkRep μ S w k b
  dom : ∀ k, lk σ k = none → μ k = none
  inj : ∀ k k' b, owns (μ k) b → owns (μ k') b → k = k'
  lt : ∀ k b, owns (μ k) b → b < w.heap.size
  slt : ∀ b, S b → b < w.heap.size

theorem own_whole {μ : Nat → Option KS} {S : Nat → Prop} {w : World} {σ : Store} (hσ : StoRep μ S w σ) {k off len e s : Nat} {live : Bool} {es : List PV} {v : Value} (hk : lk σ k = some (.row live e s es)) (hm : MsRep (μ k) off len true v) : off = 0 ∧ len = es.length := by
  rcases hσ.blk k _ hk with ⟨h1, h2⟩ | ⟨b, cap, cur, hμ, _⟩
  · rw [h2] at hm
    obtain ⟨rfl, rfl, _⟩ := hm
    rw [h1]; exact ⟨rfl, rfl⟩
  · rw [hμ] at hm
    obtain ⟨_, _, _, _, _, h⟩ := hm
    exact ⟨(h rfl).1, (h rfl).2.1⟩
/-- A whole row, and a piece of one, alike. -/
theorem own_piece {μ : Nat → Option KS} {S : Nat → Prop} {w : World} {σ : Store} (hσ : StoRep μ S w σ) {k off len e s : Nat} {live own : Bool} {es : List PV} {v : Value} {α : Type} {f : List PV → α} {x : α} (hk : lk σ k = some (.row live e s es)) (hm : MsRep (μ k) off len own v)
    (h : (if own then some (f es) else if off + len ≤ es.length then some (f ((es.drop off).take len)) else none) = some x) : off + len ≤ es.length ∧ f ((es.drop off).take len) = x := by
  cases own with
  | true =>
    obtain ⟨rfl, rfl⟩ := own_whole hσ hk hm
    simp at h
    exact ⟨by omega, by simpa using h⟩
  | false =>
    simp only [Bool.false_eq_true, if_false] at h
    split at h
    · rename_i hle; exact ⟨hle, Option.some.inj h⟩
    · cases h

/-- What a step may do: stable memory stays; of the rest only one's own, and what is new, turns. -/
structure Ext (μ : Nat → Option KS) (S : Nat → Prop) (w : World) (μ' : Nat → Option KS) (S' : Nat → Prop) (w' : World) : Prop where
  keys : KeysOk μ μ'
  st : ∀ b, S b → S' b
  mem : ∀ b, S b → w'.heap[b]? = w.heap[b]?
  frame : ∀ b, b < w.heap.size → (∀ k, ¬ owns (μ k) b) → w'.heap[b]? = w.heap[b]?
  own' : ∀ k b, owns (μ' k) b → (∃ j, owns (μ j) b) ∨ w.heap.size ≤ b
  st' : ∀ b, S' b → S b ∨ (∃ j, owns (μ j) b) ∨ w.heap.size ≤ b
  size : w.heap.size ≤ w'.heap.size
  os : w'.os = w.os
  tape : w'.tape = w.tape
  output : w'.output = w.output

theorem Ext.refl (μ : Nat → Option KS) (S : Nat → Prop) (w : World) : Ext μ S w μ S w :=
  ⟨KeysOk.refl μ, fun _ h => h, fun _ _ => rfl, fun _ _ _ => rfl, fun k _ h => .inl ⟨k, h⟩, fun _ h => .inl h, Nat.le_refl _, rfl, rfl, rfl⟩

theorem Ext.trans {μ μ' μ'' : Nat → Option KS} {S S' S'' : Nat → Prop} {w w' w'' : World} (h : Ext μ S w μ' S' w') (h' : Ext μ' S' w' μ'' S'' w'') : Ext μ S w μ'' S'' w'' where
  keys := h.keys.trans h'.keys
  st b hb := h'.st b (h.st b hb)
  mem b hb := (h'.mem b (h.st b hb)).trans (h.mem b hb)
  frame b hb hn := by
    refine (h'.frame b (Nat.lt_of_lt_of_le hb h.size) fun k hk => ?_).trans (h.frame b hb hn)
    rcases h.own' k b hk with ⟨j, hj⟩ | hj
    · exact hn j hj
    · omega
  own' k b hk := by
    rcases h'.own' k b hk with ⟨j, hj⟩ | hj
    · exact h.own' j b hj
    · exact .inr (Nat.le_trans h.size hj)
  st' b hb := by
    rcases h'.st' b hb with hb | ⟨j, hj⟩ | hb
    · exact h.st' b hb
    · exact .inr (h.own' j b hj)
    · exact .inr (.inr (Nat.le_trans h.size hb))
  size := Nat.le_trans h.size h'.size
  os := h'.os.trans h.os
  tape := h'.tape.trans h.tape
  output := h'.output.trans h.output

theorem Ext.drew (μ : Nat → Option KS) (S : Nat → Prop) (w : World) : Ext μ S w μ S w.drew :=
  ⟨KeysOk.refl μ, fun _ h => h, fun _ _ => rfl, fun _ _ _ => rfl, fun k _ h => .inl ⟨k, h⟩, fun _ h => .inl h, Nat.le_refl _, rfl, rfl, rfl⟩

/-! ### Rows by number -/
section
variable {α : Type}
theorem lk_ins (k j : Nat) (x : α) : ∀ l : List (Nat × α), lk (ins k x l) j = if k = j then some x else lk l j
  | [] => by rw [ins_nil, lk_cons, lk_nil]
  | (i, y) :: r => by
    rw [ins_cons]
    split
    · rw [lk_cons]
    · split
      · subst_vars; rw [lk_cons, lk_cons]; split <;> simp_all
      · rw [lk_cons, lk_cons, lk_ins k j x r]
        split
        · subst_vars; split <;> simp_all
        · rfl
theorem ins_comm {k j : Nat} (h : k ≠ j) (x y : α) : ∀ l : List (Nat × α), ins k x (ins j y l) = ins j y (ins k x l)
  | [] => by
    rw [ins_nil, ins_nil, ins_cons, ins_cons, ins_nil, ins_nil]
    rcases Nat.lt_or_gt_of_ne h with h1 | h1
    · simp [h1, show ¬ j < k by omega, show ¬ k = j by omega]
    · simp [h1, show ¬ k < j by omega, show ¬ j = k by omega]
  | (i, z) :: r => by
    have ih := ins_comm h x y r
    simp only [ins_cons]
    repeat' split
    all_goals simp only [ins_cons]
    all_goals repeat' split
    all_goals first | omega | (subst_vars; omega) | (simp_all; done) | (subst_vars; simp_all; done)
end
end Go.Mir
