/- Contracts of calls; operations with answers, in whatever order (definitions and lemmas; conditions: what they say). -/
import Derived.Sort.OwnSortedInts
import Derived.Test.YthcmkipbdgndoaaGreatDoorNx15
set_option linter.all false
set_option linter.unusedVariables false
set_option linter.unusedSimpArgs false
set_option linter.unnecessarySimpa false
namespace Go.Mir
open Go Go.RowKit
variable {P : Program} {σ σ' : Store}

/-- What package variables hold that never change, by number. -/
class Globs (P : Program) where
  tab : List (Nat × List PV)
/-- They hold it. -/
noncomputable def GlobOk (P : Program) [Globs P] (S : Nat → Prop) (w : World) : Prop := ∀ x ∈ Globs.tab P, Rep S w (.ip x.2 0) (.pointer (some ⟨x.1, 0, none⟩))
theorem GlobOk.mono [Globs P] {S S' : Nat → Prop} {w w' : World} (hS : ∀ b, S b → S' b) (hm : ∀ b, S b → w'.heap[b]? = w.heap[b]?) (h : GlobOk P S w) : GlobOk P S' w' := fun x hx => (h x hx).mono hS hm
/-- .. as blocks with names. -/
noncomputable def globS (P : Program) [Globs P] : Store := (Globs.tab P).map fun x => (gk x.1, .gl x.1 x.2)
variable [Globs P]

/-- Memory grew: what was, stays. -/
structure Grown (S : Nat → Prop) (w : World) (S' : Nat → Prop) (w' : World) : Prop where
  st : ∀ b, S b → S' b
  st' : ∀ b, S' b → S b ∨ w.heap.size ≤ b
  slt : ∀ b, S' b → b < w'.heap.size
  mem : ∀ b, b < w.heap.size → w'.heap[b]? = w.heap[b]?
  size : w.heap.size ≤ w'.heap.size
  os : w'.os = w.os
  tape : w'.tape = w.tape
  output : w'.output = w.output

noncomputable def resVal (vs : List Value) : Value := if h : vs.toArray.size = 1 then vs.toArray[0] else .tuple vs.toArray

/-- What a call gives, of arguments that stand. -/
noncomputable def CtP (P : Program) [Globs P] (g : Nat) (ps : List PV) (Φ : List RV → Prop) : Prop := ∀ (S : Nat → Prop) (w : World) (vs : List Value), (∀ b, S b → b < w.heap.size) → GlobOk P S w → PW (Rep S w) ps vs →
  Calls P g vs.toArray w (fun e w' => ∃ S' rs us bs, Φ rs ∧ e = .returned (resVal us) ∧ RVs S' w' rs us bs ∧ Grown S w S' w' ∧ ∀ b ∈ bs, ¬ S' b ∧ w.heap.size ≤ b ∧ b < w'.heap.size) ∧ (callFunc g vs.toArray).run P w = .ok (.enter g vs.toArray) w
/-- A contract: these arguments, these results. -/
noncomputable def Ct (P : Program) [Globs P] (g : Nat) (ps : List PV) (rs : List RV) : Prop := CtP P g ps (fun r => RvsLe r rs)

theorem CtP.mono {g : Nat} {ps : List PV} {Φ Ψ : List RV → Prop} (h : CtP P g ps Φ) (hΦ : ∀ r, Φ r → Ψ r) : CtP P g ps Ψ := fun S w vs hS hg ha => by
  obtain ⟨h1, h2⟩ := h S w vs hS hg ha
  exact ⟨h1.mono fun e w' ⟨S', rs, us, bs, k, r⟩ => ⟨S', rs, us, bs, hΦ rs k, r⟩, h2⟩
theorem CtP.args {g : Nat} {ps qs : List PV} {Φ : List RV → Prop} (h : CtP P g qs Φ) (hl : PVsLe ps qs) : CtP P g ps Φ := fun S w vs hS hg ha => h S w vs hS hg ⟨by rw [← hl.1]; exact ha.1, fun j q v hq hv => by
  obtain ⟨p, hp, hpq⟩ := pw_get hl.1 hl.2 hq
  exact (ha.2 j p v hp hv).weaken hpq⟩
theorem Ct.args {g : Nat} {ps qs : List PV} {rs : List RV} (h : Ct P g qs rs) (hl : PVsLe ps qs) : Ct P g ps rs := CtP.args h hl

/-- Arguments of a call that may write into some: a value, or the address of the i-th box. -/
inductive BA where
  | p (x : PV)
  | b (i : Nat)
noncomputable def BArg (S : Nat → Prop) (w : World) (bl : List Nat) : BA → Value → Prop
  | .p x, v => Rep S w x v
  | .b i, v => ∃ b, bl[i]? = some b ∧ v = .pointer (some ⟨b, 0, none⟩)
/-- What a box that is lent holds. -/
noncomputable def BoxAt (S : Nat → Prop) (w : World) (b : Nat) (cs : List PV) : Prop :=
  ∃ cur e, w.heap[b]? = some (.cells cur e (0, 0)) ∧ cur.size = cs.length ∧ ∀ (j : Nat) (x : PV) (v : Value), cs[j]? = some x → cur[j]? = some v → Rep S w x v
structure GrownB (bl : List Nat) (S : Nat → Prop) (w : World) (S' : Nat → Prop) (w' : World) : Prop where
  st : ∀ b, S b → S' b
  st' : ∀ b, S' b → S b ∨ w.heap.size ≤ b
  slt : ∀ b, S' b → b < w'.heap.size
  mem : ∀ b, b < w.heap.size → b ∉ bl → w'.heap[b]? = w.heap[b]?
  size : w.heap.size ≤ w'.heap.size
  os : w'.os = w.os
  tape : w'.tape = w.tape
  output : w'.output = w.output
/-- What a call gives, of arguments that stand and of boxes that are lent to it, and what it leaves in these. -/
noncomputable def CtB (P : Program) [Globs P] (g : Nat) (as : List BA) (bs : List (List PV)) (Φ : List RV → List (List PV) → Prop) : Prop := ∀ (S : Nat → Prop) (w : World) (vs : List Value) (bl : List Nat), (∀ b, S b → b < w.heap.size) → GlobOk P S w → bl.length = bs.length → (∀ b ∈ bl, ¬ S b ∧ b < w.heap.size) → bl.Nodup →
  (∀ (i b : Nat) (cs : List PV), bl[i]? = some b → bs[i]? = some cs → BoxAt S w b cs) → PW (BArg S w bl) as vs →
  Calls P g vs.toArray w (fun e w' => ∃ S' rs us nb cs', Φ rs cs' ∧ e = .returned (resVal us) ∧ RVs S' w' rs us nb ∧ GrownB bl S w S' w' ∧ (∀ b ∈ nb, ¬ S' b ∧ w.heap.size ≤ b ∧ b < w'.heap.size) ∧ cs'.length = bs.length ∧ (∀ (i b : Nat) (cs : List PV), bl[i]? = some b → cs'[i]? = some cs → BoxAt S' w' b cs)) ∧
  (callFunc g vs.toArray).run P w = .ok (.enter g vs.toArray) w
theorem CtB.mono {g : Nat} {as : List BA} {bs : List (List PV)} {Φ Ψ : List RV → List (List PV) → Prop} (h : CtB P g as bs Φ) (hΦ : ∀ r c, Φ r c → Ψ r c) : CtB P g as bs Ψ := fun S w vs bl h1 h0 h2 h3 h4 h5 h6 => by
  obtain ⟨k1, k2⟩ := h S w vs bl h1 h0 h2 h3 h4 h5 h6
  exact ⟨k1.mono fun e w' ⟨S', rs, us, nb, cs', k, r⟩ => ⟨S', rs, us, nb, cs', hΦ rs cs' k, r⟩, k2⟩
/-- .. one result, and one content, told with less. -/
noncomputable def PVssLe (as bs : List (List PV)) : Prop := as.length = bs.length ∧ ∀ (i : Nat) (x y : List PV), as[i]? = some x → bs[i]? = some y → PVsLe x y
noncomputable def Cb (P : Program) [Globs P] (g : Nat) (as : List BA) (bs : List (List PV)) (rs : List RV) (cs : List (List PV)) : Prop := CtB P g as bs fun r c => RvsLe r rs ∧ PVssLe c cs

/-- A row of numbers of one's own, sorted in place. -/
noncomputable def SrtOk (P : Program) [Globs P] (g : Nat) : Prop :=
  (∀ (blk cap : Nat) (zs : List Int) (w : World), Sort.Holds (Value.int .i64) w blk 0 zs.toArray → blk < w.heap.size → zs.length < 4611686018427387904 →
    Calls P g #[.slice (some ⟨blk, 0, none⟩) zs.length cap] w fun e w' => e = .returned (.tuple #[]) ∧ ∃ n os, w' = Sort.grow (Sort.putRow (Value.int .i64) (Sort.ahead w n) blk 0 (zs.mergeSort fun x y => decide (x ≤ y)).toArray) os) ∧
  (∀ (vs : Array Value) (w : World), vs.size = 1 → (callFunc g vs).run P w = .ok (.enter g vs) w) ∧ Ct P g [.sl true []] []
noncomputable def intE (n : Int) : PV := .lit (.int .i64 n)
noncomputable def intsOf : List PV → Option (List Int)
  | [] => some []
  | .lit (.int .i64 n) :: r => match intsOf r with
    | some ns => some (n :: ns)
    | none => none
  | _ => none
theorem intsOf_map (zs : List Int) : intsOf (zs.map intE) = some zs := by
  induction zs with
  | nil => rfl
  | cons z r ih => simp only [List.map_cons, intE, intsOf]; simp only [ih]
theorem intsOf_spec : ∀ {es : List PV} {zs : List Int}, intsOf es = some zs → es = zs.map intE
  | [], zs, h => by cases h; rfl
  | p :: r, zs, h => by
    unfold intsOf at h
    split at h
    · rename_i heq; cases heq
    · rename_i n r' heq
      cases heq
      split at h
      · rename_i ns hns
        cases h
        rw [intsOf_spec hns]
        rfl
      · cases h
    · cases h
/-- How calls are answered, and values told with less. bset: names of boxes that are lent. -/
structure Orc where
  cal : Nat → List PV → Option (List RV)
  wk : AV → AV
  bset : List Nat
  calB : Nat → List BA → List (List PV) → Option (List RV × List (List PV))
  frz : Bool
  srt : Nat → Bool
  trn : Bool
structure Orc.Ok (P : Program) [Globs P] (q : Orc) : Prop where
  cal : ∀ g ps rs, q.cal g ps = some rs → Ct P g ps rs
  wk : ∀ x, AvLe x (q.wk x)
  calB : ∀ g as bs rs cs, q.calB g as bs = some (rs, cs) → Cb P g as bs rs cs
  srt : ∀ g, q.srt g = true → SrtOk P g

noncomputable def pureA (q : Orc) (g : Nat) (args : List AV) (k : Nat) (σ : Store) : Option Eff := match mapR (resolve σ deep) args with
  | some (ps, ks) => match q.cal g ps with
    | some rs => callE k σ ks rs
    | none => none
  | none => none
/-- Arguments, with the boxes that are lent: these are counted from n. -/
noncomputable def lend (σ : Store) (bset : List Nat) : Nat → List AV → Option (List BA × List Nat × List Nat)
  | _, [] => some ([], [], [])
  | n, x :: r => match (match x with
      | .bp k 0 => if bset.contains k then some k else none
      | _ => none) with
    | some k => match lend σ bset (n + 1) r with
      | some (as, keys, ks) => some (.b n :: as, k :: keys, ks)
      | none => none
    | none => match resolve σ deep x, lend σ bset n r with
      | some (p, ks), some (as, keys, ks') => some (.p p :: as, keys, ks ++ ks')
      | _, _ => none
noncomputable def lentCells (σ : Store) : List Nat → Option (List (List PV) × List Nat)
  | [] => some ([], [])
  | k :: r => match lk σ k with
    | some (.box true cs) => match mapR (resolve σ deep) cs, lentCells σ r with
      | some (ps, ks), some (pss, ks') => some (ps :: pss, ks ++ ks')
      | _, _ => none
    | _ => none
noncomputable def nodupB : List Nat → Bool
  | [] => true
  | k :: r => !r.contains k && nodupB r
noncomputable def lentBack : List Nat → List (List PV) → List (Nat × Blk)
  | k :: ks, c :: cs => (k, .box true (c.map .pv)) :: lentBack ks cs
  | _, _ => []
noncomputable def lentE (k : Nat) (σ : Store) (keys ks : List Nat) (rs : List RV) (cs : List (List PV)) : Option Eff := match giveBack k σ rs with
  | some (xs, m) => some ⟨single xs, freezeE σ ks ++ (lentBack keys cs ++ m), keysFrom k rs.length ++ (keys ++ ks)⟩
  | none => none
noncomputable def pureB (q : Orc) (g : Nat) (args : List AV) (k : Nat) (σ : Store) : Option Eff := match lend σ q.bset 0 args with
  | some (as, keys, ks) => match lentCells σ keys with
    | some (bs, ks') => if (nodupB keys && keys.all (fun k => !(ks ++ ks').contains k)) = true then match q.calB g as bs with
        | some (rs, cs) => if cs.length = keys.length then lentE k σ keys (ks ++ ks') rs cs else none
        | none => none
      else none
    | none => none
  | none => none
noncomputable def pureS (args : List AV) (σ : Store) : Option Eff := match args with
  | [.ms r _ _ true] => match lk σ r with
    | some (.row true e 1 es) => match intsOf es with
      | some zs => if zs.length < 4611686018427387904 then some ⟨.pv (.tuple []), [(r, .row true e 1 ((zs.mergeSort fun x y => decide (x ≤ y)).map intE))], [r]⟩ else none
      | none => none
    | _ => none
  | _ => none
noncomputable def effA (q : Orc) (k : Nat) (σ : Store) : Prep → Option Eff
  | .eff e => some e
  | .call g args => if q.srt g then pureS args σ else if q.bset.isEmpty then pureA q g args k σ else pureB q g args k σ
/-- What an operation of a region does, in a state. -/
noncomputable def opA (P : Program) (q : Orc) (all : List Oper) (o : Oper) (s : St) : Option Eff := match wantedA all s.env o with
  | some false => some ⟨.pv (.tuple []), [], []⟩
  | some true => match prepZ P q.trn (evE s.env) s.sto (keyOf s.clk o.dst) o with
    | some p => match effA q (keyOf s.clk o.dst) s.sto p with
      | some e => match frzE (q.frz && isSl o) s.sto e with
        | some e => some ⟨q.wk e.val, e.mem, e.reads⟩
        | none => none
      | none => none
    | none => none
  | none => none
theorem frzE_false {b : Bool} {e : Eff} (hb : b = false) : frzE b σ e = some e := by subst hb; rfl
theorem lk_applyMem {m : List (Nat × Blk)} : ∀ {σ : Store} {k : Nat}, k ∉ keysOf m → lk (applyMem σ m) k = lk σ k := by
  induction m with
  | nil => intro σ k _; rfl
  | cons x r ih =>
    obtain ⟨j, b⟩ := x
    intro σ k h
    simp only [keysOf, List.map_cons, List.mem_cons, not_or] at h
    simp only [applyMem]
    rw [ih (by exact h.2), lk_ins, if_neg (Ne.symm h.1)]

theorem ins_applyMem {m : List (Nat × Blk)} {k : Nat} {x : Blk} : ∀ {σ : Store}, k ∉ keysOf m → applyMem (ins k x σ) m = ins k x (applyMem σ m) := by
  induction m with
  | nil => intro σ _; rfl
  | cons y r ih =>
    obtain ⟨j, b⟩ := y
    intro σ h
    simp only [keysOf, List.map_cons, List.mem_cons, not_or] at h
    simp only [applyMem]
    rw [ins_comm (Ne.symm h.1), ih (by exact h.2)]

theorem applyMem_comm {a b : List (Nat × Blk)} (h : ∀ k ∈ keysOf b, k ∉ keysOf a) : ∀ σ : Store, applyMem (applyMem σ a) b = applyMem (applyMem σ b) a := by
  induction b with
  | nil => intro σ; rfl
  | cons x r ih =>
    obtain ⟨j, y⟩ := x
    intro σ
    simp only [applyMem]
    rw [← ins_applyMem (h j (by simp [keysOf])), ih (fun k hk => h k (by simp only [keysOf, List.map_cons, List.mem_cons] at hk ⊢; exact .inr hk))]

theorem giveBack_congr' : ∀ (rs : List RV) (k : Nat) {σ σ' : Store}, (∀ j ∈ keysFrom k rs.length, lk σ' j = lk σ j) → giveBack k σ' rs = giveBack k σ rs
  | [], k, σ, σ', _ => rfl
  | .pv p :: r, k, σ, σ', h => by simp only [giveBack, giveBack_congr' r (k + 1) (σ := σ) (σ' := σ') (fun j hj => h j (by simp only [List.length_cons, keysFrom]; exact List.mem_cons_of_mem _ hj))]
  | .fresh e s es :: r, k, σ, σ', h => by
    simp only [giveBack, giveBack_congr' r (k + 1) (σ := σ) (σ' := σ') (fun j hj => h j (by simp only [List.length_cons, keysFrom]; exact List.mem_cons_of_mem _ hj)), h k (by simp [keysFrom])]

theorem callE_det {k : Nat} {ks : List Nat} {rs : List RV} {e : Eff} (h : callE k σ ks rs = some e) (hl : Agree σ σ' e.reads) : callE k σ' ks rs = some e := by
  unfold callE at h ⊢
  split at h
  · rename_i xs m hg
    cases h
    rw [giveBack_congr' rs k (fun j hj => hl j (List.mem_append_left _ hj)), hg]
    simp only
    rw [freezeE_det ks hl.right]
  · cases h
theorem callE_reads {k : Nat} {ks : List Nat} {rs : List RV} {e : Eff} (h : callE k σ ks rs = some e) : ∀ j ∈ ks, j ∈ e.reads := by
  unfold callE at h
  split at h
  · cases h; exact fun j hj => List.mem_append_right _ hj
  · cases h

theorem pureA_det {q : Orc} {g k : Nat} {args : List AV} {e : Eff} (h : pureA q g args k σ = some e) (hl : Agree σ σ' e.reads) : pureA q g args k σ' = some e := by
  unfold pureA at h ⊢
  split at h
  · rename_i ps ks hm
    split at h
    · rename_i rs hc
      have hr := callE_reads h
      rw [mapR_det (g := resolve σ' deep) hm fun x p l h1 h2 => resolve_det _ h1 fun j hj => hl j (hr j (h2 j hj))]
      simp only [hc]
      exact callE_det h hl
    · cases h
  · cases h

theorem lend_det {bset : List Nat} : ∀ {args : List AV} {n : Nat} {as : List BA} {keys ks : List Nat}, lend σ bset n args = some (as, keys, ks) → Agree σ σ' ks → lend σ' bset n args = some (as, keys, ks)
  | [], n, as, keys, ks, h, _ => h
  | x :: r, n, as, keys, ks, h, hl => by
    unfold lend at h ⊢
    split at h
    · rename_i k hk
      split at h
      · rename_i as' keys' ks' hr
        cases h
        simp only [lend_det hr hl]
      · cases h
    · rename_i hk
      split at h
      · rename_i p ks1 as' keys' ks' hp hr
        cases h
        simp only [resolve_det deep hp hl.left, lend_det hr hl.right]
      · cases h
theorem lentCells_det : ∀ {keys : List Nat} {bs : List (List PV)} {ks : List Nat}, lentCells σ keys = some (bs, ks) → Agree σ σ' (keys ++ ks) → lentCells σ' keys = some (bs, ks)
  | [], bs, ks, h, _ => h
  | k :: r, bs, ks, h, hl => by
    unfold lentCells at h ⊢
    rw [show lk σ' k = lk σ k from hl k (by simp)]
    split at h
    · split at h
      · rename_i ps ks1 pss ks' hp hr
        cases h
        rw [mapR_det (g := resolve σ' deep) hp fun x p l h1 h2 => resolve_det _ h1 fun j hj => hl j (by have := h2 j hj; simp [this])]
        rw [lentCells_det hr fun j hj => hl j (by
          rcases List.mem_append.1 hj with h | h <;> simp [h])]
      · cases h
    · cases h
theorem lentE_det {k : Nat} {keys ks : List Nat} {rs : List RV} {cs : List (List PV)} {e : Eff} (h : lentE k σ keys ks rs cs = some e) (hl : Agree σ σ' e.reads) : lentE k σ' keys ks rs cs = some e := by
  unfold lentE at h ⊢
  split at h
  · rename_i xs m hg
    cases h
    rw [giveBack_congr' rs k (fun j hj => hl j (List.mem_append_left _ hj)), hg]
    simp only
    rw [freezeE_det ks hl.right.right]
  · cases h
theorem lentE_reads {k : Nat} {keys ks : List Nat} {rs : List RV} {cs : List (List PV)} {e : Eff} (h : lentE k σ keys ks rs cs = some e) : ∀ j ∈ keys ++ ks, j ∈ e.reads := by
  unfold lentE at h
  split at h
  · cases h; exact fun j hj => List.mem_append_right _ hj
  · cases h
theorem pureB_det {q : Orc} {g k : Nat} {args : List AV} {e : Eff} (h : pureB q g args k σ = some e) (hl : Agree σ σ' e.reads) : pureB q g args k σ' = some e := by
  unfold pureB at h ⊢
  split at h
  · rename_i as keys ks hlend
    split at h
    · rename_i bs ks' hlc
      split at h
      · rename_i hc
        split at h
        · rename_i rs cs hq
          split at h
          · rename_i hlen
            have hr := lentE_reads h
            rw [lend_det hlend fun j hj => hl j (hr j (by simp [hj]))]
            simp only
            rw [lentCells_det hlc fun j hj => hl j (hr j (by
              rcases List.mem_append.1 hj with h | h <;> simp [h]))]
            simp only
            rw [if_pos hc, hq]
            simp only
            rw [if_pos hlen]
            exact lentE_det h hl
          · cases h
        · cases h
      · cases h
    · cases h
  · cases h

theorem effA_det {q : Orc} {z : Bool} {ev : Operand → AV} {k : Nat} {o : Oper} {p : Prep} {e : Eff} (hp : prepZ P z ev σ k o = some p) (h : effA q k σ p = some e) (hl : Agree σ σ' e.reads) :
    prepZ P z ev σ' k o = some p ∧ effA q k σ' p = some e := by
  cases p with
  | eff e' => simp only [effA, Option.some.injEq] at h; subst h; exact ⟨prep_det hp hl, rfl⟩
  | call g args =>
    refine ⟨prep_det_call hp, ?_⟩
    simp only [effA] at h ⊢
    split at h
    · rename_i hs
      rw [if_pos hs]
      unfold pureS at h ⊢
      split at h
      · split at h
        · rename_i hlk
          split at h
          · rename_i hi
            split at h
            · rename_i hc
              cases h
              simp only [hl.head, hlk, hi]
              rw [if_pos hc]
            · cases h
          · cases h
        · cases h
      · cases h
    · rename_i hs
      rw [if_neg hs]
      split at h
      · rename_i hc; rw [if_pos hc]; exact pureA_det h hl
      · rename_i hc; rw [if_neg hc]; exact pureB_det h hl
theorem frzE_det {b : Bool} {e e' : Eff} (h : frzE b σ e = some e') (hl : Agree σ σ' e'.reads) : Agree σ σ' e.reads ∧ frzE b σ' e = some e' := by
  unfold frzE at h ⊢
  cases b with
  | false => simp only at h ⊢; cases h; exact ⟨hl, rfl⟩
  | true =>
    simp only at h ⊢
    split at h
    · rename_i p ks hm hr
      cases h
      rw [hm, resolve_det _ hr hl.left]
      refine ⟨hl.right, ?_⟩
      simp only [freezeE_det _ hl.left]
    · cases h

/-- An operation in a state that is alike where it looks. -/
theorem opA_det {q : Orc} {all : List Oper} {o : Oper} {s s' : St} {e : Eff} (h : opA P q all o s = some e) (hw : wantedA all s'.env o = wantedA all s.env o)
    (hev : ∀ x ∈ o.op.operands, evE s'.env x = evE s.env x) (hl : Agree s.sto s'.sto e.reads) (hc : s'.clk = s.clk) : opA P q all o s' = some e := by
  unfold opA at h ⊢
  rw [hw]
  split at h
  · exact h
  · split at h
    · rename_i p hp
      split at h
      · rename_i e0 he0
        split at h
        · rename_i e1 he1
          cases h
          obtain ⟨hl', h3⟩ := frzE_det he1 hl
          obtain ⟨h1, h2⟩ := effA_det hp he0 hl'
          rw [hc, prep_congr hev, h1]
          simp only [h2, h3]
        · cases h
      · cases h
    · cases h
  · cases h

noncomputable def Compat0 (a b : Eff) : Prop := (∀ k ∈ keysOf b.mem, k ∉ a.reads ∧ k ∉ keysOf a.mem) ∧ ∀ k ∈ keysOf a.mem, k ∉ b.reads
noncomputable def Compat (oi : Option Oper) (oj : Oper) (a b : Eff) : Prop := Compat0 a b ∨ pairOk oi oj = true
/-- How large the elements of a row are. -/
noncomputable def shape : Option Blk → Option Nat
  | some (.row _ _ s _) => some s
  | _ => none
theorem shape_freeze (b : Blk) : shape (some b.freeze) = shape (some b) := by cases b <;> rfl
theorem shape_freezeE {τ : Store} : ∀ (ks : List Nat) (σ : Store), (∀ k, shape (lk σ k) = shape (lk τ k)) → ∀ k, shape (lk (applyMem σ (freezeE τ ks)) k) = shape (lk τ k)
  | [], σ, h => h
  | j :: ks, σ, h => by
    simp only [freezeE]
    split
    · rename_i b hb
      refine shape_freezeE ks _ fun k => ?_
      rw [lk_ins]
      split
      · rename_i e; subst e; rw [shape_freeze, hb]
      · exact h k
    · exact shape_freezeE ks σ h
theorem storeE_shape {t : TypeId} {a x : AV} {e : Eff} (h : storeE P t σ a x = some e) (k : Nat) : shape (lk (applyMem σ e.mem) k) = shape (lk σ k) := by
  unfold storeE at h
  split at h
  · split at h
    · rename_i cs hlk
      split at h
      · cases h
        simp only [applyMem]
        rw [lk_ins]
        split
        · rename_i e; subst e; rw [hlk]; rfl
        · rfl
      · cases h
    · cases h
  · split at h
    · rename_i hlk
      split at h
      · split at h
        · split at h
          · cases h
            simp only [applyMem_append, applyMem]
            rw [lk_ins]
            split
            · rename_i e; subst e; rw [hlk]; rfl
            · exact shape_freezeE _ _ (fun _ => rfl) k
          · cases h
        · cases h
      · cases h
    · cases h
  · cases h
theorem storeA_shape {t : TypeId} {a x : AV} {e : Eff} (h : storeA P t σ a x = some e) (k : Nat) : shape (lk (applyMem σ e.mem) k) = shape (lk σ k) := by
    unfold storeA at h
    split at h
    · split at h
      · rename_i hlk
        split at h
        · cases h
          simp only [applyMem]
          rw [lk_ins]
          split
          · rename_i e; subst e; rw [hlk]; rfl
          · rfl
        · cases h
      · cases h
    · cases h
theorem storeZ_shape {z : Bool} {t : TypeId} {a x : AV} {e : Eff} (h : storeZ P z t σ a x = some e) (k : Nat) : shape (lk (applyMem σ e.mem) k) = shape (lk σ k) := by
  cases z with
  | false => exact storeE_shape h k
  | true =>
    simp only [storeZ] at h
    cases e1 : storeA P t σ a x with
    | some e' => rw [e1] at h; cases h; exact storeA_shape e1 k
    | none => rw [e1] at h; exact storeE_shape h k
theorem effO_eff {x : Option Eff} {p : Prep} (h : effO x = some p) : ∃ e, x = some e ∧ p = .eff e := by
  cases x with
  | none => simp [effO] at h
  | some e => simp [effO] at h; exact ⟨e, rfl, h.symm⟩
theorem opA_shape {q : Orc} {all : List Oper} {o : Oper} {s : St} {e : Eff} (ho : isSt o = true) (h : opA P q all o s = some e) (k : Nat) : shape (lk (applyMem s.sto e.mem) k) = shape (lk s.sto k) := by
  unfold opA at h
  split at h
  · cases h; rfl
  · split at h
    · rename_i p hp
      unfold isSt at ho
      split at ho
      · rename_i t a x hop
        unfold prepZ at hp
        rw [hop] at hp
        simp only at hp
        obtain ⟨e1, h1, rfl⟩ := effO_eff hp
        simp only [effA, isSl, hop, Bool.and_false, frzE] at h
        cases h
        exact storeZ_shape h1 k
      · cases ho
    · cases h
  · cases h
theorem indexAddrE_shape {t : TypeId} {x ix : AV} {e : Eff} (h : indexAddrE P t x ix σ = some e) (hs : ∀ k, shape (lk σ' k) = shape (lk σ k)) : indexAddrE P t x ix σ' = some e ∧ e.mem = [] := by
  unfold indexAddrE at h ⊢
  split at h
  · split at h
    · refine ⟨h, ?_⟩
      split at h
      · split at h
        · split at h
          · cases h; rfl
          · cases h
        · cases h
      · cases h
    · rename_i k off len own
      split at h
      · rename_i l e0 s0 es0 hlk
        have hk := hs k
        rw [hlk] at hk
        cases hl' : lk σ' k with
        | none => rw [hl'] at hk; cases hk
        | some b =>
          rw [hl'] at hk
          cases b with
          | row l' e' s' es' =>
            simp only [shape, Option.some.injEq] at hk
            subst hk
            simp only
            split at h
            · rename_i hc; rw [if_pos hc]; cases h; exact ⟨rfl, rfl⟩
            · cases h
          | _ => simp [shape] at hk
      · cases h
    · cases h
  · refine ⟨h, ?_⟩
    split at h
    · split at h
      · split at h
        · cases h; rfl
        · cases h
      · cases h
    · cases h
  · cases h
theorem indexAddrZ_shape {z : Bool} {t : TypeId} {x ix : AV} {e : Eff} (h : indexAddrZ P z t x ix σ = some e) (hs : ∀ k, shape (lk σ' k) = shape (lk σ k)) : indexAddrZ P z t x ix σ' = some e ∧ e.mem = [] := by
  cases z with
  | false => exact indexAddrE_shape h hs
  | true =>
    simp only [indexAddrZ] at h ⊢
    unfold arrAddrE at h ⊢
    split at h
    · split at h
      · rename_i k
        split at h
        · rename_i l e0 s0 es0 hlk
          have hk := hs k
          rw [hlk] at hk
          cases hl' : lk σ' k with
          | none => rw [hl'] at hk; cases hk
          | some b =>
            rw [hl'] at hk
            cases b with
            | row l' e' s' es' =>
              simp only [shape, Option.some.injEq] at hk
              subst hk
              simp only
              split at h
              · rename_i hc; rw [if_pos hc]; cases h; exact ⟨rfl, rfl⟩
              · cases h
            | _ => simp [shape] at hk
        · cases h
      · cases h
    · cases h
theorem opA_ix {q : Orc} {all : List Oper} {o : Oper} {s s' : St} {e : Eff} (ho : isIx o = true) (h : opA P q all o s = some e) (hw : wantedA all s'.env o = wantedA all s.env o)
    (hev : ∀ x ∈ o.op.operands, evE s'.env x = evE s.env x) (hs : ∀ k, shape (lk s'.sto k) = shape (lk s.sto k)) (hc : s'.clk = s.clk) : opA P q all o s' = some e ∧ e.mem = [] := by
  unfold opA at h ⊢
  rw [hw]
  split at h
  · cases h; exact ⟨rfl, rfl⟩
  · split at h
    · rename_i p hp
      unfold isIx at ho
      split at ho
      · rename_i t x ix hop
        have hp0 := hp
        unfold prepZ at hp0
        rw [hop] at hp0
        simp only at hp0
        obtain ⟨e1, h1, rfl⟩ := effO_eff hp0
        simp only [effA, isSl, hop, Bool.and_false, frzE] at h
        cases h
        obtain ⟨g1, g2⟩ := indexAddrZ_shape (σ' := s'.sto) h1 hs
        have hp' : prepZ P q.trn (evE s.env) s'.sto (keyOf s'.clk o.dst) o = some (.eff e1) := by
          unfold prepZ
          rw [hop]
          simp only [g1]
          rfl
        rw [prep_congr hev, hp']
        simp only [effA, isSl, hop, Bool.and_false, frzE]
        exact ⟨trivial, g2⟩
      · cases ho
    · cases h
  · cases h

theorem wantedA_put {all : List Oper} {env env' : Env} {dst : Option Nat} {nt : Nat} {x : AV} {o : Oper} (hp : putE dst nt x env = some env') (h : ∀ d, dst = some d → d ∉ o.looksAt all.toArray) : wantedA all env' o = wantedA all env o := by
  unfold wantedA
  cases hg : o.guard with
  | none => rfl
  | some jw =>
    obtain ⟨j, want⟩ := jw
    simp only
    cases hj : all[j]? with
    | none => rfl
    | some g =>
      simp only
      cases ht : g.dst with
      | none => rfl
      | some t =>
        simp only
        have : lk env' t = lk env t := by
          unfold putE at hp
          split at hp
          · cases hp; rfl
          · rename_i d
            split at hp
            · cases hp
              rw [lk_ins]
              rw [if_neg]
              intro e
              subst e
              exact h d rfl (by simp [Oper.looksAt, hg, hj, ht])
            · cases hp
        rw [this]

theorem evE_looks {all : List Oper} {env env' : Env} {dst : Option Nat} {nt : Nat} {x : AV} {o : Oper} (hp : putE dst nt x env = some env') (h : ∀ d, dst = some d → d ∉ o.looksAt all.toArray) : ∀ y ∈ o.op.operands, evE env' y = evE env y := fun y hy =>
  evE_put hp fun d hd e => h d hd (by
    subst e
    exact List.mem_append_left _ (List.mem_filterMap.2 ⟨.tmp d, by simpa using hy, rfl⟩))

theorem app_parts {o : Oper} {e : Eff} {s s' : St} (h : app o e s = some s') : ∃ env, putE o.dst s.nt e.val s.env = some env ∧ s' = { s with env, sto := applyMem s.sto e.mem } := by
  unfold app at h
  split at h
  · rename_i env hp; cases h; exact ⟨env, hp, rfl⟩
  · cases h

theorem swap {qi qj : Orc} {all : List Oper} {oi oj : Oper} {ei ej : Eff} {s s1 s2 : St} (hap : oi.apart all.toArray oj = true) (hc : Compat (some oi) oj ei ej) (hi : opA P qi all oi s = some ei) (h1 : app oi ei s = some s1)
    (hj : opA P qj all oj s1 = some ej) (h2 : app oj ej s1 = some s2) : ∃ s1', opA P qj all oj s = some ej ∧ app oj ej s = some s1' ∧ opA P qi all oi s1' = some ei ∧ app oi ei s1' = some s2 := by
  obtain ⟨a1, a2, a3⟩ := Oper.apart_spec hap
  obtain ⟨env1, p1, rfl⟩ := app_parts h1
  obtain ⟨env2, p2, rfl⟩ := app_parts h2
  simp only at p2 hj
  -- oj ahead
  have w1 : wantedA all s.env oj = wantedA all env1 oj := (wantedA_put p1 a1).symm
  have v1 : ∀ y ∈ oj.op.operands, evE s.env y = evE env1 y := fun y hy => (evE_looks p1 a1 y hy).symm
  obtain ⟨env3, p3⟩ : ∃ env3, putE oj.dst s.nt ej.val s.env = some env3 := by
    cases hd : oj.dst with
    | none => exact ⟨s.env, rfl⟩
    | some d =>
      rw [hd] at p2
      simp only [putE] at p2 ⊢
      split at p2
      · rename_i h; rw [if_pos h]; exact ⟨_, rfl⟩
      · cases p2
  obtain ⟨hj', hi', hcomm⟩ : opA P qj all oj s = some ej ∧ opA P qi all oi { s with env := env3, sto := applyMem s.sto ej.mem } = some ei ∧ applyMem (applyMem s.sto ej.mem) ei.mem = applyMem (applyMem s.sto ei.mem) ej.mem := by
    have w3 := wantedA_put p3 a3
    have v3 := evE_looks p3 a3
    rcases hc with hc | hc
    · exact ⟨opA_det hj w1 v1 (fun k hk => (lk_applyMem (fun hm => hc.2 k hm hk)).symm) rfl, opA_det hi w3 v3 (fun k hk => lk_applyMem (fun hm => (hc.1 k hm).1 hk)) rfl, (applyMem_comm (fun k hk => (hc.1 k hk).2) s.sto).symm⟩
    · simp only [pairOk, Bool.or_eq_true, Bool.and_eq_true] at hc
      rcases hc with ⟨h1, h2⟩ | ⟨h1, h2⟩
      · have e1 := (opA_ix (s' := s) h1 hi rfl (fun _ _ => rfl) (fun _ => rfl) rfl).2
        have hj' : opA P qj all oj s = some ej := opA_det hj w1 v1 (fun k _ => by rw [e1]; rfl) rfl
        exact ⟨hj', (opA_ix (s' := { s with env := env3, sto := applyMem s.sto ej.mem }) h1 hi w3 v3 (fun k => opA_shape h2 hj' k) rfl).1, by rw [e1]; rfl⟩
      · obtain ⟨hj', e2⟩ := opA_ix (s' := s) h2 hj w1 v1 (fun k => (opA_shape h1 hi k).symm) rfl
        exact ⟨hj', opA_det hi w3 v3 (fun k _ => by rw [e2]; rfl) rfl, by rw [e2]; rfl⟩
  refine ⟨_, hj', by unfold app; rw [p3], hi', ?_⟩
  unfold app
  simp only
  have pe : putE oi.dst s.nt ei.val env3 = some env2 := by
    cases hdi : oi.dst with
    | none =>
      rw [hdi] at p1
      simp only [putE, Option.some.injEq] at p1
      subst p1
      rw [p2] at p3
      exact p3.symm
    | some d =>
      rw [hdi] at p1
      simp only [putE] at p1 ⊢
      split at p1
      · rename_i hd
        simp only [Option.some.injEq] at p1
        subst p1
        rw [if_pos hd]
        cases hdj : oj.dst with
        | none =>
          rw [hdj] at p2 p3
          simp only [putE, Option.some.injEq] at p2 p3
          subst p2; subst p3; rfl
        | some d' =>
          rw [hdj] at p2 p3
          simp only [putE] at p2 p3
          split at p2
          · rename_i hd'
            rw [if_pos hd'] at p3
            simp only [Option.some.injEq] at p2 p3
            subst p2; subst p3
            rw [ins_comm]
            intro e
            exact a2 d hdi (by rw [hdj, e])
          · cases p2
      · cases p1
  rw [pe]
  simp only [Option.some.injEq, St.mk.injEq, and_true, true_and]
  exact hcomm

/-- Whatever order is picked from here on. -/
noncomputable def AAny (P : Program) (all : List Oper) (es : Nat → Option (Eff × Orc)) (Q : St → Prop) : Nat → Array Bool → St → Prop
  | 0, listed, s => Region.ready .any all.toArray listed = [] ∧ Q s
  | fuel + 1, listed, s => (Region.ready .any all.toArray listed = [] → Q s) ∧
    ∀ i ∈ Region.ready .any all.toArray listed, ∃ o e q s', all[i]? = some o ∧ es i = some (e, q) ∧ opA P q all o s = some e ∧ app o e s = some s' ∧ AAny P all es Q fuel (listed.setIfInBounds i true) s'

theorem AAny_first {all : List Oper} {es : Nat → Option (Eff × Orc)} {Q : St → Prop} {i : Nat} {oi : Oper} {ei : Eff} {qi : Orc} (hi : all[i]? = some oi) (hei : es i = some (ei, qi)) :
    ∀ (fuel : Nat) (listed : Array Bool) (s s1 : St),
      (∀ j oj ej qj, all[j]? = some oj → es j = some (ej, qj) → j ≠ i → listed.getD j true = false → (∀ e ∈ oj.after, Region.binds .any e = true → e.on ≠ i) → oi.apart all.toArray oj = true ∧ Compat (some oi) oj ei ej) →
      i ∈ Region.ready .any all.toArray listed → opA P qi all oi s = some ei → app oi ei s = some s1 → AAny P all es Q fuel (listed.setIfInBounds i true) s1 → AAny P all es Q (fuel + 1) listed s := by
  intro fuel
  induction fuel with
  | zero =>
    intro listed s s1 _ hr hy h1 H
    refine ⟨fun h => (by rw [h] at hr; cases hr), fun j hj => ?_⟩
    by_cases hji : j = i
    · subst hji; exact ⟨oi, ei, qi, s1, hi, hei, hy, h1, H⟩
    · have := ready_mono hj hji
      rw [H.1] at this
      cases this
  | succ fuel ih =>
    intro listed s s1 hfree hr hy h1 H
    refine ⟨fun h => (by rw [h] at hr; cases hr), fun j hj => ?_⟩
    by_cases hji : j = i
    · subst hji; exact ⟨oi, ei, qi, s1, hi, hei, hy, h1, H⟩
    · obtain ⟨oj, ej, qj, s2, hoj, hej, hyj, h2, H2⟩ := H.2 j (ready_mono hj hji)
      obtain ⟨hjun, oj', hoj', hall⟩ := mem_ready.1 hj
      have e : oj' = oj := by
        have : all[j]? = some oj' := by simpa using hoj'
        rw [hoj] at this
        exact (Option.some.inj this).symm
      subst e
      have hnot : ∀ e ∈ oj'.after, Region.binds .any e = true → e.on ≠ i := fun e he hb heq => by
        have h1 := hall e he hb
        have h0 := (mem_ready.1 hr).1
        rw [heq] at h1
        rcases Nat.lt_or_ge i listed.size with h' | h'
        · simp [h'] at h0 h1; rw [h0] at h1; cases h1
        · simp [Array.getElem?_eq_none h'] at h1
      obtain ⟨hap, hco⟩ := hfree j oj' ej qj hoj hej hji hjun hnot
      obtain ⟨s1', k1, k2, k3, k4⟩ := swap hap hco hy h1 hyj h2
      refine ⟨oj', ej, qj, s1', hoj, hej, k1, k2, ih (listed.setIfInBounds j true) s1' s2 ?_ (ready_mono hr (Ne.symm hji)) k3 k4 ?_⟩
      · intro k ok ek qk hk hek hki hun hno
        refine hfree k ok ek qk hk hek hki ?_ hno
        by_cases hjk : j = k
        · subst hjk; exact hjun
        · rw [getD_set_ne true hjk] at hun; exact hun
      · rw [Array.setIfInBounds_comm _ _ hji]
        exact H2

/-- One run through, in the order of the text. -/
inductive Exec (P : Program) (all : List Oper) : List Oper → List (Eff × Orc) → St → St → Prop
  | nil {s : St} : Exec P all [] [] s s
  | cons {o : Oper} {e : Eff} {q : Orc} {rest : List Oper} {es : List (Eff × Orc)} {s s1 t : St} (h : opA P q all o s = some e) (h1 : app o e s = some s1) (hr : Exec P all rest es s1 t) : Exec P all (o :: rest) ((e, q) :: es) s t

theorem AAny_lex {all : List Oper} {es : List (Eff × Orc)} {Q : St → Prop}
    (hok : ∀ i j oj ei qi ej qj, i < j → all[j]? = some oj → es[i]? = some (ei, qi) → es[j]? = some (ej, qj) → (∀ e ∈ oj.after, Region.binds .any e = true → e.on ≠ i) → Compat all[i]? oj ei ej) :
    ∀ (l : List Oper) (fs : List (Eff × Orc)) (k : Nat) (listed : Array Bool) (s t : St), (∀ j, l[j]? = all[k + j]?) → (∀ j, fs[j]? = es[k + j]?) → (∀ j, j < k → listed.getD j true = true) →
      Region.lexFrom .any all.toArray l.length k listed = true → Exec P all l fs s t → Q t → AAny P all (fun i => es[i]?) Q l.length listed s
  | [], fs, k, listed, s, t, _, _, _, hB, hx, hQ => by cases hx; exact ⟨by simpa [Region.lexFrom] using hB, hQ⟩
  | o :: l, fs, k, listed, s, t, hl, hf, hlist, hB, hx, hQ => by
    cases hx with
    | @cons _ e q _ fs' _ s1 _ h h1 hr =>
      have h0 : all[k]? = some o := by simpa using (hl 0).symm
      have hf0 : es[k]? = some (e, q) := by simpa using (hf 0).symm
      simp only [List.length_cons, Region.lexFrom, Bool.and_eq_true] at hB
      obtain ⟨⟨hrd, hfr⟩, hB'⟩ := hB
      have hfree := Region.free_spec (md := .any) (ops := all.toArray) (by simpa using h0) hfr
      refine AAny_first h0 hf0 l.length listed s s1 (fun j oj ej qj hj hej hji hun hno => ⟨hfree j oj (by simpa using hj) hji hun hno, ?_⟩) (by simpa using hrd) h h1 ?_
      · rw [← h0]
        have hkj : k < j := by
          rcases Nat.lt_or_gt_of_ne hji with h | h
          · have := hlist j h; rw [this] at hun; cases hun
          · exact h
        exact hok k j oj e q ej qj hkj hj hf0 hej hno
      · refine AAny_lex hok l fs' (k + 1) _ s1 t (fun j => by have := hl (j + 1); simpa [Nat.add_assoc, Nat.add_comm 1 j] using this) (fun j => by have := hf (j + 1); simpa [Nat.add_assoc, Nat.add_comm 1 j] using this) (fun j hj => ?_) hB' hr hQ
        by_cases hjk : j = k
        · subst hjk
          by_cases hs : j < listed.size
          · simp [Array.getD, hs]
          · simp [Array.getD, hs]
        · rw [getD_set_ne true (Ne.symm hjk)]; exact hlist j (by omega)
end Go.Mir
