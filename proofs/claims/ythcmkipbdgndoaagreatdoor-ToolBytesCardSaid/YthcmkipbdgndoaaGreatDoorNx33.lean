/- Regions of whatever order, looked through quickly (definitions, lemmas; conditions: what they say). -/
import Derived.Test.YthcmkipbdgndoaaGreatDoorNx24
set_option linter.all false
set_option linter.unusedVariables false
set_option linter.unusedSimpArgs false
set_option linter.unnecessarySimpa false
namespace Go.Mir
open Go Go.RowKit

noncomputable def memN (d : Nat) (l : List Nat) : Bool := List.rec (motive := fun _ => Bool) false (fun x _ ih => match Nat.beq x d with | true => true | false => ih) l
theorem memN_iff {d : Nat} : ∀ {l : List Nat}, memN d l = true ↔ d ∈ l
  | [] => by simp [memN]
  | x :: r => by
    have e : memN d (x :: r) = match Nat.beq x d with | true => true | false => memN d r := rfl
    rw [e, List.mem_cons]
    split
    · rename_i h; have := Nat.eq_of_beq_eq_true h; simp [this]
    · rename_i h
      have hne : ¬ d = x := fun h' => by rw [h', Nat.beq_refl] at h; cases h
      rw [memN_iff]; simp [hne]
theorem memN_false {d : Nat} {l : List Nat} (h : memN d l = false) : d ∉ l := fun h' => by rw [memN_iff.2 h'] at h; cases h
/-- What an operation binds, looks at, and waits for. -/
structure OpI where
  dst : Option Nat
  looks : List Nat
  on : List Nat
noncomputable def tmpsOf (l : List Operand) : List Nat := List.rec (motive := fun _ => List Nat) [] (fun x _ ih => match x with | .tmp t => t :: ih | _ => ih) l
theorem tmpsOf_eq : ∀ l : List Operand, tmpsOf l = l.filterMap fun | .tmp t => some t | _ => none
  | [] => rfl
  | x :: r => by
    have e : tmpsOf (x :: r) = match x with | .tmp t => t :: tmpsOf r | _ => tmpsOf r := rfl
    rw [e, List.filterMap_cons, ← tmpsOf_eq r]
    cases x <;> rfl
noncomputable def bindsQ (e : Edge) : Bool := match e.ground with
  | .textOnly _ => false
  | .gcOnly _ => false
  | _ => true
theorem bindsQ_eq (e : Edge) : bindsQ e = Region.binds .any e := by
  unfold bindsQ Region.binds; cases e.ground <;> rfl
noncomputable def onOf (l : List Edge) : List Nat := List.rec (motive := fun _ => List Nat) [] (fun e _ ih => match bindsQ e with | true => e.on :: ih | false => ih) l
theorem mem_onOf {k : Nat} : ∀ {l : List Edge}, k ∈ onOf l ↔ ∃ e ∈ l, Region.binds .any e = true ∧ e.on = k
  | [] => by simp [onOf]
  | x :: r => by
    have e : onOf (x :: r) = match bindsQ x with | true => x.on :: onOf r | false => onOf r := rfl
    rw [e]
    split
    · rename_i h
      rw [List.mem_cons, mem_onOf]
      constructor
      · rintro (rfl | ⟨e, he, hb, ho⟩)
        · exact ⟨x, by simp, by rw [← bindsQ_eq, h], rfl⟩
        · exact ⟨e, by simp [he], hb, ho⟩
      · rintro ⟨e, he, hb, ho⟩
        rcases List.mem_cons.1 he with rfl | he
        · exact .inl ho.symm
        · exact .inr ⟨e, he, hb, ho⟩
    · rename_i h
      rw [mem_onOf]
      constructor
      · rintro ⟨e, he, hb, ho⟩; exact ⟨e, by simp [he], hb, ho⟩
      · rintro ⟨e, he, hb, ho⟩
        rcases List.mem_cons.1 he with rfl | he
        · rw [← bindsQ_eq, h] at hb; cases hb
        · exact ⟨e, he, hb, ho⟩
noncomputable def opI (all : List Oper) (o : Oper) : OpI := ⟨o.dst, tmpsOf o.op.operands.toList ++ (match o.guard with
  | some (g, _) => ((all[g]?).bind (·.dst)).toList
  | none => []), onOf o.after.toList⟩
theorem looks_eq (ops : Array Oper) (o : Oper) : (opI ops.toList o).looks = o.looksAt ops := by
  unfold opI Oper.looksAt
  simp only [tmpsOf_eq, Array.getElem?_toList]
  rfl
noncomputable def apartI (x y : OpI) : Bool := match x.dst with
  | some d => match memN d y.looks with
    | true => false
    | false => match y.dst with
      | some d' => match Nat.beq d' d with
        | true => false
        | false => !memN d' x.looks
      | none => true
  | none => match y.dst with
    | some d' => !memN d' x.looks
    | none => true
theorem apartI_ok {ops : Array Oper} {x y : Oper} (h : apartI (opI ops.toList x) (opI ops.toList y) = true) : x.apart ops y = true := by
  unfold apartI at h
  rw [looks_eq, looks_eq] at h
  have e1 : (opI ops.toList x).dst = x.dst := rfl
  have e2 : (opI ops.toList y).dst = y.dst := rfl
  rw [e1, e2] at h
  unfold Oper.apart
  cases hx : x.dst with
  | none =>
    rw [hx] at h
    cases hy : y.dst with
    | none => rfl
    | some d' =>
      rw [hy] at h
      have h' : memN d' (x.looksAt ops) = false := by simpa using h
      simpa using memN_false h'
  | some d =>
    rw [hx] at h
    simp only at h
    split at h
    · cases h
    rename_i h1
    have h1' := memN_false h1
    cases hy : y.dst with
    | none => simpa using h1'
    | some d' =>
      rw [hy] at h
      simp only at h
      split at h
      · cases h
      rename_i h2
      have hne : ¬ d' = d := fun h' => by rw [h', Nat.beq_refl] at h2; cases h2
      have h' : memN d' (x.looksAt ops) = false := by simpa using h
      simpa [hne] using ⟨h1', memN_false h'⟩
noncomputable def allQ {α : Type} (r : α → Bool) (l : List α) : Bool := List.rec (motive := fun _ => Bool) true (fun x _ ih => match r x with | true => ih | false => false) l
theorem allQ_spec {α : Type} {r : α → Bool} : ∀ {l : List α}, allQ r l = true → ∀ x ∈ l, r x = true
  | [], _, x, hx => by simp at hx
  | y :: l, h, x, hx => by
    have e : allQ r (y :: l) = match r y with | true => allQ r l | false => false := rfl
    rw [e] at h
    split at h
    · rename_i hy
      rcases List.mem_cons.1 hx with rfl | hx
      · exact hy
      · exact allQ_spec h x hx
    · cases h
noncomputable def goQ (l : List OpI) : Nat → Bool := List.rec (motive := fun _ => Nat → Bool) (fun _ => true) (fun x r ih k => match allQ (fun j => Nat.blt j k) x.on with
  | true => match allQ (fun y => match memN k y.on with | true => true | false => apartI x y) r with
    | true => ih (k + 1)
    | false => false
  | false => false) l
theorem goQ_cons {x : OpI} {r : List OpI} {k : Nat} (h : goQ (x :: r) k = true) : (∀ j ∈ x.on, j < k) ∧ (∀ y ∈ r, k ∈ y.on ∨ apartI x y = true) ∧ goQ r (k + 1) = true := by
  have e : goQ (x :: r) k = match allQ (fun j => Nat.blt j k) x.on with
    | true => match allQ (fun y => match memN k y.on with | true => true | false => apartI x y) r with
      | true => goQ r (k + 1)
      | false => false
    | false => false := rfl
  rw [e] at h
  split at h
  · rename_i h1
    split at h
    · rename_i h2
      refine ⟨fun j hj => by simpa using allQ_spec h1 j hj, fun y hy => ?_, h⟩
      have := allQ_spec h2 y hy
      split at this
      · rename_i h3; exact .inl (memN_iff.1 h3)
      · exact .inr this
    · cases h
  · cases h
noncomputable def selQ (o : Oper) : Bool := match o.op with
  | .select _ _ => false
  | _ => true
noncomputable def infos (all : List Oper) (l : List Oper) (K : List OpI → Bool) : Bool := List.rec (motive := fun _ => (List OpI → Bool) → Bool) (fun K => K []) (fun o _ ih K => ih fun r => K (opI all o :: r)) l K
theorem infos_eq (all : List Oper) : ∀ (l : List Oper) (K : List OpI → Bool), infos all l K = K (l.map (opI all))
  | [], K => rfl
  | o :: r, K => by
    have e : infos all (o :: r) K = infos all r fun r => K (opI all o :: r) := rfl
    rw [e, infos_eq all r]; rfl
noncomputable def lexQ (l : List Oper) : Bool := match allQ selQ l with
  | true => infos l l fun is => goQ is 0
  | false => false
theorem lexFrom_of {ops : Array Oper} : ∀ (fuel k : Nat) (listed : Array Bool), listed.size = ops.size → (∀ i, i < ops.size → listed[i]? = some (decide (i < k))) → fuel + k = ops.size →
    goQ ((ops.toList.drop k).map (opI ops.toList)) k = true → Region.lexFrom .any ops fuel k listed = true
  | 0, k, listed, hs, hl, hk, _ => by
    rw [Region.lexFrom, List.isEmpty_iff, List.eq_nil_iff_forall_not_mem]
    intro j hj
    obtain ⟨h0, o, ho, _⟩ := mem_ready.1 hj
    have hlt : j < ops.size := (Array.getElem?_eq_some_iff.1 ho).1
    have := hl j hlt
    rw [Array.getD_eq_getD_getElem?, this] at h0
    simp at h0; omega
  | fuel + 1, k, listed, hs, hl, hk, h => by
    have hlt : k < ops.size := by omega
    have hd : ops.toList.drop k = ops[k] :: ops.toList.drop (k + 1) := by
      rw [List.drop_eq_getElem_cons (by simpa using hlt)]; simp
    rw [hd, List.map_cons] at h
    obtain ⟨h1, h2, h3⟩ := goQ_cons h
    have ho : ops[k]? = some ops[k] := Array.getElem?_eq_getElem hlt
    rw [Region.lexFrom, Bool.and_eq_true, Bool.and_eq_true]
    refine ⟨⟨?_, ?_⟩, lexFrom_of fuel (k + 1) _ (by simpa using hs) (fun i hi => ?_) (by omega) h3⟩
    · rw [List.contains_iff_mem]
      refine mem_ready.2 ⟨by rw [Array.getD_eq_getD_getElem?, hl k hlt]; simp, _, ho, fun e he hb => ?_⟩
      have : e.on < k := h1 _ (mem_onOf.2 ⟨e, by simpa using he, hb, rfl⟩)
      rw [Array.getD_eq_getD_getElem?, hl _ (by omega)]; simpa using this
    · unfold Region.free
      rw [ho]
      simp only [List.all_eq_true, List.mem_range]
      intro j hj
      rw [Array.getElem?_eq_getElem hj]
      simp only [Bool.or_eq_true, beq_iff_eq]
      rcases Nat.lt_trichotomy j k with hjk | hjk | hjk
      · left; right; rw [Array.getD_eq_getD_getElem?, hl j hj]; simpa using hjk
      · exact .inl (.inl hjk)
      · right
        have hm : opI ops.toList ops[j] ∈ (ops.toList.drop (k + 1)).map (opI ops.toList) := by
          refine List.mem_map.2 ⟨_, List.mem_iff_getElem?.2 ⟨j - (k + 1), ?_⟩, rfl⟩
          rw [List.getElem?_drop, show k + 1 + (j - (k + 1)) = j by omega, Array.getElem?_toList, Array.getElem?_eq_getElem hj]
        rcases h2 _ hm with h4 | h4
        · left
          obtain ⟨e, he, hb, ho'⟩ := mem_onOf.1 h4
          exact Array.any_eq_true'.2 ⟨e, by simpa using he, by simp [hb, ho']⟩
        · exact .inr (apartI_ok h4)
    · rw [Array.getElem?_setIfInBounds]
      by_cases e : k = i
      · subst e; simp [hs, hlt]
      · rw [if_neg e, hl i hi]
        congr 1
        rw [decide_eq_decide]; omega
theorem lexQ_ok {ops : Array Oper} (h : lexQ ops.toList = true) : Region.lexB .any ops = true := by
  unfold lexQ at h
  split at h
  · rename_i hs
    rw [infos_eq] at h
    unfold Region.lexB
    rw [Bool.and_eq_true]
    refine ⟨?_, lexFrom_of ops.size 0 _ (by simp) (fun i hi => by simp [hi]) (by omega) (by simpa using h)⟩
    unfold Region.noSelect
    rw [Array.all_eq_true_iff_forall_mem]
    intro o ho
    have := allQ_spec hs o (by simpa using ho)
    unfold selQ at this
    split <;> simp_all
  · cases h
noncomputable def regQ (dr : Bool) (l : List Oper) : Bool := match dr with
  | true => lexQ l
  | false => true
noncomputable def okCodeQ (c : Code) : Bool := Code.rec (motive := fun _ => Bool) true (fun _ ops dr => match allQ (fun o => o.plainOp) ops.toList with
    | true => regQ dr ops.toList
    | false => false) (fun _ _ a b => match a with | true => b | false => false) (fun _ _ _ a b => match a with | true => b | false => false) (fun _ _ a => a) (fun _ a => a)
    (fun _ _ _ _ a b => match a with | true => b | false => false) (fun _ => true) (fun _ a => a) (fun _ => true) (fun _ => true) true (fun _ => true) c
theorem okCodeQ_ok : ∀ {c : Code}, okCodeQ c = true → okCode c = true
  | .skip, _ => rfl
  | .exit _, _ => rfl
  | .label _, _ => rfl
  | .goto _, _ => rfl
  | .ret, _ => rfl
  | .refuse _, _ => rfl
  | .region i ops dr, h => by
    have e : okCodeQ (.region i ops dr) = match allQ (fun o => o.plainOp) ops.toList with
      | true => regQ dr ops.toList
      | false => false := rfl
    rw [e] at h
    split at h
    · rename_i h1
      simp only [okCode, Bool.and_eq_true, List.all_eq_true]
      refine ⟨allQ_spec h1, ?_⟩
      cases dr with
      | false => rfl
      | true => simpa using lexQ_ok h
    · cases h
  | .seq a b, h => by
    have e : okCodeQ (.seq a b) = match okCodeQ a with | true => okCodeQ b | false => false := rfl
    rw [e] at h; split at h
    · rename_i h1; simp only [okCode, Bool.and_eq_true]; exact ⟨okCodeQ_ok h1, okCodeQ_ok h⟩
    · cases h
  | .cond _ a b, h => by
    have e : okCodeQ (.cond ‹_› a b) = match okCodeQ a with | true => okCodeQ b | false => false := rfl
    rw [e] at h; split at h
    · rename_i h1; simp only [okCode, Bool.and_eq_true]; exact ⟨okCodeQ_ok h1, okCodeQ_ok h⟩
    · cases h
  | .block _ c, h => okCodeQ_ok (c := c) h
  | .loop c, h => okCodeQ_ok (c := c) h
  | .scope c, h => okCodeQ_ok (c := c) h
  | .rangeFunc _ _ a b, h => by
    have e : okCodeQ (.rangeFunc ‹_› ‹_› a b) = match okCodeQ a with | true => okCodeQ b | false => false := rfl
    rw [e] at h; split at h
    · rename_i h1; simp only [okCode, Bool.and_eq_true]; exact ⟨okCodeQ_ok h1, okCodeQ_ok h⟩
    · cases h
/-- A function that is well formed for so many arguments. -/
noncomputable def okFnQ (fn : Func) (n : Nat) : Bool := match fn.name == "runtime.NumGoroutine" with
  | true => false
  | false => match Nat.ble n fn.ntmps with
    | true => match fn.body with
      | some c => okCodeQ c
      | none => false
    | false => false
theorem okFnQ_ok {fn : Func} {n : Nat} (h : okFnQ fn n = true) : okFn fn n = true := by
  unfold okFnQ at h
  unfold okFn
  split at h
  · cases h
  · rename_i h1; split at h
    · rename_i h2; split at h
      · rename_i c h3; rw [h1, h2]; simp only [Bool.not_false, Bool.true_and]; rw [h3]; exact okCodeQ_ok h
      · cases h
    · cases h
end Go.Mir
