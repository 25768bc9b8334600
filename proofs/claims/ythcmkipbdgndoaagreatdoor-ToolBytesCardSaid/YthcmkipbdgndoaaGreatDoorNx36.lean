/- The closed facts of a row, one by one (no condition). -/
import Derived.JoinedOf
set_option linter.all false
set_option linter.unusedVariables false
set_option linter.unusedSimpArgs false
set_option linter.unnecessarySimpa false
namespace Go.Mir
open Go
theorem joined_of {P : Program} {f : FuncId} {fn : Func} {s : ChangeSpec} {c : OpenClaim}
    (h1 : c.wf (OpenSpec.ofChange s) = true) (h2 : laidOutB P = true) (h3 : mapsRowed P = true) (h4 : fn.params.all (P.readableRec ·) = true) (h5 : namedTie P c.named s.vars = true)
    (h6 : (c.stops == []) = true) (h7 : (P.stops == []) = true) (h8 : (c.knobs == []) = true) (h9 : (P.stopKnobs == []) = true)
    (h10 : c.inPlace = P.inPlace f) (h11 : c.unfollowed = P.unfollowed f) (h12 : c.recurses = P.recurses f) (h13 : c.named = P.varsNamed f)
    (h14 : (c.maps == (fn.params.toList ++ s.plain.varTypes P).any (P.mapsRec ·)) = true) (h15 : (c.ifaces == (fn.params.toList ++ s.plain.varTypes P).any (P.ifacesRec ·)) = true) (h16 : (c.mapsOut == P.mapsAmong fn.resultTypes.toList) = true)
    (h17 : (c.loops == (fn.params.toList ++ s.plain.varTypes P).any (P.loopsFrom ·)) = true) (h18 : (c.wideKeys == (fn.params.toList ++ s.plain.varTypes P ++ fn.resultTypes.toList).any (P.wideKeysFrom ·)) = true)
    (h19 : s.vars.all (P.varReadable ·) = true) (h20 : fn.resultTypes.all (fun t => P.readableRec t && decide (t < P.types.size)) = true)
    (h21 : (c.ifacesOut == fn.resultTypes.toList.any (P.ifacesRec ·)) = true) (h22 : (c.loopsOut == fn.resultTypes.toList.any (P.loopsFrom ·)) = true) (h23 : (c.plainKeys == P.plainKeys) = true)
    (h24 : (c.shortTexts.isNone && P.stopsHeard && P.mayEnter) = true) (h25 : (c.lifted == P.liftsFinal) = true) (h26 : (P.make == some c.make) = true)
    (h27 : (c.kinds == (if c.domain.isEmpty then [] else fn.params.toList.map fun t => match P.underlying t with | some (.int k) => some k | _ => none)) = true) (h28 : (c.pinned == c.pinnedBy) = true)
    (h29 : (c.veiled == (fn.params.toList ++ s.plain.varTypes P ++ fn.resultTypes.toList).any (P.veiledRec ·)) = true) (h30 : c.veiledFits P fn.params.toList (fn.params.toList ++ s.plain.varTypes P ++ fn.resultTypes.toList) = true) :
    joinedFacts P f fn s c = true := by
  simp only [Bool.and_eq_true] at h24
  unfold joinedFacts
  simp only [Bool.and_eq_true, beq_iff_eq] at *
  exact ⟨⟨⟨⟨⟨⟨⟨⟨⟨⟨⟨⟨⟨⟨⟨⟨⟨⟨⟨⟨⟨⟨⟨⟨⟨⟨⟨⟨⟨⟨⟨h1, h2⟩, h3⟩, h4⟩, h5⟩, h6⟩, h7⟩, h8⟩, h9⟩, h10⟩, h11⟩, h12⟩, h13⟩, h14⟩, h15⟩, h16⟩, h17⟩, h18⟩, h19⟩, h20⟩, h21⟩, h22⟩, h23⟩, h24.1.1⟩, h24.1.2⟩, h24.2⟩, h25⟩, h26⟩, h27⟩, h28⟩, h29⟩, h30⟩
theorem recurses_of {P : Program} {f : FuncId} {b : Bool} (h : true = P.unfollowed f) (hb : b = true) : b = P.recurses f := by
  unfold Program.recurses; rw [← h, hb]; rfl

/-- The way that the closure takes, with a mask for what is seen. -/
@[reducible] def seenQ (m f : Nat) : Bool := Nat.beq (Nat.land (Nat.shiftRight m f) 1) 1
noncomputable def closQ (P : Program) : (fuel : Nat) → (todo : List FuncId) → (m : Nat) → (seen : List FuncId) → Option (List FuncId)
  | _, [], _, seen => some seen
  | 0, _, _, _ => none
  | n + 1, f :: todo, m, seen => match seenQ m f with
    | true => closQ P n todo m seen
    | false => closQ P n ((P.funcs[f]?).elim [] P.leadsTo ++ todo) (Nat.lor m (Nat.shiftLeft 1 f)) (f :: seen)
theorem seenQ_iff (m f : Nat) : seenQ m f = m.testBit f := by
  unfold seenQ Nat.testBit
  show Nat.beq ((m >>> f) &&& 1) 1 = (1 &&& m >>> f != 0)
  rw [Nat.and_comm 1]
  have : (m >>> f) &&& 1 = (m >>> f) % 2 := Nat.and_one_is_mod _
  rw [this]
  rcases Nat.mod_two_eq_zero_or_one (m >>> f) with h | h <;> rw [h] <;> rfl
theorem closQ_ok {P : Program} : ∀ (n : Nat) (todo : List FuncId) (m : Nat) (seen L : List FuncId), (∀ x, m.testBit x = seen.contains x) → closQ P n todo m seen = some L → ∀ k, n ≤ k → P.closureVia k todo seen = L.reverse
  | n, [], m, seen, L, _, h, k, _ => by
    have h : some seen = some L := by cases n <;> exact h
    cases h
    cases k <;> rfl
  | 0, _ :: _, _, _, _, _, h, _, _ => by cases h
  | n + 1, f :: todo, m, seen, L, hm, h, k, hk => by
    obtain ⟨k, rfl⟩ : ∃ j, k = j + 1 := ⟨k - 1, by omega⟩
    unfold closQ at h
    rw [seenQ_iff, hm] at h
    show (if seen.contains f then P.closureVia k todo seen else P.closureVia k ((P.funcs[f]?).elim [] P.leadsTo ++ todo) (f :: seen)) = _
    cases hs : seen.contains f with
    | true => rw [hs] at h; exact closQ_ok n todo m seen L hm h k (by omega)
    | false =>
      rw [hs] at h
      refine closQ_ok n _ _ (f :: seen) L (fun x => ?_) h k (by omega)
      show (m ||| 1 <<< f).testBit x = _
      rw [Nat.testBit_or, hm, Nat.one_shiftLeft, Nat.testBit_two_pow, List.contains_cons]
      by_cases hx : f = x
      · subst hx; simp
      · have : ¬ x = f := fun e => hx e.symm
        simp [hx, this]
theorem closure_of {P : Program} {f n : Nat} {L L' : List FuncId} (h : closQ P n [f] 0 [] = some L) (hn : Nat.ble n (1 + (P.funcs.toList.map fun g => (P.leadsTo g).length + 1).sum) = true) (hr : L.reverse = L') : P.closure f = L' := by
  unfold Program.closure
  rw [← hr]
  exact closQ_ok n [f] 0 [] L (by simp) h _ (Nat.le_of_ble_eq_true hn)
theorem inPlace_of {P : Program} {f : Nat} {L : List FuncId} (h : P.closure f = L) {r : List String} (hr : L.filterMap (fun g => (P.funcs[g]?).bind fun fn => if fn.ours || fn.body.isNone || fn.name == "runtime.NumGoroutine" then some fn.name else none) = r) : r = P.inPlace f := by
  unfold Program.inPlace; rw [h, hr]
theorem unfollowed_of {P : Program} {f : Nat} {L : List FuncId} (h : P.closure f = L) {r : Bool} (hr : (L.any fun g => (P.funcs[g]?).any fun fn => match fn.body with | some c => c.unfollowed | none => entryCalls fn) = r) : r = P.unfollowed f := by
  unfold Program.unfollowed; rw [h]; exact hr.symm
theorem varsNamed_of {P : Program} {f : Nat} {L : List FuncId} (h : P.closure f = L) {r : List String} (hr : (((L.flatMap fun g => ((P.funcs[g]?).bind (·.body)).elim [] Code.globalsNamed).eraseDups).filterMap (fun g => (P.globals[g]?).map (·.name)) ++
   L.filterMap fun g => (P.funcs[g]?).bind fun fn => if fn.body.isNone then entryReads.lookup fn.name else none).eraseDups = r) : r = P.varsNamed f := by
  unfold Program.varsNamed; rw [h, hr]
end Go.Mir
