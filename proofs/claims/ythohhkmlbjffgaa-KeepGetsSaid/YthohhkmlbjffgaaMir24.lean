/- Calls by answers (lemmas; conditions: what they say). -/
import Derived.Test.YthohhkmlbjffgaaMir23
namespace Go.Mir
open Go Go.RowKit
/-- Where it ended, with what it rests on. -/
def endQ (P : Program) (rs : List ResultVar) : Option (St × List It × List Prop) → Option (List RV × List Prop)
  | some (s, [], ps) => match fin P rs s with
    | some xs => some (xs, ps)
    | none => none
  | _ => none
theorem callQ {E : MEnv} {g : Nat} {ps : List PV} {fn : Func} {c : Code} (n : Nat) (ans : List (Nat × Q)) {rs : List RV} {qs : List Prop} (hf : E.fn g = some fn) (hb : fn.body = some c) (hn : ps.length ≤ fn.ntmps)
    (h : endQ E.P fn.results.toList (runQ E n ans 0 g [.code c] ⟨envOf 0 (ps.map .pv), [], 0, fn.ntmps⟩) = some (rs, qs)) (hq : Holds qs) : call E g ps = some rs := by
  rw [call_def' hf hb hn]
  unfold endQ at h
  split at h
  · rename_i s ps' hr
    rw [runQ_ok n hr (by
      split at h
      · simp only [Option.some.injEq, Prod.mk.injEq] at h; rw [h.2]; exact hq
      · cases h), run_nil]
    split at h
    · rename_i xs hx
      simp only [Option.some.injEq, Prod.mk.injEq] at h
      show fin E.P _ s = _
      rw [hx, h.1]
    · cases h
  · cases h
theorem Holds.nil : Holds [] := fun p h => by simp at h
theorem Holds.cons {p : Prop} {ps : List Prop} (h : p) (hs : Holds ps) : Holds (p :: ps) := fun q hq => by
  rcases List.mem_cons.1 hq with e | hq
  · rw [e]; exact h
  · exact hs q hq
end Go.Mir
