/- Reading in other words; a call that answers true (lemmas; conditions: what they say). -/
import Derived.Test.YthohhkmlbjffgaaMir21
namespace Go.Mir
open Go Go.RowKit
theorem readsM_map {α β : Type} {P : Program} {t : TypeId} {en : α → List PV} {ok : α → Prop} (h : ReadsM P t en ok) (en' : β → List PV) (g : α → β) {ok' : β → Prop} (hg : ∀ a, ok a → en' (g a) = en a) (ho : ∀ a, ok a → ok' (g a)) : ReadsM P t en' ok' := by
  intro H enc W spare held fuel cs x hx hz
  obtain ⟨a, hk, hok⟩ := h H enc W spare held fuel cs x hx hz
  exact ⟨g a, by rw [hg a hok]; exact hk, ho a hok⟩
theorem call_true {E : MEnv} (hE : E.Ok) {g : Nat} {ps : List PV} {vs : List Value} {w : World} (h : call E g ps = some [.pv (.lit (.bool true))]) (ha : PW (Rep (fun b => b < w.heap.size) w) ps vs) :
    Calls E.P g vs.toArray w fun e w' => e = .returned (.bool true) ∧ Below w.heap.size w w' := by
  refine (call_ok hE h ha).mono fun e w' ⟨us, bs, S', he, hr, hb⟩ => ?_
  cases hr with
  | pv h1 h2 =>
    cases h1
    cases h2
    exact ⟨he, hb⟩
theorem PW.consM {α β : Type} {R : α → β → Prop} {x : α} {v : β} {xs : List α} {vs : List β} (h : R x v) (hr : PW R xs vs) : PW R (x :: xs) (v :: vs) := ⟨by simp [hr.1], fun j y u hy hu => by
  cases j with
  | zero => simp at hy hu; subst hy; subst hu; exact h
  | succ j => exact hr.2 j y u (by simpa using hy) (by simpa using hu)⟩
theorem Rep.aggOf {S : Nat → Prop} {w : World} {cs : List PV} {vs : Array Value} (h : PW (Rep S w) cs vs.toList) : Rep S w (.agg cs) (.agg vs) := by
  have := Rep.agg (S := S) (w := w) h.1 h.2
  simpa using this
theorem PW.head {α β : Type} {R : α → β → Prop} {x : α} {v : β} (h : PW R [x] [v]) : R x v := h.2 0 x v rfl rfl
end Go.Mir
