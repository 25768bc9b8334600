/- From what is shown of a function's code to its contract; words for what is shown (lemmas; conditions: what they say). -/
import Derived.Test.YthohhkmlbjffgaaMx22
set_option linter.all false
set_option linter.unusedVariables false
set_option linter.unusedSimpArgs false
set_option linter.unnecessarySimpa false
namespace Go.Mir
open Go Go.RowKit
variable {P : Program} {μ μ' : Nat → Option KS} {S S' : Nat → Prop} {w w' : World} {σ σ' : Store}

def endX (P : Program) (rs : List ResultVar) (Φ : List RV → Prop) (s : St) : Prop := match results? P s.env s.sto rs with
  | some xs => match finRV s.sto xs with
    | some (rv, _) => Φ rv
    | none => False
  | none => False

theorem ctP_of {g : Nat} {fn : Func} {c : Code} {ps : List PV} {Φ : List RV → Prop} (n : Nat) (ans : List (Nat × Q)) (hmix : P.follows .mixedOrders = true) (hf : P.funcs[g]? = some fn)
    (hb : fn.body = some c) (hx : (!(fn.name == "runtime.NumGoroutine") && okCode c && Nat.ble ps.length fn.ntmps) = true)
    (h : runX P 0 (endX P fn.results.toList Φ) n ans 0 [.code c] ⟨envOf 0 (ps.map .pv), [], 0, fn.ntmps⟩) : CtP P g ps Φ := by
  simp only [Bool.and_eq_true, Bool.not_eq_true'] at hx
  obtain ⟨⟨h2, h3⟩, hn⟩ := hx
  have hn : ps.length ≤ fn.ntmps := Nat.le_of_ble_eq_true hn
  intro S w vs hS ha
  have h2' : ¬ fn.name = "runtime.NumGoroutine" := by simpa using h2
  have hσ : StoRep (fun _ => none) S w [] := ⟨fun k b h => by simp [lk] at h, fun _ _ => rfl, fun _ _ _ h => h.elim, fun _ _ h => h.elim, hS⟩
  have ha' : PW (RepA (fun _ => none) S w) (ps.map .pv) vs := ⟨by simpa using ha.1, fun j x v hx hv => by
    rw [List.getElem?_map, Option.map_eq_some_iff] at hx
    obtain ⟨p, hp, rfl⟩ := hx
    exact .pv (ha.2 j p v hp hv)⟩
  refine ⟨calls_of_wp hf hb ?_, by simp [callFunc, hf, h2', hb]⟩
  have hw := runX_ok (B := 0) n ans 0 _ _ h hmix (fun x hx => by simp at hx; subst hx; exact h3) trivial (fun _ => none) S w { tmps := vs.toArray ++ Array.replicate (fn.ntmps - vs.toArray.size) undef, defers := [] } (by
    have := ha'.1
    simp at this ⊢; omega) rfl hσ (EnvRep.enter ha')
  refine wp_mono hw fun e a' w' hq => ?_
  have fin : FinΦ 0 (fun _ => none) S w (endX P fn.results.toList Φ) a' w' → ∃ v, (results fn a'.tmps).run P w' = .ok v w' ∧ a'.defers = [] ∧
      ∃ S' rs us bs, Φ rs ∧ Ending.returned v = .returned (resVal us) ∧ RVs S' w' rs us bs ∧ Grown S w S' w' ∧ ∀ b ∈ bs, ¬ S' b ∧ w.heap.size ≤ b ∧ b < w'.heap.size := by
    rintro ⟨r, hr, μ1, S1, hd, hs1, he1, hx1⟩
    unfold endX at hr
    split at hr
    · rename_i xs hxs
      split at hr
      · rename_i rv σ1 hrv
        obtain ⟨us, hru, hp⟩ := results_ok (P := P) (fn := fn) hs1 he1 hxs
        obtain ⟨μ2, S2, bs, g1, g2, g3, g4⟩ := finRV_ok hs1 hp hrv
        have hx2 := hx1.trans (g2.toB _)
        refine ⟨_, hru, hd, S2, rv, us, bs, hr, rfl, g3, ⟨hx2.st, fun b hb => ?_, g1.slt, fun b hb => hx2.frame b hb (fun _ h => h), hx2.size, hx2.os, hx2.tape, hx2.output⟩, fun b hb => ?_⟩
        · rcases hx2.st' b hb with h | ⟨j, h⟩ | h
          · exact .inl h
          · exact h.elim
          · exact .inr h
        · obtain ⟨q1, q2, ⟨j, q3⟩, q4⟩ := g4 b hb
          refine ⟨q1, ?_, q4⟩
          rcases hx1.own' j b q3 with ⟨_, h⟩ | h
          · exact h.elim
          · exact h
      · exact hr.elim
    · exact hr.elim
  cases e with
  | normal => obtain ⟨v, f1, f2, f3⟩ := fin hq; exact ⟨f2, v, f1, f3⟩
  | ret => obtain ⟨v, f1, f2, f3⟩ := fin hq; exact ⟨f2, v, f1, f3⟩
  | exit id => exact hq.elim
  | goto l => exact hq.elim
  | panic ch => exact hq.elim
  | outgrown => exact hq.elim

theorem ctP_by {g : Nat} {fn : Func} {c : Code} {ps : List PV} {Φ : List RV → Prop} {X : Prop} (h : X) (n : Nat) (ans : List (Nat × Q)) (hmix : P.follows .mixedOrders = true) (hf : P.funcs[g]? = some fn)
    (hb : fn.body = some c) (hx : (!(fn.name == "runtime.NumGoroutine") && okCode c && Nat.ble ps.length fn.ntmps) = true)
    (hX : X = runX P 0 (endX P fn.results.toList Φ) n ans 0 [.code c] ⟨envOf 0 (ps.map .pv), [], 0, fn.ntmps⟩) : CtP P g ps Φ := ctP_of n ans hmix hf hb hx (hX ▸ h)

/-! ### What is shown, in words for proofs -/
theorem RvsLe.refl : ∀ rs : List RV, RvsLe rs rs
  | [] => .nil
  | .pv p :: r => .cons (.pv (.refl p)) (RvsLe.refl r)
  | .fresh e s es :: r => .cons (.fresh ⟨rfl, fun j p q hp hq => by rw [hp] at hq; cases hq; exact .refl p⟩) (RvsLe.refl r)
theorem PVsLe.refl (ps : List PV) : PVsLe ps ps := ⟨rfl, fun j p q hp hq => by rw [hp] at hq; cases hq; exact .refl p⟩
theorem PVsLe.cons {p q : PV} {ps qs : List PV} (h : PVLe p q) (hs : PVsLe ps qs) : PVsLe (p :: ps) (q :: qs) := ⟨by simp [hs.1], fun j x y hx hy => by
  cases j with
  | zero => simp at hx hy; subst hx; subst hy; exact h
  | succ j => exact hs.2 j x y (by simpa using hx) (by simpa using hy)⟩
theorem PVsLe.nil : PVsLe [] [] := .refl []
theorem PVLe.mkAgg {as bs : List PV} (h : PVsLe as bs) : PVLe (.agg as) (.agg bs) := .agg h.1 h.2
theorem PVLe.nil (f : Bool) : PVLe (.sl f []) (.sl false []) := .flag f []
theorem PVLe.mkSl {f : Bool} {as bs : List PV} (h : PVsLe as bs) : PVLe (.sl f as) (.sl false bs) := .sl (fun h => by cases h) h.1 h.2
theorem RvLe.toRow (e s : Nat) (es : List PV) : RvLe (.fresh e s es) (.pv (.sl false es)) := .row (.refl es)
theorem Ct.ofP {g : Nat} {ps : List PV} {rs : List RV} (h : CtP P g ps (fun r => RvsLe r rs)) : Ct P g ps rs := h
theorem RvLe.trans {a b c : RV} (h : RvLe a b) (h' : b = c) : RvLe a c := h' ▸ h

theorem Jn_of {V : Type} {J : V → Prop} {T : (V → Prop) → Prop} (h : T J) : Jn J T := h
/-- A loop, by a measure. -/
theorem Lo_of {V : Type} {F : (V → Prop) → V → Prop} (I : V → Prop) (m : V → Nat) (h : ∀ (L : V → Prop) (v : V), I v → (∀ v', I v' → m v' < m v → L v') → F L v) {v : V} (hv : I v) : Lo F v := by
  have key : ∀ n v, I v → m v < n → itL F n v := by
    intro n
    induction n with
    | zero => intro v _ h; omega
    | succ n ih => intro v hv hm; exact h _ v hv fun v' hv' hlt => ih v' hv' (by omega)
  exact ⟨m v + 1, key _ v hv (Nat.lt_succ_self _)⟩
end Go.Mir
