import Derived.Test.YtbphgomdjjkffaaA09f
set_option linter.all false
set_option linter.unusedVariables false
set_option linter.unusedSimpArgs false
set_option linter.unnecessarySimpa false
namespace Go.Proofs.Ytbphgomdjjkffaa.M
open Go Go.Mir Go.Proofs

/-- Laid ahead of the first one that is greater. -/
def insR (x : Item) : List Item → List Item
  | [] => [x]
  | a :: r => if x.seq < a.seq then x :: a :: r else a :: insR x r
def putR (w : Win) (x : Item) (last : Int) : Win × Bool := if mayI x = false ∨ x.seq < w.next ∨ last < x.seq ∨ 64 ≤ w.l.length ∨ waits w.l x.seq = true then (w, false) else (⟨w.next, insR x w.l⟩, true)
theorem c18 (w : Win) (x : Item) (last : Int) : Cl 18 [eWin w, eItem x, I last] [.pv (eWin (putR w x last).1), .pv (B (putR w x last).2)] := t18 _ _ _ (by
  simp only [P18, Ln, List.length_map, SmA_true, true_and]
  have no : (mayI x = false ∨ x.seq < w.next ∨ last < x.seq ∨ 64 ≤ w.l.length ∨ waits w.l x.seq = true) → RvsLe [.pv (eWin w), .pv (B false)] [.pv (eWin (putR w x last).1), .pv (B (putR w x last).2)] := fun h => by
    rw [putR, if_pos h]; exact .refl _
  refine ⟨_, c26 _, fun hl => Fk_of (fun h => no (.inl (by simpa using h))) fun h1 => Fk_of (fun h => no (.inr (.inl (by simpa using h)))) fun h2 => Fk_of (fun h => no (.inr (.inr (.inl (by simpa using h))))) fun h3 => Fk_of (fun h => no (.inr (.inr (.inr (.inl (by simp at h; omega)))))) fun h4 =>
    ⟨_, c33 w x.seq, Fk_of (fun h => no (.inr (.inr (.inr (.inr h))))) fun h5 => ?_⟩⟩
  simp at h1 h2 h3 h4
  have e : putR w x last = (⟨w.next, insR x w.l⟩, true) := if_neg (by simp [h1, h5]; omega)
  rw [e]
  refine Lo_drop w.l (fun i r v => ∃ (acc : List Item) (b : Bool), v = (acc.map eItem, b, (i : Int), (), (), (), ()) ∧ acc.length = i + b.toNat ∧ insR x w.l = acc ++ (if b then r else insR x r)) ?_ ?_ ⟨[], false, rfl, by simp, rfl⟩
  · rintro L _ ⟨acc, b, rfl, ha, he⟩
    refine Fk_f (by simp) (Jn_mid (fun v => v = ((insR x w.l).map eItem, (), (), ())) (fun j hj => ?_) ?_)
    · refine Fk_of (fun h => Sz_of (by have := b.toNat_le; simp; omega) (hj _ ?_)) fun h => hj _ ?_
      · simp at h; subst h; simp [he, insR]
      · simp at h; subst h; simp [he]
    · rintro _ rfl; exact .refl _
  · rintro L i a r _ hi ha _ ⟨acc, b, rfl, hlen, he⟩ hL
    have hb := b.toNat_le
    refine Fk_t (by simpa using hi) (Jn_mid (fun v => ∃ (acc' : List Item) (b' : Bool), v = (acc'.map eItem, b', (i : Int), (), (), (), ()) ∧ acc'.length = i + b'.toNat ∧ insR x w.l = acc' ++ a :: (if b' then r else insR x r)) (fun j hj => ?_) ?_)
    · refine Fk_of (fun h => Ix_nat ha (Fk_of (fun h' => Sz_of (by simp; omega) (hj _ ⟨acc ++ [x], true, by simp, ?_, ?_⟩)) fun h' => hj _ ⟨acc, b, rfl, hlen, ?_⟩)) fun h => hj _ ⟨acc, b, rfl, hlen, ?_⟩
      · simp at h; subst h; simp [hlen]
      · simp at h h'; subst h; simp [he, insR, h']
      · simp at h h'; subst h; rw [he]; simp only [insR, Bool.false_eq_true, if_false]; rw [if_neg (by omega)]
      · simp at h; subst h; simp [he]
    · rintro _ ⟨acc', b', rfl, h6, he'⟩
      have hb' := b'.toNat_le
      refine Ix_nat ha (Sz_of (by simp; omega) (hL _ ⟨acc' ++ [a], b', ?_, ?_, ?_⟩))
      · simp only [w64_succ hi hl]; simp
      · simp; omega
      · rw [he']; simp)
def peekW (w : Win) : Item × Bool := match w.l with
  | [] => (zI, false)
  | a :: _ => if a.seq = w.next then (a, true) else (zI, false)
theorem c19 (w : Win) : Cl 19 [eWin w] [.pv (eItem (peekW w).1), .pv (B (peekW w).2)] := t19 _ (by
  unfold P19
  simp only [Ln, List.length_map]
  intro hl
  cases hw : w.l with
  | nil =>
    have e : peekW w = (zI, false) := by simp only [peekW, hw]
    rw [e]
    exact Fk_t (by simp) (.dull rfl)
  | cons a r =>
    refine Fk_f (by simp; omega) (Ix_nat (i := 0) (a := a) rfl (Fk_of (fun h => ?_) fun h => Ix_nat (i := 0) (a := a) rfl ?_))
    · have e : peekW w = (zI, false) := by simp only [peekW, hw]; rw [if_neg (by simpa using h)]
      rw [e]; exact .dull rfl
    · have e : peekW w = (a, true) := by simp only [peekW, hw]; rw [if_pos (by simpa using h)]
      rw [e]; exact .refl _)
def peekR (w : Win) : Item × Bool := match w.l.find? (fun a => a.seq == w.next) with
  | none => (zI, false)
  | some a => (a, true)
theorem c20 (w : Win) : Cl 20 [eWin w] [.pv (eItem (peekR w).1), .pv (B (peekR w).2)] := t20 _ (by
  unfold P20
  simp only [Ln, SmA_true, true_and, List.length_map]
  refine Lo_drop w.l (fun i r v => v = ((i : Int), (), (), ()) ∧ w.l.find? (fun a => a.seq == w.next) = r.find? (fun a => a.seq == w.next)) ?_ ?_ ⟨rfl, rfl⟩
  · rintro L _ ⟨rfl, he⟩ hl
    have e : peekR w = (zI, false) := by simp only [peekR, he, List.find?_nil]
    rw [e]
    exact Fk_f (by simp) (.dull rfl)
  · rintro L i a r _ hi ha _ ⟨rfl, he⟩ hL hl
    refine Fk_t (by simpa using hi) (Ix_nat ha (Fk_of (fun h => Ix_nat ha ?_) (fun h => hL _ ⟨?_, ?_⟩)))
    · have e : peekR w = (a, true) := by simp only [peekR, he, List.find?_cons, h]
      rw [e]; exact .refl _
    · simp only [w64_succ hi hl]
    · rw [he, List.find?_cons, h])
def takeW (w : Win) : Item × Win × Bool := if (peekW w).2 then ((peekW w).1, ⟨w64 (w.next + 1), w.l.drop 1⟩, true) else (zI, w, false)
theorem c21 (w : Win) (h : w.l.length ≤ 1000) : Cl 21 [eWin w] [.pv (eItem (takeW w).1), .pv (eWin (takeW w).2.1), .pv (B (takeW w).2.2)] := t21 _ (by
  refine ⟨_, _, c19 w, Fk_of (fun h' => ?_) fun h' => ?_⟩
  · have e : takeW w = (zI, w, false) := if_neg (by simpa using h')
    rw [e]; exact .dull rfl
  · have h'' : (peekW w).2 = true := by simpa using h'
    have e : takeW w = ((peekW w).1, ⟨w64 (w.next + 1), w.l.drop 1⟩, true) := if_pos h''
    rw [e]
    have h1 : w.l ≠ [] := fun h0 => by simp [peekW, h0] at h''
    have h2 : 0 < w.l.length := List.length_pos_iff.2 h1
    have c := c32 [w.l.drop 1] (by simp; omega)
    simp only [List.map_cons, List.map_nil, lItem, List.map_drop] at c
    refine ⟨by omega, by simp; omega, fL8 _, _, c, .dull ?_⟩
    simp [RV.dull, PV.dull, PV.dull1])
def takeR (w : Win) : Item × Win × Bool := if (peekR w).2 then ((peekR w).1, ⟨w64 (w.next + 1), w.l.filter (fun a => a.seq != w.next)⟩, true) else (zI, w, false)
theorem c22 (w : Win) (h : w.l.length ≤ 1000) : Cl 22 [eWin w] [.pv (eItem (takeR w).1), .pv (eWin (takeR w).2.1), .pv (B (takeR w).2.2)] := t22 _ (by
  refine ⟨_, _, c20 w, Fk_of (fun h' => ?_) fun h' => ?_⟩
  · have e : takeR w = (zI, w, false) := if_neg (by simpa using h')
    rw [e]; exact .dull rfl
  · have h'' : (peekR w).2 = true := by simpa using h'
    have e : takeR w = ((peekR w).1, ⟨w64 (w.next + 1), w.l.filter (fun a => a.seq != w.next)⟩, true) := if_pos h''
    rw [e]
    generalize (peekR w).1 = x
    simp only [Ln, SmA_true, true_and, List.length_map]
    refine Lo_drop w.l (fun i r v => ∃ acc : List Item, v = (acc.map eItem, (i : Int), (), (), (), (x.kind, x.seq, x.epoch, x.index, x.total, x.count, List.map I x.l, List.map U8 x.body, ()), ()) ∧ acc.length ≤ i ∧ w.l.filter (fun a => a.seq != w.next) = acc ++ r.filter (fun a => a.seq != w.next)) ?_ ?_ ⟨[], rfl, by simp, rfl⟩
    · rintro L _ ⟨acc, rfl, hlen, he⟩ hl
      refine Fk_f (by simp) ?_
      rw [he]; simp; exact .refl _
    · rintro L i a r _ hi ha _ ⟨acc, rfl, hlen, he⟩ hL hl
      refine Fk_t (by simpa using hi) (Jn_mid (fun v => ∃ acc : List Item, v = (acc.map eItem, (i : Int), (), (), (), (x.kind, x.seq, x.epoch, x.index, x.total, x.count, List.map I x.l, List.map U8 x.body, ()), ()) ∧ acc.length ≤ i + 1 ∧ w.l.filter (fun a => a.seq != w.next) = acc ++ r.filter (fun a => a.seq != w.next)) (fun j hj => ?_) ?_)
      · refine Ix_nat ha (Fk_of (fun h => Ix_nat ha (Sz_of (by simp; omega) (hj _ ⟨acc ++ [a], by simp, by simp; omega, ?_⟩))) fun h => hj _ ⟨acc, rfl, by omega, ?_⟩)
        · rw [he, List.filter_cons, h]; simp
        · rw [he, List.filter_cons, h]; simp
      · rintro _ ⟨acc, rfl, h5, he⟩
        exact hL _ ⟨acc, by simp only [w64_succ hi hl], h5, he⟩)
end Go.Proofs.Ytbphgomdjjkffaa.M
