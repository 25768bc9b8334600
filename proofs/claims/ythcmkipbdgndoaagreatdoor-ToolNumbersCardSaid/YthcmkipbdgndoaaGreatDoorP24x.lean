/- tool.Parse at lines of a round (walks by answers; conditions: what they say). The lines that ToolNumbers asks (plain lemmas; conditions: what they say). ToolNumbers: its body answers true (a walk by answers, and what it asks; no condition). -/
import Derived.Test.YthcmkipbdgndoaaGreatDoorT24
import Derived.Test.YthcmkipbdgndoaaGreatDoorS24d
set_option linter.all false
set_option linter.unusedVariables false
set_option linter.unusedSimpArgs false
set_option linter.unnecessarySimpa false
namespace Go.Proofs.YthcmkipbdgndoaaGreatDoor.M
open Go Go.Mir Go.Proofs Go.Lib
set_option maxRecDepth 1000000
abbrev roundL : List UInt8 := [114, 111, 117, 110, 100]
abbrev opR (k : Int) : PV := .agg [I 10, I 0, I k, .sl true []]
abbrev opN : PV := .agg [I 0, I 0, I 0, .sl true []]
noncomputable def asksP : PV := match r258 with
  | [.pv p] => p
  | _ => .sl true []
theorem k_asks : Ct Tryz.prog 19 [] [.pv asksP] := k258
theorem parse_num {s t : ByteArray} {k : Int} {b : Bool} (hw : Ct Tryz.prog 17 [Str s] [.pv (.sl false [bsS roundL, Str t])]) (hn : Ct Tryz.prog 20 [Str t] [.pv (I k), .pv (B b)]) : Ct Tryz.prog 10 [Str s] [.pv (if b then opR k else opN), .pv (B b)] := by
  cases b with
  | true =>
    exact ctP_by (X := Ct Tryz.prog 17 [Str s] [.pv (.sl false [bsS roundL, Str t])] ∧ Ct Tryz.prog 19 [] [.pv asksP] ∧ Ct Tryz.prog 20 [Str t] [.pv (I k), .pv (B true)] ∧ RvsLe [.pv (opR k), .pv (B true)] [.pv (opR k), .pv (B true)])
      ⟨hw, k_asks, hn, RvsLe.refl _⟩ 1000 [(1001, .call [.pv (.cst (.sl false [bsS roundL, Str t]))]), (4000, .call [.pv (.cst asksP)]), (9999, .unroll), (16005, .call [.pv (.cst (I k)), .pv (.cst (B true))])] mixed Tryz.func10 rfl (by kernel_rfl) (by kernel_rfl)
  | false =>
    exact ctP_by (X := Ct Tryz.prog 17 [Str s] [.pv (.sl false [bsS roundL, Str t])] ∧ Ct Tryz.prog 19 [] [.pv asksP] ∧ Ct Tryz.prog 20 [Str t] [.pv (I k), .pv (B false)] ∧ RvsLe [.pv opN, .pv (B false)] [.pv opN, .pv (B false)])
      ⟨hw, k_asks, hn, RvsLe.refl _⟩ 1000 [(1001, .call [.pv (.cst (.sl false [bsS roundL, Str t]))]), (4000, .call [.pv (.cst asksP)]), (9999, .unroll), (16005, .call [.pv (.cst (I k)), .pv (.cst (B false))])] mixed Tryz.func10 rfl (by kernel_rfl) (by kernel_rfl)
theorem parse_one {s : ByteArray} (hw : Ct Tryz.prog 17 [Str s] [.pv (.sl false [bsS roundL])]) : Ct Tryz.prog 10 [Str s] [.pv opN, .pv (B false)] :=
  ctP_by (X := Ct Tryz.prog 17 [Str s] [.pv (.sl false [bsS roundL])] ∧ Ct Tryz.prog 19 [] [.pv asksP] ∧ RvsLe [.pv opN, .pv (B false)] [.pv opN, .pv (B false)])
    ⟨hw, k_asks, RvsLe.refl _⟩ 1000 [(1001, .call [.pv (.cst (.sl false [bsS roundL]))]), (4000, .call [.pv (.cst asksP)])] mixed Tryz.func10 rfl (by kernel_rfl) (by kernel_rfl)
theorem round_plain : Plain roundL := by
  intro x hx
  simp only [roundL, List.mem_cons, List.not_mem_nil, or_false] at hx
  rcases hx with rfl | rfl | rfl | rfl | rfl <;> decide
/-- A line: round, a blank, signs. -/
abbrev lineR (l : List UInt8) : ByteArray := bsA (roundL ++ 32 :: l)
theorem lineR_size (l : List UInt8) : (lineR l).size = l.length + 6 := by rw [bsA_size]; simp
theorem dig_plain {l : List UInt8} (h : ∀ x ∈ l, isDig x) : Plain l := fun x hx => by
  have := h x hx
  unfold isDig at this
  omega
theorem words_line {b : List UInt8} {c : UInt8} (h2 : ∀ x ∈ b, isDig x) (hc : c ≠ 32) (hl : b.length ≤ 100) : Ct Tryz.prog 17 [Str (lineR (b ++ [c]))] [.pv (.sl false [bsS roundL, bsS (b ++ [c])])] := by
  have := cWords (lineR (b ++ [c])) (by rw [lineR_size]; simp; omega)
  rw [words_of (by simp) round_plain (dig_plain h2) hc] at this
  exact this
/-- Digits: the number that they are. -/
theorem parse_good {l : List UInt8} (h0 : l ≠ []) (h9 : l.length ≤ 9) (h : ∀ x ∈ l, isDig x) : Ct Tryz.prog 10 [Str (lineR l)] [.pv (opR (val l 0)), .pv (B true)] := by
  have hn := cNumber (bsA l)
  rw [num_good h0 h9 h] at hn
  have e : l = l.dropLast ++ [l.getLast h0] := (List.dropLast_concat_getLast h0).symm
  have hw : Ct Tryz.prog 17 [Str (lineR l)] [.pv (.sl false [bsS roundL, bsS l])] := by
    rw [e]
    refine words_line (fun x hx => h x (List.dropLast_subset l hx)) ?_ (by simp; omega)
    have := h _ (List.getLast_mem h0)
    intro e
    rw [e] at this
    exact absurd this.1 (by decide)
  exact parse_num hw hn
theorem parse_long {l : List UInt8} (h9 : 9 < l.length) (h99 : l.length ≤ 100) (h : ∀ x ∈ l, isDig x) : Ct Tryz.prog 10 [Str (lineR l)] [.pv opN, .pv (B false)] := by
  have h0 : l ≠ [] := by intro e; rw [e] at h9; simp at h9
  have hn := cNumber (bsA l)
  rw [num_long h9] at hn
  have e : l = l.dropLast ++ [l.getLast h0] := (List.dropLast_concat_getLast h0).symm
  have hw : Ct Tryz.prog 17 [Str (lineR l)] [.pv (.sl false [bsS roundL, bsS l])] := by
    rw [e]
    refine words_line (fun x hx => h x (List.dropLast_subset l hx)) ?_ (by simp; omega)
    have := h _ (List.getLast_mem h0)
    intro e
    rw [e] at this
    exact absurd this.1 (by decide)
  exact parse_num hw hn
/-- Another sign at the end, that is no digit. -/
theorem parse_bad {b : List UInt8} {c : UInt8} (hl : b.length ≤ 100) (h : ∀ x ∈ b, isDig x) (hc : ¬ isDig c) (h32 : c ≠ 32) : Ct Tryz.prog 10 [Str (lineR (b ++ [c]))] [.pv opN, .pv (B false)] := by
  have hn := cNumber (bsA (b ++ [c]))
  rw [num_bad h hc] at hn
  exact parse_num (words_line h h32 hl) hn
theorem parse_blank {b : List UInt8} (h0 : b ≠ []) (h9 : b.length ≤ 9) (h : ∀ x ∈ b, isDig x) : Ct Tryz.prog 10 [Str (lineR (b ++ [32]))] [.pv (opR (val b 0)), .pv (B true)] := by
  have hn := cNumber (bsA b)
  rw [num_good h0 h9 h] at hn
  have hw := cWords (lineR (b ++ [32])) (by rw [lineR_size]; simp; omega)
  rw [words_blank (by simp) h0 round_plain (dig_plain h)] at hw
  exact parse_num hw hn
theorem parse_blank0 : Ct Tryz.prog 10 [Str (lineR [32])] [.pv opN, .pv (B false)] := by
  have hw := cWords (lineR [32]) (by rw [lineR_size]; simp)
  rw [words_blank0 (by simp) round_plain] at hw
  exact parse_one hw
end Go.Proofs.YthcmkipbdgndoaaGreatDoor.M

namespace Go.Proofs.YthcmkipbdgndoaaGreatDoor.M
open Go Go.Mir Go.Proofs Go.Lib
/-- A number's digits, with noughts ahead. -/
structure NumL (k : Int) (l : List UInt8) : Prop where
  ne : l ≠ []
  le : l.length ≤ 9
  dig : ∀ x ∈ l, isDig x
  val : val l 0 = k
theorem NumL.digs {n : Nat} (h : n < 1000000000) : NumL n (digs n) := ⟨digs_ne n, digs_len 8 n h, digs_dig n, val_digs n⟩
theorem NumL.nought {k : Int} {l : List UInt8} (h : NumL k l) (h9 : l.length < 9) : NumL k (48 :: l) :=
  ⟨by simp, by simp; omega, fun x hx => by
    rcases List.mem_cons.1 hx with rfl | hx
    · exact ⟨by decide, by decide⟩
    · exact h.dig x hx, by rw [val_nought]; exact h.val⟩
theorem parse_is {k : Int} {l : List UInt8} (h : NumL k l) : Ct Tryz.prog 10 [Str (lineR l)] [.pv (opR k), .pv (B true)] := by
  have := parse_good h.ne h.le h.dig
  rw [h.val] at this
  exact this
theorem parse_ten {k : Int} {l : List UInt8} (h : NumL k l) : Ct Tryz.prog 10 [Str (lineR ([48, 48, 48, 48, 48, 48, 48, 48, 48, 48] ++ l))] [.pv opN, .pv (B false)] := by
  have := h.le
  refine parse_long (by simp) (by simp; omega) fun x hx => ?_
  rcases List.mem_append.1 hx with hx | hx
  · have : x = 48 := by simpa using hx
    rw [this]
    exact ⟨by decide, by decide⟩
  · exact h.dig x hx
abbrev opQ (x : Int × Int) : PV := .agg [I x.1, I 0, I x.2, .sl true []]
theorem parse_odd2 {k : Int} {l : List UInt8} (c : UInt8) (hN : NumL k l) : ∃ (q : Int × Int) (r : Bool), Ct Tryz.prog 10 [Str (lineR (l.dropLast ++ [c]))] [.pv (opQ q), .pv (B r)] ∧ (r = true ↔ (isDig c ∨ (c = 32 ∧ 1 < l.length))) := by
  obtain ⟨h0, h9, h, _⟩ := hN
  have hd : ∀ x ∈ l.dropLast, isDig x := fun x hx => h x (List.dropLast_subset l hx)
  have hl : l.dropLast.length = l.length - 1 := List.length_dropLast
  by_cases hc : isDig c
  · refine ⟨(10, _), true, parse_good (l := l.dropLast ++ [c]) (by simp) (by simp; omega) (fun x hx => ?_), by simp [hc]⟩
    rcases List.mem_append.1 hx with hx | hx
    · exact hd x hx
    · rw [List.mem_singleton.1 hx]; exact hc
  · by_cases h32 : c = 32
    · subst h32
      by_cases h1 : 1 < l.length
      · exact ⟨(10, _), true, parse_blank (by intro e; rw [← List.length_eq_zero_iff] at e; omega) (by omega) hd, by simp [h1]⟩
      · have : l.dropLast = [] := List.length_eq_zero_iff.1 (by omega)
        rw [this]
        exact ⟨(0, 0), false, parse_blank0, by simp [hc, h1]⟩
    · exact ⟨(0, 0), false, parse_bad (by omega) hd hc h32, by simp [hc, h32]⟩
end Go.Proofs.YthcmkipbdgndoaaGreatDoor.M

namespace Go.Proofs.YthcmkipbdgndoaaGreatDoor.M
open Go Go.Mir Go.Proofs Go.Lib
set_option maxRecDepth 1000000
noncomputable def cat1 (pre : List UInt8) (t : Nat) : Q := .efn fun ev _ => match ev (.tmp t) with
  | .pv (.lit (.string s)) => some ⟨.pv (Str (bsA pre ++ s)), [], []⟩
  | _ => none
noncomputable def cat2 (t u : Nat) : Q := .efn fun ev _ => match ev (.tmp t), ev (.tmp u) with
  | .pv (.lit (.string a)), .pv (.lit (.string b)) => some ⟨.pv (Str (a ++ b)), [], []⟩
  | _, _ => none
abbrev rb : List UInt8 := [114, 111, 117, 110, 100, 32]
abbrev rb0 : List UInt8 := [114, 111, 117, 110, 100, 32, 48, 48, 48, 48, 48, 48, 48, 48, 48, 48]
abbrev cut1 (s : ByteArray) : ByteArray := bsA s.data.toList.dropLast
abbrev Cut (s : ByteArray) : Prop := effO (sliceS s none (some (.pv (I (IntKind.i64.wrap ((s.size : Int) - 1))))) none) = some (.eff ⟨.pv (Str (cut1 s)), [], []⟩)
abbrev YN (b : Bool) (p q : Prop) : Prop := (b = true → p) ∧ (b = false → q)
/-- The end: both are alike. -/
abbrev EndX (Φ : List RV → Prop) (k : Int) (r d b : Bool) : Prop := AvLe (.pv (B (decide (k = k)))) (.pv (B true)) ∧ AvLe (.pv (B (r == (if d then true else b)))) (.pv (B true)) ∧ Φ [.pv (B true)]
noncomputable def restX (Φ : List RV → Prop) (k : Int) (ot : UInt8) (s : ByteArray) : Prop :=
  AddOk (bsA rb) s ∧ Ct Tryz.prog 10 [Str (bsA rb ++ s)] [.pv (opR k), .pv (B true)] ∧ AddOk (bsA rb0) s ∧ Ct Tryz.prog 10 [Str (bsA rb0 ++ s)] [.pv opN, .pv (B false)] ∧
  Cut s ∧ AddOk (bsA rb) (cut1 s) ∧ ∃ bs : List UInt8, [U8 ot] = bs.map (fun b => PV.lit (.int .u8 b.toNat)) ∧ AddOk (bsA rb ++ cut1 s) ⟨bs.toArray⟩ ∧ ∃ (q : Int × Int) (r : Bool), Ct Tryz.prog 10 [Str (bsA rb ++ cut1 s ++ ⟨bs.toArray⟩)] [.pv (opQ q), .pv (B r)] ∧
  YN (decide ((ot.toNat : Int) ≥ 48)) (YN (decide ((ot.toNat : Int) ≤ 57)) (YN (decide ((ot.toNat : Int) = 32)) (YN (decide ((s.size : Int) > 1)) (EndX Φ k r true true) (EndX Φ k r true false)) (EndX Φ k r true false)) (YN (decide ((ot.toNat : Int) = 32)) (YN (decide ((s.size : Int) > 1)) (EndX Φ k r false true) (EndX Φ k r false false)) (EndX Φ k r false false))) (YN (decide ((ot.toNat : Int) = 32)) (YN (decide ((s.size : Int) > 1)) (EndX Φ k r false true) (EndX Φ k r false false)) (EndX Φ k r false false))
noncomputable def loopX (Φ : List RV → Prop) (k : Int) (n : Nat) (no ot : UInt8) (L : ByteArray × Int × Unit → Prop) (v : ByteArray × Int × Unit) : Prop :=
  ((9 : Int) = 0 → False) ∧ YN (decide (v.2.1 < (IntKind.i64.wrap (no.toNat : Int)).tmod 9)) (YN (decide ((v.1.size : Int) < 9))
    (AddOk (bsA [48]) v.1 ∧ AV.pv (.lit (.int .u32 (n : Int))) = AV.pv (.lit (.int .u32 (n : Int))) ∧ AV.pv (U8 no) = AV.pv (U8 no) ∧ AV.pv (U8 ot) = AV.pv (U8 ot) ∧ AV.pv (B true) = AV.pv (B true) ∧ AV.pv (I k) = AV.pv (I k) ∧ L (bsA [48] ++ v.1, IntKind.i64.wrap (v.2.1 + 1), ()))
    (restX Φ k ot v.1)) (restX Φ k ot v.1)
theorem law_num {n : Nat} {k : Int} {no ot : UInt8} {s0 : ByteArray} {Φ : List RV → Prop} (h : Ct Tryz.prog 5 [] [.pv (B true)] ∧ AvLe (.pv (I (IntKind.i64.wrap (n : Int)))) (.pv (I (n : Int))) ∧ AvLe (.pv (I ((n : Int).tmod 1000000000))) (.pv (I k)) ∧ Ct Tryz.prog 6 [I k] [.pv (Str s0)] ∧ AV.pv (.lit (.int .u32 (n : Int))) = AV.pv (.lit (.int .u32 (n : Int))) ∧ AV.pv (U8 no) = AV.pv (U8 no) ∧ AV.pv (U8 ot) = AV.pv (U8 ot) ∧ AV.pv (B true) = AV.pv (B true) ∧ AV.pv (I k) = AV.pv (I k) ∧ Lo (fun L v => loopX Φ k n no ot L v) (s0, 0, ())) : CtP Tryz.prog 4 [.lit (.int .u32 (n : Int)), U8 no, U8 ot] Φ :=
  ctP_by h 1000 [(1000, .call [.pv (.cst (B true))]), (2001, .wk (.pv (I n))), (2002, .wk (.pv (I k))), (3001, .call [.pv (.cst (Str s0))]),
  (5999, .loop [.k 0 (.pv (.lit (.int .u32 n))), .k 1 (.pv (U8 no)), .k 2 (.pv (U8 ot)), .k 7 (.pv (B true)), .k 8 (.pv (I k)), .c 9 .str, .c 10 (.int .i64)]), (5003, .div), (5004, .fork [(5008, .fork [] [])] []), (7001, cat1 [48] 37),
  (8001, cat1 rb 40), (8002, .call [.pv (.cst (opR k)), .pv (.cst (B true))]),
  (9001, cat1 rb0 46), (9002, .call [.pv (.cst opN), .pv (.cst (B false))]),
  (10004, .efn fun ev _ => match ev (.tmp 52) with
    | .pv (.lit (.string s)) => some ⟨.pv (Str (cut1 s)), [], []⟩
    | _ => none), (10005, cat1 rb 56), (10008, .b2s), (10009, cat2 57 60), (10010, .call [.pv (.ty (Int × Int) opQ), .pv .bool]), (11001, .fork [] []), (11004, .fork [] []), (12001, .fork [] []), (12005, .fork [] []), (13013, .wk (.pv (B true))), (13025, .wk (.pv (B true)))] mixed Tryz.func4 rfl (by kernel_rfl) (by kernel_rfl)
theorem addA {a b : List UInt8} (h : a.length + b.length ≤ 1000) : AddOk (bsA a) (bsA b) := addOk (by rw [bsA_size, bsA_size]; omega)
theorem cut_ok {l : List UInt8} (h0 : l ≠ []) (h9 : l.length ≤ 100) : Cut (bsA l) := by
  have hp : 0 < l.length := List.length_pos_iff.2 h0
  have e : IntKind.i64.wrap (((bsA l).size : Int) - 1) = ((l.length - 1 : Nat) : Int) := by
    rw [bsA_size, wr64 (by omega) (by omega)]; omega
  unfold Cut
  rw [e]
  have e2 : (bsA l).extract 0 (l.length - 1) = cut1 (bsA l) := by
    rw [extract_mk]
    show _ = bsA l.dropLast
    rw [List.dropLast_eq_take]
    simp
  have hb : bndE (bsA l).size (some (.pv (I ((l.length - 1 : Nat) : Int)))) = some (l.length - 1) := by
    show (if (0 : Int) ≤ ((l.length - 1 : Nat) : Int) then some ((l.length - 1 : Nat) : Int).toNat else none) = _
    rw [if_pos (by omega), Int.toNat_natCast]
  have hs : sliceS (bsA l) none (some (.pv (I ((l.length - 1 : Nat) : Int)))) none = some ⟨.pv (Str ((bsA l).extract 0 (l.length - 1))), [], []⟩ := by
    unfold sliceS
    rw [hb]
    show (if 0 ≤ l.length - 1 ∧ l.length - 1 ≤ (bsA l).size then valE (.pv (.lit (.string ((bsA l).extract 0 (l.length - 1))))) else none) = _
    rw [if_pos ⟨Nat.zero_le _, by rw [bsA_size]; omega⟩]
    rfl
  rw [hs, e2]
  rfl
theorem endX {Φ : List RV → Prop} {k : Int} {r d b : Bool} (hΦ : Φ [.pv (B true)]) (h : r = (if d then true else b)) : EndX Φ k r d b :=
  ⟨by rw [decide_eq_true rfl]; exact .refl _, by rw [h, beq_self_eq_true]; exact .refl _, hΦ⟩
theorem rest_ok {k : Int} {ot : UInt8} {l : List UInt8} {Φ : List RV → Prop} (hΦ : Φ [.pv (B true)]) (hN : NumL k l) : restX Φ k ot (bsA l) := by
  have h9 := hN.le
  have hd : l.dropLast.length = l.length - 1 := List.length_dropLast
  obtain ⟨q, r, hq, hr⟩ := parse_odd2 ot hN
  have hr : r = true ↔ ((48 ≤ ot.toNat ∧ ot.toNat ≤ 57) ∨ (ot.toNat = 32 ∧ 1 < l.length)) := by
    rw [hr]
    have : ot = 32 ↔ ot.toNat = 32 := ⟨fun h => by rw [h]; rfl, fun h => UInt8.toNat_inj.1 h⟩
    rw [this]; rfl
  have p1 := parse_is hN
  have p2 := parse_ten hN
  refine ⟨addA (by simp; omega), by rw [bsA_app]; exact p1, addA (by simp; omega), by rw [bsA_app]; exact p2, cut_ok hN.ne (by omega), addA (by simp; omega), [ot], rfl, ?_, q, r, ?_, ?_⟩
  · show AddOk (bsA rb ++ bsA l.dropLast) (bsA [ot])
    rw [bsA_app]
    exact addA (by simp; omega)
  · show Ct Tryz.prog 10 [Str (bsA rb ++ bsA l.dropLast ++ bsA [ot])] _
    rw [bsA_app, bsA_app]
    have e : rb ++ l.dropLast ++ [ot] = roundL ++ 32 :: (l.dropLast ++ [ot]) := by simp [rb, roundL]
    rw [e]
    exact hq
  · rw [bsA_size]
    refine ⟨fun h1 => ⟨fun h2 => ⟨fun h3 => ⟨fun h4 => ?_, fun h4 => ?_⟩, fun h3 => ?_⟩, fun h2 => ⟨fun h3 => ⟨fun h4 => ?_, fun h4 => ?_⟩, fun h3 => ?_⟩⟩, fun h1 => ⟨fun h3 => ⟨fun h4 => ?_, fun h4 => ?_⟩, fun h3 => ?_⟩⟩ <;>
    refine endX hΦ ?_ <;>
    simp only [decide_eq_true_eq, decide_eq_false_iff_not] at * <;>
    first
      | exact hr.2 (by omega)
      | exact Bool.eq_false_iff.2 (fun h => by have := hr.1 h; omega)
theorem toolNumbers (n : UInt32) (no ot : UInt8) : Ct Tryz.prog 4 [.lit (.int .u32 (n.toNat : Int)), U8 no, U8 ot] [.pv (B true)] := by
  have hn : n.toNat < 4294967296 := n.toNat_lt
  have hk : n.toNat % 1000000000 < 1000000000 := Nat.mod_lt _ (by decide)
  refine law_num (k := ((n.toNat % 1000000000 : Nat) : Int)) (s0 := bsA (digs (n.toNat % 1000000000))) ⟨run_precentorlaw24_shown, ?_, .refl _, cShow _ hk, rfl, rfl, rfl, rfl, rfl, ?_⟩
  · rw [wr64 (by omega) (by omega)]; exact .refl _
  · refine Lo_of (fun v => ∃ l, v.1 = bsA l ∧ NumL ((n.toNat % 1000000000 : Nat) : Int) l) (fun v => 9 - v.1.size) (fun L v hI hL => ?_) ⟨_, rfl, NumL.digs hk⟩
    obtain ⟨s, i, u⟩ := v
    obtain ⟨l, hs, hN⟩ := hI
    simp only at hs
    subst hs
    refine ⟨by decide, fun hlt => ⟨fun h9 => ?_, fun _ => rest_ok (RvsLe.refl _) hN⟩, fun _ => rest_ok (RvsLe.refl _) hN⟩
    have h9 : l.length < 9 := by
      have := of_decide_eq_true h9
      rw [bsA_size] at this
      omega
    refine ⟨addA (by simp; omega), rfl, rfl, rfl, rfl, rfl, hL _ ⟨48 :: l, bsA_app _ _, hN.nought h9⟩ ?_⟩
    show 9 - (bsA [48] ++ bsA l).size < 9 - (bsA l).size
    rw [bsA_app, bsA_size, bsA_size]
    simp
    omega
end Go.Proofs.YthcmkipbdgndoaaGreatDoor.M
