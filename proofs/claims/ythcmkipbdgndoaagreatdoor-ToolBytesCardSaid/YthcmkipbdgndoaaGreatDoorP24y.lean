/- tool.Parse at lines of a round (walks by answers; conditions: what they say). tool.unhex at signs of bytes (a walk by answers, and what it asks; conditions: what they say). Bytes' signs: tool.hex, the document's Hex (walks by answers, and what they ask; conditions: what they say). tool.Parse at lines of a submit (a walk by answers; conditions: what they say). -/
import Derived.Test.YthcmkipbdgndoaaGreatDoorT24
import Derived.Test.YthcmkipbdgndoaaGreatDoorS24d
set_option linter.all false
set_option linter.unusedVariables false
set_option linter.unusedSimpArgs false
set_option linter.unnecessarySimpa false
namespace Go.Proofs.YthcmkipbdgndoaaGreatDoor.M
open Go Go.Mir Go.Proofs Go.Lib
set_option maxRecDepth 1000000
abbrev roundL : List UInt8 := [114, 111, 117, 110, 100]
abbrev opR (k : Int) : PV := .agg [I 10, I 0, I k, .sl true []]
abbrev opN : PV := .agg [I 0, I 0, I 0, .sl true []]
noncomputable def asksP : PV := match r258 with
  | [.pv p] => p
  | _ => .sl true []
theorem k_asks : Ct Tryz.prog 19 [] [.pv asksP] := k258
theorem parse_num {s t : ByteArray} {k : Int} {b : Bool} (hw : Ct Tryz.prog 17 [Str s] [.pv (.sl false [bsS roundL, Str t])]) (hn : Ct Tryz.prog 20 [Str t] [.pv (I k), .pv (B b)]) : Ct Tryz.prog 10 [Str s] [.pv (if b then opR k else opN), .pv (B b)] := by
  cases b with
  | true =>
    exact ctP_by (X := Ct Tryz.prog 17 [Str s] [.pv (.sl false [bsS roundL, Str t])] ∧ Ct Tryz.prog 19 [] [.pv asksP] ∧ Ct Tryz.prog 20 [Str t] [.pv (I k), .pv (B true)] ∧ RvsLe [.pv (opR k), .pv (B true)] [.pv (opR k), .pv (B true)])
      ⟨hw, k_asks, hn, RvsLe.refl _⟩ 1000 [(1001, .call [.pv (.cst (.sl false [bsS roundL, Str t]))]), (4000, .call [.pv (.cst asksP)]), (9999, .unroll), (16005, .call [.pv (.cst (I k)), .pv (.cst (B true))])] mixed Tryz.func10 rfl (by kernel_rfl) (by kernel_rfl)
  | false =>
    exact ctP_by (X := Ct Tryz.prog 17 [Str s] [.pv (.sl false [bsS roundL, Str t])] ∧ Ct Tryz.prog 19 [] [.pv asksP] ∧ Ct Tryz.prog 20 [Str t] [.pv (I k), .pv (B false)] ∧ RvsLe [.pv opN, .pv (B false)] [.pv opN, .pv (B false)])
      ⟨hw, k_asks, hn, RvsLe.refl _⟩ 1000 [(1001, .call [.pv (.cst (.sl false [bsS roundL, Str t]))]), (4000, .call [.pv (.cst asksP)]), (9999, .unroll), (16005, .call [.pv (.cst (I k)), .pv (.cst (B false))])] mixed Tryz.func10 rfl (by kernel_rfl) (by kernel_rfl)
theorem parse_one {s : ByteArray} (hw : Ct Tryz.prog 17 [Str s] [.pv (.sl false [bsS roundL])]) : Ct Tryz.prog 10 [Str s] [.pv opN, .pv (B false)] :=
  ctP_by (X := Ct Tryz.prog 17 [Str s] [.pv (.sl false [bsS roundL])] ∧ Ct Tryz.prog 19 [] [.pv asksP] ∧ RvsLe [.pv opN, .pv (B false)] [.pv opN, .pv (B false)])
    ⟨hw, k_asks, RvsLe.refl _⟩ 1000 [(1001, .call [.pv (.cst (.sl false [bsS roundL]))]), (4000, .call [.pv (.cst asksP)])] mixed Tryz.func10 rfl (by kernel_rfl) (by kernel_rfl)
theorem round_plain : Plain roundL := by
  intro x hx
  simp only [roundL, List.mem_cons, List.not_mem_nil, or_false] at hx
  rcases hx with rfl | rfl | rfl | rfl | rfl <;> decide
/-- A line: round, a blank, signs. -/
abbrev lineR (l : List UInt8) : ByteArray := bsA (roundL ++ 32 :: l)
theorem lineR_size (l : List UInt8) : (lineR l).size = l.length + 6 := by rw [bsA_size]; simp
theorem dig_plain {l : List UInt8} (h : ∀ x ∈ l, isDig x) : Plain l := fun x hx => by
  have := h x hx
  unfold isDig at this
  omega
theorem words_line {b : List UInt8} {c : UInt8} (h2 : ∀ x ∈ b, isDig x) (hc : c ≠ 32) (hl : b.length ≤ 100) : Ct Tryz.prog 17 [Str (lineR (b ++ [c]))] [.pv (.sl false [bsS roundL, bsS (b ++ [c])])] := by
  have := cWords (lineR (b ++ [c])) (by rw [lineR_size]; simp; omega)
  rw [words_of (by simp) round_plain (dig_plain h2) hc] at this
  exact this
/-- Digits: the number that they are. -/
theorem parse_good {l : List UInt8} (h0 : l ≠ []) (h9 : l.length ≤ 9) (h : ∀ x ∈ l, isDig x) : Ct Tryz.prog 10 [Str (lineR l)] [.pv (opR (val l 0)), .pv (B true)] := by
  have hn := cNumber (bsA l)
  rw [num_good h0 h9 h] at hn
  have e : l = l.dropLast ++ [l.getLast h0] := (List.dropLast_concat_getLast h0).symm
  have hw : Ct Tryz.prog 17 [Str (lineR l)] [.pv (.sl false [bsS roundL, bsS l])] := by
    rw [e]
    refine words_line (fun x hx => h x (List.dropLast_subset l hx)) ?_ (by simp; omega)
    have := h _ (List.getLast_mem h0)
    intro e
    rw [e] at this
    exact absurd this.1 (by decide)
  exact parse_num hw hn
theorem parse_long {l : List UInt8} (h9 : 9 < l.length) (h99 : l.length ≤ 100) (h : ∀ x ∈ l, isDig x) : Ct Tryz.prog 10 [Str (lineR l)] [.pv opN, .pv (B false)] := by
  have h0 : l ≠ [] := by intro e; rw [e] at h9; simp at h9
  have hn := cNumber (bsA l)
  rw [num_long h9] at hn
  have e : l = l.dropLast ++ [l.getLast h0] := (List.dropLast_concat_getLast h0).symm
  have hw : Ct Tryz.prog 17 [Str (lineR l)] [.pv (.sl false [bsS roundL, bsS l])] := by
    rw [e]
    refine words_line (fun x hx => h x (List.dropLast_subset l hx)) ?_ (by simp; omega)
    have := h _ (List.getLast_mem h0)
    intro e
    rw [e] at this
    exact absurd this.1 (by decide)
  exact parse_num hw hn
/-- Another sign at the end, that is no digit. -/
theorem parse_bad {b : List UInt8} {c : UInt8} (hl : b.length ≤ 100) (h : ∀ x ∈ b, isDig x) (hc : ¬ isDig c) (h32 : c ≠ 32) : Ct Tryz.prog 10 [Str (lineR (b ++ [c]))] [.pv opN, .pv (B false)] := by
  have hn := cNumber (bsA (b ++ [c]))
  rw [num_bad h hc] at hn
  exact parse_num (words_line h h32 hl) hn
theorem parse_blank {b : List UInt8} (h0 : b ≠ []) (h9 : b.length ≤ 9) (h : ∀ x ∈ b, isDig x) : Ct Tryz.prog 10 [Str (lineR (b ++ [32]))] [.pv (opR (val b 0)), .pv (B true)] := by
  have hn := cNumber (bsA b)
  rw [num_good h0 h9 h] at hn
  have hw := cWords (lineR (b ++ [32])) (by rw [lineR_size]; simp; omega)
  rw [words_blank (by simp) h0 round_plain (dig_plain h)] at hw
  exact parse_num hw hn
theorem parse_blank0 : Ct Tryz.prog 10 [Str (lineR [32])] [.pv opN, .pv (B false)] := by
  have hw := cWords (lineR [32]) (by rw [lineR_size]; simp)
  rw [words_blank0 (by simp) round_plain] at hw
  exact parse_one hw
end Go.Proofs.YthcmkipbdgndoaaGreatDoor.M

namespace Go.Proofs.YthcmkipbdgndoaaGreatDoor.M
open Go Go.Mir Go.Proofs Go.Lib
set_option maxRecDepth 1000000
abbrev digA : List UInt8 := [48, 49, 50, 51, 52, 53, 54, 55, 56, 57, 97, 98, 99, 100, 101, 102]
abbrev YN (b : Bool) (p q : Prop) : Prop := (b = true → p) ∧ (b = false → q)
noncomputable def uhX (Φ : List RV → Prop) (s : ByteArray) (L : List PV × Int × (ByteArray × Nat) × Unit → Prop) (v : List PV × Int × (ByteArray × Nat) × Unit) : Prop :=
  (v.2.2.1.2 < v.2.2.1.1.size → ∃ d : Int, Ct Tryz.prog 59 [Str (bsA digA), .lit (.int .i32 (Utf8.decode v.2.2.1.1 v.2.2.1.2).1)] [.pv (I d)] ∧ YN (decide (d < 0)) (Φ [.pv (.sl true []), .pv (B false)])
    (((2 : Int) = 0 → False) ∧ YN (decide ((v.2.2.1.2 : Int).tmod 2 = 0)) (AV.pv (Str s) = AV.pv (Str s) ∧ AV.bp 327776 0 = AV.bp 327776 0 ∧ L (v.1, d, (v.2.2.1.1, v.2.2.1.2 + (Utf8.decode v.2.2.1.1 v.2.2.1.2).2), ()))
      (true = true ∧ (v.1.length + 1) * 1 ≤ 140737488355328 ∧ AV.pv (Str s) = AV.pv (Str s) ∧ AV.bp 327776 0 = AV.bp 327776 0 ∧ L (v.1 ++ [.lit (.int .u8 (IntKind.u8.wrap (IntKind.i64.wrap (IntKind.i64.wrap (16 * v.2.1) + d))))], v.2.1, (v.2.2.1.1, v.2.2.1.2 + (Utf8.decode v.2.2.1.1 v.2.2.1.2).2), ()))))
  ∧ (¬ v.2.2.1.2 < v.2.2.1.1.size → ((2 : Int) = 0 → False) ∧ YN (decide ((s.size : Int).tmod 2 = 0)) (YN (decide ((s.size : Int) > 0)) (Φ [.fresh 5 1 v.1, .pv (B true)]) (Φ [.fresh 5 1 v.1, .pv (B false)])) (Φ [.fresh 5 1 v.1, .pv (B false)]))
theorem unhex_walk {s : ByteArray} {Φ : List RV → Prop} (h : AvLe (.pv (B (s.toList == (bsA [45]).toList))) (.pv (B false)) ∧ AV.pv (Str s) = AV.pv (Str s) ∧ AV.bp 327776 0 = AV.bp 327776 0 ∧ Lo (fun L v => uhX Φ s L v) ([], 0, (s, 0), ())) : CtP Tryz.prog 21 [Str s] Φ :=
  ctP_by h 1000 [(1001, .wk (.pv (B false))), (6999, .loop [.k 0 (.pv (Str s)), .r 4 5 1, .c 5 (.int .i64), .k 12 (.bp 327776 0), .it 327776]), (6000, .nxt [] []), (8001, .call [.pv (.int .i64)]), (9001, .fork [] []), (11001, .div), (11002, .fork [] []), (13007, .app true true), (14003, .div), (14004, .fork [(14008, .fork [] [])] [])] mixed Tryz.func21 rfl (by kernel_rfl) (by kernel_rfl)
/-- A half byte's sign. -/
noncomputable def hexd (v : Nat) : UInt8 := if v < 10 then UInt8.ofNat (48 + v) else UInt8.ofNat (87 + v)
/-- Bytes' signs. -/
noncomputable def hexL : List UInt8 → List UInt8
  | [] => []
  | x :: r => hexd (x.toNat / 16) :: hexd (x.toNat % 16) :: hexL r
theorem hexd_lt : ∀ v, v < 16 → (hexd v).toNat < 128 ∧ (hexd v).toNat ≠ 32 := by decide
theorem cIdx : ∀ v, v < 16 → Cl 59 [Str (bsA digA), .lit (.int .i32 ((hexd v).toNat : Int))] [.pv (I (v : Int))]
  | 0, _ => idxAt_ok (by kernel_rfl)
  | 1, _ => idxAt_ok (by kernel_rfl)
  | 2, _ => idxAt_ok (by kernel_rfl)
  | 3, _ => idxAt_ok (by kernel_rfl)
  | 4, _ => idxAt_ok (by kernel_rfl)
  | 5, _ => idxAt_ok (by kernel_rfl)
  | 6, _ => idxAt_ok (by kernel_rfl)
  | 7, _ => idxAt_ok (by kernel_rfl)
  | 8, _ => idxAt_ok (by kernel_rfl)
  | 9, _ => idxAt_ok (by kernel_rfl)
  | 10, _ => idxAt_ok (by kernel_rfl)
  | 11, _ => idxAt_ok (by kernel_rfl)
  | 12, _ => idxAt_ok (by kernel_rfl)
  | 13, _ => idxAt_ok (by kernel_rfl)
  | 14, _ => idxAt_ok (by kernel_rfl)
  | 15, _ => idxAt_ok (by kernel_rfl)
  | n + 16, h => absurd h (by omega)
theorem hexL_length : ∀ b : List UInt8, (hexL b).length = 2 * b.length
  | [] => rfl
  | x :: r => by simp only [hexL, List.length_cons, hexL_length r]; omega
theorem hexL_plain : ∀ b : List UInt8, Plain (hexL b)
  | [] => fun x hx => by simp [hexL] at hx
  | y :: r => fun x hx => by
    have hy := y.toNat_lt
    simp only [hexL, List.mem_cons] at hx
    rcases hx with rfl | rfl | hx
    · exact hexd_lt _ (by omega)
    · exact hexd_lt _ (by omega)
    · exact hexL_plain r x hx
theorem dec_at {p r : List UInt8} {c : UInt8} (h : c.toNat < 128) : Utf8.decode (bsA (p ++ c :: r)) p.length = (c.toNat, 1) := by
  have hi : p.length < (bsA (p ++ c :: r)).size := by rw [bsA_size]; simp
  have e := get_mk (l := p ++ c :: r) hi
  have hx : (p ++ c :: r)[p.length]'(by simp) = c := by simp
  have := decode_ascii (bsA (p ++ c :: r)) p.length hi (by rw [e, hx]; exact h)
  rw [e, hx] at this
  exact this
theorem i64_wrap {x : Int} (h : 0 ≤ x) (h' : x ≤ 9223372036854775807) : IntKind.i64.wrap x = x := wr64 h h'
theorem byte_of {x : UInt8} : IntKind.u8.wrap (IntKind.i64.wrap (IntKind.i64.wrap (16 * ((x.toNat / 16 : Nat) : Int)) + ((x.toNat % 16 : Nat) : Int))) = (x.toNat : Int) := by
  have hx := x.toNat_lt
  rw [wr64 (x := 16 * ((x.toNat / 16 : Nat) : Int)) (by omega) (by omega), wr64 (by omega) (by omega)]
  have e : IntKind.u8.wrap (16 * ((x.toNat / 16 : Nat) : Int) + ((x.toNat % 16 : Nat) : Int)) = (16 * ((x.toNat / 16 : Nat) : Int) + ((x.toNat % 16 : Nat) : Int)) % 256 := rfl
  rw [e]
  omega
/-- Where a loop stands: p is behind it, q ahead; es is what came of it. -/
inductive UhI (full : List UInt8) (b t : List UInt8) : List PV × Int × (ByteArray × Nat) × Unit → Prop where
  | even (p b1 b2 : List UInt8) (half : Int) (h1 : full = p ++ (hexL b2 ++ t)) (h2 : b = b1 ++ b2) (h3 : p.length = 2 * b1.length) : UhI full b t (b1.map U8, half, (bsA full, p.length), ())
  | odd (p b1 b2 : List UInt8) (x : UInt8) (h1 : full = p ++ (hexd (x.toNat % 16) :: (hexL b2 ++ t))) (h2 : b = b1 ++ x :: b2) (h3 : p.length = 2 * b1.length + 1) : UhI full b t (b1.map U8, ((x.toNat / 16 : Nat) : Int), (bsA full, p.length), ())
  | last (half : Int) (h1 : t ≠ []) (h2 : full.length = 2 * b.length + 1) : UhI full b t (b.map U8, half, (bsA full, full.length), ())
theorem yes {b : Bool} {p q : Prop} (h : b = true) (hp : p) : YN b p q := ⟨fun _ => hp, fun h' => by rw [h] at h'; cases h'⟩
theorem no {b : Bool} {p q : Prop} (h : b = false) (hq : q) : YN b p q := ⟨fun h' => (by rw [h] at h'; cases h'), fun _ => hq⟩
theorem unhex_of {b t : List UInt8} (hb : b ≠ []) (hl : b.length ≤ 100) (ht : t = [] ∨ t = [97]) : Cl 21 [Str (bsA (hexL b ++ t))] [.fresh 5 1 (b.map U8), .pv (B t.isEmpty)] := by
  have hbl : 0 < b.length := List.length_pos_iff.2 hb
  have htl : t.length ≤ 1 := by rcases ht with rfl | rfl <;> simp
  have hsz : (bsA (hexL b ++ t)).size = 2 * b.length + t.length := by rw [bsA_size, List.length_append, hexL_length]
  refine unhex_walk ⟨?_, rfl, rfl, ?_⟩
  · have : ((bsA (hexL b ++ t)).toList == (bsA [45]).toList) = false := by
      rw [beq_eq_false_iff_ne, Lib.toList_data, Lib.toList_data]
      intro e
      have := congrArg List.length e
      have e2 : (bsA (hexL b ++ t)).data.toList.length = (hexL b ++ t).length := rfl
      rw [e2, List.length_append, hexL_length] at this
      have e3 : (bsA [45]).data.toList.length = 1 := rfl
      omega
    rw [this]
    exact .refl _
  · refine Lo_of (UhI (hexL b ++ t) b t) (fun v => (hexL b ++ t).length - v.2.2.1.2) (fun L v hI hL => ?_) (.even [] [] b 0 rfl rfl rfl)
    have fin : ∀ (es : List UInt8) (half : Int) (n : Nat), es = b → n = 2 * b.length + t.length → ¬ n < (bsA (hexL b ++ t)).size → ((2 : Int) = 0 → False) ∧ YN (decide (((bsA (hexL b ++ t)).size : Int).tmod 2 = 0)) (YN (decide (((bsA (hexL b ++ t)).size : Int) > 0)) (RvsLe [.fresh 5 1 (es.map U8), .pv (B true)] [.fresh 5 1 (b.map U8), .pv (B t.isEmpty)]) (RvsLe [.fresh 5 1 (es.map U8), .pv (B false)] [.fresh 5 1 (b.map U8), .pv (B t.isEmpty)])) (RvsLe [.fresh 5 1 (es.map U8), .pv (B false)] [.fresh 5 1 (b.map U8), .pv (B t.isEmpty)]) := by
      rintro es half n rfl rfl _
      refine ⟨by decide, ?_⟩
      rw [hsz]
      rcases ht with rfl | rfl
      · refine yes (decide_eq_true ?_) (yes (decide_eq_true ?_) (RvsLe.refl _))
        · show ((2 * es.length + 0 : Nat) : Int).tmod 2 = 0
          rw [show ((2 * es.length + 0 : Nat) : Int).tmod 2 = (((2 * es.length + 0) % 2 : Nat) : Int) from rfl]; omega
        · simp; omega
      · refine no (decide_eq_false ?_) (RvsLe.refl _)
        rw [show ∀ n : Nat, (n : Int).tmod 2 = ((n % 2 : Nat) : Int) from fun n => rfl]
        simp
    have par : ∀ n : Nat, (n : Int).tmod 2 = ((n % 2 : Nat) : Int) := fun n => rfl
    cases hI with
    | even p b1 b2 half h1 h2 h3 =>
      unfold uhX
      dsimp only
      refine ⟨fun hlt => ?_, fun hge => ?_⟩
      · cases b2 with
        | nil =>
          rcases ht with rfl | rfl
          · exfalso
            rw [h1] at hlt
            simp only [bsA_size, hexL, List.append_nil] at hlt
            omega
          · have hd : Utf8.decode (bsA (hexL b ++ [97])) p.length = (97, 1) := by
              rw [h1]; exact dec_at (c := 97) (by decide)
            have hfl : (hexL b ++ [97]).length = p.length + 1 := by rw [h1]; simp [hexL]
            rw [hd]
            refine ⟨10, cIdx 10 (by decide), no (by decide) ⟨by decide, yes (decide_eq_true ?_) ⟨rfl, rfl, hL _ ?_ ?_⟩⟩⟩
            · rw [par, h3]; omega
            · rw [show p.length + 1 = (hexL b ++ [97]).length from hfl.symm]
              have : b1 = b := by rw [h2, List.append_nil]
              rw [this]
              refine .last _ (by simp) ?_
              rw [List.length_append, hexL_length]; rfl
            · show (hexL b ++ [97]).length - (p.length + 1) < (hexL b ++ [97]).length - p.length
              omega
        | cons x b2 =>
          have hx := x.toNat_lt
          have hh := (hexd_lt (x.toNat / 16) (by omega)).1
          have h1' : hexL b ++ t = p ++ (hexd (x.toNat / 16) :: (hexd (x.toNat % 16) :: (hexL b2 ++ t))) := by rw [h1]; simp [hexL]
          have hd : Utf8.decode (bsA (hexL b ++ t)) p.length = ((hexd (x.toNat / 16)).toNat, 1) := by
            rw [h1']; exact dec_at hh
          have hfl : (hexL b ++ t).length = p.length + 2 + (hexL b2 ++ t).length := by rw [h1']; simp; omega
          rw [hd]
          refine ⟨((x.toNat / 16 : Nat) : Int), cIdx _ (by omega), no (decide_eq_false (by omega)) ⟨by decide, yes (decide_eq_true ?_) ⟨rfl, rfl, hL _ ?_ ?_⟩⟩⟩
          · rw [par, h3]; omega
          · have e : (p ++ [hexd (x.toNat / 16)]).length = p.length + 1 := by simp
            have := UhI.odd (full := hexL b ++ t) (b := b) (t := t) (p ++ [hexd (x.toNat / 16)]) b1 b2 x (by rw [h1']; simp) h2 (by rw [e, h3])
            rw [e] at this
            exact this
          · show (hexL b ++ t).length - (p.length + 1) < (hexL b ++ t).length - p.length
            omega
      · refine fin b1 half p.length ?_ ?_ hge
        · cases b2 with
          | nil => rw [h2, List.append_nil]
          | cons x b2 =>
            exfalso
            have hfl : (hexL b ++ t).length = p.length + 2 + (hexL b2 ++ t).length := by rw [h1]; simp [hexL]; omega
            rw [bsA_size] at hge
            omega
        · have := congrArg List.length h1
          rw [bsA_size] at hge
          simp only [List.length_append, hexL_length] at this hge
          omega
    | odd p b1 b2 x h1 h2 h3 =>
      unfold uhX
      dsimp only
      have hx := x.toNat_lt
      have hh := (hexd_lt (x.toNat % 16) (by omega)).1
      have hd : Utf8.decode (bsA (hexL b ++ t)) p.length = ((hexd (x.toNat % 16)).toNat, 1) := by
        rw [h1]; exact dec_at hh
      have hfl : (hexL b ++ t).length = p.length + 1 + (hexL b2 ++ t).length := by rw [h1]; simp; omega
      refine ⟨fun hlt => ?_, fun hge => ?_⟩
      · rw [hd]
        refine ⟨((x.toNat % 16 : Nat) : Int), cIdx _ (by omega), no (decide_eq_false (by omega)) ⟨by decide, no (decide_eq_false ?_) ⟨rfl, ?_, rfl, rfl, hL _ ?_ ?_⟩⟩⟩
        · rw [par, h3]; omega
        · have : b1.length ≤ b.length := by rw [h2]; simp
          simp; omega
        · rw [byte_of]
          have e : (p ++ [hexd (x.toNat % 16)]).length = p.length + 1 := by simp
          have := UhI.even (full := hexL b ++ t) (b := b) (t := t) (p ++ [hexd (x.toNat % 16)]) (b1 ++ [x]) b2 ((x.toNat / 16 : Nat) : Int) (by rw [h1]; simp) (by rw [h2]; simp) (by rw [e, h3]; simp; omega)
          rw [e, List.map_append] at this
          exact this
        · show (hexL b ++ t).length - (p.length + 1) < (hexL b ++ t).length - p.length
          omega
      · exfalso
        rw [bsA_size] at hge
        omega
    | last half h1 h2 =>
      unfold uhX
      dsimp only
      refine ⟨fun hlt => ?_, fun hge => fin b half _ rfl ?_ hge⟩
      · exfalso
        rw [bsA_size] at hlt
        omega
      · rw [List.length_append, hexL_length]
end Go.Proofs.YthcmkipbdgndoaaGreatDoor.M

namespace Go.Proofs.YthcmkipbdgndoaaGreatDoor.M
open Go Go.Mir Go.Proofs Go.Lib
set_option maxRecDepth 1000000
noncomputable abbrev hexI (n : Int) : Int := ((hexd n.toNat).toNat : Int)
noncomputable def hexQ (t : Nat) : Q := .efn fun ev _ => match ev (.tmp t) with
  | .pv (.lit (.int _ n)) => some ⟨.pv (.lit (.int .u8 (hexI n))), [], []⟩
  | _ => none
abbrev i1 (a : UInt8) : Int := (a.toNat : Int).fdiv (2 ^ min (Int.toNat 4) IntKind.u8.bits)
abbrev i2 (a : UInt8) : Int := IntKind.u8.wrap ((BitVec.ofInt IntKind.u8.bits (a.toNat : Int) &&& BitVec.ofInt IntKind.u8.bits 15).toNat : Int)
abbrev IdxOk (i : Int) : Prop := effO (indexE Tryz.prog 9 (.pv (Str (bsA digA))) (.pv (.lit (.int .u8 i)))) = some (.eff ⟨.pv (.lit (.int .u8 (hexI i))), [], []⟩)
noncomputable def hxX (Φ : List RV → Prop) (b : List UInt8) (L : List PV × Int × Unit → Prop) (v : List PV × Int × Unit) : Prop :=
  YN (decide (v.2.1 < ((b.map U8).length : Int))) (0 ≤ v.2.1 ∧ ∃ a : UInt8, (b.map U8)[v.2.1.toNat]? = some (U8 a) ∧ IdxOk (i1 a) ∧ IdxOk (i2 a) ∧ true = true ∧ (v.1.length + 2) * 1 ≤ 140737488355328 ∧
    AV.pv (.sl false (b.map U8)) = AV.pv (.sl false (b.map U8)) ∧ AV.pv (I ((b.map U8).length : Int)) = AV.pv (I ((b.map U8).length : Int)) ∧ L (v.1 ++ [.lit (.int .u8 (hexI (i1 a))), .lit (.int .u8 (hexI (i2 a)))], IntKind.i64.wrap (v.2.1 + 1), ()))
    (∃ bs : List UInt8, v.1 = bs.map (fun b => PV.lit (.int .u8 b.toNat)) ∧ Φ [.pv (Str ⟨bs.toArray⟩)])
theorem hex_walk {b : List UInt8} {Φ : List RV → Prop} (h : AvLe (.pv (B (decide (((b.map U8).length : Int) = 0)))) (.pv (B false)) ∧ AV.pv (.sl false (b.map U8)) = AV.pv (.sl false (b.map U8)) ∧ AV.pv (I ((b.map U8).length : Int)) = AV.pv (I ((b.map U8).length : Int)) ∧ Lo (fun L v => hxX Φ b L v) ([], 0, ())) : CtP Tryz.prog 51 [.sl false (b.map U8)] Φ :=
  ctP_by h 1000 [(1002, .wk (.pv (B false))), (5999, .loop [.r 3 5 1, .k 9 (.pv (.sl false (b.map U8))), .k 10 (.pv (I ((b.map U8).length : Int))), .c 11 (.int .i64)]), (5000, .fork [] []), (6000, .ix UInt8 U8), (7003, hexQ 17), (7006, hexQ 20), (7008, .app true true), (9001, .b2s)] mixed Tryz.func51 rfl (by kernel_rfl) (by kernel_rfl)
noncomputable abbrev hS (n : Int) : ByteArray := bsA [hexd n.toNat]
noncomputable def sl1 (t : Nat) : Q := .efn fun ev _ => match ev (.tmp t) with
  | .pv (.lit (.int _ n)) => some ⟨.pv (Str (hS n)), [], []⟩
  | _ => none
noncomputable def catT (t u : Nat) : Q := .efn fun ev _ => match ev (.tmp t), ev (.tmp u) with
  | .pv (.lit (.string a)), .pv (.lit (.string b)) => some ⟨.pv (Str (a ++ b)), [], []⟩
  | _, _ => none
abbrev hh (a : UInt8) : Int := IntKind.i64.wrap ((IntKind.i64.wrap (a.toNat : Int)).tdiv 16)
abbrev hl (a : UInt8) : Int := (IntKind.i64.wrap (a.toNat : Int)).tmod 16
abbrev SlOk (n : Int) : Prop := effO (sliceS (bsA digA) (some (.pv (I n))) (some (.pv (I (IntKind.i64.wrap (n + 1))))) none) = some (.eff ⟨.pv (Str (hS n)), [], []⟩)
noncomputable def rhX (Φ : List RV → Prop) (b : List UInt8) (L : ByteArray × Int × Unit → Prop) (v : ByteArray × Int × Unit) : Prop :=
  YN (decide (v.2.1 < ((b.map U8).length : Int))) (0 ≤ v.2.1 ∧ ∃ a : UInt8, (b.map U8)[v.2.1.toNat]? = some (U8 a) ∧ ((16 : Int) = 0 → False) ∧ 0 ≤ v.2.1 ∧ ∃ c : UInt8, (b.map U8)[v.2.1.toNat]? = some (U8 c) ∧ ((16 : Int) = 0 → False) ∧
    SlOk (hh a) ∧ AddOk v.1 (hS (hh a)) ∧ SlOk (hl c) ∧ AddOk (v.1 ++ hS (hh a)) (hS (hl c)) ∧ AV.pv (.sl false (b.map U8)) = AV.pv (.sl false (b.map U8)) ∧ L (v.1 ++ hS (hh a) ++ hS (hl c), IntKind.i64.wrap (v.2.1 + 1), ()))
    (YN (v.1.toList == (bsA []).toList) (Φ [.pv (Str (bsA [45]))]) (Φ [.pv (Str v.1)]))
theorem refhex_walk {b : List UInt8} {Φ : List RV → Prop} (h : AV.pv (.sl false (b.map U8)) = AV.pv (.sl false (b.map U8)) ∧ Lo (fun L v => rhX Φ b L v) (bsA [], 0, ())) : CtP Tryz.prog 7 [.sl false (b.map U8)] Φ :=
  ctP_by h 1000 [(3999, .loop [.k 0 (.pv (.sl false (b.map U8))), .c 3 .str, .c 4 (.int .i64)]), (3003, .fork [] []), (5002, .ix UInt8 U8), (5005, .div), (6002, .ix UInt8 U8), (6005, .div), (7004, sl1 26), (7005, catT 25 29), (7009, sl1 31), (7010, catT 30 34), (8001, .fork [] [])] mixed Tryz.func7 rfl (by kernel_rfl) (by kernel_rfl)
theorem addB {a b : List UInt8} (h : a.length + b.length ≤ 100000) : AddOk (bsA a) (bsA b) := addOk (by rw [bsA_size, bsA_size]; omega)
theorem hexI_nat (n : Nat) : hexI (n : Int) = ((hexd n).toNat : Int) := by unfold hexI; rw [Int.toNat_natCast]
theorem hS_nat (n : Nat) : hS (n : Int) = bsA [hexd n] := by unfold hS; rw [Int.toNat_natCast]
theorem i1_eq (a : UInt8) : i1 a = ((a.toNat / 16 : Nat) : Int) := by
  unfold i1
  have e : (2 : Int) ^ min (Int.toNat 4) IntKind.u8.bits = 16 := by decide
  rw [e, Int.fdiv_eq_ediv_of_nonneg _ (by decide)]
  omega
theorem i2_key : ∀ n : Nat, n < 256 → IntKind.u8.wrap ((BitVec.ofInt IntKind.u8.bits (n : Int) &&& BitVec.ofInt IntKind.u8.bits 15).toNat : Int) = ((n % 16 : Nat) : Int) := by decide
theorem i2_eq (a : UInt8) : i2 a = ((a.toNat % 16 : Nat) : Int) := i2_key _ a.toNat_lt
theorem hh_eq (a : UInt8) : hh a = ((a.toNat / 16 : Nat) : Int) := by
  have ha := a.toNat_lt
  unfold hh
  rw [wr64 (x := (a.toNat : Int)) (by omega) (by omega), show (a.toNat : Int).tdiv 16 = ((a.toNat / 16 : Nat) : Int) from rfl, wr64 (by omega) (by omega)]
theorem hl_eq (a : UInt8) : hl a = ((a.toNat % 16 : Nat) : Int) := by
  have ha := a.toNat_lt
  unfold hl
  rw [wr64 (x := (a.toNat : Int)) (by omega) (by omega)]
  rfl
theorem idx_ok : ∀ v : Nat, v < 16 → IdxOk (v : Int)
  | 0, _ => by unfold IdxOk; kernel_rfl
  | 1, _ => by unfold IdxOk; kernel_rfl
  | 2, _ => by unfold IdxOk; kernel_rfl
  | 3, _ => by unfold IdxOk; kernel_rfl
  | 4, _ => by unfold IdxOk; kernel_rfl
  | 5, _ => by unfold IdxOk; kernel_rfl
  | 6, _ => by unfold IdxOk; kernel_rfl
  | 7, _ => by unfold IdxOk; kernel_rfl
  | 8, _ => by unfold IdxOk; kernel_rfl
  | 9, _ => by unfold IdxOk; kernel_rfl
  | 10, _ => by unfold IdxOk; kernel_rfl
  | 11, _ => by unfold IdxOk; kernel_rfl
  | 12, _ => by unfold IdxOk; kernel_rfl
  | 13, _ => by unfold IdxOk; kernel_rfl
  | 14, _ => by unfold IdxOk; kernel_rfl
  | 15, _ => by unfold IdxOk; kernel_rfl
  | n + 16, h => absurd h (by omega)
theorem sl_ok : ∀ v : Nat, v < 16 → SlOk (v : Int)
  | 0, _ => by unfold SlOk; kernel_rfl
  | 1, _ => by unfold SlOk; kernel_rfl
  | 2, _ => by unfold SlOk; kernel_rfl
  | 3, _ => by unfold SlOk; kernel_rfl
  | 4, _ => by unfold SlOk; kernel_rfl
  | 5, _ => by unfold SlOk; kernel_rfl
  | 6, _ => by unfold SlOk; kernel_rfl
  | 7, _ => by unfold SlOk; kernel_rfl
  | 8, _ => by unfold SlOk; kernel_rfl
  | 9, _ => by unfold SlOk; kernel_rfl
  | 10, _ => by unfold SlOk; kernel_rfl
  | 11, _ => by unfold SlOk; kernel_rfl
  | 12, _ => by unfold SlOk; kernel_rfl
  | 13, _ => by unfold SlOk; kernel_rfl
  | 14, _ => by unfold SlOk; kernel_rfl
  | 15, _ => by unfold SlOk; kernel_rfl
  | n + 16, h => absurd h (by omega)
theorem hexL_app : ∀ x y : List UInt8, hexL (x ++ y) = hexL x ++ hexL y
  | [], y => rfl
  | c :: x, y => by simp [hexL, hexL_app x y]
theorem take_next {b : List UInt8} {k : Nat} (h : k < b.length) : b.take (k + 1) = b.take k ++ [b[k]] := by
  rw [List.take_succ, List.getElem?_eq_getElem h]; rfl
theorem hex_of {b : List UInt8} (hb : b ≠ []) (hl : b.length ≤ 100) : Cl 51 [.sl false (b.map U8)] [.pv (Str (bsA (hexL b)))] := by
  have hbl : 0 < b.length := List.length_pos_iff.2 hb
  have hm : (b.map U8).length = b.length := List.length_map _
  refine hex_walk ⟨?_, rfl, rfl, ?_⟩
  · rw [hm, decide_eq_false (by omega)]; exact .refl _
  · refine Lo_of (fun v => ∃ k : Nat, k ≤ b.length ∧ v.2.1 = (k : Int) ∧ v.1 = (hexL (b.take k)).map U8) (fun v => b.length - v.2.1.toNat) (fun L v hI hL => ?_) ⟨0, Nat.zero_le _, rfl, rfl⟩
    obtain ⟨es, i, u⟩ := v
    obtain ⟨k, hk, hi, he⟩ := hI
    simp only at hi he
    subst hi he
    unfold hxX
    dsimp only
    rw [hm]
    by_cases hlt : k < b.length
    · refine yes (decide_eq_true (by omega)) ⟨by omega, b[k], ?_, ?_, ?_, rfl, ?_, rfl, rfl, hL _ ⟨k + 1, hlt, ?_, ?_⟩ ?_⟩
      · rw [Int.toNat_natCast, List.getElem?_map, List.getElem?_eq_getElem hlt]; rfl
      · rw [i1_eq]; exact idx_ok _ (by have := b[k].toNat_lt; omega)
      · rw [i2_eq]; exact idx_ok _ (by omega)
      · rw [List.length_map, hexL_length, List.length_take]; omega
      · show IntKind.i64.wrap ((k : Int) + 1) = _
        rw [wr64 (by omega) (by omega)]; rfl
      · show _ ++ _ = _
        rw [take_next hlt, hexL_app, List.map_append, i1_eq, i2_eq, hexI_nat, hexI_nat]
        rfl
      · show b.length - (IntKind.i64.wrap ((k : Int) + 1)).toNat < b.length - (k : Int).toNat
        rw [wr64 (by omega) (by omega)]; omega
    · have hk2 : k = b.length := by omega
      subst hk2
      rw [List.take_length]
      exact no (decide_eq_false (by omega)) ⟨hexL b, rfl, RvsLe.refl _⟩
/-- The document's signs: none is a line. -/
noncomputable def hexR (b : List UInt8) : List UInt8 := if b = [] then [45] else hexL b
theorem refhex_of {b : List UInt8} (hl : b.length ≤ 100) : Cl 7 [.sl false (b.map U8)] [.pv (Str (bsA (hexR b)))] := by
  have hm : (b.map U8).length = b.length := List.length_map _
  refine refhex_walk ⟨rfl, ?_⟩
  refine Lo_of (fun v => ∃ k : Nat, k ≤ b.length ∧ v.2.1 = (k : Int) ∧ v.1 = bsA (hexL (b.take k))) (fun v => b.length - v.2.1.toNat) (fun L v hI hL => ?_) ⟨0, Nat.zero_le _, rfl, rfl⟩
  obtain ⟨es, i, u⟩ := v
  obtain ⟨k, hk, hi, he⟩ := hI
  simp only at hi he
  subst hi he
  unfold rhX
  dsimp only
  rw [hm]
  by_cases hlt : k < b.length
  · have hg : (b.map U8)[((k : Nat) : Int).toNat]? = some (U8 b[k]) := by
      rw [Int.toNat_natCast, List.getElem?_map, List.getElem?_eq_getElem hlt]; rfl
    have hlen : (hexL (b.take k)).length ≤ 200 := by rw [hexL_length, List.length_take]; omega
    refine yes (decide_eq_true (by omega)) ⟨by omega, b[k], hg, by decide, by omega, b[k], hg, by decide, ?_⟩
    rw [hh_eq, hl_eq, hS_nat, hS_nat, bsA_app, bsA_app]
    refine ⟨sl_ok _ (by have := b[k].toNat_lt; omega), addB (by simp; omega), sl_ok _ (by omega), addB (by simp; omega), rfl, hL _ ⟨k + 1, hlt, ?_, ?_⟩ ?_⟩
    · show IntKind.i64.wrap ((k : Int) + 1) = _
      rw [wr64 (by omega) (by omega)]; rfl
    · show bsA _ = _
      rw [take_next hlt, hexL_app, List.append_assoc]
      rfl
    · show b.length - (IntKind.i64.wrap ((k : Int) + 1)).toNat < b.length - (k : Int).toNat
      rw [wr64 (by omega) (by omega)]; omega
  · have hk2 : k = b.length := by omega
    subst hk2
    rw [List.take_length]
    refine no (decide_eq_false (by omega)) ?_
    rw [Lib.toList_data, Lib.toList_data]
    show YN (hexL b == ([] : List UInt8)) _ _
    unfold hexR
    by_cases h0 : b = []
    · rw [if_pos h0]
      subst h0
      exact yes rfl (RvsLe.refl _)
    · rw [if_neg h0]
      refine no ?_ (RvsLe.refl _)
      rw [beq_eq_false_iff_ne]
      intro e
      have := congrArg List.length e
      rw [hexL_length] at this
      have h2 : 2 * b.length = 0 := this
      exact h0 (List.length_eq_zero_iff.1 (by omega))
end Go.Proofs.YthcmkipbdgndoaaGreatDoor.M

namespace Go.Proofs.YthcmkipbdgndoaaGreatDoor.M
open Go Go.Mir Go.Proofs Go.Lib
set_option maxRecDepth 1000000
abbrev subL : List UInt8 := [115, 117, 98, 109, 105, 116]
abbrev opS (i : Int) (fl : Bool) (es : List PV) : PV := .agg [I 0, I i, I 0, .sl fl es]
theorem parse_sub {s w h : ByteArray} {i : Int} {fl g : Bool} {es : List PV} (hw : Ct Tryz.prog 17 [Str s] [.pv (.sl false [bsS subL, Str w, Str h])]) (hn : Ct Tryz.prog 20 [Str w] [.pv (I i), .pv (B true)]) (hu : Ct Tryz.prog 21 [Str h] [.pv (.sl fl es), .pv (B g)]) : Ct Tryz.prog 10 [Str s] [.pv (if g then opS i fl es else opN), .pv (B g)] := by
  cases g with
  | true =>
    exact ctP_by (X := Ct Tryz.prog 17 [Str s] [.pv (.sl false [bsS subL, Str w, Str h])] ∧ Ct Tryz.prog 19 [] [.pv asksP] ∧ Ct Tryz.prog 20 [Str w] [.pv (I i), .pv (B true)] ∧ Ct Tryz.prog 21 [Str h] [.pv (.sl fl es), .pv (B true)] ∧ RvsLe [.pv (opS i fl es), .pv (B true)] [.pv (opS i fl es), .pv (B true)])
      ⟨hw, k_asks, hn, hu, RvsLe.refl _⟩ 1000 [(1001, .call [.pv (.cst (.sl false [bsS subL, Str w, Str h]))]), (4000, .call [.pv (.cst asksP)]), (9999, .unroll), (14005, .call [.pv (.cst (I i)), .pv (.cst (B true))]), (18005, .call [.pv (.cst (.sl fl es)), .pv (.cst (B true))])] mixed Tryz.func10 rfl (by kernel_rfl) (by kernel_rfl)
  | false =>
    exact ctP_by (X := Ct Tryz.prog 17 [Str s] [.pv (.sl false [bsS subL, Str w, Str h])] ∧ Ct Tryz.prog 19 [] [.pv asksP] ∧ Ct Tryz.prog 20 [Str w] [.pv (I i), .pv (B true)] ∧ Ct Tryz.prog 21 [Str h] [.pv (.sl fl es), .pv (B false)] ∧ RvsLe [.pv opN, .pv (B false)] [.pv opN, .pv (B false)])
      ⟨hw, k_asks, hn, hu, RvsLe.refl _⟩ 1000 [(1001, .call [.pv (.cst (.sl false [bsS subL, Str w, Str h]))]), (4000, .call [.pv (.cst asksP)]), (9999, .unroll), (14005, .call [.pv (.cst (I i)), .pv (.cst (B true))]), (18005, .call [.pv (.cst (.sl fl es)), .pv (.cst (B false))])] mixed Tryz.func10 rfl (by kernel_rfl) (by kernel_rfl)
end Go.Proofs.YthcmkipbdgndoaaGreatDoor.M
