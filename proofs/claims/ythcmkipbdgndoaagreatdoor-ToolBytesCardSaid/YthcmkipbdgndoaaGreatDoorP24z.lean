/- tool.row, told, Do at a submit (walks by answers; conditions: what they say). ToolBytes: its body answers true (a walk by answers, and what it asks; conditions: what they say). -/
import Derived.Test.YthcmkipbdgndoaaGreatDoorP24i
set_option linter.all false
set_option linter.unusedVariables false
set_option linter.unusedSimpArgs false
set_option linter.unnecessarySimpa false
namespace Go.Proofs.YthcmkipbdgndoaaGreatDoor.M
open Go Go.Mir Go.Proofs Go.Lib
set_option maxRecDepth 1000000
theorem row_of {fl : Bool} {es : List PV} {j : ByteArray} (hj : Ct Tryz.prog 52 [.sl fl es, Str (bsA [])] [.pv (Str j)]) (ha : AddOk j (bsA [10])) : Ct Tryz.prog 14 [.sl fl es] [.pv (Str (j ++ bsA [10]))] :=
  ctP_by (X := Ct Tryz.prog 52 [.sl fl es, Str (bsA [])] [.pv (Str j)] ∧ AddOk j (bsA [10]) ∧ RvsLe [.pv (Str (j ++ bsA [10]))] [.pv (Str (j ++ bsA [10]))])
    ⟨hj, ha, RvsLe.refl _⟩ 1000 [(1001, .call [.pv (.cst (Str j))]), (1002, catQ j (bsA [10]))] mixed Tryz.func14 rfl (by kernel_rfl) (by kernel_rfl)
theorem told_of {i : Int} {fl : Bool} {es : List PV} {d h r : ByteArray} (hi : Ct Tryz.prog 15 [I i] [.pv (Str d)]) (hh : Ct Tryz.prog 51 [.sl fl es] [.pv (Str h)]) (hr : Ct Tryz.prog 14 [.sl false [Str d, Str (bsA [43, 32]), Str h]] [.pv (Str r)]) : Ct Tryz.prog 13 [.agg [B false, I i, I 0, .sl fl es]] [.pv (Str r)] :=
  ctP_by (X := Ct Tryz.prog 15 [I i] [.pv (Str d)] ∧ Ct Tryz.prog 51 [.sl fl es] [.pv (Str h)] ∧ Ct Tryz.prog 14 [.sl false [Str d, Str (bsA [43, 32]), Str h]] [.pv (Str r)] ∧ RvsLe [.pv (Str r)] [.pv (Str r)])
    ⟨hi, hh, hr, RvsLe.refl _⟩ 1000 [(3002, .call [.pv (.cst (Str d))]), (3005, .call [.pv (.cst (Str h))]), (3007, .call [.pv (.cst (Str r))])] mixed Tryz.func13 rfl (by kernel_rfl) (by kernel_rfl)
theorem do_of {ga gb gc ha hb hc es : List PV} {fa fb fc fx fy fz : Bool} {i : Int} {fl : Bool} {s t : ByteArray} (hp : Ct Tryz.prog 10 [Str s] [.pv (opS i fl es), .pv (B true)]) (hs : Ct Tryz.prog 12 [(.agg [.sl fa ga, .sl fb gb, .sl fc gc]), (opS i fl es)] [.pv (.agg [.sl fx ha, .sl fy hb, .sl fz hc]), .pv (I 0), .pv (.sl false [.agg [B false, I i, I 0, .sl fl es]])]) (ht : Ct Tryz.prog 13 [.agg [B false, I i, I 0, .sl fl es]] [.pv (Str t)]) (hr : Ct Tryz.prog 14 [.sl false [Str (bsA [111, 107])]] [.pv (Str (bsA [111, 107, 10]))]) (h1 : AddOk (bsA []) t) (h2 : AddOk (bsA [] ++ t) (bsA [111, 107, 10])) : Ct Tryz.prog 8 [.agg [.sl fa ga, .sl fb gb, .sl fc gc], Str s] [.pv (.agg [.sl fx ha, .sl fy hb, .sl fz hc]), .pv (Str (bsA [] ++ t ++ bsA [111, 107, 10]))] :=
  ctP_by (X := Ct Tryz.prog 10 [Str s] [.pv (opS i fl es), .pv (B true)] ∧ Ct Tryz.prog 12 [(.agg [.sl fa ga, .sl fb gb, .sl fc gc]), (opS i fl es)] [.pv (.agg [.sl fx ha, .sl fy hb, .sl fz hc]), .pv (I 0), .pv (.sl false [.agg [B false, I i, I 0, .sl fl es]])] ∧ Ct Tryz.prog 13 [.agg [B false, I i, I 0, .sl fl es]] [.pv (Str t)] ∧ AddOk (bsA []) t ∧ Ct Tryz.prog 14 [.sl false [Str (bsA [111, 107])]] [.pv (Str (bsA [111, 107, 10]))] ∧ AddOk (bsA [] ++ t) (bsA [111, 107, 10]) ∧ RvsLe [.pv (.agg [.sl fx ha, .sl fy hb, .sl fz hc]), .pv (Str (bsA [] ++ t ++ bsA [111, 107, 10]))] [.pv (.agg [.sl fx ha, .sl fy hb, .sl fz hc]), .pv (Str (bsA [] ++ t ++ bsA [111, 107, 10]))])
    ⟨hp, hs, ht, h1, hr, h2, RvsLe.refl _⟩ 1000 [(1001, .call [.pv (.cst (opS i fl es)), .pv (.cst (B true))]), (3002, .call [.pv (.cst (.agg [.sl fx ha, .sl fy hb, .sl fz hc])), .pv (.cst (I 0)), .pv (.cst (.sl false [.agg [B false, I i, I 0, .sl fl es]]))]), (6999, .unroll), (8002, .call [.pv (.cst (Str t))]), (8003, catQ (bsA []) t), (12003, .call [.pv (.cst (Str (bsA [111, 107, 10])))]), (12004, catQ (bsA [] ++ t) (bsA [111, 107, 10]))] mixed Tryz.func8 rfl (by kernel_rfl) (by kernel_rfl)
end Go.Proofs.YthcmkipbdgndoaaGreatDoor.M

namespace Go.Proofs.YthcmkipbdgndoaaGreatDoor.M
open Go Go.Mir Go.Proofs Go.Lib
set_option maxRecDepth 1000000
/-- Three words, and a blank. -/
theorem words3_blank {a w b : List UInt8} (ha : a ≠ []) (hw : w ≠ []) (hb : b ≠ []) (h1 : Plain a) (h2 : Plain w) (h3 : Plain b) : goFieldsP blank (bsA (a ++ 32 :: (w ++ 32 :: (b ++ [32])))) = [bsA a, bsA w, bsA b] := by
  have e2 : a ++ 32 :: (w ++ 32 :: (b ++ [32])) = (a ++ [32]) ++ w ++ 32 :: (b ++ [32]) := by simp
  have e3 : a ++ 32 :: (w ++ 32 :: (b ++ [32])) = (a ++ [32] ++ w ++ [32]) ++ b ++ 32 :: [] := by simp
  have hX2 : (a ++ [32] ++ w ++ [32]).length = a.length + 1 + w.length + 1 := by simp only [List.length_append, List.length_cons, List.length_nil]
  have el : (a ++ [(32 : UInt8)]).length = a.length + 1 := by simp
  have hl : (w ++ 32 :: (b ++ [32])).length = w.length + 1 + (b.length + 1) := by simp; omega
  have k0 := first_word (suf := w ++ 32 :: (b ++ [32])) ha h1
  rw [hl] at k0
  have k1 := next_word (pre := a ++ [32]) (suf := b ++ [32]) hw h2 (b.length + 1) [(0, a.length)]
  rw [← e2, el] at k1
  have k2 := next_word (pre := a ++ [32] ++ w ++ [32]) (suf := []) hb h3 0 ([(0, a.length)] ++ [(a.length + 1, a.length + 1 + w.length)])
  rw [← e3, hX2, Nat.add_zero] at k2
  unfold goFieldsP spansOfP
  rw [k0, k1, k2]
  simp only [spansFromP, closeSpans, List.singleton_append, List.cons_append, List.nil_append, List.map_cons, List.map_nil, extract_mk]
  have x1 : List.drop 0 (List.take a.length (a ++ 32 :: (w ++ 32 :: (b ++ [32])))) = a := by simp
  have x2 : List.drop (a.length + 1) (List.take (a.length + 1 + w.length) (a ++ 32 :: (w ++ 32 :: (b ++ [32])))) = w := by
    rw [List.take_append, List.take_of_length_le (by omega), show a.length + 1 + w.length - a.length = w.length + 1 by omega, List.take_succ_cons, List.take_append, List.take_of_length_le (Nat.le_refl _), Nat.sub_self, List.take_zero, List.append_nil, List.drop_append, List.drop_of_length_le (by omega)]
    simp
  have x3 : List.drop (a.length + 1 + w.length + 1) (List.take (a.length + 1 + w.length + 1 + b.length) (a ++ 32 :: (w ++ 32 :: (b ++ [32])))) = b := by
    rw [e3, List.append_assoc, List.take_append, List.take_of_length_le (by omega), hX2, show a.length + 1 + w.length + 1 + b.length - (a.length + 1 + w.length + 1) = b.length by omega, List.take_append, List.take_of_length_le (Nat.le_refl _), Nat.sub_self, List.take_zero, List.append_nil, List.drop_append, List.drop_of_length_le (by omega), hX2, Nat.sub_self]
    rfl
  rw [x1, x2, x3]
theorem ct_soft {g : Nat} {ps : List PV} {rs : List RV} (h : Ct Tryz.prog g ps rs) : Ct Tryz.prog g ps (rs.map RV.soft) := h.mono fun _ hr => rvsLe_trans hr (soft_le _)
theorem unhexP {b t : List UInt8} (hb : b ≠ []) (hl : b.length ≤ 100) (ht : t = [] ∨ t = [97]) : Ct Tryz.prog 21 [Str (bsA (hexL b ++ t))] [.pv (.sl false (b.map U8)), .pv (B t.isEmpty)] := ct_soft (unhex_of hb hl ht)
theorem nil_le : PVLe (.sl true []) (.sl false []) := .sl (fun h => by cases h) rfl (fun j p q hp => by simp at hp)
theorem ct_nil {g : Nat} {ps : List PV} {b : Bool} (h : Ct Tryz.prog g ps [.pv (.sl true []), .pv (B b)]) : Ct Tryz.prog g ps [.pv (.sl false []), .pv (B b)] := h.mono fun _ hr => rvsLe_trans hr (.cons (.pv nil_le) (.cons (.pv (.refl _)) .nil))
theorem un_dash : Ct Tryz.prog 21 [Str (bsA [45])] [.pv (.sl true []), .pv (B true)] := ct_run tb_ok mixed [] trivial 100000 (by kernel_rfl)
theorem un_dasha : Ct Tryz.prog 21 [Str (bsA [45, 97])] [.pv (.sl true []), .pv (B false)] := ct_run tb_ok mixed [] trivial 100000 (by kernel_rfl)
theorem un_a : Ct Tryz.prog 21 [Str (bsA [97])] [.pv (.sl true []), .pv (B false)] := ct_run tb_ok mixed [] trivial 100000 (by kernel_rfl)
theorem hx_dash : Ct Tryz.prog 51 [.sl false []] [.pv (Str (bsA [45]))] := ct_run tb_ok mixed [] trivial 100000 (by kernel_rfl)
theorem idx_err : Ct Tryz.prog 59 [Str (bsA digA), .lit (.int .i32 65533)] [.pv (I (-1))] := ct_run tbE_ok mixed [] trivial 100000 (by kernel_rfl)
/-- Is it a sign? -/
noncomputable def isHx (n : Nat) : Bool := (decide (48 ≤ n) && decide (n ≤ 57)) || (decide (97 ≤ n) && decide (n ≤ 102))
theorem idx_sign : ∀ n : Nat, n < 128 → decide (Lib.indexByte digA (UInt8.ofNat n) < 0) = !isHx n := by decide
theorem idx_low {n : Nat} (h : n < 128) : Ct Tryz.prog 59 [Str (bsA digA), .lit (.int .i32 (n : Int))] [.pv (I (Lib.indexByte digA (UInt8.ofNat n)))] := by
  refine idxAt_ok ?_
  unfold idxAt
  rw [decide_eq_true (by omega : (0 : Int) ≤ (n : Int)), decide_eq_true (by omega : (n : Int) < 128)]
  rfl
theorem dec_hi : ∀ n : Nat, n < 128 → Utf8.decode (bsA [97, UInt8.ofNat (128 + n)]) 1 = (65533, 1) := by decide
/-- What a second sign is. -/
theorem sign_at (c : UInt8) : ∃ (r : Nat) (d : Int), Utf8.decode (bsA [97, c]) 1 = (r, 1) ∧ Ct Tryz.prog 59 [Str (bsA digA), .lit (.int .i32 (r : Int))] [.pv (I d)] ∧ decide (d < 0) = !isHx c.toNat := by
  have hc := c.toNat_lt
  by_cases h : c.toNat < 128
  · refine ⟨c.toNat, _, dec_at (p := [97]) (r := []) h, idx_low h, ?_⟩
    exact idx_sign _ h
  · refine ⟨65533, -1, ?_, idx_err, ?_⟩
    · have := dec_hi (c.toNat - 128) (by omega)
      rw [show UInt8.ofNat (128 + (c.toNat - 128)) = c by rw [show 128 + (c.toNat - 128) = c.toNat by omega]; exact UInt8.ofNat_toNat] at this
      exact this
    · unfold isHx
      rw [decide_eq_false (by omega : ¬ c.toNat ≤ 57), decide_eq_false (by omega : ¬ c.toNat ≤ 102)]
      simp
theorem un_two (c : UInt8) : ∃ (fl : Bool) (es : List PV), Ct Tryz.prog 21 [Str (bsA [97, c])] [.pv (.sl fl es), .pv (B (isHx c.toNat))] := by
  obtain ⟨r, d, hr, hd, hs⟩ := sign_at c
  have d0 : Utf8.decode (bsA [97, c]) 0 = (97, 1) := dec_at (p := []) (r := [c]) (c := 97) (by decide)
  have hz : (bsA [97, c]).size = 2 := rfl
  have hne : AvLe (.pv (B ((bsA [97, c]).toList == (bsA [45]).toList))) (.pv (B false)) := by
    rw [Lib.toList_data, Lib.toList_data]
    exact .refl _
  have h1 : ∀ {Φ : List RV → Prop} {L : List PV × Int × (ByteArray × Nat) × Unit → Prop}, L ([], 10, (bsA [97, c], 1), ()) → uhX Φ (bsA [97, c]) L ([], 0, (bsA [97, c], 0), ()) := by
    intro Φ L hL
    unfold uhX
    dsimp only
    rw [d0]
    exact ⟨fun _ => ⟨10, cIdx 10 (by decide), no (by decide) ⟨by decide, yes rfl ⟨rfl, rfl, hL⟩⟩⟩, fun h => absurd (show 0 < (bsA [97, c]).size by rw [hz]; decide) h⟩
  cases hb : isHx c.toNat with
  | false =>
    rw [hb] at hs
    refine ⟨true, [], unhex_walk ⟨hne, rfl, rfl, 2, ?_⟩⟩
    unfold itL
    refine h1 ?_
    unfold itL
    unfold uhX
    dsimp only
    rw [hr]
    exact ⟨fun _ => ⟨d, hd, yes hs (RvsLe.refl _)⟩, fun h => absurd (show 1 < (bsA [97, c]).size by rw [hz]; decide) h⟩
  | true =>
    rw [hb] at hs
    refine ⟨false, [.lit (.int .u8 (IntKind.u8.wrap (IntKind.i64.wrap (IntKind.i64.wrap (16 * 10) + d))))], unhex_walk ⟨hne, rfl, rfl, 3, ?_⟩⟩
    unfold itL
    refine h1 ?_
    unfold itL
    unfold uhX
    dsimp only
    rw [hr]
    refine ⟨fun _ => ⟨d, hd, no hs ⟨by decide, no rfl ⟨rfl, by decide, rfl, rfl, ?_⟩⟩⟩, fun h => absurd (show 1 < (bsA [97, c]).size by rw [hz]; decide) h⟩
    unfold itL
    dsimp only
    exact ⟨fun h => absurd h (by show ¬ 2 < (bsA [97, c]).size; rw [hz]; decide), fun _ => ⟨by decide, yes (decide_eq_true (by rw [hz]; decide)) (yes (decide_eq_true (by rw [hz]; decide)) (soft_le _))⟩⟩
/-- group.Step at any of the three. -/
theorem step_any {k : Nat} (hk : k < 3) {b : List UInt8} (hb : b.length ≤ 64) : ∃ (ha hb hc : List PV) (fx fy fz : Bool), Ct Tryz.prog 12 [g0, opS (k : Int) false (b.map U8)] [.pv (.agg [.sl fx ha, .sl fy hb, .sl fz hc]), .pv (I 0), .pv (.sl false [.agg [B false, I (k : Int), I 0, .sl false (b.map U8)]])] := by
  have e := mkL_of b
  match k, hk with
  | 0, _ =>
    have := ct_soft (step0 (fun k => b.getD k 0) b.length hb)
    rw [← e] at this
    exact ⟨_, _, _, _, _, _, this⟩
  | 1, _ =>
    have := ct_soft (step1 (fun k => b.getD k 0) b.length hb)
    rw [← e] at this
    exact ⟨_, _, _, _, _, _, this⟩
  | 2, _ =>
    have := ct_soft (step2 (fun k => b.getD k 0) b.length hb)
    rw [← e] at this
    exact ⟨_, _, _, _, _, _, this⟩
  | k + 3, h => exact absurd h (by omega)
theorem join3 {a b c : List UInt8} (h : a.length + b.length + c.length ≤ 1000) : Ct Tryz.prog 52 [.sl false [bsS a, bsS b, bsS c], Str (bsA [])] [.pv (bsS (a ++ b ++ c))] := by
  refine joinAt_ok ?_
  unfold joinAt
  have e1 : strsOf [bsS a, bsS b, bsS c] = some [bsA a, bsA b, bsA c] := rfl
  have e2 : Lib.join ([bsA a, bsA b, bsA c].map (·.data.toList)) (bsA []).data.toList = a ++ b ++ c := by
    show List.intercalate [] [a, b, c] = _
    simp [List.intercalate]
  rw [e1]
  dsimp only
  rw [e2, decide_eq_true (by simp), decide_eq_true (by simp; omega)]
  rfl
theorem join1 {a : List UInt8} (h : a.length ≤ 1000) : Ct Tryz.prog 52 [.sl false [bsS a], Str (bsA [])] [.pv (bsS a)] := by
  refine joinAt_ok ?_
  unfold joinAt
  have e1 : strsOf [bsS a] = some [bsA a] := rfl
  have e2 : Lib.join ([bsA a].map (·.data.toList)) (bsA []).data.toList = a := by
    show List.intercalate [] [a] = _
    simp [List.intercalate]
  rw [e1]
  dsimp only
  rw [e2, decide_eq_true (by simp), decide_eq_true (by omega)]
  rfl
theorem itoa3 {k : Nat} (hk : k < 3) : Ct Tryz.prog 15 [I (k : Int)] [.pv (bsS (digs k))] := by
  rw [digs_lt (by omega)]
  match k, hk with
  | 0, _ => exact itoaAt_ok (by kernel_rfl)
  | 1, _ => exact itoaAt_ok (by kernel_rfl)
  | 2, _ => exact itoaAt_ok (by kernel_rfl)
  | k + 3, h => exact absurd h (by omega)
theorem hexR_le (b : List UInt8) : (hexR b).length ≤ 2 * b.length + 1 := by
  unfold hexR
  split
  · simp
  · rw [hexL_length]; omega
theorem hex_any {b : List UInt8} (hl : b.length ≤ 100) : Ct Tryz.prog 51 [.sl false (b.map U8)] [.pv (bsS (hexR b))] := by
  unfold hexR
  by_cases h : b = []
  · rw [if_pos h]; subst h; exact hx_dash
  · rw [if_neg h]; exact hex_of h hl
theorem un_any {b : List UInt8} (hl : b.length ≤ 100) : Ct Tryz.prog 21 [bsS (hexR b)] [.pv (.sl false (b.map U8)), .pv (B true)] := by
  unfold hexR
  by_cases h : b = []
  · rw [if_pos h]; subst h; exact ct_nil un_dash
  · rw [if_neg h]
    have := unhexP (t := []) h hl (.inl rfl)
    rw [List.append_nil] at this
    exact this
theorem un_odd {b : List UInt8} (hl : b.length ≤ 100) : Ct Tryz.prog 21 [bsS (hexR b ++ [97])] [.pv (.sl false (b.map U8)), .pv (B false)] := by
  unfold hexR
  by_cases h : b = []
  · rw [if_pos h]; subst h; exact ct_nil un_dasha
  · rw [if_neg h]; exact unhexP (t := [97]) h hl (.inr rfl)
theorem hexR_ne (b : List UInt8) : hexR b ≠ [] := by
  unfold hexR
  split
  · simp
  · rename_i h
    intro e
    have := congrArg List.length e
    rw [hexL_length] at this
    exact h (List.length_eq_zero_iff.1 (by have h2 : 2 * b.length = 0 := this; omega))
theorem hexR_plain (b : List UInt8) : Plain (hexR b) := by
  unfold hexR
  split
  · intro x hx
    rw [List.mem_singleton.1 hx]
    decide
  · exact hexL_plain b
theorem sub_plain : Plain subL := by
  intro x hx
  simp only [subL, List.mem_cons, List.not_mem_nil, or_false] at hx
  rcases hx with rfl | rfl | rfl | rfl | rfl | rfl <;> decide
theorem num3 {k : Nat} (hk : k < 3) : Ct Tryz.prog 20 [bsS (digs k)] [.pv (I (k : Int)), .pv (B true)] := by
  have hn := cNumber (bsA (digs k))
  rw [num_good (digs_ne k) (by have := digs_len 0 k (by omega); omega) (digs_dig k), val_digs] at hn
  exact hn
/-- A line of a submit. -/
noncomputable abbrev lineS (k : Nat) (l : List UInt8) : ByteArray := bsA (subL ++ 32 :: (digs k ++ 32 :: l))
theorem lineS_size {k : Nat} (hk : k < 3) (l : List UInt8) : (lineS k l).size ≤ l.length + 9 := by
  have := digs_len 0 k (by omega)
  rw [bsA_size]
  simp
  omega
theorem parse_last {k : Nat} (hk : k < 3) {l : List UInt8} {c : UInt8} {fl g : Bool} {es : List PV} (h1 : Plain l) (hl : l.length ≤ 1000) (hc : c ≠ 32) (hu : Ct Tryz.prog 21 [bsS (l ++ [c])] [.pv (.sl fl es), .pv (B g)]) : Ct Tryz.prog 10 [Str (lineS k (l ++ [c]))] [.pv (if g then opS (k : Int) fl es else opN), .pv (B g)] := by
  have hw := cWords (lineS k (l ++ [c])) (by have := lineS_size hk (l ++ [c]); simp at this; omega)
  rw [words3 (by simp) (digs_ne k) sub_plain (dig_plain (digs_dig k)) h1 hc] at hw
  exact parse_sub hw (num3 hk) hu
theorem parse_plain {k : Nat} (hk : k < 3) {l : List UInt8} {fl g : Bool} {es : List PV} (h0 : l ≠ []) (h1 : Plain l) (hl : l.length ≤ 1000) (hu : Ct Tryz.prog 21 [bsS l] [.pv (.sl fl es), .pv (B g)]) : Ct Tryz.prog 10 [Str (lineS k l)] [.pv (if g then opS (k : Int) fl es else opN), .pv (B g)] := by
  have e : l = l.dropLast ++ [l.getLast h0] := (List.dropLast_concat_getLast h0).symm
  rw [e] at hu ⊢
  refine parse_last hk (fun x hx => h1 x (List.dropLast_subset l hx)) (by simp; omega) ?_ hu
  have := (h1 _ (List.getLast_mem h0)).2
  intro e2
  rw [e2] at this
  exact this rfl
/-- A line whose bytes are a, and any sign. -/
theorem parse_other {k : Nat} (hk : k < 3) (c : UInt8) : ∃ (fl : Bool) (i : Int) (es : List PV), Ct Tryz.prog 10 [Str (lineS k [97, c])] [.pv (.agg [I 0, I i, I 0, .sl fl es]), .pv (B (isHx c.toNat))] := by
  by_cases hc : c = 32
  · subst hc
    have hw := cWords (lineS k [97, 32]) (by have := lineS_size hk [97, 32]; simp at this; omega)
    have e := words3_blank (a := subL) (w := digs k) (b := [97]) (by simp) (digs_ne k) (by simp) sub_plain (dig_plain (digs_dig k)) (fun x hx => by rw [List.mem_singleton.1 hx]; decide)
    rw [show ([97] ++ [32] : List UInt8) = [97, 32] from rfl] at e
    rw [e] at hw
    exact ⟨true, 0, [], parse_sub hw (num3 hk) un_a⟩
  · obtain ⟨fl, es, hu⟩ := un_two c
    have := parse_last hk (l := [97]) (fun x hx => by rw [List.mem_singleton.1 hx]; decide) (by simp) hc hu
    cases hb : isHx c.toNat with
    | true => rw [hb] at this; exact ⟨fl, k, es, this⟩
    | false => rw [hb] at this; exact ⟨true, 0, [], this⟩
theorem do_sub {k : Nat} (hk : k < 3) {b : List UInt8} (hb : b.length ≤ 64) : ∃ (ha hb hc : List PV) (fx fy fz : Bool), Ct Tryz.prog 8 [g0, Str (lineS k (hexR b))] [.pv (.agg [.sl fx ha, .sl fy hb, .sl fz hc]), .pv (bsS ([] ++ (digs k ++ [43, 32] ++ hexR b ++ [10]) ++ [111, 107, 10]))] := by
  obtain ⟨ha, hb', hc, fx, fy, fz, hs⟩ := step_any hk hb
  have hr := hexR_le b
  have hd := digs_len 0 k (by omega)
  have hp := parse_plain hk (hexR_ne b) (hexR_plain b) (by omega) (un_any (b := b) (by omega))
  have hrow := row_of (join3 (a := digs k) (b := [43, 32]) (c := hexR b) (by simp; omega)) (addB (by simp; omega))
  rw [bsA_app] at hrow
  have ht := told_of (itoa3 hk) (hex_any (b := b) (by omega)) hrow
  have hok := row_of (join1 (a := [111, 107]) (by simp)) (addB (by simp))
  rw [bsA_app] at hok
  have := do_of (i := (k : Int)) (fl := false) (es := b.map U8) hp hs ht hok (addB (by simp; omega)) (by rw [bsA_app]; exact addB (by simp; omega))
  rw [bsA_app, bsA_app] at this
  exact ⟨_, _, _, _, _, _, this⟩
abbrev sbA : ByteArray := bsA [115, 117, 98, 109, 105, 116, 32]
abbrev spA : ByteArray := bsA [32]
abbrev opV (x : Bool × Int × List PV) : PV := .agg [I 0, I x.2.1, I 0, .sl x.1 x.2.2]
abbrev gpV (fx fy fz : Bool) (ha hb hc : List PV) : PV := .agg [.sl fx ha, .sl fy hb, .sl fz hc]
/-- The end: whether other is a sign. -/
noncomputable def tbEnd (Φ : List RV → Prop) (w h a : ByteArray) (ot : UInt8) (good : Bool) : Prop :=
  AddOk sbA w ∧ AddOk (sbA ++ w) (bsA [32, 97]) ∧ ∃ bs : List UInt8, [U8 ot] = bs.map (fun b => PV.lit (.int .u8 b.toNat)) ∧ AddOk (sbA ++ w ++ bsA [32, 97]) ⟨bs.toArray⟩ ∧ ∃ (q : Bool × Int × List PV) (r : Bool), Ct Tryz.prog 10 [Str (sbA ++ w ++ bsA [32, 97] ++ ⟨bs.toArray⟩)] [.pv (opV q), .pv (B r)] ∧
  AddOk w (bsA [43, 32]) ∧ AddOk (w ++ bsA [43, 32]) h ∧ AddOk (w ++ bsA [43, 32] ++ h) (bsA [10, 111, 107, 10]) ∧ AvLe (.pv (B (a.toList == (w ++ bsA [43, 32] ++ h ++ bsA [10, 111, 107, 10]).toList))) (.pv (B true)) ∧ AvLe (.pv (B (r == good))) (.pv (B true)) ∧ Φ [.pv (B true)]
theorem bytes_walk {b : List UInt8} {who ot : UInt8} {k : Int} {w h a : ByteArray} {ga gb gc ha hb hc : List PV} {fa fb fc fx fy fz : Bool} {Φ : List RV → Prop}
    (hX : Ct Tryz.prog 5 [] [.pv (B true)] ∧ AvLe (.pv (B (decide (((b.map U8).length : Int) > 64)))) (.pv (B false)) ∧ AvLe (.pv (I (IntKind.i64.wrap (who.toNat : Int)))) (.pv (I (who.toNat : Int))) ∧ AvLe (.pv (I ((who.toNat : Int).tmod 3))) (.pv (I k)) ∧
      Ct Tryz.prog 6 [I k] [.pv (Str w)] ∧ Ct Tryz.prog 7 [.sl false (b.map U8)] [.pv (Str h)] ∧ Ct Tryz.prog 9 [] [.pv (gpV fa fb fc ga gb gc)] ∧ AddOk sbA w ∧ AddOk (sbA ++ w) spA ∧ AddOk (sbA ++ w ++ spA) h ∧ Ct Tryz.prog 8 [gpV fa fb fc ga gb gc, Str (sbA ++ w ++ spA ++ h)] [.pv (gpV fx fy fz ha hb hc), .pv (Str a)] ∧
      AddOk sbA w ∧ AddOk (sbA ++ w) spA ∧ AddOk (sbA ++ w ++ spA) h ∧ AddOk (sbA ++ w ++ spA ++ h) (bsA [97]) ∧ Ct Tryz.prog 10 [Str (sbA ++ w ++ spA ++ h ++ bsA [97])] [.pv opN, .pv (B false)] ∧
      YN (decide ((ot.toNat : Int) ≥ 48)) (YN (decide ((ot.toNat : Int) ≤ 57)) (tbEnd Φ w h a ot true) (YN (decide ((ot.toNat : Int) ≥ 97)) (YN (decide ((ot.toNat : Int) ≤ 102)) (tbEnd Φ w h a ot true) (tbEnd Φ w h a ot false)) (tbEnd Φ w h a ot false)))
        (YN (decide ((ot.toNat : Int) ≥ 97)) (YN (decide ((ot.toNat : Int) ≤ 102)) (tbEnd Φ w h a ot true) (tbEnd Φ w h a ot false)) (tbEnd Φ w h a ot false))) : CtP Tryz.prog 3 [.sl false (b.map U8), U8 who, U8 ot] Φ :=
  ctP_by hX 1000 [(1000, .call [.pv (.cst (B true))]), (2002, .wk (.pv (B false))), (4001, .wk (.pv (I (who.toNat : Int)))), (4002, .wk (.pv (I k))), (4003, .call [.pv (.cst (Str w))]), (5001, .call [.pv (.cst (Str h))]),
    (6000, .call [.pv (.cst (gpV fa fb fc ga gb gc))]), (6002, catQ sbA w), (6003, catQ (sbA ++ w) spA), (6005, catQ (sbA ++ w ++ spA) h), (6006, .call [.pv (.cst (gpV fx fy fz ha hb hc)), .pv (.cst (Str a))]),
    (7001, catQ sbA w), (7002, catQ (sbA ++ w) spA), (7004, catQ (sbA ++ w ++ spA) h), (7005, catQ (sbA ++ w ++ spA ++ h) (bsA [97])), (7006, .call [.pv (.cst opN), .pv (.cst (B false))]),
    (8001, .fork [] []), (8004, .fork [] []), (8008, .fork [] []), (8011, .fork [] []), (9001, catQ sbA w), (9002, catQ (sbA ++ w) (bsA [32, 97])), (9005, .b2s), (9006, catT 65 68), (9007, .call [.pv (.ty (Bool × Int × List PV) opV), .pv .bool]),
    (10004, catQ w (bsA [43, 32])), (10006, catQ (w ++ bsA [43, 32]) h), (10007, catQ (w ++ bsA [43, 32] ++ h) (bsA [10, 111, 107, 10])), (10008, .wk (.pv (B true))), (10017, .wk (.pv (B true)))] mixed Tryz.func3 rfl (by kernel_rfl) (by kernel_rfl)
theorem tb_end {k : Nat} (hk : k < 3) {b : List UInt8} (hb : b.length ≤ 64) {ot : UInt8} {good : Bool} {Φ : List RV → Prop} (hΦ : Φ [.pv (B true)]) (hg : isHx ot.toNat = good) : tbEnd Φ (bsA (digs k)) (bsA (hexR b)) (bsA ([] ++ (digs k ++ [43, 32] ++ hexR b ++ [10]) ++ [111, 107, 10])) ot good := by
  have hr := hexR_le b
  have hd := digs_len 0 k (by omega)
  obtain ⟨fl, i, es, hp⟩ := parse_other hk ot
  have e1 : sbA ++ bsA (digs k) ++ bsA [32, 97] ++ (⟨[ot].toArray⟩ : ByteArray) = lineS k [97, ot] := by
    show bsA [115, 117, 98, 109, 105, 116, 32] ++ bsA (digs k) ++ bsA [32, 97] ++ bsA [ot] = _
    rw [bsA_app, bsA_app, bsA_app]
    congr 1
    simp
  refine ⟨addB (by simp; omega), ?_, [ot], rfl, ?_, (fl, i, es), isHx ot.toNat, ?_, addB (by simp; omega), ?_, ?_, ?_, ?_, hΦ⟩
  · rw [bsA_app]; exact addB (by simp; omega)
  · show AddOk (bsA [115, 117, 98, 109, 105, 116, 32] ++ bsA (digs k) ++ bsA [32, 97]) (bsA [ot])
    rw [bsA_app, bsA_app]; exact addB (by simp; omega)
  · rw [e1]; exact hp
  · rw [bsA_app]; exact addB (by simp; omega)
  · rw [bsA_app, bsA_app]; exact addB (by simp; omega)
  · have e2 : bsA (digs k) ++ bsA [43, 32] ++ bsA (hexR b) ++ bsA [10, 111, 107, 10] = bsA ([] ++ (digs k ++ [43, 32] ++ hexR b ++ [10]) ++ [111, 107, 10]) := by
      rw [bsA_app, bsA_app, bsA_app]
      congr 1
      simp
    rw [e2, beq_self_eq_true]
    exact .refl _
  · rw [hg, beq_self_eq_true]
    exact .refl _
theorem bytes_long {b : List UInt8} {who ot : UInt8} (hl : 64 < b.length) : Ct Tryz.prog 3 [.sl false (b.map U8), U8 who, U8 ot] [.pv (B true)] :=
  ctP_by (X := Ct Tryz.prog 5 [] [.pv (B true)] ∧ AvLe (.pv (B (decide (((b.map U8).length : Int) > 64)))) (.pv (B true)) ∧ RvsLe [.pv (B true)] [.pv (B true)])
    ⟨run_precentorlaw24_shown, by rw [List.length_map, decide_eq_true (by omega)]; exact .refl _, RvsLe.refl _⟩ 1000 [(1000, .call [.pv (.cst (B true))]), (2002, .wk (.pv (B true)))] mixed Tryz.func3 rfl (by kernel_rfl) (by kernel_rfl)
theorem toolBytes (b : List UInt8) (who ot : UInt8) : Ct Tryz.prog 3 [.sl false (b.map U8), U8 who, U8 ot] [.pv (B true)] := by
  by_cases hl : 64 < b.length
  · exact bytes_long hl
  · have hb : b.length ≤ 64 := by omega
    have hw := who.toNat_lt
    have hk : who.toNat % 3 < 3 := Nat.mod_lt _ (by decide)
    obtain ⟨ha, hb', hc, fx, fy, fz, hd⟩ := do_sub hk hb
    have hr := hexR_le b
    have hdl := digs_len 0 (who.toNat % 3) (by omega)
    have l1 : sbA ++ bsA (digs (who.toNat % 3)) ++ spA ++ bsA (hexR b) = lineS (who.toNat % 3) (hexR b) := by
      show bsA _ ++ bsA (digs (who.toNat % 3)) ++ bsA [32] ++ bsA (hexR b) = _
      rw [bsA_app, bsA_app, bsA_app]
      congr 1
      simp
    have l2 : sbA ++ bsA (digs (who.toNat % 3)) ++ spA ++ bsA (hexR b) ++ bsA [97] = lineS (who.toNat % 3) (hexR b ++ [97]) := by
      rw [l1]
      show bsA _ ++ bsA [97] = _
      rw [bsA_app]
      congr 1
      simp
    have hodd := parse_last hk (l := hexR b) (c := 97) (hexR_plain b) (by omega) (by decide) (un_odd (b := b) (by omega))
    have a1 : AddOk sbA (bsA (digs (who.toNat % 3))) := addB (by simp; omega)
    have a2 : AddOk (sbA ++ bsA (digs (who.toNat % 3))) spA := by
      show AddOk (bsA _ ++ bsA _) (bsA [32])
      rw [bsA_app]; exact addB (by simp; omega)
    have a3 : AddOk (sbA ++ bsA (digs (who.toNat % 3)) ++ spA) (bsA (hexR b)) := by
      show AddOk (bsA _ ++ bsA _ ++ bsA [32]) (bsA _)
      rw [bsA_app, bsA_app]; exact addB (by simp; omega)
    have a4 : AddOk (sbA ++ bsA (digs (who.toNat % 3)) ++ spA ++ bsA (hexR b)) (bsA [97]) := by
      rw [l1]; exact addB (by simp; omega)
    refine bytes_walk (k := ((who.toNat % 3 : Nat) : Int)) (w := bsA (digs (who.toNat % 3))) (h := bsA (hexR b)) (a := bsA ([] ++ (digs (who.toNat % 3) ++ [43, 32] ++ hexR b ++ [10]) ++ [111, 107, 10]))
      ⟨run_precentorlaw24_shown, by rw [List.length_map, decide_eq_false (by omega)]; exact .refl _, by rw [wr64 (by omega) (by omega)]; exact .refl _, .refl _, cShow _ (by omega), refhex_of (by omega), k299, a1, a2, a3, by rw [l1]; exact hd, a1, a2, a3, a4, by rw [l2]; exact hodd, ?_⟩
    have hx : ∀ g : Bool, isHx ot.toNat = g → tbEnd (fun r => RvsLe r [.pv (B true)]) (bsA (digs (who.toNat % 3))) (bsA (hexR b)) (bsA ([] ++ (digs (who.toNat % 3) ++ [43, 32] ++ hexR b ++ [10]) ++ [111, 107, 10])) ot g := fun g hg => tb_end hk hb (RvsLe.refl _) hg
    have hi : isHx ot.toNat = true ↔ ((48 ≤ ot.toNat ∧ ot.toNat ≤ 57) ∨ (97 ≤ ot.toNat ∧ ot.toNat ≤ 102)) := by
      unfold isHx
      simp
    refine ⟨fun h1 => ⟨fun h2 => hx _ ?_, fun h2 => ⟨fun h3 => ⟨fun h4 => hx _ ?_, fun h4 => hx _ ?_⟩, fun h3 => hx _ ?_⟩⟩, fun h1 => ⟨fun h3 => ⟨fun h4 => hx _ ?_, fun h4 => hx _ ?_⟩, fun h3 => hx _ ?_⟩⟩ <;>
    simp only [decide_eq_true_eq, decide_eq_false_iff_not] at * <;>
    first
      | exact hi.2 (by omega)
      | exact Bool.eq_false_iff.2 (fun h => by have := hi.1 h; omega)
end Go.Proofs.YthcmkipbdgndoaaGreatDoor.M
