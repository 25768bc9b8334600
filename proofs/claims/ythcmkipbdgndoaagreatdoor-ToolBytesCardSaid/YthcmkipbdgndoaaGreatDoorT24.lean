/- Strings: the library's contracts as the machine's (lemmas; conditions: what they say). tool.number: a number of digits (a walk; no condition). Strings: Join, Itoa, IndexRune as the machine's; what a run may ask of them (lemmas; conditions: what they say). strings.Builder's WriteString, and what it leaves alone (after the shelf's own walk; conditions: what it says). strings.Split by one byte (after the shelf's own walk; conditions: what it says). tool.Run: lines, one behind the other (a walk; conditions: what it says). tool.Run at closed lines (lemmas; conditions: what they say). The words of a line of two words (plain lemmas; conditions: what they say). A line of a word and another one, its last sign any byte; numbers (plain lemmas; conditions: what they say). tool.words, Show, tool.Parse of a round (walks by answers; conditions: what they say). Digits of a number; lines of three words (plain lemmas; conditions: what they say). -/
import Derived.Test.YthcmkipbdgndoaaGreatDoorSh24
import Derived.Test.YthcmkipbdgndoaaGreatDoorG24
import Derived.Test.YthcmkipbdgndoaaGreatDoorNx37
import Derived.WalkKit
import Derived.Laws.RangeString
import Derived.Laws.RangeAny
import Derived.Laws.Runes
import Derived.Laws.Strings
import Derived.Laws.Concat
import Derived.Laws.Wrap64
import Derived.LoopTactic
set_option linter.all false
set_option linter.unusedVariables false
set_option linter.unusedSimpArgs false
set_option linter.unnecessarySimpa false
namespace Go.Proofs.YthcmkipbdgndoaaGreatDoor.M
open Go Go.Mir Go.Proofs Go.RowKit
set_option maxRecDepth 100000
abbrev Str (s : ByteArray) : PV := .lit (.string s)
noncomputable def blank (x : Nat) : Bool := x == 32
theorem cBlank (x : Int) : Cl 56 [.lit (.int .i32 x)] [.pv (B (x == 32))] := t56 _ (by unfold P56; exact .refl _)
theorem rep_strs {S : Nat → Prop} {w : World} {A o cap : Nat} (xs : List ByteArray) (hA : xs = [] ∨ S A) (hn : xs.length ≤ cap) (hm : xs.length ≤ maxLen) (hc : ∀ (j : Nat) (x : ByteArray), xs[j]? = some x → w.cell? ⟨A, o + j, none⟩ = some (.string x)) :
    Rep S w (.sl false (xs.map Str)) (.slice (some ⟨A, o, none⟩) xs.length cap) := by
  have at0 : ∀ {i : Nat} {p : PV}, (xs.map Str)[i]? = some p → ∃ x, xs[i]? = some x ∧ p = Str x := fun h => by
    rw [List.getElem?_map, Option.map_eq_some_iff] at h
    obtain ⟨x, h1, rfl⟩ := h
    exact ⟨x, h1, rfl⟩
  have := Rep.sl (S := S) (w := w) (full := false) (es := xs.map Str) (a := some ⟨A, o, none⟩) (cap := cap) 1 (fun i _ => .string (xs.getD i ⟨#[]⟩)) (by simpa using hm) (by simpa using hn) (fun h => by cases h)
    (fun i p hp => by obtain ⟨x, _, rfl⟩ := at0 hp; rfl)
    (fun i p j q hp hq => by
      obtain ⟨x, hx, rfl⟩ := at0 hp
      have hj : j = 0 := by cases j with | zero => rfl | succ j => simp [PV.cells] at hq
      subst hj
      refine ⟨A, o, rfl, ?_, ?_⟩
      · rcases hA with rfl | h
        · simp at hx
        · exact h
      · have := hc i x hx
        simpa [List.getD, hx] using this)
    (fun i p j q hp hq => by
      obtain ⟨x, hx, rfl⟩ := at0 hp
      have hj : j = 0 := by cases j with | zero => rfl | succ j => simp [PV.cells] at hq
      subst hj
      simp [PV.cells] at hq
      subst hq
      simp only [List.getD, hx, Option.getD_some]
      exact .lit rfl)
  simpa using this
/-- What is below stays: a plain value that hangs on one new block at most. -/
theorem grown_one {S : Nat → Prop} {w w' : World} {A : Nat} (hS : ∀ b, S b → b < w.heap.size) (hb : Below w.heap.size w w') (hA : w.heap.size ≤ A) (hlt : A < w'.heap.size) : Grown S w (fun b => S b ∨ b = A) w' :=
  ⟨fun _ h => .inl h, fun b h => by rcases h with h | rfl; exact .inl h; exact .inr hA, fun b h => by rcases h with h | rfl; exact Nat.lt_of_lt_of_le (hS b h) hb.size; exact hlt, fun b h => hb.block b h, hb.size, hb.os, hb.tape, hb.output⟩
theorem grown_none {S : Nat → Prop} {w w' : World} (hS : ∀ b, S b → b < w.heap.size) (hb : Below w.heap.size w w') : Grown S w S w' :=
  ⟨fun _ h => h, fun _ h => .inl h, fun b h => Nat.lt_of_lt_of_le (hS b h) hb.size, fun b h => hb.block b h, hb.size, hb.os, hb.tape, hb.output⟩
theorem resVal_one (v : Value) : resVal [v] = v := by simp [resVal]
/-- The words of a line. -/
theorem cFieldsFunc (s : ByteArray) (hs : s.size ≤ 4294967296) : Cl 55 [Str s, .fn (.func 56) [] []] [.pv (.sl false ((Lib.goFieldsP blank s).map Str))] := by
  intro S w vs hS hg ha
  obtain ⟨rfl⟩ : vs = [.string s, .func (.func 56) #[] #[]] := by
    match vs, ha with
    | [v, u], ha =>
      have h1 := ha.2 0 _ v rfl rfl
      have h2 := ha.2 1 _ u rfl rfl
      cases h1
      cases h2 with
      | fn hl _ hl' _ =>
        rename_i vs us _ _
        have e1 := List.eq_nil_of_length_eq_zero hl.symm
        have e2 := List.eq_nil_of_length_eq_zero hl'.symm
        subst e1; subst e2; rfl
    | [], ha => exact absurd ha.1 (by simp)
    | [_], ha => exact absurd ha.1 (by simp)
    | _ :: _ :: _ :: _, ha => exact absurd ha.1 (by simp)
  have hp : PredGrows Tryz.prog 56 #[] blank w := fun W x hx hb => by
    have h := (cBlank x (fun b => S b) W [.int .i32 x] (fun b hb' => Nat.lt_of_lt_of_le (hS b hb') hb.size) (hg.mono (fun _ h => h) (fun b hb' => hb.block b (hS b hb'))) ⟨rfl, fun j p v hp hv => by
      match j with
      | 0 => simp at hp hv; subst hp; subst hv; exact .lit rfl
      | j + 1 => simp at hp⟩).1
    refine h.mono fun e w' ⟨S', rs, us, bs, h1, h2, h3, h4, h5⟩ => ?_
    cases h1 with
    | cons h1 hs =>
      cases hs
      cases h1 with
      | pv h1 =>
        cases h1
        cases h3 with
        | pv hr h3 =>
          cases h3
          cases hr
          refine ⟨?_, ⟨h4.os, h4.tape, h4.output, h4.size, fun k hk => h4.mem k hk⟩⟩
          rw [h2, resVal_one]
          have e : ((x : Int) == (32 : Int)) = blank x := by
            unfold blank
            rw [Bool.eq_iff_iff]
            simp
            omega
          rw [e]
  have eg : ∀ args w, (callFunc 56 args).run Tryz.prog w = .ok (.enter 56 args) w := enters_of Tryz.func56 (by kernel_rfl) rfl
  refine ⟨(Tryz.strings_FieldsFunc_grows 56 #[] eg blank s w hs hp).mono ?_, enters_of Tryz.func55 (by kernel_rfl) rfl _ _⟩
  rintro e w' ⟨A, rfl, hA, ho, hb⟩
  obtain ⟨hl, ho⟩ := ho
  rcases ho with ⟨h, _⟩ | ⟨g, cap, cur, hv, hg', hheap, hn, hcm, hcs, htk⟩
  · cases h
  · cases hv
    have hlt : A < w'.heap.size := (Array.getElem?_eq_some_iff.1 hheap).1
    refine ⟨fun b => S b ∨ b = A, _, [.slice (some ⟨A, 0, none⟩) (Lib.goFieldsP blank s).length (Lib.goFieldsP blank s).length], [], .cons (.pv (.refl _)) .nil, (by rw [resVal_one]), .pv (rep_strs _ (.inr (.inr rfl)) (Nat.le_refl _) (Nat.le_trans hn hcm) fun j x hx => ?_) .nil, grown_one hS hb hA hlt, fun b h => by simp at h⟩
    have : ((Lib.goFieldsP blank s).map Value.string)[j]? = some (.string x) := by rw [List.getElem?_map, hx]; rfl
    rw [← htk] at this
    rw [List.getElem?_take] at this
    split at this
    · have hj := (List.getElem?_eq_some_iff.1 this).1
      simp [World.cell?, hheap]
      simpa using this
    · cases this
end Go.Proofs.YthcmkipbdgndoaaGreatDoor.M

namespace Go.Proofs.YthcmkipbdgndoaaGreatDoor.M
open Go Go.Mir Go.Proofs
/-- What the digits from a place on come to. -/
noncomputable def numF (s : ByteArray) : Nat → Nat → Int → Int × Bool
  | 0, _, acc => (acc, true)
  | b + 1, pos, acc => if pos < s.size then (if (Utf8.decode s pos).1 < 48 ∨ 57 < (Utf8.decode s pos).1 then (0, false) else numF s b (pos + (Utf8.decode s pos).2) (10 * acc + ((Utf8.decode s pos).1 - 48))) else (acc, true)
noncomputable def numS (s : ByteArray) : Int × Bool := if s.size < 1 ∨ 9 < s.size then (0, false) else numF s s.size 0 0
theorem numF_end (s : ByteArray) (b pos : Nat) (acc : Int) (h : ¬ pos < s.size) : numF s b pos acc = (acc, true) := by
  cases b with
  | zero => rfl
  | succ b => simp [numF, h]
theorem width_pos (s : ByteArray) (pos : Nat) (h : pos < s.size) : 1 ≤ (Utf8.decode s pos).2 := by
  by_cases ha : (s[pos]'h).toNat < 128
  · rw [decode_ascii s pos h ha]
    exact Nat.le_refl _
  · exact (decode_high s pos h (by omega)).2
theorem p10 {a b : Nat} (h : a ≤ b) : (10 : Int) ^ a ≤ 10 ^ b := by
  have := Int.ofNat_le.2 (Nat.pow_le_pow_right (by decide : 0 < 10) h)
  simpa using this
set_option maxRecDepth 1000000 in
theorem walk_number (s : ByteArray) (w : World) :
    Calls Tryz.prog 20 #[.string s] w fun e w' => e = .returned (.tuple #[.int .i64 (numS s).1, .bool (numS s).2]) ∧ (w' = w ∨ ∃ pos, w' = w.iter s pos) := by
  go_enter Tryz.func20, Tryz.ntmps20
  by_cases h1 : s.size < 1
  · go_wp2
    go_ret2
    exact ⟨by simp [numS, h1], .inl rfl⟩
  by_cases h9 : 9 < s.size
  · go_wp2
    go_ret2
    exact ⟨by simp [numS, h9], .inl rfl⟩
  go_wp2
  go_loopw [4] (fun n w' => ∃ (pos b : Nat) (acc : Int), w' = w.iter s pos ∧ n = .int .i64 acc ∧ numF s b pos acc = numF s s.size 0 0 ∧ s.size ≤ pos + b ∧ 0 ≤ acc ∧ acc < 10 ^ pos) (fun _ w' => s.size - w'.iterPos w.heap.size)
  case atStart => exact ⟨0, s.size, 0, rfl, rfl, rfl, by omega, by omega, by simp⟩
  case round =>
    obtain ⟨pos, b, acc, rfl, rfl, hc, hb, ha0, ha⟩ := hrel
    by_cases hp : pos < s.size
    · have hnx : ∀ ty, (Instr.next (.pointer (some ⟨w.heap.size, 0, none⟩)) true ty).run Tryz.prog (w.iter s pos) = _ := fun ty => run_next_any w s pos ty hp
      have hwd := width_pos s pos hp
      generalize hdc : Utf8.decode s pos = d at *
      obtain ⟨c, wd⟩ := d
      obtain ⟨b', rfl⟩ : ∃ b', b = b' + 1 := ⟨b - 1, by omega⟩
      by_cases hlo : c < 48
      · go_wp2
        go_ret2
        have : numF s (b' + 1) pos acc = (0, false) := by simp [numF, hp, hdc, hlo]
        rw [this] at hc
        refine ⟨?_, .inr ⟨_, rfl⟩⟩
        simp [numS, h1, h9, ← hc]
      by_cases hhi : 57 < c
      · go_wp2
        go_ret2
        have : numF s (b' + 1) pos acc = (0, false) := by simp [numF, hp, hdc, hhi]
        rw [this] at hc
        refine ⟨?_, .inr ⟨_, rfl⟩⟩
        simp [numS, h1, h9, ← hc]
      have hpos : (10 : Int) ^ (pos + 1) ≤ 10 ^ 9 := p10 (by omega)
      have hbig : 10 * acc + (c - 48) < 10 ^ (pos + 1) := by rw [Int.pow_succ]; omega
      have hb9 : (10 : Int) ^ 9 = 1000000000 := rfl
      go_wp2
      go_roundw
      case rel =>
        have hmono : (10 : Int) ^ (pos + 1) ≤ 10 ^ (pos + wd) := p10 (by simp at hwd; omega)
        refine ⟨pos + wd, b', 10 * acc + (c - 48), rfl, ?_, ?_, by simp at hwd; omega, by omega, by omega⟩
        · clear hnx; rfl
        · rw [← hc]
          simp [numF, hp, hdc, hlo, hhi]
      case measure =>
        simp at hwd ⊢
        omega
    · have hnx : ∀ ty, (Instr.next (.pointer (some ⟨w.heap.size, 0, none⟩)) true ty).run Tryz.prog (w.iter s pos) = _ := fun ty => run_next_end w s pos ty hp
      go_wp2
      go_ret2
      rw [numF_end s b pos acc hp] at hc
      refine ⟨?_, .inr ⟨_, rfl⟩⟩
      simp [numS, h1, h9, ← hc]
theorem below_iter (w : World) (s : ByteArray) (pos : Nat) : Go.RowKit.Below w.heap.size w (w.iter s pos) :=
  (Go.RowKit.Below.refl _ w).alloc (Nat.le_refl _) (.stringIter s pos)
theorem resVal_two (a b : Value) : resVal [a, b] = .tuple #[a, b] := by simp [resVal]
theorem strArg {S : Nat → Prop} {w : World} {s : ByteArray} {vs : List Value} (ha : PW (Rep S w) [Str s] vs) : vs = [.string s] := by
  match vs, ha with
  | [v], ha => have h1 := ha.2 0 _ v rfl rfl; cases h1; rfl
  | [], ha => exact absurd ha.1 (by simp)
  | _ :: _ :: _, ha => exact absurd ha.1 (by simp)
theorem cNumber (s : ByteArray) : Cl 20 [Str s] [.pv (I (numS s).1), .pv (B (numS s).2)] := by
  intro S w vs hS hg ha
  obtain rfl := strArg ha
  refine ⟨(walk_number s w).mono ?_, enters_of Tryz.func20 (by kernel_rfl) rfl _ _⟩
  rintro e w' ⟨rfl, hw⟩
  have hb : Go.RowKit.Below w.heap.size w w' := by
    rcases hw with rfl | ⟨pos, rfl⟩
    · exact .refl _ _
    · exact below_iter w s pos
  exact ⟨S, _, [.int .i64 (numS s).1, .bool (numS s).2], [], .cons (.pv (.refl _)) (.cons (.pv (.refl _)) .nil), (by rw [resVal_two]), .pv (.lit rfl) (.pv (.lit rfl) .nil), grown_none hS hb, fun b h => by simp at h⟩
end Go.Proofs.YthcmkipbdgndoaaGreatDoor.M

namespace Go.Proofs.YthcmkipbdgndoaaGreatDoor.M
open Go Go.Mir Go.Proofs Go.RowKit
theorem litArg {S : Nat → Prop} {w : World} {v : Value} {u : Value} (h : Rep S w (.lit v) u) : u = v := by cases h; rfl
theorem two {S : Nat → Prop} {w : World} {p q : PV} {vs : List Value} (ha : PW (Rep S w) [p, q] vs) : ∃ v u, vs = [v, u] ∧ Rep S w p v ∧ Rep S w q u := by
  match vs, ha with
  | [v, u], ha => exact ⟨v, u, rfl, ha.2 0 _ v rfl rfl, ha.2 1 _ u rfl rfl⟩
  | [], ha => exact absurd ha.1 (by simp)
  | [_], ha => exact absurd ha.1 (by simp)
  | _ :: _ :: _ :: _, ha => exact absurd ha.1 (by simp)
theorem one {S : Nat → Prop} {w : World} {p : PV} {vs : List Value} (ha : PW (Rep S w) [p] vs) : ∃ v, vs = [v] ∧ Rep S w p v := by
  match vs, ha with
  | [v], ha => exact ⟨v, rfl, ha.2 0 _ v rfl rfl⟩
  | [], ha => exact absurd ha.1 (by simp)
  | _ :: _ :: _, ha => exact absurd ha.1 (by simp)
/-- A contract of one plain value. -/
theorem ct_val {g : Nat} {ps : List PV} {r : Value} (hr : r.flat = true) (en : ∀ args w, (callFunc g args).run Tryz.prog w = .ok (.enter g args) w)
    (h : ∀ (S : Nat → Prop) (w : World) (vs : List Value), (∀ b, S b → b < w.heap.size) → PW (Rep S w) ps vs → Calls Tryz.prog g vs.toArray w fun e w' => e = .returned r ∧ Below w.heap.size w w') : Cl g ps [.pv (.lit r)] := by
  intro S w vs hS _ ha
  refine ⟨(h S w vs hS ha).mono ?_, en _ _⟩
  rintro e w' ⟨rfl, hb⟩
  exact ⟨S, _, [r], [], .cons (.pv (.refl _)) .nil, (by rw [resVal_one]), .pv (.lit hr) .nil, grown_none hS hb, fun b h => by simp at h⟩
noncomputable def idxAt (s : ByteArray) (r : Int) : Option (List RV) := match decide (0 ≤ r) && decide (r < 128) with
  | true => some [.pv (I (Lib.indexByte s.data.toList r.toNat.toUInt8))]
  | false => none
theorem idxAt_ok {s : ByteArray} {r : Int} {rs : List RV} (h : idxAt s r = some rs) : Cl 59 [Str s, .lit (.int .i32 r)] rs := by
  unfold idxAt at h
  split at h
  · rename_i hc
    cases h
    simp only [Bool.and_eq_true, decide_eq_true_eq] at hc
    refine ct_val rfl (enters_of Tryz.func59 (by kernel_rfl) rfl) fun S w vs hS ha => ?_
    obtain ⟨v, u, rfl, h1, h2⟩ := two ha
    rw [litArg h1, litArg h2]
    exact (Tryz.strings_IndexRune_ascii s r w hc.1 hc.2).mono fun e w' ⟨h1, h2⟩ => ⟨h1, h2 ▸ .refl _ _⟩
  · cases h
noncomputable def itoaAt (n : Int) : Option (List RV) := match decide (0 ≤ n) && decide (n < 100) with
  | true => some [.pv (Str ⟨(Lib.decDigits n.toNat).toArray⟩)]
  | false => none
theorem itoaAt_ok {n : Int} {rs : List RV} (h : itoaAt n = some rs) : Cl 15 [I n] rs := by
  unfold itoaAt at h
  split at h
  · rename_i hc
    cases h
    simp only [Bool.and_eq_true, decide_eq_true_eq] at hc
    refine ct_val rfl (enters_of Tryz.func15 (by kernel_rfl) rfl) fun S w vs hS ha => ?_
    obtain ⟨v, rfl, h1⟩ := one ha
    rw [litArg h1]
    have := Tryz.strconv_Itoa_small n.toNat (by omega) w
    rw [Int.toNat_of_nonneg hc.1] at this
    exact this.mono fun e w' ⟨h1, h2⟩ => ⟨h1, h2 ▸ .refl _ _⟩
  · cases h
noncomputable def strsOf : List PV → Option (List ByteArray)
  | [] => some []
  | .lit (.string s) :: r => match strsOf r with
    | some xs => some (s :: xs)
    | none => none
  | _ => none
theorem strsOf_eq : ∀ {es : List PV} {xs : List ByteArray}, strsOf es = some xs → es = xs.map Str
  | [], xs, h => by cases h; rfl
  | e :: r, xs, h => by
    unfold strsOf at h
    split at h
    · rename_i heq; cases heq
    · rename_i s r' heq
      cases heq
      split at h
      · rename_i ys hy
        cases h
        rw [strsOf_eq hy]; rfl
      · cases h
    · cases h
noncomputable def joinAt (es : List PV) (sep : ByteArray) : Option (List RV) := match strsOf es with
  | some xs => match decide (xs.length ≤ 140737488355328) && decide ((Lib.join (xs.map (·.data.toList)) sep.data.toList).length ≤ 140737488355328) with
    | true => some [.pv (Str ⟨(Lib.join (xs.map (·.data.toList)) sep.data.toList).toArray⟩)]
    | false => none
  | none => none
theorem joinAt_ok {fl : Bool} {es : List PV} {sep : ByteArray} {rs : List RV} (h : joinAt es sep = some rs) : Cl 52 [.sl fl es, Str sep] rs := by
  unfold joinAt at h
  split at h
  · rename_i xs hxs
    split at h
    · rename_i hc
      cases h
      simp only [Bool.and_eq_true, decide_eq_true_eq] at hc
      rw [strsOf_eq hxs]
      refine ct_val rfl (enters_of Tryz.func52 (by kernel_rfl) rfl) fun S w vs hS ha => ?_
      obtain ⟨v, u, rfl, h1, h2⟩ := two ha
      rw [litArg h2]
      cases h1 with
      | @sl _ _ a cap s f hn hcap hf hs hcell hr =>
        rw [List.length_map] at hcap ⊢
        by_cases h0 : xs = []
        · subst h0
          exact (Tryz.strings_Join_none a cap sep w).mono fun e w' ⟨h1, h2⟩ => ⟨h1, h2 ▸ .refl _ _⟩
        · have hpos : 0 < xs.length := List.length_pos_iff.2 h0
          have at0 : ∀ (j : Nat) (x : ByteArray), xs[j]? = some x → (xs.map Str)[j]? = some (Str x) := fun j x hx => by rw [List.getElem?_map, hx]; rfl
          have s1 : s = 1 := by rw [← hs 0 _ (at0 0 _ (List.getElem?_eq_getElem hpos))]; rfl
          obtain ⟨b, o, rfl, hb, _⟩ := hcell 0 _ 0 _ (at0 0 _ (List.getElem?_eq_getElem hpos)) rfl
          refine (Tryz.strings_Join b o cap xs sep w (fun j x hx => ?_) (hS b hb) hc.1 hcap hc.2)
          obtain ⟨b', o', e, _, hc'⟩ := hcell j _ 0 _ (at0 j x hx) rfl
          cases e
          have hv := litArg (hr j _ 0 _ (at0 j x hx) rfl)
          subst s1
          simpa [hv] using hc'
    · cases h
  · cases h
/-- What a run may ask. -/
noncomputable def tbS (f : Nat) (ps : List PV) : Option (List RV) := match Nat.beq f 59, Nat.beq f 15, Nat.beq f 52, ps with
  | true, _, _, [.lit (.string s), .lit (.int .i32 r)] => idxAt s r
  | _, true, _, [.lit (.int .i64 n)] => itoaAt n
  | _, _, true, [.sl _ es, .lit (.string sep)] => joinAt es sep
  | _, _, _, _ => none
theorem tbS_ok {f : Nat} {ps : List PV} {rs : List RV} (h : tbS f ps = some rs) : Ct Tryz.prog f ps rs := by
  unfold tbS at h
  split at h
  · rw [Nat.eq_of_beq_eq_true (show Nat.beq f 59 = true by assumption)]; exact idxAt_ok h
  · rw [Nat.eq_of_beq_eq_true (show Nat.beq f 15 = true by assumption)]; exact itoaAt_ok h
  · rw [Nat.eq_of_beq_eq_true (show Nat.beq f 52 = true by assumption)]; exact joinAt_ok h
  · cases h
end Go.Proofs.YthcmkipbdgndoaaGreatDoor.M

namespace Go.Proofs
open Go.Shelf Go.RowKit
variable {P : Program} {ρ : Ren}
theorem append_str_where {w w' : World} (base : Nat) (t u ty e : TypeId) (i : TypeInfo) (ht : P.underlying t = some (.slice e)) (hu : P.underlying u = some .string) (hi : P.info? e = some i) (hz : i.zero = some (.int .u8 0)) (hsize : i.size = 1) (hby : i.bytes = 1)
    (v v' : Value) (n : Nat) (xs : List Value) (hown : w.ownsRow base e 1 v n xs) (s : ByteArray) (h63 : n + s.size ≤ maxLen) (hbytes : n + s.size ≤ 140737488355328)
    (hr : (Builtin.append_ #[t, u] ty #[v, .string s]).run P w = .ok v' w') : v'.ownBlock = v.ownBlock ∨ ∀ g, v'.ownBlock = some g → w.heap.size ≤ g := by
  rcases hown.2 with ⟨rfl, rfl⟩ | ⟨g, cap, cur, rfl, hbg, hg, hnc, hcm, hcs, htake⟩
  · right
    intro g hg'
    obtain ⟨v2, w2, hr2, ho2, _⟩ := Lib.run_append_own_string (P := P) w w.heap.size t u ty e i ht hu hi hz hsize hby (.slice none 0 0) 0 [] (World.ownsRow_nil w _ e 1) s h63 hbytes (Nat.le_refl _)
    rw [hr] at hr2
    cases hr2
    rcases ho2.2 with ⟨rfl, _⟩ | ⟨g2, _, _, rfl, hle, _⟩
    · cases hg'
    · cases hg'; exact hle
  · have hxl : xs.length = n := by simpa using hown.1
    by_cases hroom : n + s.size ≤ cap
    · left
      have hcs' : cur.size = cap := by simpa using hcs
      have hr2 := Lib.run_append_room_string (P := P) w t u ty e i ht hu hi hsize g n cap cur hg s hroom (by omega)
      rw [hr] at hr2
      cases hr2
      rfl
    · right
      intro g' hg'
      have holds : ∀ j u, xs[j]? = some u → w.cell? ((⟨g, 0, none⟩ : Addr).add j) = some u := hown.cells (g := g) rfl
      have hsmall : n + s.size ≤ 9223372036854775807 := by simp only [maxLen] at h63; omega
      have hr2 := Lib.run_append_grow_string (P := P) w t u ty e i (.int .u8 0) ht hu hi hz ⟨g, 0, none⟩ n cap xs (by rw [hsize]; simpa using hxl) holds s (by omega) (by omega) (by rw [hby]; exact growslice_fits (by omega) (by omega))
      rw [hr] at hr2
      cases hr2
      cases hg'
      exact Nat.le_refl _
theorem wpList_append_str {w : World} {ops : Array Oper} {rest : List Oper} {o : Oper} {a : Act} {Q : Exit → Act → World → Prop} (hgd : o.guard = none) (sl x : Operand) (t u : TypeId)
    (ho : o.op = .call { callee := .builtin .append, args := #[sl, x], argTypes := #[t, u] })
    (base : Nat) (e : TypeId) (i : TypeInfo) (ht : P.underlying t = some (.slice e)) (hu : P.underlying u = some .string) (hi : P.info? e = some i) (hz : i.zero = some (.int .u8 0))
    (hsize : i.size = 1) (hby : i.bytes = 1)
    (v : Value) (n : Nat) (xs : List Value) (hs : a.eval sl = v) (hown : w.ownsRow base e 1 v n xs) (s : ByteArray) (hx : a.eval x = .string s)
    (h63 : n + s.size ≤ maxLen) (hbytes : n + s.size ≤ 140737488355328) (hbase : base ≤ w.heap.size)
    (h : ∀ v' w', w'.ownsRow base e 1 v' (n + s.size) (xs ++ Lib.strCells s) → w.grownBy w' v.ownBlock → (v'.ownBlock = v.ownBlock ∨ ∀ g, v'.ownBlock = some g → w.heap.size ≤ g) → wpList P ops Q rest (a.put o.dst v') w') : wpList P ops Q (o :: rest) a w := by
  refine wpList_plain hgd fun K hK => ?_
  obtain ⟨v', w', hr, h2, h3, h4⟩ := Lib.run_append_own_string (P := P) w base t u o.type e i ht hu hi hz hsize hby v n xs hown s h63 hbytes hbase
  have hw := append_str_where base t u o.type e i ht hu hi hz hsize hby v v' n xs hown s h63 hbytes hr
  unfold Oper.wp execOp
  simp only [ho, resolve, invoke, builtin, Sem.run_bind, Sem.run_pure, Result.andThen_ok, List.map_toArray, List.map_cons, List.map_nil, hs, hx, hr]
  exact hK _ _ (h v' w' h2 h3 hw)
set_option maxHeartbeats 2000000 in
set_option maxRecDepth 100000 in
theorem WriteString_frame (L : Lays.n166 P ρ) (X : Builder.Extra P ρ) (B b : Nat) (p v : Value) (bs : List Value) (s : ByteArray) (w : World) (hp : p = .pointer none ∨ p = .pointer (some ⟨b, 0, none⟩)) (hB : B ≤ b) (hbk : w.heap[b]? = some (.cells #[p, v] (ρ.t 72) (0, 0))) (hown : w.ownsRow B (ρ.t 5) 1 v bs.length bs) (hne : v.ownBlock ≠ some b) (hlen : bs.length + s.size ≤ 140737488355328) (hBw : B ≤ w.heap.size) :
    Calls P (ρ.f 166) #[.pointer (some ⟨b, 0, none⟩), .string s] w fun e w' => e = .returned (.tuple #[.int .i64 s.size, .nilIface]) ∧ ∃ v', w'.heap[b]? = some (.cells #[.pointer (some ⟨b, 0, none⟩), v'] (ρ.t 72) (0, 0)) ∧ w'.ownsRow B (ρ.t 5) 1 v' (bs ++ Lib.strCells s).length (bs ++ Lib.strCells s) ∧ v'.ownBlock ≠ some b ∧ Below B w w' ∧ (v'.ownBlock = v.ownBlock ∨ ∀ g, v'.ownBlock = some g → w.heap.size ≤ g) ∧ ∀ k, k < w.heap.size → k ≠ b → some k ≠ v.ownBlock → w'.heap[k]? = w.heap[k]? := by
  obtain ⟨i0, hi, hz0, hz1, hz2⟩ := info_parts X.infoByte
  have mixed := L.mixed
  have t72 := L.t72; have a72 := L.a72; have z72 := L.z72; have v72 := L.v72; have u72 := run_underlying L.t72
  have t70 := L.t70; have a70 := L.a70; have z70 := L.z70; have v70 := L.v70; have u70 := run_underlying L.t70
  have t37 := L.t37; have a37 := L.a37; have z37 := L.z37; have v37 := L.v37; have u37 := run_underlying L.t37
  have t3 := L.t3; have a3 := L.a3; have z3 := L.z3; have v3 := L.v3; have u3 := run_underlying L.t3
  have t9 := L.t9; have a9 := L.a9; have z9 := L.z9; have v9 := L.v9; have u9 := run_underlying L.t9
  have t4 := L.t4; have a4 := L.a4; have z4 := L.z4; have v4 := L.v4; have u4 := run_underlying L.t4
  have t164 := L.t164; have a164 := L.a164; have z164 := L.z164; have v164 := L.v164; have u164 := run_underlying L.t164
  have t5 := X.t5; have a5 := X.a5; have z5 := X.z5; have v5 := X.v5; have u5 := run_underlying X.t5
  have e240 : ∀ args w, (callFunc (ρ.f 240) args).run P w = .ok (.enter (ρ.f 240) args) w := enters_of L.f240 (by kernel_rfl) rfl
  -- copyCheck: what turns is the builder's own block alone
  have chk : Calls P (ρ.f 240) #[.pointer (some ⟨b, 0, none⟩)] w fun e w' => e = .returned (.tuple #[]) ∧ w.grownBy w' (some b) ∧ w'.heap.size = w.heap.size ∧ w'.heap[b]? = some (.cells #[.pointer (some ⟨b, 0, none⟩), v] (ρ.t 72) (0, 0)) := by
    have hat : Lib.BuilderAt (ρ.t 72) (ρ.t 5) B b p bs w := ⟨hB, v, hbk, hown, hne⟩
    rcases hp with rfl | rfl
    · refine (Any.Builder_copyCheck_fresh { L with } X.toX72 b w hat.cell0 hat.shape hat.frozen0).mono ?_
      rintro e w' ⟨rfl, rfl⟩
      exact ⟨rfl, ⟨rfl, rfl, rfl, by simp [World.setCell], fun k _ hk => Below.heap_setCell _ _ _ _ (fun e => hk (by simp [e]))⟩, by simp [World.setCell], by simp [World.setCell, Array.getElem?_modify, hbk]⟩
    · refine (Any.Builder_copyCheck_used { L with } X.toX72 b w hat.cell0).mono ?_
      rintro e w' ⟨rfl, rfl⟩
      exact ⟨rfl, ⟨rfl, rfl, rfl, Nat.le_refl _, fun _ _ _ => rfl⟩, rfl, hbk⟩
  go_enter L.f166, Body.n166_ntmps ρ
  go_wp2_with (go_at_fn (ρ.f 240); refine chk.mono ?_)
  rintro e w1 ⟨rfl, hg1, hz1', hbk1⟩
  have hown1 : w1.ownsRow B (ρ.t 5) 1 v bs.length bs := hown.kept (row := some b) hg1 (Or.inr hne)
  have c0 : w1.cell? ⟨b, 0, none⟩ = some (.pointer (some ⟨b, 0, none⟩)) := by rw [Lib.cell_of_heap hbk1]; rfl
  have c1 : w1.cell? ⟨b, 1, none⟩ = some v := by rw [Lib.cell_of_heap hbk1]; rfl
  go_wp2_with (at_builtin; refine wpList_append_str rfl _ _ (ρ.t 37) (ρ.t 9) rfl B (ρ.t 5) i0 L.t37 L.t9 hi hz0 hz1 hz2 _ _ _ rfl hown1 s rfl ?c3 ?c4 ?c5 ?_)
  case c3 => unfold maxLen; omega
  case c4 => omega
  case c5 => omega
  intro v' w2 hown' hgrow hwhere
  have hlt : b < w1.heap.size := by
    rcases Nat.lt_or_ge b w1.heap.size with h' | h'
    · exact h'
    · simp [Array.getElem?_eq_none h'] at hbk1
  have hb2 : w2.heap[b]? = some (.cells #[.pointer (some ⟨b, 0, none⟩), v] (ρ.t 72) (0, 0)) := by
    rw [hgrow.block b hlt (fun e => hne e.symm)]
    exact hbk1
  have d0 : w2.cell? ⟨b, 0, none⟩ = some (.pointer (some ⟨b, 0, none⟩)) := by rw [Lib.cell_of_heap hb2]; rfl
  have d1 : w2.cell? ⟨b, 1, none⟩ = some v := by rw [Lib.cell_of_heap hb2]; rfl
  have f1 : w2.frozen? ⟨b, 1, none⟩ = false := Lib.frozen_of_heap hb2 1
  obtain ⟨ao, n', cap, rfl⟩ : ∃ ao n' cap, v' = .slice ao n' cap := by
    rcases hown'.2 with ⟨hv, _⟩ | ⟨g, cap, cur, hv, _⟩
    · exact ⟨_, _, _, hv⟩
    · exact ⟨_, _, _, hv⟩
  go_wp2
  go_ret2
  obtain ⟨_, v3, hput, hown3, hne3⟩ := Lib.BuilderAt.put (T := (ρ.t 72)) (e := (ρ.t 5)) hB hb2 (bs' := bs ++ Lib.strCells s) (by simpa [Lib.strCells_length] using hown') X.neB5
  have hself : (w2.setCell ⟨b, 1, none⟩ (.slice ao n' cap)).heap[b]? = some (.cells #[.pointer (some ⟨b, 0, none⟩), .slice ao n' cap] (ρ.t 72) (0, 0)) := by simp [World.setCell, Array.getElem?_modify, hb2]
  obtain rfl : v3 = .slice ao n' cap := by
    rw [hself] at hput
    cases hput; rfl
  refine ⟨rfl, .slice ao n' cap, hself, hown3, hne3, ?_, ?_, fun k hk hkb hkv => ?_⟩
  · refine ⟨hgrow.os.trans hg1.os, hgrow.tape.trans hg1.tape, hgrow.output.trans hg1.output, ?_, fun k hk => ?_⟩
    · have := hgrow.size; simp [World.setCell]; omega
    · have hkb : k ≠ b := by omega
      have hkv : some k ≠ v.ownBlock := fun e => by have := (hown.lt k e.symm).1; omega
      rw [Below.heap_setCell _ _ _ _ hkb, hgrow.block k (by omega) hkv, hg1.block k (by omega) (fun e => hkb (Option.some.inj e))]
  · rcases hwhere with h | h
    · exact .inl h
    · exact .inr h
  · rw [Below.heap_setCell _ _ _ _ hkb, hgrow.block k (by omega) hkv, hg1.block k hk (fun e => hkb (Option.some.inj e))]
end Go.Proofs

namespace Go.Proofs
open Go.Shelf Go.RowKit Go.Lib
variable {P : Program} {ρ : Ren}
set_option maxHeartbeats 1000000 in
theorem Split_byte (L : Lays.n146 P ρ) (hi9 : (P.info? (ρ.t 9)).map (fun i => (i.zero, i.size, i.bytes)) = some (some (.string ByteArray.empty), 1, 16)) (s : ByteArray) (c : UInt8) (w : World) (hs : s.size < 4294967281) :
    Calls P (ρ.f 146) #[.string s, .string ⟨#[c]⟩] w fun e w' =>
      e = .returned (.slice (some ⟨w.heap.size, 0, none⟩) (Lib.countB s ⟨#[c]⟩ + 1) (Lib.countB s ⟨#[c]⟩ + 1)) ∧ w' = w.alloc (.cells ((Lib.splitB ⟨#[c]⟩ 0 (Lib.countB s ⟨#[c]⟩) s).map Value.string).toArray (ρ.t 9)) := by
  have h1 : 1 ≤ (⟨#[c]⟩ : ByteArray).size := Nat.le_refl 1
  have hle := Lib.countB_le ⟨#[c]⟩ h1 s.size s (Nat.le_refl _)
  have hlen := Lib.splitB_all ⟨#[c]⟩ h1 0 _ s rfl
  have cc := Any.strings_genSplit_core { L with } hi9 s ⟨#[c]⟩ 0 (-1) (Lib.countB s ⟨#[c]⟩ + 1) w hs h1 (Nat.zero_le _)
    (fun x k hx => (Any.strings_Index_one { L with } x c _).mono fun e w' ⟨he, hw⟩ => ⟨by rw [he]; show _ = Ending.returned (Value.int .i64 (Lib.index x.data.toList [c])); rw [Lib.index_one], hw⟩)
    ((Any.strings_Count_one { L with } s c w).mono fun e w' ⟨he, hw⟩ => ⟨by rw [he]; show _ = Ending.returned (Value.int .i64 ((Lib.count s.data.toList [c] : Nat) : Int)); rw [Lib.count_one]; rfl, hw⟩)
    (by decide) (by decide) (by rw [if_pos (by decide)]; omega)
  rw [Nat.add_sub_cancel, hlen] at cc
  have e2 : Lib.cellsOf (Lib.splitB ⟨#[c]⟩ 0 (Lib.countB s ⟨#[c]⟩) s) (Lib.countB s ⟨#[c]⟩ + 1) = ((Lib.splitB ⟨#[c]⟩ 0 (Lib.countB s ⟨#[c]⟩) s).map Value.string).toArray := by rw [← hlen]; exact Lib.cellsOf_full _
  rw [e2] at cc
  have t3 := L.t3; have t9 := L.t9; have t31 := L.t31
  have a3 := L.a3; have a9 := L.a9; have a31 := L.a31
  have z3 := L.z3; have v3 := L.v3; have z9 := L.z9; have v9 := L.v9; have z31 := L.z31; have v31 := L.v31
  have e221 : ∀ args w, (callFunc (ρ.f 221) args).run P w = .ok (.enter (ρ.f 221) args) w := enters_of L.f221 (by kernel_rfl) rfl
  go_enter L.f146, Body.n146_ntmps ρ
  go_wp2_with (go_at_fn (ρ.f 221); refine cc.mono ?_; rintro e w' ⟨rfl, hw⟩; rw [hw])
  go_ret
  exact ⟨rfl, rfl⟩
end Go.Proofs

namespace Go.Proofs.YthcmkipbdgndoaaGreatDoor.M
open Go Go.Mir Go.Proofs Go.RowKit
/-- A group: three rows. -/
abbrev G3 (x y z : Bool × List PV) : PV := .agg [.sl x.1 x.2, .sl y.1 y.2, .sl z.1 z.2]
/-- What lines come to. -/
inductive Runs : (Bool × List PV) → (Bool × List PV) → (Bool × List PV) → List ByteArray → List UInt8 → Prop
  | nil (x y z : Bool × List PV) : Runs x y z [] []
  | skip {x y z : Bool × List PV} {ls : List ByteArray} {out : List UInt8} (h : Runs x y z ls out) : Runs x y z (⟨#[]⟩ :: ls) out
  | step {x y z x' y' z' : Bool × List PV} {l a : ByteArray} {ls : List ByteArray} {out : List UInt8} (hl : l.size ≠ 0) (hd : Cl 8 [G3 x y z, Str l] [.pv (G3 x' y' z'), .pv (Str a)]) (h : Runs x' y' z' ls out) : Runs x y z (l :: ls) (a.data.toList ++ out)
theorem slRep {S : Nat → Prop} {w : World} {f : Bool} {es : List PV} {v : Value} (h : Rep S w (.sl f es) v) : ∃ a n k, v = .slice a n k := by
  cases h; exact ⟨_, _, _, rfl⟩
theorem aggRep {S : Nat → Prop} {w : World} {x y z : Bool × List PV} {v : Value} (h : Rep S w (G3 x y z) v) : ∃ a1 n1 k1 a2 n2 k2 a3 n3 k3, v = .agg #[.slice a1 n1 k1, .slice a2 n2 k2, .slice a3 n3 k3] := by
  cases h with
  | agg hl hr =>
    rename_i vs
    match vs, hl, hr with
    | [a, b, c], _, hr =>
      obtain ⟨a1, n1, k1, rfl⟩ := slRep (hr 0 _ _ rfl rfl)
      obtain ⟨a2, n2, k2, rfl⟩ := slRep (hr 1 _ _ rfl rfl)
      obtain ⟨a3, n3, k3, rfl⟩ := slRep (hr 2 _ _ rfl rfl)
      exact ⟨_, _, _, _, _, _, _, _, _, rfl⟩
theorem oneOf {S' : Nat → Prop} {w' : World} {p : PV} {rs : List RV} {us : List Value} {bs : List Nat} (h : RvsLe rs [.pv p]) (hr : RVs S' w' rs us bs) : ∃ v S'', us = [v] ∧ (∀ b, S'' b ↔ S' b ∨ b ∈ bs) ∧ Rep S'' w' p v := by
  obtain ⟨cs, hcs, hw⟩ := rvs_weaken h hr
  have hbs := hw (fun b => S' b ∨ b ∈ bs) (fun _ h => .inl h) (fun b hb _ => .inr hb)
  cases hbs with
  | pv hp hn => cases hn; exact ⟨_, fun b => S' b ∨ b ∈ bs, rfl, fun b => Iff.rfl, hp⟩
theorem twoOf {S' : Nat → Prop} {w' : World} {p q : PV} {rs : List RV} {us : List Value} {bs : List Nat} (h : RvsLe rs [.pv p, .pv q]) (hr : RVs S' w' rs us bs) : ∃ v u S'', us = [v, u] ∧ (∀ b, S'' b ↔ S' b ∨ b ∈ bs) ∧ Rep S'' w' p v ∧ Rep S'' w' q u := by
  obtain ⟨cs, hcs, hw⟩ := rvs_weaken h hr
  have hbs := hw (fun b => S' b ∨ b ∈ bs) (fun _ h => .inl h) (fun b hb _ => .inr hb)
  cases hbs with
  | pv hp hn => cases hn with
    | pv hq hn => cases hn; exact ⟨_, _, fun b => S' b ∨ b ∈ bs, rfl, fun b => Iff.rfl, hp, hq⟩
theorem three_alloc (w : World) (o1 o2 o3 : Obj) : (((w.alloc o1).alloc o2).alloc o3).heap[w.heap.size]? = some o1 ∧ (((w.alloc o1).alloc o2).alloc o3).heap[w.heap.size + 1]? = some o2 ∧ (((w.alloc o1).alloc o2).alloc o3).heap[w.heap.size + 2]? = some o3 ∧ (∀ k, k < w.heap.size → (((w.alloc o1).alloc o2).alloc o3).heap[k]? = w.heap[k]?) ∧ (((w.alloc o1).alloc o2).alloc o3).heap.size = w.heap.size + 3 := by
  have s1 : (w.alloc o1).heap.size = w.heap.size + 1 := by simp
  have s2 : ((w.alloc o1).alloc o2).heap.size = w.heap.size + 2 := by simp
  refine ⟨?_, ?_, ?_, fun k hk => ?_, by simp⟩
  · rw [heap_alloc_old _ _ (by omega), heap_alloc_old _ _ (by omega), heap_alloc_new]
  · rw [heap_alloc_old _ _ (by omega)]; have := heap_alloc_new (w.alloc o1) o2; rw [s1] at this; exact this
  · have := heap_alloc_new ((w.alloc o1).alloc o2) o3; rw [s2] at this; exact this
  · rw [heap_alloc_old _ _ (by omega), heap_alloc_old _ _ (by omega), heap_alloc_old _ _ hk]
theorem ws (b : Nat) (p v : Value) (bs : List Value) (s : ByteArray) (w : World) (hp : p = .pointer none ∨ p = .pointer (some ⟨b, 0, none⟩)) (hbk : w.heap[b]? = some (.cells #[p, v] 70 (0, 0))) (hown : w.ownsRow b 5 1 v bs.length bs) (hne : v.ownBlock ≠ some b) (hlen : bs.length + s.size ≤ 140737488355328) (hBw : b ≤ w.heap.size) :
    Calls Tryz.prog 23 #[.pointer (some ⟨b, 0, none⟩), .string s] w fun e w' => e = .returned (.tuple #[.int .i64 s.size, .nilIface]) ∧ ∃ v', w'.heap[b]? = some (.cells #[.pointer (some ⟨b, 0, none⟩), v'] 70 (0, 0)) ∧ w'.ownsRow b 5 1 v' (bs ++ Lib.strCells s).length (bs ++ Lib.strCells s) ∧ v'.ownBlock ≠ some b ∧ Below b w w' ∧ (v'.ownBlock = v.ownBlock ∨ ∀ g, v'.ownBlock = some g → w.heap.size ≤ g) ∧ ∀ k, k < w.heap.size → k ≠ b → some k ≠ v.ownBlock → w'.heap[k]? = w.heap[k]? :=
  WriteString_frame (P := Tryz.prog) (ρ := Tryz.lays156_ren) { Tryz.lays156 with } Tryz.Builder_Extra_156 b b p v bs s w hp (Nat.le_refl _) hbk hown hne hlen hBw
/-- What stands at the loop's head. -/
structure Inv (w W : World) (g b A : Nat) (ls : List ByteArray) (out : List UInt8) (i : Nat) : Prop where
  st : ∃ (x y z : Bool × List PV) (a1 a2 a3 : Option Addr) (n1 k1 n2 k2 n3 k3 : Nat) (S : Nat → Prop) (bytes rest : List UInt8) (p v : Value),
    W.heap[g]? = some (.cells #[.slice a1 n1 k1, .slice a2 n2 k2, .slice a3 n3 k3] 30 (0, 0)) ∧ Rep S W (G3 x y z) (.agg #[.slice a1 n1 k1, .slice a2 n2 k2, .slice a3 n3 k3]) ∧
    (∀ c, S c → c < W.heap.size ∧ c ≠ g ∧ c ≠ b ∧ some c ≠ v.ownBlock) ∧ GlobOk Tryz.prog S W ∧
    W.heap[b]? = some (.cells #[p, v] 70 (0, 0)) ∧ (p = .pointer none ∨ p = .pointer (some ⟨b, 0, none⟩)) ∧ W.ownsRow b 5 1 v (Lib.byteCells bytes).length (Lib.byteCells bytes) ∧ v.ownBlock ≠ some b ∧ v.ownBlock ≠ some A ∧
    Runs x y z (ls.drop i) rest ∧ out = bytes ++ rest
  lines : W.heap[A]? = some (.cells (ls.map Value.string).toArray 9 (0, 0))
  below : Below w.heap.size w W
  le : i ≤ ls.length
set_option maxRecDepth 1000000 in
set_option maxHeartbeats 4000000 in
theorem walk_run {x0 y0 z0 : Bool × List PV} (hst : Cl 9 [] [.pv (G3 x0 y0 z0)]) (s : ByteArray) (hs : s.size < 4294967281) (ls : List ByteArray) (hls : Lib.splitB ⟨#[10]⟩ 0 (Lib.countB s ⟨#[10]⟩) s = ls) (out : List UInt8) (hr : Runs x0 y0 z0 ls out) (ho : out.length ≤ 140737488355328)
    (S : Nat → Prop) (w : World) (hS : ∀ b, S b → b < w.heap.size) (hg : GlobOk Tryz.prog S w) :
    Calls Tryz.prog 11 #[.string s] w fun e w' => e = .returned (.string ⟨out.toArray⟩) ∧ Below w.heap.size w w' := by
  have eS : ∀ args w, (callFunc 9 args).run Tryz.prog w = .ok (.enter 9 args) w := enters_of Tryz.func9 (by kernel_rfl) rfl
  have eD : ∀ args w, (callFunc 8 args).run Tryz.prog w = .ok (.enter 8 args) w := enters_of Tryz.func8 (by kernel_rfl) rfl
  have eP : ∀ args w, (callFunc 22 args).run Tryz.prog w = .ok (.enter 22 args) w := enters_of Tryz.func22 (by kernel_rfl) rfl
  have eW : ∀ args w, (callFunc 23 args).run Tryz.prog w = .ok (.enter 23 args) w := enters_of Tryz.func23 (by kernel_rfl) rfl
  have eT : ∀ args w, (callFunc 24 args).run Tryz.prog w = .ok (.enter 24 args) w := enters_of Tryz.func24 (by kernel_rfl) rfl
  go_enter Tryz.func11, Tryz.ntmps11
  go_wp2_with (go_at_fn 9; refine (hst S w [] hS hg ⟨rfl, fun j p v hp => by simp at hp⟩).1.mono ?_; rintro e w1 ⟨S1, rs, us, bs, hrs, rfl, hrv, hgr, hbs⟩; obtain ⟨v, S2, rfl, hS2, hv⟩ := oneOf hrs hrv; obtain ⟨a1, n1, k1, a2, n2, k2, a3, n3, k3, rfl⟩ := aggRep hv; rw [resVal_one])
  go_wp2_with (go_at_fn 22; refine (Split_byte Tryz.lays146 (by kernel_rfl) s 10 _ hs).mono ?_; rintro e w2 ⟨rfl, hw2⟩; rw [hls] at hw2; subst hw2)
  have hlen : Lib.countB s ⟨#[10]⟩ + 1 = ls.length := by
    have := Lib.splitB_all ⟨#[10]⟩ (Nat.le_refl 1) 0 _ s rfl
    rw [← hls]; exact this.symm
  rw [hlen]
  go_loopw [13] (fun n W => ∃ i : Nat, n = .int .i64 i ∧ Inv w W w1.heap.size (w1.heap.size + 1) (w1.heap.size + 2) ls out i) (fun n _ => ls.length - (match n with | .int _ k => k.toNat | _ => 0))
  case atStart =>
    refine ⟨0, rfl, ?_⟩
    have hb0 : Below w.heap.size w w1 := ⟨hgr.os, hgr.tape, hgr.output, hgr.size, fun k hk => hgr.mem k hk⟩
    have hS2lt : ∀ c, S2 c → c < w1.heap.size := fun c hc => by
      rcases (hS2 c).1 hc with h | h
      · exact hgr.slt c h
      · exact (hbs c h).2.2
    refine ⟨⟨x0, y0, z0, a1, a2, a3, n1, k1, n2, k2, n3, k3, S2, [], out, .pointer none, .slice none 0 0, ?_, ?_, ?_, ?_, ?_, .inl rfl, ?_, ?_, ?_, by simpa using hr, rfl⟩, ?_, ?_, Nat.zero_le _⟩
    · exact (three_alloc w1 _ _ _).1
    · exact hv.mono (fun _ h => h) (fun c hc => (three_alloc w1 _ _ _).2.2.2.1 c (hS2lt c hc))
    · intro c hc
      have := hS2lt c hc
      refine ⟨by simp; omega, by omega, by omega, by simp [Value.ownBlock]⟩
    · exact hg.mono (fun c hc => (hS2 c).2 (.inl (hgr.st c hc))) (fun c hc => ((three_alloc w1 _ _ _).2.2.2.1 c (Nat.lt_of_lt_of_le (hS c hc) hgr.size)).trans (hgr.mem c (hS c hc)))
    · exact (three_alloc w1 _ _ _).2.1
    · exact World.ownsRow_nil _ _ _ _
    · simp [Value.ownBlock]
    · simp [Value.ownBlock]
    · exact (three_alloc w1 _ _ _).2.2.1
    · have l0 := hgr.size
      exact ((hb0.alloc l0 _).alloc (by simp; omega) _).alloc (by simp; omega) _
  case round =>
    obtain ⟨i, rfl, hI⟩ := hrel
    by_cases hi : i < ls.length
    · obtain ⟨⟨x, y, z, b1, b2, b3, m1, j1, m2, j2, m3, j3, S3, bytes, rest, p, v, q1, q2, q3, q4, q5, q6, q7, q8, q9, q10, q11⟩, qA, qB, qL⟩ := hI
      obtain ⟨l, hl⟩ : ∃ l, ls[i]? = some l := ⟨_, List.getElem?_eq_getElem hi⟩
      have hdrop : ls.drop i = l :: ls.drop (i + 1) := by
        rw [List.drop_eq_getElem_cons hi]
        rw [List.getElem?_eq_getElem hi] at hl
        rw [Option.some.inj hl]
      rw [hdrop] at q10
      have hcnt : ls.length ≤ s.size + 1 := by
        have := Lib.countB_le ⟨#[10]⟩ (Nat.le_refl 1) s.size s (Nat.le_refl _)
        omega
      have hwrap : wrap64 ((i : Int) + 1) = (i : Int) + 1 := IntWalk.wrap64_in _ (by omega)
      have hcell : wr.cell? ⟨w1.heap.size + 2, i, none⟩ = some (.string l) := by simp [World.cell?, qA, hl]
      by_cases he : l.size = 0
      · have hl0 : l = ⟨#[]⟩ := by
          have : l.data.size = 0 := he
          cases l with | mk d => rw [show d = #[] from Array.eq_empty_of_size_eq_zero this]
        subst hl0
        go_wp2
        go_roundw
        case rel =>
          refine ⟨i + 1, by simp [hwrap], ⟨⟨x, y, z, b1, b2, b3, m1, j1, m2, j2, m3, j3, S3, bytes, rest, p, v, q1, q2, q3, q4, q5, q6, q7, q8, q9, ?_, q11⟩, qA, qB, by omega⟩⟩
          cases q10 with
          | skip h => exact h
          | step hl _ _ => exact absurd rfl hl
        case measure => simp [hwrap]; omega
      · have hg1 : wr.cell? ⟨w1.heap.size, 0, none⟩ = some (.slice b1 m1 j1) := by simp [World.cell?, q1]
        have hg2 : wr.cell? ⟨w1.heap.size, 1, none⟩ = some (.slice b2 m2 j2) := by simp [World.cell?, q1]
        have hg3 : wr.cell? ⟨w1.heap.size, 2, none⟩ = some (.slice b3 m3 j3) := by simp [World.cell?, q1]
        cases q10 with
        | skip h => exact absurd rfl he
        | @step _ _ _ x' y' z' _ a _ rest' _ hd hrest =>
          have hne : l.toList.isEmpty = false := by
            cases hd0 : l.toList.isEmpty with
            | false => rfl
            | true =>
              exfalso; apply he
              have h1 := List.isEmpty_iff.1 hd0
              rw [ByteArray.toList_eq] at h1
              have h2 : l.data.toList.length = 0 := by rw [h1]; rfl
              simpa using h2
          have hgl : w1.heap.size < wr.heap.size := (Array.getElem?_eq_some_iff.1 q1).1
          go_wp2_with (go_at_fn 8; refine (hd S3 wr [.agg #[.slice b1 m1 j1, .slice b2 m2 j2, .slice b3 m3 j3], .string l] (fun c hc => (q3 c hc).1) q4 ⟨rfl, fun j p u hp hu => (by
            match j with
            | 0 => simp at hp hu; subst hp; subst hu; exact q2
            | 1 => simp at hp hu; subst hp; subst hu; exact .lit rfl
            | j + 2 => simp at hp)⟩).1.mono ?_)
          intro e w2 S4 rs2 hrs2 us2 he2 bs2 hrv2 hgr2 hbs2
          subst he2
          obtain ⟨v1, v2, S5, rfl, hS5, hv1, hv2⟩ := twoOf hrs2 hrv2
          obtain ⟨d1, o1, t1, d2, o2, t2, d3, o3, t3, rfl⟩ := aggRep hv1
          obtain rfl := litArg hv2
          rw [resVal_two]
          have gl2 : w1.heap.size < w2.heap.size := Nat.lt_of_lt_of_le hgl hgr2.size
          have hq0 : w2.heap[w1.heap.size]? = some (.cells #[.slice b1 m1 j1, .slice b2 m2 j2, .slice b3 m3 j3] 30 (0, 0)) := (hgr2.mem _ hgl).trans q1
          have hq : (w2.alloc (.cells #[.slice d1 o1 t1, .slice d2 o2 t2, .slice d3 o3 t3] 30)).heap[w1.heap.size]? = some (.cells #[.slice b1 m1 j1, .slice b2 m2 j2, .slice b3 m3 j3] 30 (0, 0)) := (heap_alloc_old _ _ gl2).trans hq0
          have hr1 : (w2.setCell ⟨w1.heap.size, 0, none⟩ (.slice d1 o1 t1)).heap[w1.heap.size]? = some (.cells #[.slice d1 o1 t1, .slice b2 m2 j2, .slice b3 m3 j3] 30 (0, 0)) := (by simp [World.setCell, Array.getElem?_modify, hq0])
          have hr2 : ((w2.setCell ⟨w1.heap.size, 0, none⟩ (.slice d1 o1 t1)).setCell ⟨w1.heap.size, 1, none⟩ (.slice d2 o2 t2)).heap[w1.heap.size]? = some (.cells #[.slice d1 o1 t1, .slice d2 o2 t2, .slice b3 m3 j3] 30 (0, 0)) := (by simp [World.setCell, Array.getElem?_modify, hq0])
          have hs1 : ((w2.setCell ⟨w1.heap.size, 0, none⟩ (.slice d1 o1 t1)).alloc (.cells #[.slice d1 o1 t1, .slice d2 o2 t2, .slice d3 o3 t3] 30)).heap[w1.heap.size]? = _ := (heap_alloc_old _ _ (by simpa [World.setCell] using gl2)).trans hr1
          have hs2 : (((w2.setCell ⟨w1.heap.size, 0, none⟩ (.slice d1 o1 t1)).setCell ⟨w1.heap.size, 1, none⟩ (.slice d2 o2 t2)).alloc (.cells #[.slice d1 o1 t1, .slice d2 o2 t2, .slice d3 o3 t3] 30)).heap[w1.heap.size]? = _ := (heap_alloc_old _ _ (by simpa [World.setCell] using gl2)).trans hr2
          have f0 := Lib.frozen_of_heap hq 0
          have f1 := Lib.frozen_of_heap hs1 1
          have f2 := Lib.frozen_of_heap hs2 2
          have cc0 : (w2.alloc (.cells #[.slice d1 o1 t1, .slice d2 o2 t2, .slice d3 o3 t3] 30)).cell? ⟨w1.heap.size, 0, none⟩ = some (.slice b1 m1 j1) := (by rw [Lib.cell_of_heap hq]; rfl)
          have cc1 : ((w2.setCell ⟨w1.heap.size, 0, none⟩ (.slice d1 o1 t1)).alloc (.cells #[.slice d1 o1 t1, .slice d2 o2 t2, .slice d3 o3 t3] 30)).cell? ⟨w1.heap.size, 1, none⟩ = some (.slice b2 m2 j2) := (by rw [Lib.cell_of_heap hs1]; rfl)
          have cc2 : (((w2.setCell ⟨w1.heap.size, 0, none⟩ (.slice d1 o1 t1)).setCell ⟨w1.heap.size, 1, none⟩ (.slice d2 o2 t2)).alloc (.cells #[.slice d1 o1 t1, .slice d2 o2 t2, .slice d3 o3 t3] 30)).cell? ⟨w1.heap.size, 2, none⟩ = some (.slice b3 m3 j3) := (by rw [Lib.cell_of_heap hs2]; rfl)
          have hbl : w1.heap.size + 1 < wr.heap.size := (Array.getElem?_eq_some_iff.1 q5).1
          have hAl : w1.heap.size + 2 < wr.heap.size := (Array.getElem?_eq_some_iff.1 qA).1
          obtain ⟨W3, hW3⟩ : ∃ W3, ((((w2.setCell ⟨w1.heap.size, 0, none⟩ (.slice d1 o1 t1)).setCell ⟨w1.heap.size, 1, none⟩ (.slice d2 o2 t2)).setCell ⟨w1.heap.size, 2, none⟩ (.slice d3 o3 t3)).alloc (.cells #[.slice d1 o1 t1, .slice d2 o2 t2, .slice d3 o3 t3] 30)) = W3 := ⟨_, rfl⟩
          have z3 : W3.heap.size = w2.heap.size + 1 := by rw [← hW3]; simp [World.setCell]
          have o3' : ∀ k, k < w2.heap.size → k ≠ w1.heap.size → W3.heap[k]? = w2.heap[k]? := fun k hk hne => by
            rw [← hW3, heap_alloc_old _ _ (by simpa [World.setCell] using hk), Below.heap_setCell _ _ _ _ hne, Below.heap_setCell _ _ _ _ hne, Below.heap_setCell _ _ _ _ hne]
          have g3 : W3.heap[w1.heap.size]? = some (.cells #[.slice d1 o1 t1, .slice d2 o2 t2, .slice d3 o3 t3] 30 (0, 0)) := by
            rw [← hW3, heap_alloc_old _ _ (by simpa [World.setCell] using gl2)]
            simp [World.setCell, Array.getElem?_modify, hq0]
          have b3' : Below w.heap.size wr W3 := by
            have e2 : Below w.heap.size wr w2 := ⟨hgr2.os, hgr2.tape, hgr2.output, hgr2.size, fun k hk => hgr2.mem k (by have := qB.size; omega)⟩
            have hgB := hgr.size
            have hsz : ∀ (w : World) (p : Addr) (v : Value), (w.setCell p v).heap.size = w.heap.size := fun w p v => by simp [World.setCell]
            rw [← hW3]
            exact (((e2.setCell (p := ⟨w1.heap.size, 0, none⟩) hgB _).setCell (p := ⟨w1.heap.size, 1, none⟩) hgB _).setCell (p := ⟨w1.heap.size, 2, none⟩) hgB _).alloc (by rw [hsz, hsz, hsz]; have := qB.size; have := hgr2.size; omega) _
          have vlt : ∀ k, v.ownBlock = some k → w1.heap.size + 1 ≤ k ∧ k < wr.heap.size := fun k hk => q7.lt k hk
          have own3 : W3.ownsRow (w1.heap.size + 1) 5 1 v (Lib.byteCells bytes).length (Lib.byteCells bytes) :=
            q7.kept (row := some w1.heap.size) ⟨b3'.os, b3'.tape, b3'.output, b3'.size, fun k hk hne => (o3' k (Nat.lt_of_lt_of_le hk hgr2.size) (fun e => hne (by rw [e]))).trans (hgr2.mem k hk)⟩ (Or.inr (fun e => by have := (vlt _ e).1; omega))
          have hlen3 : (Lib.byteCells bytes).length + a.size ≤ 140737488355328 := by
            rw [Lib.byteCells_length]
            have h1 : out.length = bytes.length + (a.data.toList.length + rest'.length) := by rw [q11]; simp
            have h2 : a.size = a.data.toList.length := rfl
            omega
          go_wp2_with (go_at_fn 23; rw [hW3])
          refine (ws (w1.heap.size + 1) p v (Lib.byteCells bytes) a W3 q6 ((o3' _ (Nat.lt_of_lt_of_le hbl hgr2.size) (by omega)).trans ((hgr2.mem _ hbl).trans q5)) own3 q8 hlen3 (by omega)).mono ?_
          rintro e w3 ⟨rfl, v', p1, p2, p3, p4, p5, p6⟩
          go_wp2
          go_roundw
          case rel =>
            have keep : ∀ k, k < w2.heap.size → k ≠ w1.heap.size → k ≠ w1.heap.size + 1 → some k ≠ v.ownBlock → w3.heap[k]? = w2.heap[k]? := fun k hk h1 h2 h3 => (p6 k (by omega) h2 h3).trans (o3' k hk h1)
            have S5f : ∀ c, S5 c → c < w2.heap.size ∧ (S3 c ∨ wr.heap.size ≤ c) := fun c hc => by
              rcases (hS5 c).1 hc with h | h
              · exact ⟨hgr2.slt c h, hgr2.st' c h⟩
              · exact ⟨(hbs2 c h).2.2, .inr (hbs2 c h).2.1⟩
            have S5g : ∀ c, S5 c → c ≠ w1.heap.size ∧ c ≠ w1.heap.size + 1 ∧ some c ≠ v.ownBlock := fun c hc => by
              rcases (S5f c hc).2 with h | h
              · exact (q3 c h).2
              · exact ⟨by omega, by omega, fun e => by have := (vlt c e.symm).2; omega⟩
            have hv3 : ∀ c, c < W3.heap.size → some c ≠ v.ownBlock → some c ≠ v'.ownBlock := fun c hc h e => by
              rcases p5 with h5 | h5
              · exact h (h5 ▸ e)
              · have := h5 c e.symm; omega
            have hs3 := p4.size
            refine ⟨i + 1, by simp [hwrap], ⟨⟨x', y', z', d1, d2, d3, o1, t1, o2, t2, o3, t3, S5, bytes ++ a.data.toList, rest', _, v', ?_, ?_, ?_, ?_, p1, .inr rfl, ?_, p3, ?_, hrest, ?_⟩, ?_, ?_, by omega⟩⟩
            · exact (p6 _ (by omega) (by omega) (fun e => by have := (vlt _ e.symm).1; omega)).trans g3
            · exact hv1.mono (fun _ h => h) (fun c hc => keep c (S5f c hc).1 (S5g c hc).1 (S5g c hc).2.1 (S5g c hc).2.2)
            · intro c hc
              have h1 := (S5f c hc).1
              exact ⟨by omega, (S5g c hc).1, (S5g c hc).2.1, hv3 c (by omega) (S5g c hc).2.2⟩
            · exact q4.mono (fun c hc => (hS5 c).2 (.inl (hgr2.st c hc))) (fun c hc => by
                have h3 := q3 c hc
                exact (keep c (Nat.lt_of_lt_of_le h3.1 hgr2.size) h3.2.1 h3.2.2.1 h3.2.2.2).trans (hgr2.mem c h3.1))
            · have e : Lib.byteCells (bytes ++ a.data.toList) = Lib.byteCells bytes ++ Lib.strCells a := by rw [Lib.byteCells_append, Lib.strCells_eq]
              rw [e]; exact p2
            · exact fun e => hv3 (w1.heap.size + 2) (by have := hgr2.size; omega) (fun e => q9 e.symm) e.symm
            · rw [q11, List.append_assoc]
            · have := hgr2.size
              exact (keep _ (by omega) (by omega) (by omega) (fun e => q9 e.symm)).trans ((hgr2.mem _ hAl).trans qA)
            · exact (qB.trans b3').trans (p4.mono (by have := hgr.size; omega))
          case measure => simp [hwrap]; omega
    · obtain ⟨⟨x, y, z, b1, b2, b3, m1, j1, m2, j2, m3, j3, S3, bytes, rest, p, v, q1, q2, q3, q4, q5, q6, q7, q8, q9, q10, q11⟩, qA, qB, qL⟩ := hI
      have hid : ls.drop i = [] := List.drop_eq_nil_of_le (by omega)
      rw [hid] at q10
      obtain rfl : rest = [] := by cases q10; rfl
      have hbl : w1.heap.size + 1 < wr.heap.size := (Array.getElem?_eq_some_iff.1 q5).1
      have hat : Lib.IsBuilder 70 5 (w1.heap.size + 1) (w1.heap.size + 1) (Lib.byteCells bytes) wr := by
        rcases q6 with rfl | rfl
        · exact .inl ⟨Nat.le_refl _, v, q5, q7, q8⟩
        · exact .inr ⟨Nat.le_refl _, v, q5, q7, q8⟩
      go_wp2_with (go_at_fn 24; refine (Tryz.Builder_String_any (w1.heap.size + 1) (w1.heap.size + 1) bytes _ hat (by omega)).mono ?_; rintro e w' ⟨rfl, hb⟩)
      go_ret
      refine ⟨by rw [q11]; simp, ?_⟩
      exact qB.trans (hb.mono (by have := hgr.size; omega))
theorem cRun {x0 y0 z0 : Bool × List PV} (hst : Cl 9 [] [.pv (G3 x0 y0 z0)]) (s : ByteArray) (hs : s.size < 4294967281) (ls : List ByteArray) (hls : Lib.splitB ⟨#[10]⟩ 0 (Lib.countB s ⟨#[10]⟩) s = ls) (out : List UInt8) (hr : Runs x0 y0 z0 ls out) (ho : out.length ≤ 140737488355328) :
    Cl 11 [Str s] [.pv (Str ⟨out.toArray⟩)] := by
  intro S w vs hS hg ha
  obtain rfl := strArg ha
  refine ⟨(walk_run hst s hs ls hls out hr ho S w hS hg).mono ?_, enters_of Tryz.func11 (by kernel_rfl) rfl _ _⟩
  rintro e w' ⟨rfl, hb⟩
  exact ⟨S, _, [.string ⟨out.toArray⟩], [], .cons (.pv (.refl _)) .nil, (by rw [resVal_one]), .pv (.lit rfl) .nil, grown_none hS hb, fun b h => by simp at h⟩
end Go.Proofs.YthcmkipbdgndoaaGreatDoor.M

namespace Go.Proofs.YthcmkipbdgndoaaGreatDoor.M
open Go Go.Mir Go.Proofs
theorem Runs.go {f1 f2 f3 g1 g2 g3 : Bool} {e1 e2 e3 h1 h2 h3 : List PV} {l a : ByteArray} {ls : List ByteArray} {out : List UInt8} (hl : Nat.beq l.size 0 = false) (hd : Cl 8 [.agg [.sl f1 e1, .sl f2 e2, .sl f3 e3], Str l] [.pv (.agg [.sl g1 h1, .sl g2 h2, .sl g3 h3]), .pv (Str a)]) (h : Runs (g1, h1) (g2, h2) (g3, h3) ls out) :
    Runs (f1, e1) (f2, e2) (f3, e3) (l :: ls) (a.data.toList ++ out) := .step (Nat.ne_of_beq_eq_false hl) hd h
theorem cRunS {f1 f2 f3 : Bool} {e1 e2 e3 : List PV} (hst : Cl 9 [] [.pv (.agg [.sl f1 e1, .sl f2 e2, .sl f3 e3])]) (sl : List Nat) (ll : List ByteArray) (hs : Nat.blt (mkS sl).size 4294967281 = true) (hls : Lib.splitB ⟨#[10]⟩ 0 (Lib.countB (mkS sl) ⟨#[10]⟩) (mkS sl) = ll) {out : List UInt8} (hr : Runs (f1, e1) (f2, e2) (f3, e3) ll out) (ol : List Nat) (ho : out = ol.map UInt8.ofNat) (hlen : Nat.ble ol.length 140737488355328 = true) :
    Cl 11 [Str (mkS sl)] [.pv (Str (mkS ol))] := by
  subst ho
  exact cRun hst (mkS sl) (Nat.le_of_ble_eq_true hs) ll hls _ hr (by rw [List.length_map]; exact Nat.le_of_ble_eq_true hlen)
end Go.Proofs.YthcmkipbdgndoaaGreatDoor.M

namespace Go.Proofs.YthcmkipbdgndoaaGreatDoor.M
open Go Go.Mir Go.Proofs Go.Lib
/-- A place where one byte is one sign: whether it is a blank. -/
noncomputable def At (s : ByteArray) (i : Nat) (b : Bool) : Prop := i < s.size ∧ (Utf8.decode s i).2 = 1 ∧ blank (Utf8.decode s i).1 = b
theorem at_ascii {s : ByteArray} {i : Nat} (h : i < s.size) (ha : (s[i]'h).toNat < 128) : At s i ((s[i]'h).toNat == 32) := by
  refine ⟨h, by rw [decode_ascii s i h ha], ?_⟩
  rw [decode_ascii s i h ha]; rfl
/-- Signs that are no blanks, within a word. -/
theorem span_in {s : ByteArray} (a : Nat) (acc : List (Nat × Nat)) : ∀ (n f pos : Nat), n ≤ f → (∀ i, pos ≤ i → i < pos + n → At s i false) → spansFromP blank s f pos (some a) acc = spansFromP blank s (f - n) (pos + n) (some a) acc
  | 0, f, pos, _, _ => rfl
  | n + 1, f, pos, hf, h => by
    obtain ⟨f, rfl⟩ : ∃ g, f = g + 1 := ⟨f - 1, by omega⟩
    obtain ⟨h1, h2, h3⟩ := h pos (Nat.le_refl _) (by omega)
    rw [spansFromP, if_pos h1, h3, if_neg (by simp), h2]
    rw [span_in a acc n f (pos + 1) (by omega) (fun i h4 h5 => h i (by omega) (by omega))]
    congr 1 <;> omega
theorem span_first {s : ByteArray} {f pos : Nat} {acc : List (Nat × Nat)} (h : At s pos false) : spansFromP blank s (f + 1) pos none acc = spansFromP blank s f (pos + 1) (some pos) acc := by
  obtain ⟨h1, h2, h3⟩ := h
  rw [spansFromP, if_pos h1, h3, if_neg (by simp), h2]
theorem span_blank {s : ByteArray} {f pos a : Nat} {acc : List (Nat × Nat)} (h : At s pos true) : spansFromP blank s (f + 1) pos (some a) acc = spansFromP blank s f (pos + 1) none (acc ++ [(a, pos)]) := by
  obtain ⟨h1, h2, h3⟩ := h
  rw [spansFromP, if_pos h1, h3, if_pos rfl, h2]
theorem span_blank0 {s : ByteArray} {f pos : Nat} {acc : List (Nat × Nat)} (h : At s pos true) : spansFromP blank s (f + 1) pos none acc = spansFromP blank s f (pos + 1) none acc := by
  obtain ⟨h1, h2, h3⟩ := h
  rw [spansFromP, if_pos h1, h3, if_pos rfl, h2]
/-- The end: no sign that is a blank behind; the last one whatever it is. -/
theorem span_end {s : ByteArray} {f pos : Nat} {st : Option Nat} {acc : List (Nat × Nat)} (h : ¬ pos < s.size) : spansFromP blank s f pos st acc = (acc, st) := spansFromP_end blank s f pos st acc h
/-- Two words, a blank between. -/
theorem two_spans {s : ByteArray} {n m : Nat} (hn : 0 < n) (hm : 0 < m) (hs : s.size = n + 1 + m) (h1 : ∀ i, i < n → At s i false) (h2 : At s n true) (h3 : ∀ i, n < i → i < n + 1 + m → At s i false) : spansOfP blank s = [(0, n), (n + 1, n + 1 + m)] := by
  unfold spansOfP
  obtain ⟨n, rfl⟩ : ∃ k, n = k + 1 := ⟨n - 1, by omega⟩
  obtain ⟨m, rfl⟩ : ∃ k, m = k + 1 := ⟨m - 1, by omega⟩
  have e1 : spansFromP blank s s.size 0 none [] = spansFromP blank s (n + 1 + 1 + m) 1 (some 0) [] := by
    rw [show s.size = (n + 1 + 1 + m) + 1 by omega]; exact span_first (h1 0 (by omega))
  have e2 := span_in (s := s) 0 [] n (n + 1 + 1 + m) 1 (by omega) (fun i h4 h5 => h1 i (by omega))
  have e3 : spansFromP blank s (n + 1 + 1 + m - n) (1 + n) (some 0) [] = spansFromP blank s (m + 1) (n + 2) none ([] ++ [(0, n + 1)]) := by
    rw [show n + 1 + 1 + m - n = (m + 1) + 1 by omega, show 1 + n = n + 1 by omega]; exact span_blank h2
  have e4 : spansFromP blank s (m + 1) (n + 2) none ([] ++ [(0, n + 1)]) = spansFromP blank s m (n + 3) (some (n + 2)) ([] ++ [(0, n + 1)]) := span_first (h3 _ (by omega) (by omega))
  have e5 := span_in (s := s) (n + 2) ([] ++ [(0, n + 1)]) m m (n + 3) (Nat.le_refl _) (fun i h4 h5 => h3 i (by omega) (by omega))
  rw [e1, e2, e3, e4, e5, span_end (by omega)]
  simp only [closeSpans, hs]
  simp
theorem get_at {l : List UInt8} {i : Nat} (h : i < (⟨l.toArray⟩ : ByteArray).size) : (⟨l.toArray⟩ : ByteArray)[i]'h = l[i]'(by simpa [ByteArray.size] using h) := by
  show l.toArray[i]'_ = _
  simp
theorem extract_mk (l : List UInt8) (i j : Nat) : (⟨l.toArray⟩ : ByteArray).extract i j = ⟨((l.take j).drop i).toArray⟩ := by
  apply ByteArray.ext
  rw [ByteArray.data_extract]
  apply Array.ext'
  simp [List.drop_take]
/-- Two words of plain signs, a blank between. -/
theorem two_words {a b : List UInt8} (ha : a ≠ []) (hb : b ≠ []) (h1 : ∀ x ∈ a, x.toNat < 128 ∧ x.toNat ≠ 32) (h2 : ∀ x ∈ b, x.toNat < 128 ∧ x.toNat ≠ 32) : goFieldsP blank ⟨(a ++ 32 :: b).toArray⟩ = [⟨a.toArray⟩, ⟨b.toArray⟩] := by
  have hs : (⟨(a ++ 32 :: b).toArray⟩ : ByteArray).size = a.length + 1 + b.length := by simp [ByteArray.size]; omega
  have plain : ∀ (i : Nat) (x : UInt8), (a ++ 32 :: b)[i]? = some x → x.toNat < 128 → At ⟨(a ++ 32 :: b).toArray⟩ i (x.toNat == 32) := fun i x hx hlt => by
    obtain ⟨hi, hx⟩ := List.getElem?_eq_some_iff.1 hx
    have hi' : i < (⟨(a ++ 32 :: b).toArray⟩ : ByteArray).size := by rw [hs]; simp at hi; omega
    have e := get_at (l := a ++ 32 :: b) hi'
    have := at_ascii hi' (by rw [e, hx]; exact hlt)
    rw [e, hx] at this
    exact this
  unfold goFieldsP
  rw [two_spans (n := a.length) (m := b.length) (List.length_pos_iff.2 ha) (List.length_pos_iff.2 hb) hs]
  · simp only [List.map_cons, List.map_nil, extract_mk]
    have e1 : List.drop 0 (List.take a.length (a ++ 32 :: b)) = a := by simp
    have e2 : List.drop (a.length + 1) (List.take (a.length + 1 + b.length) (a ++ 32 :: b)) = b := by
      rw [List.take_of_length_le (by simp; omega), show a.length + 1 = a.length + 1 + 0 by omega]
      rw [List.drop_append, List.drop_of_length_le (by omega)]
      simp
    rw [e1, e2]
  · intro i hi
    have hx := List.getElem?_eq_getElem hi
    have h := h1 _ (List.getElem_mem hi)
    have := plain i _ (by rw [List.getElem?_append_left hi]; exact hx) h.1
    rw [beq_eq_false_iff_ne.2 h.2] at this
    exact this
  · exact plain a.length 32 (by simp) (by decide)
  · intro i hi hi2
    have hj : i - (a.length + 1) < b.length := by omega
    have hx := List.getElem?_eq_getElem hj
    have h := h2 _ (List.getElem_mem hj)
    have := plain i _ (by rw [List.getElem?_append_right (by omega), show i - a.length = (i - (a.length + 1)) + 1 by omega, List.getElem?_cons_succ]; exact hx) h.1
    rw [beq_eq_false_iff_ne.2 h.2] at this
    exact this
end Go.Proofs.YthcmkipbdgndoaaGreatDoor.M

namespace Go.Proofs.YthcmkipbdgndoaaGreatDoor.M
open Go Go.Mir Go.Proofs Go.Lib
abbrev bsA (l : List UInt8) : ByteArray := ⟨l.toArray⟩
theorem bsA_size (l : List UInt8) : (bsA l).size = l.length := by simp [bsA, ByteArray.size]
/-- The last sign: no blank. -/
theorem lst_any {s : ByteArray} {i : Nat} (h : i < s.size) (hc : s[i]'h ≠ 32) : blank (Utf8.decode s i).1 = false ∧ 1 ≤ (Utf8.decode s i).2 := by
  by_cases ha : (s[i]'h).toNat < 128
  · rw [decode_ascii s i h ha]
    refine ⟨?_, Nat.le_refl _⟩
    unfold blank
    rw [beq_eq_false_iff_ne]
    exact fun e => hc (UInt8.toNat_inj.1 e)
  · obtain ⟨h1, h2⟩ := decode_high s i h (by omega)
    refine ⟨?_, h2⟩
    unfold blank
    rw [beq_eq_false_iff_ne]
    omega
theorem span_tail {s : ByteArray} (acc : List (Nat × Nat)) : ∀ (m f pos : Nat) (st : Option Nat), m + 1 ≤ f → pos + m + 1 = s.size → (∀ i, pos ≤ i → i < pos + m → At s i false) → (blank (Utf8.decode s (pos + m)).1 = false ∧ 1 ≤ (Utf8.decode s (pos + m)).2) → spansFromP blank s f pos st acc = (acc, some (st.getD pos))
  | 0, f, pos, st, hf, hs, _, hl => by
    obtain ⟨f, rfl⟩ : ∃ g, f = g + 1 := ⟨f - 1, by omega⟩
    have hl1 : blank (Utf8.decode s pos).1 = false := hl.1
    have hl2 : 1 ≤ (Utf8.decode s pos).2 := hl.2
    cases st with
    | none =>
      rw [spansFromP, if_pos (by omega), hl1, if_neg (by simp)]
      exact spansFromP_end blank s f _ _ acc (by omega)
    | some a =>
      rw [spansFromP, if_pos (by omega), hl1, if_neg (by simp)]
      exact spansFromP_end blank s f _ _ acc (by omega)
  | m + 1, f, pos, st, hf, hs, h, hl => by
    obtain ⟨f, rfl⟩ : ∃ g, f = g + 1 := ⟨f - 1, by omega⟩
    obtain ⟨h1, h2, h3⟩ := h pos (Nat.le_refl _) (by omega)
    have ih := fun st => span_tail (s := s) acc m f (pos + 1) st (by omega) (by omega) (fun i h4 h5 => h i (by omega) (by omega)) (by rw [show pos + 1 + m = pos + (m + 1) by omega]; exact hl)
    cases st with
    | none =>
      rw [spansFromP, if_pos h1, h3, if_neg (by simp), h2]
      exact ih (some pos)
    | some a =>
      rw [spansFromP, if_pos h1, h3, if_neg (by simp), h2]
      exact ih (some a)
theorem get_mk {l : List UInt8} {i : Nat} (h : i < (bsA l).size) : (bsA l)[i]'h = l[i]'(by rw [bsA_size] at h; exact h) := get_at h
theorem at_mk {l : List UInt8} {i : Nat} {x : UInt8} (hx : l[i]? = some x) (hlt : x.toNat < 128) : At (bsA l) i (x.toNat == 32) := by
  obtain ⟨hi, hx⟩ := List.getElem?_eq_some_iff.1 hx
  have hi' : i < (bsA l).size := by rw [bsA_size]; exact hi
  have e := get_mk (l := l) hi'
  have := at_ascii hi' (by rw [e, hx]; exact hlt)
  rw [e, hx] at this
  exact this
/-- Plain signs, no blanks. -/
noncomputable def Plain (l : List UInt8) : Prop := ∀ x ∈ l, x.toNat < 128 ∧ x.toNat ≠ 32
theorem at_plain {l : List UInt8} (h : Plain l) {pre suf : List UInt8} {i : Nat} (h1 : pre.length ≤ i) (h2 : i < pre.length + l.length) : At (bsA (pre ++ l ++ suf)) i false := by
  have hj : i - pre.length < l.length := by omega
  have hx := List.getElem?_eq_getElem hj
  have hp := h _ (List.getElem_mem hj)
  have := at_mk (l := pre ++ l ++ suf) (i := i) (x := l[i - pre.length]) (by rw [List.getElem?_append_left (by simp; omega), List.getElem?_append_right h1]; exact hx) hp.1
  rw [beq_eq_false_iff_ne.2 hp.2] at this
  exact this
theorem first_word {a suf : List UInt8} (ha : a ≠ []) (h1 : Plain a) : spansFromP blank (bsA (a ++ 32 :: suf)) (bsA (a ++ 32 :: suf)).size 0 none [] = spansFromP blank (bsA (a ++ 32 :: suf)) suf.length (a.length + 1) none [(0, a.length)] := by
  have hs : (bsA (a ++ 32 :: suf)).size = a.length + 1 + suf.length := by rw [bsA_size]; simp; omega
  have hp : 0 < a.length := List.length_pos_iff.2 ha
  obtain ⟨n, hn⟩ : ∃ k, a.length = k + 1 := ⟨a.length - 1, by omega⟩
  have at1 : ∀ i, i < a.length → At (bsA (a ++ 32 :: suf)) i false := fun i hi => at_plain (pre := []) (suf := 32 :: suf) h1 (Nat.zero_le _) (by simpa using hi)
  have at2 : At (bsA (a ++ 32 :: suf)) a.length true := at_mk (x := 32) (by simp) (by decide)
  rw [hs, show a.length + 1 + suf.length = (n + 1 + suf.length) + 1 by omega, span_first (at1 0 (by omega)), span_in 0 [] n (n + 1 + suf.length) (0 + 1) (by omega) (fun i h4 h5 => at1 i (by omega))]
  rw [show n + 1 + suf.length - n = suf.length + 1 by omega, show 0 + 1 + n = a.length by omega, span_blank at2]
  rfl
/-- A word, a blank, another word. -/
theorem words_of {a b : List UInt8} {c : UInt8} (ha : a ≠ []) (h1 : Plain a) (h2 : Plain b) (hc : c ≠ 32) : goFieldsP blank (bsA (a ++ 32 :: (b ++ [c]))) = [bsA a, bsA (b ++ [c])] := by
  have hs : (bsA (a ++ 32 :: (b ++ [c]))).size = a.length + 1 + (b.length + 1) := by rw [bsA_size]; simp; omega
  unfold goFieldsP spansOfP
  rw [first_word ha h1]
  have hl : (b ++ [c]).length = b.length + 1 := by simp
  have k1 : ∀ i, a.length + 1 ≤ i → i < a.length + 1 + b.length → At (bsA (a ++ 32 :: (b ++ [c]))) i false := by
    intro i h4 h5
    have := at_plain (pre := a ++ [32]) (suf := [c]) (i := i) h2 (by simpa using h4) (by simp; omega)
    simpa using this
  have k2 : blank (Utf8.decode (bsA (a ++ 32 :: (b ++ [c]))) (a.length + 1 + b.length)).1 = false ∧ 1 ≤ (Utf8.decode (bsA (a ++ 32 :: (b ++ [c]))) (a.length + 1 + b.length)).2 := by
    have hlt : a.length + 1 + b.length < (bsA (a ++ 32 :: (b ++ [c]))).size := by rw [hs]; omega
    refine lst_any hlt ?_
    rw [get_mk hlt]
    have : (a ++ 32 :: (b ++ [c]))[a.length + 1 + b.length]? = some c := by
      rw [List.getElem?_append_right (by omega), show a.length + 1 + b.length - a.length = b.length + 1 by omega, List.getElem?_cons_succ, List.getElem?_append_right (Nat.le_refl _)]
      simp
    have := (List.getElem?_eq_some_iff.1 this).2
    rw [this]
    exact hc
  rw [hl, span_tail [(0, a.length)] b.length (b.length + 1) (a.length + 1) none (Nat.le_refl _) (by omega) k1 k2]
  · simp only [closeSpans, hs, Option.getD_none, List.singleton_append, List.map_cons, List.map_nil, extract_mk]
    have e1 : List.drop 0 (List.take a.length (a ++ 32 :: (b ++ [c]))) = a := by simp
    have e2 : List.drop (a.length + 1) (List.take (a.length + 1 + (b.length + 1)) (a ++ 32 :: (b ++ [c]))) = b ++ [c] := by
      rw [List.take_of_length_le (by simp; omega), List.drop_append, List.drop_of_length_le (by omega)]
      simp
    rw [e1, e2]
/-- A word, a blank, a word, a blank. -/
theorem words_blank {a b : List UInt8} (ha : a ≠ []) (hb : b ≠ []) (h1 : Plain a) (h2 : Plain b) : goFieldsP blank (bsA (a ++ 32 :: (b ++ [32]))) = [bsA a, bsA b] := by
  have hs : (bsA (a ++ 32 :: (b ++ [32]))).size = a.length + 1 + (b.length + 1) := by rw [bsA_size]; simp; omega
  have hp : 0 < b.length := List.length_pos_iff.2 hb
  obtain ⟨m, hm⟩ : ∃ k, b.length = k + 1 := ⟨b.length - 1, by omega⟩
  have at1 : ∀ i, a.length + 1 ≤ i → i < a.length + 1 + b.length → At (bsA (a ++ 32 :: (b ++ [32]))) i false := fun i h4 h5 => by
    have := at_plain (pre := a ++ [32]) (suf := [32]) (i := i) h2 (by simpa using h4) (by simp; omega)
    simpa using this
  have at2 : At (bsA (a ++ 32 :: (b ++ [32]))) (a.length + 1 + b.length) true := at_mk (x := 32) (by
      rw [List.getElem?_append_right (by omega), show a.length + 1 + b.length - a.length = b.length + 1 by omega, List.getElem?_cons_succ, List.getElem?_append_right (Nat.le_refl _)]
      simp) (by decide)
  unfold goFieldsP spansOfP
  rw [first_word ha h1]
  have hl : (b ++ [32]).length = m + 1 + 1 := by simp [hm]
  rw [hl, span_first (at1 _ (Nat.le_refl _) (by omega)), span_in (a.length + 1) _ m (m + 1) (a.length + 1 + 1) (by omega) (fun i h4 h5 => at1 i (by omega) (by omega))]
  rw [show m + 1 - m = 0 + 1 by omega, show a.length + 1 + 1 + m = a.length + 1 + b.length by omega, span_blank at2]
  simp only [spansFromP, closeSpans, List.singleton_append, List.map_cons, List.map_nil, extract_mk]
  have e1 : List.drop 0 (List.take a.length (a ++ 32 :: (b ++ [32]))) = a := by simp
  have e2 : List.drop (a.length + 1) (List.take (a.length + 1 + b.length) (a ++ 32 :: (b ++ [32]))) = b := by
    rw [List.take_append, List.take_of_length_le (by omega), show a.length + 1 + b.length - a.length = b.length + 1 by omega, List.take_succ_cons, List.take_append, List.take_of_length_le (Nat.le_refl _), Nat.sub_self, List.take_zero, List.append_nil, List.drop_append, List.drop_of_length_le (by omega)]
    simp
  rw [e1, e2]
/-- A word, two blanks. -/
theorem words_blank0 {a : List UInt8} (ha : a ≠ []) (h1 : Plain a) : goFieldsP blank (bsA (a ++ [32, 32])) = [bsA a] := by
  unfold goFieldsP spansOfP
  rw [first_word ha h1]
  have at2 : At (bsA (a ++ [32, 32])) (a.length + 1) true := at_mk (x := 32) (by rw [List.getElem?_append_right (by omega)]; simp) (by decide)
  rw [show [(32 : UInt8)].length = 0 + 1 from rfl, span_blank0 at2]
  simp only [spansFromP, closeSpans, List.map_cons, List.map_nil, extract_mk]
  have e1 : List.drop 0 (List.take a.length (a ++ [32, 32])) = a := by simp
  rw [e1]
/-- Numbers. -/
noncomputable def isDig (c : UInt8) : Prop := 48 ≤ c.toNat ∧ c.toNat ≤ 57
noncomputable def val : List UInt8 → Int → Int
  | [], acc => acc
  | c :: l, acc => val l (10 * acc + ((c.toNat : Int) - 48))
theorem numF_dig {l : List UInt8} {b pos : Nat} {acc : Int} {c : UInt8} (hc : l[pos]? = some c) (hd : isDig c) : numF (bsA l) (b + 1) pos acc = numF (bsA l) b (pos + 1) (10 * acc + ((c.toNat : Int) - 48)) := by
  obtain ⟨hi, hx⟩ := List.getElem?_eq_some_iff.1 hc
  have hi' : pos < (bsA l).size := by rw [bsA_size]; exact hi
  have e := get_mk (l := l) hi'
  have hlt : ((bsA l)[pos]'hi').toNat < 128 := by rw [e, hx]; have := hd.2; omega
  have hde := decode_ascii (bsA l) pos hi' hlt
  rw [e, hx] at hde
  rw [numF, if_pos hi', hde]
  dsimp only
  rw [if_neg (by have := hd.1; have := hd.2; omega)]
theorem numF_bad {l : List UInt8} {b pos : Nat} {acc : Int} {c : UInt8} (hc : l[pos]? = some c) (hd : ¬ isDig c) : numF (bsA l) (b + 1) pos acc = (0, false) := by
  obtain ⟨hi, hx⟩ := List.getElem?_eq_some_iff.1 hc
  have hi' : pos < (bsA l).size := by rw [bsA_size]; exact hi
  have e := get_mk (l := l) hi'
  rw [numF, if_pos hi']
  by_cases hlt : ((bsA l)[pos]'hi').toNat < 128
  · have hde := decode_ascii (bsA l) pos hi' hlt
    rw [e, hx] at hde
    rw [hde]
    dsimp only
    rw [if_pos (by unfold isDig at hd; omega)]
  · have := (decode_high (bsA l) pos hi' (by omega)).1
    rw [if_pos (by omega)]
theorem numF_val {l : List UInt8} : ∀ (m b pos : Nat) (acc : Int), pos + m ≤ l.length → (∀ x ∈ (l.drop pos).take m, isDig x) → numF (bsA l) (b + m) pos acc = numF (bsA l) b (pos + m) (val ((l.drop pos).take m) acc)
  | 0, b, pos, acc, _, _ => rfl
  | m + 1, b, pos, acc, hm, h => by
    have hi : pos < l.length := by omega
    rw [List.drop_eq_getElem_cons hi, List.take_succ_cons] at h ⊢
    rw [show b + (m + 1) = (b + m) + 1 by omega, numF_dig (List.getElem?_eq_getElem hi) (h _ (by simp)), numF_val m b (pos + 1) _ (by omega) (fun x hx => h x (by simp [hx]))]
    rw [show pos + 1 + m = pos + (m + 1) by omega]
    rfl
theorem num_good {l : List UInt8} (h0 : l ≠ []) (h9 : l.length ≤ 9) (h : ∀ x ∈ l, isDig x) : numS (bsA l) = (val l 0, true) := by
  have hp : 0 < l.length := List.length_pos_iff.2 h0
  unfold numS
  rw [bsA_size, if_neg (by omega)]
  have := numF_val (l := l) l.length 0 0 0 (by omega) (by rw [List.drop_zero, List.take_length]; exact h)
  rw [Nat.zero_add] at this
  rw [this, List.drop_zero, List.take_length, numF_end _ _ _ _ (by rw [bsA_size]; omega)]
theorem num_long {l : List UInt8} (h9 : 9 < l.length) : (numS (bsA l)).2 = false := by
  unfold numS
  rw [bsA_size, if_pos (by omega)]
theorem num_bad {l : List UInt8} {c : UInt8} (h : ∀ x ∈ l, isDig x) (hc : ¬ isDig c) : (numS (bsA (l ++ [c]))).2 = false := by
  unfold numS
  split
  · rfl
  · rw [bsA_size]
    have hl : (l ++ [c]).length = 1 + l.length := by simp; omega
    have := numF_val (l := l ++ [c]) l.length 1 0 0 (by simp) (by rw [List.drop_zero, List.take_append, List.take_length, Nat.sub_self, List.take_zero, List.append_nil]; exact h)
    rw [hl, this, numF_bad (c := c) (by rw [Nat.zero_add, List.getElem?_append_right (Nat.le_refl _)]; simp) hc]
theorem val_snoc : ∀ (l : List UInt8) (c : UInt8) (acc : Int), val (l ++ [c]) acc = 10 * val l acc + ((c.toNat : Int) - 48)
  | [], c, acc => rfl
  | x :: l, c, acc => val_snoc l c _
end Go.Proofs.YthcmkipbdgndoaaGreatDoor.M

namespace Go.Proofs.YthcmkipbdgndoaaGreatDoor.M
open Go Go.Mir Go.Proofs Go.Lib
set_option maxRecDepth 1000000
theorem cWords (s : ByteArray) (hs : s.size ≤ 4294967296) : Cl 17 [Str s] [.pv (.sl false ((goFieldsP blank s).map Str))] :=
  ctP_by (X := Cl 55 [Str s, .fn (.func 56) [] []] [.pv (.sl false ((goFieldsP blank s).map Str))] ∧ RvsLe [.pv (.sl false ((goFieldsP blank s).map Str))] [.pv (.sl false ((goFieldsP blank s).map Str))])
    ⟨cFieldsFunc s hs, RvsLe.refl _⟩ 1000 [(1001, .call [.pv (.cst (.sl false ((goFieldsP blank s).map Str)))])] mixed Tryz.func17 rfl (by kernel_rfl) (by kernel_rfl)
/-- Two texts, one behind the other. -/
noncomputable def addP (a b : ByteArray) : Option Prep := match (do eqGuard .add 0 (.tmp 0) (.tmp 0) (.string a) (.string b); binOp .add 0 (.string a) (.string b) : Sem Value).val? Tryz.prog with
  | some v => effO (litE v)
  | none => none
abbrev AddOk (a b : ByteArray) : Prop := addP a b = some (.eff ⟨.pv (Str (a ++ b)), [], []⟩)
theorem addOk {a b : ByteArray} (h : a.size + b.size ≤ 9223372036854775807) : AddOk a b := by
  have e : (do eqGuard .add 0 (.tmp 0) (.tmp 0) (.string a) (.string b); binOp .add 0 (.string a) (.string b) : Sem Value) = (if ((a.size + b.size : Nat) : Int) > IntKind.i64.max then unsupported (.resourceLimit "string concatenation: a sum of the lengths that is no int") else pure (.string (a ++ b))) := rfl
  have hm : ¬ ((a.size + b.size : Nat) : Int) > IntKind.i64.max := by
    have : IntKind.i64.max = 9223372036854775807 := by decide
    rw [this]; omega
  unfold AddOk addP
  rw [e, if_neg hm]
  rfl
noncomputable def tbE : Tbl := ⟨fun _ => false, fun _ _ => none, fun _ => false, fun _ => false⟩
theorem tbE_ok : tbE.Ok Tryz.prog := by
  intro f ps rs h
  cases h
abbrev catQ (a b : ByteArray) : Q := .eff ⟨.pv (Str (a ++ b)), [], []⟩
theorem wr64 {x : Int} (h : 0 ≤ x) (h' : x ≤ 9223372036854775807) : IntKind.i64.wrap x = x := by
  have e : IntKind.i64.wrap x = if (true && decide (x % 18446744073709551616 ≥ 9223372036854775808)) = true then x % 18446744073709551616 - 18446744073709551616 else x % 18446744073709551616 := rfl
  rw [e]
  have : x % 18446744073709551616 = x := Int.emod_eq_of_lt h (by omega)
  rw [this, if_neg (by simp; omega)]
/-- A number's digits. -/
noncomputable def digs (n : Nat) : List UInt8 := if n < 10 then [UInt8.ofNat (48 + n)] else digs (n / 10) ++ [UInt8.ofNat (48 + n % 10)]
decreasing_by exact Nat.div_lt_self (by omega) (by decide)
theorem digs_lt {n : Nat} (h : n < 10) : digs n = [UInt8.ofNat (48 + n)] := by rw [digs, if_pos h]
theorem digs_ge {n : Nat} (h : ¬ n < 10) : digs n = digs (n / 10) ++ [UInt8.ofNat (48 + n % 10)] := by rw [digs, if_neg h]
abbrev bsS (l : List UInt8) : PV := Str ⟨l.toArray⟩
theorem show0 {n : Nat} (h : n < 10) : Cl 6 [I n] [.pv (bsS (digs n))] := by
  rw [digs_lt h]
  match n, h with
  | 0, _ => exact ct_run tbE_ok mixed [] trivial 1000 (by kernel_rfl)
  | 1, _ => exact ct_run tbE_ok mixed [] trivial 1000 (by kernel_rfl)
  | 2, _ => exact ct_run tbE_ok mixed [] trivial 1000 (by kernel_rfl)
  | 3, _ => exact ct_run tbE_ok mixed [] trivial 1000 (by kernel_rfl)
  | 4, _ => exact ct_run tbE_ok mixed [] trivial 1000 (by kernel_rfl)
  | 5, _ => exact ct_run tbE_ok mixed [] trivial 1000 (by kernel_rfl)
  | 6, _ => exact ct_run tbE_ok mixed [] trivial 1000 (by kernel_rfl)
  | 7, _ => exact ct_run tbE_ok mixed [] trivial 1000 (by kernel_rfl)
  | 8, _ => exact ct_run tbE_ok mixed [] trivial 1000 (by kernel_rfl)
  | 9, _ => exact ct_run tbE_ok mixed [] trivial 1000 (by kernel_rfl)
  | n + 10, h => omega
theorem show1 {n : Int} {a b : ByteArray} (h1 : ¬ n < 0) (h2 : 9 < n) (h3 : AddOk a b) (ha : Cl 6 [I (IntKind.i64.wrap (n.tdiv 10))] [.pv (Str a)]) (hb : Cl 6 [I (n.tmod 10)] [.pv (Str b)]) : Cl 6 [I n] [.pv (Str (a ++ b))] :=
  ctP_by (X := AvLe (.pv (B (decide (n < 0)))) (.pv (B false)) ∧ AvLe (.pv (B (decide (9 < n)))) (.pv (B true)) ∧ (10 : Int) ≠ 0 ∧ Cl 6 [I (IntKind.i64.wrap (n.tdiv 10))] [.pv (Str a)] ∧ (10 : Int) ≠ 0 ∧ Cl 6 [I (n.tmod 10)] [.pv (Str b)] ∧ AddOk a b ∧ RvsLe [.pv (Str (a ++ b))] [.pv (Str (a ++ b))])
    ⟨by rw [decide_eq_false h1]; exact .refl _, by rw [decide_eq_true h2]; exact .refl _, by decide, ha, by decide, hb, h3, RvsLe.refl _⟩ 1000
    [(1001, .wk (.pv (B false))), (3001, .wk (.pv (B true))), (4001, .div), (4002, .call [.pv (.cst (Str a))]), (4004, .div), (4005, .call [.pv (.cst (Str b))]), (4006, catQ a b)] mixed Tryz.func6 rfl (by kernel_rfl) (by kernel_rfl)
theorem digs_len : ∀ (k n : Nat), n < 10 ^ (k + 1) → (digs n).length ≤ k + 1
  | 0, n, h => by rw [digs_lt (by omega)]; simp
  | k + 1, n, h => by
    by_cases h1 : n < 10
    · rw [digs_lt h1]; simp
    · rw [digs_ge h1]
      have := digs_len k (n / 10) (by rw [Nat.pow_succ] at h; omega)
      simp; omega
theorem cShow : ∀ (n : Nat), n < 1000000000 → Cl 6 [I n] [.pv (bsS (digs n))] := by
  intro n
  induction n using Nat.strongRecOn with
  | _ n ih =>
    intro hn
    by_cases h : n < 10
    · exact show0 h
    · rw [digs_ge h]
      have e1 : IntKind.i64.wrap ((n : Int).tdiv 10) = ((n / 10 : Nat) : Int) := by
        rw [show (n : Int).tdiv 10 = ((n / 10 : Nat) : Int) from rfl]
        have h : ((n / 10 : Nat) : Int) ≤ 999999999 := by omega
        have h0 : (0 : Int) ≤ ((n / 10 : Nat) : Int) := by omega
        generalize ((n / 10 : Nat) : Int) = x at h h0 ⊢
        exact wr64 h0 (by omega)
      have e2 : (n : Int).tmod 10 = ((n % 10 : Nat) : Int) := rfl
      have ha := ih (n / 10) (by omega) (by omega)
      have hb := show0 (n := n % 10) (by omega)
      rw [digs_lt (by omega)] at hb
      have h9 := digs_len 8 (n / 10) (by omega)
      have e9 : (⟨(digs (n / 10)).toArray⟩ : ByteArray).size = (digs (n / 10)).length := by simp [ByteArray.size]
      have e8 : (⟨[UInt8.ofNat (48 + n % 10)].toArray⟩ : ByteArray).size = 1 := rfl
      have := show1 (n := n) (a := ⟨(digs (n / 10)).toArray⟩) (b := ⟨[UInt8.ofNat (48 + n % 10)].toArray⟩) (by omega) (by omega) (addOk (by rw [e9, e8]; omega)) (by rw [e1]; exact ha) (by rw [e2]; exact hb)
      have e : (⟨(digs (n / 10)).toArray⟩ : ByteArray) ++ ⟨[UInt8.ofNat (48 + n % 10)].toArray⟩ = ⟨(digs (n / 10) ++ [UInt8.ofNat (48 + n % 10)]).toArray⟩ := by
        apply ByteArray.ext
        rw [ByteArray.data_append]
        simp
      rw [e] at this
      exact this
end Go.Proofs.YthcmkipbdgndoaaGreatDoor.M

namespace Go.Proofs.YthcmkipbdgndoaaGreatDoor.M
open Go Go.Mir Go.Proofs Go.Lib
theorem nat_u8 {d : Nat} (h : d < 10) : (UInt8.ofNat (48 + d)).toNat = 48 + d := by
  rw [UInt8.toNat_ofNat']
  omega
theorem digs_dig : ∀ (n : Nat), ∀ x ∈ digs n, isDig x := by
  intro n
  induction n using Nat.strongRecOn with
  | _ n ih =>
    intro x hx
    by_cases h : n < 10
    · rw [digs_lt h] at hx
      rw [List.mem_singleton.1 hx]
      unfold isDig
      rw [nat_u8 h]; omega
    · rw [digs_ge h] at hx
      rcases List.mem_append.1 hx with hx | hx
      · exact ih (n / 10) (by omega) x hx
      · rw [List.mem_singleton.1 hx]
        unfold isDig
        rw [nat_u8 (by omega)]; omega
theorem val_digs : ∀ (n : Nat), val (digs n) 0 = n := by
  intro n
  induction n using Nat.strongRecOn with
  | _ n ih =>
    by_cases h : n < 10
    · rw [digs_lt h]
      show (10 * 0 + (((UInt8.ofNat (48 + n)).toNat : Int) - 48)) = n
      rw [nat_u8 h]; omega
    · rw [digs_ge h, val_snoc, ih (n / 10) (by omega), nat_u8 (by omega)]
      omega
theorem digs_ne (n : Nat) : digs n ≠ [] := by
  by_cases h : n < 10
  · rw [digs_lt h]; simp
  · rw [digs_ge h]; simp
theorem val_nought (l : List UInt8) : val (48 :: l) 0 = val l 0 := by
  show val l (10 * 0 + (((48 : UInt8).toNat : Int) - 48)) = val l 0
  rfl
theorem bsA_app (a b : List UInt8) : bsA a ++ bsA b = bsA (a ++ b) := by
  apply ByteArray.ext
  rw [ByteArray.data_append]
  simp [bsA]
/-- A word and a blank, in the middle. -/
theorem next_word {pre w suf : List UInt8} (hw : w ≠ []) (h : Plain w) (f : Nat) (acc : List (Nat × Nat)) : spansFromP blank (bsA (pre ++ w ++ 32 :: suf)) (w.length + 1 + f) pre.length none acc = spansFromP blank (bsA (pre ++ w ++ 32 :: suf)) f (pre.length + w.length + 1) none (acc ++ [(pre.length, pre.length + w.length)]) := by
  have hp : 0 < w.length := List.length_pos_iff.2 hw
  obtain ⟨n, hn⟩ : ∃ k, w.length = k + 1 := ⟨w.length - 1, by omega⟩
  have at1 : ∀ i, pre.length ≤ i → i < pre.length + w.length → At (bsA (pre ++ w ++ 32 :: suf)) i false := fun i h1 h2 => at_plain h h1 h2
  have at2 : At (bsA (pre ++ w ++ 32 :: suf)) (pre.length + w.length) true := at_mk (x := 32) (by
    rw [List.getElem?_append_right (by simp), show pre.length + w.length - (pre ++ w).length = 0 by simp]; rfl) (by decide)
  rw [show w.length + 1 + f = (n + (1 + f)) + 1 by omega, span_first (at1 _ (Nat.le_refl _) (by omega)), span_in pre.length acc n (n + (1 + f)) (pre.length + 1) (by omega) (fun i h4 h5 => at1 i (by omega) (by omega))]
  rw [show n + (1 + f) - n = f + 1 by omega, show pre.length + 1 + n = pre.length + w.length by omega, span_blank at2]
theorem words3 {a w b : List UInt8} {c : UInt8} (ha : a ≠ []) (hw : w ≠ []) (h1 : Plain a) (h2 : Plain w) (h3 : Plain b) (hc : c ≠ 32) : goFieldsP blank (bsA (a ++ 32 :: (w ++ 32 :: (b ++ [c])))) = [bsA a, bsA w, bsA (b ++ [c])] := by
  have hs : (bsA (a ++ 32 :: (w ++ 32 :: (b ++ [c])))).size = a.length + 1 + (w.length + 1 + (b.length + 1)) := by rw [bsA_size]; simp; omega
  have e2 : a ++ 32 :: (w ++ 32 :: (b ++ [c])) = (a ++ [32]) ++ w ++ 32 :: (b ++ [c]) := by simp
  have e3 : a ++ 32 :: (w ++ 32 :: (b ++ [c])) = (a ++ [32] ++ w ++ [32]) ++ b ++ [c] := by simp
  have hl : (w ++ 32 :: (b ++ [c])).length = w.length + 1 + (b.length + 1) := by simp; omega
  have hX : (a ++ [32] ++ w ++ [32] ++ b).length = a.length + 1 + w.length + 1 + b.length := by simp only [List.length_append, List.length_cons, List.length_nil]
  have hX2 : (a ++ [32] ++ w ++ [32]).length = a.length + 1 + w.length + 1 := by simp only [List.length_append, List.length_cons, List.length_nil]
  have k0 := first_word (suf := w ++ 32 :: (b ++ [c])) ha h1
  rw [hl] at k0
  have k1 := next_word (pre := a ++ [32]) (suf := b ++ [c]) hw h2 (b.length + 1) [(0, a.length)]
  have el : (a ++ [(32 : UInt8)]).length = a.length + 1 := by simp
  rw [← e2, el] at k1
  have k2 : ∀ i, a.length + 1 + w.length + 1 ≤ i → i < a.length + 1 + w.length + 1 + b.length → At (bsA (a ++ 32 :: (w ++ 32 :: (b ++ [c])))) i false := by
    intro i h4 h5
    have := at_plain (pre := a ++ [32] ++ w ++ [32]) (suf := [c]) (i := i) h3 (by simp; omega) (by simp; omega)
    rw [← e3] at this
    exact this
  have k3 : blank (Utf8.decode (bsA (a ++ 32 :: (w ++ 32 :: (b ++ [c])))) (a.length + 1 + w.length + 1 + b.length)).1 = false ∧ 1 ≤ (Utf8.decode (bsA (a ++ 32 :: (w ++ 32 :: (b ++ [c])))) (a.length + 1 + w.length + 1 + b.length)).2 := by
    have hlt : a.length + 1 + w.length + 1 + b.length < (bsA (a ++ 32 :: (w ++ 32 :: (b ++ [c])))).size := by rw [hs]; omega
    refine lst_any hlt ?_
    rw [get_mk hlt]
    have : (a ++ 32 :: (w ++ 32 :: (b ++ [c])))[a.length + 1 + w.length + 1 + b.length]? = some c := by
      rw [e3, List.getElem?_append_right (by omega), hX, Nat.sub_self]
      rfl
    have := (List.getElem?_eq_some_iff.1 this).2
    rw [this]
    exact hc
  unfold goFieldsP spansOfP
  rw [k0, k1, span_tail _ b.length (b.length + 1) (a.length + 1 + w.length + 1) none (Nat.le_refl _) (by omega) k2 k3]
  simp only [closeSpans, hs, Option.getD_none, List.singleton_append, List.cons_append, List.nil_append, List.map_cons, List.map_nil, extract_mk]
  have x1 : List.drop 0 (List.take a.length (a ++ 32 :: (w ++ 32 :: (b ++ [c])))) = a := by simp
  have x2 : List.drop (a.length + 1) (List.take (a.length + 1 + w.length) (a ++ 32 :: (w ++ 32 :: (b ++ [c])))) = w := by
    rw [List.take_append, List.take_of_length_le (by omega), show a.length + 1 + w.length - a.length = w.length + 1 by omega, List.take_succ_cons, List.take_append, List.take_of_length_le (Nat.le_refl _), Nat.sub_self, List.take_zero, List.append_nil, List.drop_append, List.drop_of_length_le (by omega)]
    simp
  have x3 : List.drop (a.length + 1 + w.length + 1) (List.take (a.length + 1 + (w.length + 1 + (b.length + 1))) (a ++ 32 :: (w ++ 32 :: (b ++ [c])))) = b ++ [c] := by
    rw [List.take_of_length_le (by simp; omega), e3, List.append_assoc, List.drop_append, List.drop_of_length_le (by omega), hX2, Nat.sub_self]
    rfl
  rw [x1, x2, x3]
end Go.Proofs.YthcmkipbdgndoaaGreatDoor.M
