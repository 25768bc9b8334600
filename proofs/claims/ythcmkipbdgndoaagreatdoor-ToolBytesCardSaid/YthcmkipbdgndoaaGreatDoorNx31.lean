/- A run that ends well is true of Go's (lemmas; conditions: what they say). -/
import Derived.Test.YthcmkipbdgndoaaGreatDoorNx30
set_option linter.all false
set_option linter.unusedVariables false
set_option linter.unusedSimpArgs false
set_option linter.unnecessarySimpa false
namespace Go.Mir
open Go Go.RowKit
variable {P : Program} {μ μ' : Nat → Option KS} {S S' : Nat → Prop} {w w' : World} {σ σ' : Store}
variable [Globs P]

theorem runC_succ (P : Program) [Globs P] (tb : Tbl) (n : Nat) : runC P tb (n + 1) = stepC P tb n (runC P tb n) := rfl

theorem yieldA_drawn {tb : Tbl} {R : Run} {C : CC} {all : List Oper} {o : Oper} {rest : List Oper} {acc : List (List Nat × List Nat)} {k : List It} {env : Env} {sto : Store} {clk nt : Nat} {j : Jmp} {t : St}
    (h : opsK P tb R C all o rest true acc k env sto clk nt = .ok j t) : inPlace P tb env true o = false ∨ wantedA all env o = some false := by
  unfold opsK at h
  rw [wantedF_eq] at h
  split at h
  · rename_i hw; exact .inr hw
  · left
    unfold opK at h
    simp only [evF_eq] at h
    unfold inPlace
    split
    · simp
    · rename_i hc
      rw [hc] at h
      simp only at h
      split
      · rename_i hy; rw [hy] at h; cases h
      · rfl
  · cases h

theorem drawnC {tb : Tbl} (htb : tb.Ok P) {C : CC} {k : List It} {all : List Oper} {j : Jmp} {t : St} : ∀ (rest : List Oper) (acc : List (List Nat × List Nat)) (n : Nat) (s : St), (∀ m, m < n → RunOk P (runC P tb m)) → runC P tb n C (.ops all rest true acc :: k) s = .ok j t →
    ∃ es t' m, Exec P all rest es s t' ∧ m < n ∧ runC P tb m C k t' = .ok j t ∧ t'.clk = s.clk ∧ t'.nt = s.nt ∧ (∀ x ∈ es, x.2.Ok P) ∧
      ∀ (j : Nat) (o : Oper) (e : Eff) (q : Orc), rest[j]? = some o → es[j]? = some (e, q) → okD all true o e.reads (keysOf e.mem) 0 (acc ++ (es.take j).map fun x => (x.1.reads, keysOf x.1.mem)) = true
  | [], acc, n, s, hR, h => by
    cases n with
    | zero => cases h
    | succ n =>
      rw [runC_succ] at h
      exact ⟨[], s, n, .nil, by omega, h, rfl, rfl, fun x hx => by simp at hx, fun j o e q h1 => by simp at h1⟩
  | o :: rest, acc, n, s, hR, h => by
    cases n with
    | zero => cases h
    | succ n =>
      rw [runC_succ] at h
      have h : opsK P tb (runC P tb n) C all o rest true acc k s.env s.sto s.clk s.nt = .ok j t := h
      obtain ⟨q, e, s1, acc', hq, h1, h2, h3, h3', h4, h5, h6⟩ := opsK_step htb (hR n (by omega)) h (yieldA_drawn h)
      rw [h3' rfl] at h4
      obtain ⟨es, t', m', g1, g2, g3, g4, g5, g6, g7⟩ := drawnC htb rest _ n s1 (fun m hm => hR m (by omega)) h4
      refine ⟨(e, q) :: es, t', m', .cons h1 h2 g1, by omega, g3, g4.trans h5, g5.trans h6, fun x hx => ?_, fun j o' e' q' hj he => ?_⟩
      · rcases List.mem_cons.1 hx with rfl | hx
        · exact hq
        · exact g6 x hx
      · cases j with
        | zero =>
          simp only [List.getElem?_cons_zero, Option.some.injEq, Prod.mk.injEq] at hj he
          obtain ⟨rfl, rfl⟩ := he
          subst hj
          simpa using h3
        | succ j =>
          have := g7 j o' e' q' (by simpa using hj) (by simpa using he)
          simpa [List.append_assoc] using this

/-- Whatever order is picked from here on, the last operation comes last. -/
noncomputable def AAnyL (P : Program) [Globs P] (all : List Oper) (es : Nat → Option (Eff × Orc)) (Q : St → Prop) (L : Nat) : Nat → Array Bool → St → Prop
  | 0, listed, s => (L ∈ Region.ready .any all.toArray listed ∧ ∀ j ∈ Region.ready .any all.toArray listed, j = L) ∧ Region.ready .any all.toArray (listed.setIfInBounds L true) = [] ∧ Q s
  | fuel + 1, listed, s => Region.ready .any all.toArray listed ≠ [] ∧
    ∀ i ∈ Region.ready .any all.toArray listed, ∃ o e q s', all[i]? = some o ∧ es i = some (e, q) ∧ opA P q all o s = some e ∧ app o e s = some s' ∧ AAnyL P all es Q L fuel (listed.setIfInBounds i true) s'
/-- What is listed has all that it rests on. -/
noncomputable def Shut (all : List Oper) (listed : Array Bool) : Prop := ∀ i o, all[i]? = some o → listed.getD i true = true → i < listed.size → ∀ e ∈ o.after, Region.binds .any e = true → listed.getD e.on false = true
theorem Shut.set {all : List Oper} {listed : Array Bool} (h : Shut all listed) {i : Nat} (hi : i ∈ Region.ready .any all.toArray listed) : Shut all (listed.setIfInBounds i true) := by
  obtain ⟨h0, o, ho, hall⟩ := mem_ready.1 hi
  have ho : all[i]? = some o := by simpa using ho
  intro j oj hj hl hs e he hb
  have up : ∀ x, listed.getD x false = true → (listed.setIfInBounds i true).getD x false = true := fun x hx => by
    have hxs : x < listed.size := by
      rcases Nat.lt_or_ge x listed.size with h | h
      · exact h
      · simp [Array.getD, Nat.not_lt.2 h] at hx
    by_cases e : i = x
    · subst e; simp [Array.getD, hxs]
    · rw [getD_set_ne false e]; exact hx
  refine up _ ?_
  by_cases e2 : i = j
  · subst e2
    rw [ho] at hj; cases hj
    exact hall e he hb
  · rw [getD_set_ne true e2] at hl
    exact h j oj hj hl (by simpa using hs) e he hb

theorem AAnyL_first {all : List Oper} {es : Nat → Option (Eff × Orc)} {Q : St → Prop} {L i : Nat} {oi : Oper} {ei : Eff} {qi : Orc} (hi : all[i]? = some oi) (hei : es i = some (ei, qi)) (hiL : i ≠ L)
    (hanc : ∀ listed : Array Bool, listed.size = all.length → Shut all listed → L ∈ Region.ready .any all.toArray listed → ∀ j, j < all.length → j ≠ L → listed.getD j true = true) :
    ∀ (fuel : Nat) (listed : Array Bool) (s s1 : St), listed.size = all.length → Shut all listed →
      (∀ j oj ej qj, all[j]? = some oj → es j = some (ej, qj) → j ≠ i → listed.getD j true = false → (∀ e ∈ oj.after, Region.binds .any e = true → e.on ≠ i) → oi.apart all.toArray oj = true ∧ Compat (some oi) oj ei ej) →
      i ∈ Region.ready .any all.toArray listed → opA P qi all oi s = some ei → app oi ei s = some s1 → AAnyL P all es Q L fuel (listed.setIfInBounds i true) s1 → AAnyL P all es Q L (fuel + 1) listed s := by
  intro fuel
  induction fuel with
  | zero =>
    intro listed s s1 hsz hshut _ hr hy h1 H
    refine ⟨fun h => (by rw [h] at hr; cases hr), fun j hj => ?_⟩
    by_cases hji : j = i
    · subst hji; exact ⟨oi, ei, qi, s1, hi, hei, hy, h1, H⟩
    · have := H.1.2 j (ready_mono hj hji)
      subst this
      have h0 := (mem_ready.1 hr).1
      have hl : i < all.length := (List.getElem?_eq_some_iff.1 hi).1
      rw [hanc listed hsz hshut hj i hl hiL] at h0
      cases h0
  | succ fuel ih =>
    intro listed s s1 hsz hshut hfree hr hy h1 H
    refine ⟨fun h => (by rw [h] at hr; cases hr), fun j hj => ?_⟩
    by_cases hji : j = i
    · subst hji; exact ⟨oi, ei, qi, s1, hi, hei, hy, h1, H⟩
    · obtain ⟨oj, ej, qj, s2, hoj, hej, hyj, h2, H2⟩ := H.2 j (ready_mono hj hji)
      obtain ⟨hjun, oj', hoj', hall⟩ := mem_ready.1 hj
      have e : oj' = oj := by
        have : all[j]? = some oj' := by simpa using hoj'
        rw [hoj] at this
        exact (Option.some.inj this).symm
      subst e
      have hnot : ∀ e ∈ oj'.after, Region.binds .any e = true → e.on ≠ i := fun e he hb heq => by
        have h1 := hall e he hb
        have h0 := (mem_ready.1 hr).1
        rw [heq] at h1
        rcases Nat.lt_or_ge i listed.size with h' | h'
        · simp [h'] at h0 h1; rw [h0] at h1; cases h1
        · simp [Array.getElem?_eq_none h'] at h1
      obtain ⟨hap, hco⟩ := hfree j oj' ej qj hoj hej hji hjun hnot
      obtain ⟨s1', k1, k2, k3, k4⟩ := swap hap hco hy h1 hyj h2
      refine ⟨oj', ej, qj, s1', hoj, hej, k1, k2, ih (listed.setIfInBounds j true) s1' s2 (by simpa using hsz) (hshut.set hj) ?_ (ready_mono hr (Ne.symm hji)) k3 k4 ?_⟩
      · intro k ok ek qk hk hek hki hun hno
        refine hfree k ok ek qk hk hek hki ?_ hno
        by_cases hjk : j = k
        · subst hjk; exact hjun
        · rw [getD_set_ne true hjk] at hun; exact hun
      · rw [Array.setIfInBounds_comm _ _ hji]
        exact H2

theorem AAnyL_lex {all : List Oper} {es : List (Eff × Orc)} {Q : St → Prop} {L : Nat} (hL : all.length = L + 1)
    (hanc : ∀ listed : Array Bool, listed.size = all.length → Shut all listed → L ∈ Region.ready .any all.toArray listed → ∀ j, j < all.length → j ≠ L → listed.getD j true = true)
    (hok : ∀ i j oj ei qi ej qj, i < j → all[j]? = some oj → es[i]? = some (ei, qi) → es[j]? = some (ej, qj) → (∀ e ∈ oj.after, Region.binds .any e = true → e.on ≠ i) → Compat all[i]? oj ei ej) :
    ∀ (l : List Oper) (fs : List (Eff × Orc)) (k : Nat) (listed : Array Bool) (s t : St), k + l.length = L → listed.size = all.length → Shut all listed → (∀ j, j < l.length → l[j]? = all[k + j]?) → (∀ j, fs[j]? = es[k + j]?) → (∀ j, j < k → listed.getD j true = true) →
      Region.lexFrom .any all.toArray (l.length + 1) k listed = true → Exec P all l fs s t → Q t → AAnyL P all (fun i => es[i]?) Q L l.length listed s
  | [], fs, k, listed, s, t, hk, hsz, hshut, _, _, _, hB, hx, hQ => by
    cases hx
    obtain rfl : k = L := by simpa using hk
    simp only [List.length_nil, Nat.zero_add, Region.lexFrom, Bool.and_eq_true] at hB
    obtain ⟨⟨hrd, _⟩, hB'⟩ := hB
    have he : Region.ready .any all.toArray (listed.setIfInBounds k true) = [] := by simpa using hB'
    refine ⟨⟨by simpa using hrd, fun j hj => ?_⟩, he, hQ⟩
    by_cases hjk : j = k
    · exact hjk
    · have := ready_mono hj hjk
      rw [he] at this; cases this
  | o :: l, fs, k, listed, s, t, hk, hsz, hshut, hl, hf, hlist, hB, hx, hQ => by
    cases hx with
    | @cons _ e q _ fs' _ s1 _ h h1 hr =>
      have h0 : all[k]? = some o := by simpa using (hl 0 (by simp)).symm
      have hf0 : es[k]? = some (e, q) := by simpa using (hf 0).symm
      simp only [List.length_cons] at hB hk
      rw [show l.length + 1 + 1 = (l.length + 1) + 1 from rfl] at hB
      simp only [Region.lexFrom, Bool.and_eq_true] at hB
      obtain ⟨⟨hrd, hfr⟩, hB'⟩ := hB
      have hB' : Region.lexFrom .any all.toArray (l.length + 1) (k + 1) (listed.setIfInBounds k true) = true := by
        simp only [Region.lexFrom, Bool.and_eq_true]; exact hB'
      have hfree := Region.free_spec (md := .any) (ops := all.toArray) (by simpa using h0) hfr
      have hrd : k ∈ Region.ready .any all.toArray listed := by simpa using hrd
      refine AAnyL_first h0 hf0 (by omega) hanc l.length listed s s1 hsz hshut (fun j oj ej qj hj hej hji hun hno => ⟨hfree j oj (by simpa using hj) hji hun hno, ?_⟩) hrd h h1 ?_
      · rw [← h0]
        have hkj : k < j := by
          rcases Nat.lt_or_gt_of_ne hji with h | h
          · have := hlist j h; rw [this] at hun; cases hun
          · exact h
        exact hok k j oj e q ej qj hkj hj hf0 hej hno
      · refine AAnyL_lex hL hanc hok l fs' (k + 1) _ s1 t (by omega) (by simpa using hsz) (hshut.set hrd) (fun j hj => by have := hl (j + 1) (by simpa using hj); simpa [Nat.add_assoc, Nat.add_comm 1 j] using this) (fun j => by have := hf (j + 1); simpa [Nat.add_assoc, Nat.add_comm 1 j] using this) (fun j hj => ?_) hB' hr hQ
        by_cases hjk : j = k
        · subst hjk
          by_cases hs : j < listed.size
          · simp [Array.getD, hs]
          · simp [Array.getD, hs]
        · rw [getD_set_ne true (Ne.symm hjk)]; exact hlist j (by omega)

theorem anyL_ok {ds : List Deferred} {all : List Oper} {es : Nat → Option (Eff × Orc)} {t : St} {L : Nat} {oL : Oper} {ρ : Option Nat} (hoL : all[L]? = some oL) (hp : ∀ o ∈ all, o.plainOp = true) (hes : ∀ i e q, es i = some (e, q) → q.Ok P) {Q : Exit → Act → World → Prop} (hout : ¬ LetsOut Q) :
    ∀ (fuel : Nat) (listed : Array Bool) (s : St) (μ : Nat → Option KS) (S : Nat → Prop) (w : World) (a : Act), AAnyL P all es (fun x => x = t) L fuel listed s → GlobOk P S w → a.tmps.size = s.nt → a.defers = ds → StoRep μ S w s.sto → EnvRep μ S w s.env a.tmps →
      (∀ μ' S' w' a', a'.tmps.size = t.nt → a'.defers = ds → StoRep μ' S' w' t.sto → EnvRep μ' S' w' t.env a'.tmps → Ext μ S w μ' S' w' → wpListIn P ρ all.toArray Q [oL] a' w') → wpAnyIn (wide ρ) 0 P .any all.toArray Q (fuel + 1) listed a w := by
  intro fuel
  induction fuel with
  | zero =>
    intro listed s μ S w a h hg hn hd hσ he hQ
    obtain ⟨⟨h1, h2⟩, h3, rfl⟩ := h
    refine ⟨fun h0 => (by rw [h0] at h1; cases h1), fun i hi => ?_⟩
    obtain rfl := h2 i hi
    have := hQ μ S w a hn hd hσ he (Ext.refl _ _ _)
    unfold wpListIn at this
    unfold wpOpIn
    have ho' : all.toArray[i]? = some oL := by simpa using hoL
    rw [ho']
    simp only
    split
    · rename_i hw; rw [if_pos hw] at this; exact Oper.wpIn_mono (fun a w h => ⟨h3, h⟩) this
    · rename_i hw; rw [if_neg hw] at this; exact ⟨fun _ _ => trivial, h3, this⟩
  | succ fuel ih =>
    intro listed s μ S w a h hg hn hd hσ he hQ
    refine ⟨fun h0 => absurd h0 h.1, fun i hi => ?_⟩
    obtain ⟨o, e, q, s1, hoi, hei, h1, h2, h3⟩ := h.2 i hi
    obtain ⟨env, hpp, rfl⟩ := app_parts h2
    have := opA_ok hg (hes i e q hei) (a := a) h1 hσ he (K := wpAnyIn (wide ρ) 0 P .any all.toArray Q (fuel + 1) (listed.setIfInBounds i true)) (Q := Q) (fun v μ' S' w' r1 r2 r3 => by
      obtain ⟨e1, e2⟩ := (he.mono r3.keys r3.st r3.mem).put hn r1 hpp
      exact ih _ _ μ' S' w' _ h3 (hg.mono r3.st r3.mem) e2 (by cases hdd : o.dst <;> simpa [Act.put, hdd] using hd) r2 e1 (fun μ2 S2 w2 a2 q1 q2 q3 q4 q5 => hQ μ2 S2 w2 a2 q1 q2 q3 q4 (r3.trans q5)))
    unfold wpOpIn
    have ho' : all.toArray[i]? = some o := by simpa using hoi
    rw [ho']
    simp only
    have hpo := hp o (List.mem_of_getElem? hoi)
    split
    · rename_i hw; rw [if_pos hw] at this; exact wp_to_In hpo this
    · rename_i hw; rw [if_neg hw] at this; exact ⟨fun _ _ => trivial, this⟩

theorem edgeM_spec {x : Nat} : ∀ (l : List Edge) (m : Nat), (edgeM m l).testBit x = true → m.testBit x = true ∨ ∃ e ∈ l, Region.binds .any e = true ∧ e.on = x
  | [], m, h => .inl h
  | e :: r, m, h => by
    unfold edgeM at h
    split at h
    · rename_i hb
      rcases edgeM_spec r _ h with h | ⟨e', he', h1, h2⟩
      · have h : (m ||| 1 <<< e.on).testBit x = true := h
        rw [Nat.testBit_or, Nat.one_shiftLeft, Nat.testBit_two_pow, Bool.or_eq_true] at h
        rcases h with h | h
        · exact .inl h
        · exact .inr ⟨e, by simp, hb, by simpa using h⟩
      · exact .inr ⟨e', by simp [he'], h1, h2⟩
    · rcases edgeM_spec r _ h with h | ⟨e', he', h1, h2⟩
      · exact .inl h
      · exact .inr ⟨e', by simp [he'], h1, h2⟩
theorem bit_spec (m f : Nat) (h : Nat.beq (Nat.land (Nat.shiftRight m f) 1) 1 = true) : m.testBit f = true := by
  have h : (m >>> f) &&& 1 = 1 := Nat.eq_of_beq_eq_true h
  unfold Nat.testBit
  rw [Nat.and_comm, h]; rfl
theorem ancFrom_spec {all : List Oper} {listed : Array Bool} {L : Nat} (hsz : listed.size = all.length) (hsh : Shut all listed) (hL : L ∈ Region.ready .any all.toArray listed) :
    ∀ (i m : Nat), (∀ x, m.testBit x = true → x = L ∨ listed.getD x false = true) → ancFrom all i m = true → ∀ j, j < i → j = L ∨ listed.getD j false = true
  | 0, _, _, _, j, hj => absurd hj (Nat.not_lt_zero _)
  | i + 1, m, hm, h, j, hj => by
    unfold ancFrom at h
    split at h
    · rename_i o hb ho
      have hi := hm i (bit_spec m i hb)
      rcases Nat.lt_or_ge j i with hlt | hge
      · refine ancFrom_spec hsz hsh hL i _ (fun x hx => ?_) h j hlt
        rcases edgeM_spec _ _ hx with hx | ⟨e, he, hbn, rfl⟩
        · exact hm x hx
        · right
          have he' : e ∈ o.after := by simpa using he
          rcases hi with rfl | hi
          · obtain ⟨_, o', ho', hall⟩ := mem_ready.1 hL
            have ho' : all[i]? = some o' := by simpa using ho'
            rw [ho] at ho'; cases ho'
            exact hall e he' hbn
          · have hlt : i < listed.size := by rw [hsz]; exact (List.getElem?_eq_some_iff.1 ho).1
            exact hsh i o ho (by simpa [Array.getD, hlt] using hi) hlt e he' hbn
      · obtain rfl : j = i := by omega
        exact hi
    · cases h
theorem tailS_spec {l pre : List Oper} {o : Oper} (h : tailS l = some (pre, o)) : l = pre ++ [o] ∧ ∀ listed : Array Bool, listed.size = l.length → Shut l listed → pre.length ∈ Region.ready .any l.toArray listed → ∀ j, j < l.length → j ≠ pre.length → listed.getD j true = true := by
  unfold tailS at h
  split at h
  · cases h
  · rename_i o' r hr
    split at h
    · rename_i hc
      cases h
      have e : l = r.reverse ++ [o] := by have := congrArg List.reverse hr; simpa using this
      simp only [Bool.and_eq_true] at hc
      refine ⟨e, fun listed hsz hsh hL j hj hne => ?_⟩
      rw [List.length_reverse] at hL hne
      have hlen : l.length = r.length + 1 := by rw [e]; simp
      have := ancFrom_spec hsz hsh hL (r.length + 1) _ (fun x hx => .inl (by
        have hx : (1 <<< r.length).testBit x = true := hx
        rw [Nat.one_shiftLeft, Nat.testBit_two_pow] at hx
        simpa [eq_comm] using hx)) hc.2 j (by omega)
      rcases this with h | h
      · exact absurd h hne
      · have hs : j < listed.size := by omega
        simpa [Array.getD, hs] using h
    · cases h

theorem Exec.length {all l : List Oper} {es : List (Eff × Orc)} {s t : St} (h : Exec P all l es s t) : es.length = l.length := by
  induction h with
  | nil => rfl
  | cons _ _ _ ih => simp [ih]

theorem scopeC_ok {R : List It → St → Res} {lab : Nat} {rest : Code} {m : Nat} {k : List It} {s : St} {j : Jmp} {t : St} (h : scopeC R lab rest m k s = .ok j t) : ∃ m', m = m' + 1 ∧ ∃ j1 s1, R k s = .ok j1 s1 ∧ ((j1 = .goto lab ∧ scopeC R lab rest m' [.code rest] s1 = .ok j t) ∨ ((∀ l, j1 ≠ .goto l) ∧ j1 = j ∧ s1 = t)) := by
  cases m with
  | zero => cases h
  | succ m =>
    refine ⟨m, rfl, ?_⟩
    simp only [scopeC] at h
    split at h
    · rename_i l s1 hr
      split at h
      · rename_i e
        rw [Nat.eq_of_beq_eq_true e] at hr
        exact ⟨_, _, hr, .inl ⟨rfl, h⟩⟩
      · cases h
    · rename_i r hno
      exact ⟨j, t, h, .inr ⟨fun l e => hno l t (by rw [h, e]), rfl, rfl⟩⟩
end Go.Mir
