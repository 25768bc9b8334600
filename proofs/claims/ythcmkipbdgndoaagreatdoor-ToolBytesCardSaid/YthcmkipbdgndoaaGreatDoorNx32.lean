/- A run that ends well is true of Go's (lemmas; conditions: what they say). -/
import Derived.Test.YthcmkipbdgndoaaGreatDoorNx31
set_option linter.all false
set_option linter.unusedVariables false
set_option linter.unusedSimpArgs false
set_option linter.unnecessarySimpa false
namespace Go.Mir
open Go Go.RowKit
variable {P : Program} {μ μ' : Nat → Option KS} {S S' : Nat → Prop} {w w' : World} {σ σ' : Store}
variable [Globs P]

/-- A jump that nothing catches. -/
theorem WPx_gotoNone {ρ : Option Nat} {Q : Exit → Act → World → Prop} {G : (St → Prop) → Act → World → Prop} {a : Act} {l : Nat} (hq : Q (.goto l) a w) : ∀ {k : List It}, noHook k → WPx P ρ Q G k (.goto l) a w
  | [], _ => hq
  | .blk _ :: k, h => WPx_gotoNone hq (k := k) h
  | .code _ :: k, h => WPx_gotoNone hq (k := k) h
  | .loop _ _ :: k, h => WPx_gotoNone hq (k := k) h
  | .hook _ :: k, h => h.elim
  | .scp _ _ :: k, h => h.elim
  | .ops _ _ dr _ :: k, h => by cases dr <;> exact WPx_gotoNone hq (k := k) h
noncomputable def Jmp.ex : Jmp → Exit
  | .fin => .normal
  | .ret => .ret
  | .exit id => .exit id
  | .goto l => .goto l

set_option maxHeartbeats 4000000 in
theorem runC_ok {tb : Tbl} (htb : tb.Ok P) (hmix : P.follows .mixedOrders = true) : ∀ (n : Nat), RunOk P (runC P tb n) := by
  intro n
  induction n using Nat.strongRecOn with
  | _ n ihs =>
    intro C k s j t h hok hh B E hE
    cases n with
    | zero => cases h
    | succ n =>
      have ihR : RunOk P (runC P tb n) := ihs n (Nat.lt_succ_self n)
      have ih : ∀ {k s}, runC P tb n C k s = .ok j t → (∀ x ∈ k, okIt x) → noHook k → Sat P (C.with B E) k s := fun h hok hh => ihR C _ _ j t h hok hh B E hE
      rw [runC_succ] at h
      have here : ∀ (j : Jmp), E j s → ∀ (n0 : Base) (μ : Nat → Option KS) (S : Nat → Prop) (w : World) (a : Act), a.tmps.size = s.nt → Marks n0 S w a.defers → StoRep μ S w s.sto → EnvRep μ S w s.env a.tmps → ∃ r, E j r ∧ Fin B n0 μ S w r a w :=
        fun j h n0 μ S w a hn hd hσ he => ⟨s, h, μ, S, hd, hσ, he, hn, (Ext.refl μ S w).toB _⟩
      cases k with
      | nil =>
        cases h
        exact fun n0 ρ μ S w a hr hn hd hσ he hx => here .fin hE n0 μ S w a hn hd hσ he
      | cons x k =>
        have hokk : ∀ y ∈ k, okIt y := fun y hy => hok y (List.mem_cons_of_mem _ hy)
        have hox := hok x (by simp)
        cases x with
        | code c =>
          have hh' : noHook k := hh
          have h : codeK P tb n (runC P tb n) C k s.env s.sto s.clk s.nt c = .ok j t := h
          obtain ⟨env, sto, clk, nt⟩ := s
          simp only at h
          cases c with
          | skip => exact fun n0 ρ μ S w a hr hn hd hσ he hx => wpIn_skip (ih h hokk hh' n0 ρ μ S w a hr hn hd hσ he hx)
          | label l => exact fun n0 ρ μ S w a hr hn hd hσ he hx => wpIn_label (ih h hokk hh' n0 ρ μ S w a hr hn hd hσ he hx)
          | ret =>
            cases h
            exact fun n0 ρ μ S w a hr hn hd hσ he hx => wpIn_ret (WPx_ret (Q := FinΦ (C.with B E) n0 μ S w) (here .ret hE n0 μ S w a hn hd hσ he) k)
          | seq c1 c2 =>
            simp only [okIt, okCode, Bool.and_eq_true] at hox
            have hi := ih h (fun y hy => by
              simp only [List.mem_cons] at hy
              rcases hy with rfl | rfl | hy
              · exact hox.1
              · exact hox.2
              · exact hokk y hy) hh'
            exact fun n0 ρ μ S w a hr hn hd hσ he hx => wpIn_seq (wpIn_mono (hi n0 ρ μ S w a hr hn hd hσ he hx) fun e a w hq => by cases e <;> exact hq)
          | cond c c1 c2 =>
            simp only [okIt, okCode, Bool.and_eq_true] at hox
            have ok1 : ∀ y ∈ (It.code c1 :: k), okIt y := fun y hy => by simp at hy; rcases hy with rfl | hy; exact hox.1; exact hokk y hy
            have ok2 : ∀ y ∈ (It.code c2 :: k), okIt y := fun y hy => by simp at hy; rcases hy with rfl | hy; exact hox.2; exact hokk y hy
            simp only [codeK, evF_eq] at h
            split at h
            · rename_i hc
              exact fun n0 ρ μ S w a hr hn hd hσ he hx => wpIn_cond_true (by have := he.ev c; rw [hc] at this; exact repA_lit this) (ih h ok1 hh' n0 ρ μ S w a hr hn hd hσ he hx)
            · rename_i hc
              exact fun n0 ρ μ S w a hr hn hd hσ he hx => wpIn_cond_false (by have := he.ev c; rw [hc] at this; exact repA_lit this) (ih h ok2 hh' n0 ρ μ S w a hr hn hd hσ he hx)
            · cases h
          | block id c =>
            have hi := ih h (fun y hy => by
              simp only [List.mem_cons] at hy
              rcases hy with rfl | rfl | hy
              · exact hox
              · trivial
              · exact hokk y hy) hh'
            exact fun n0 ρ μ S w a hr hn hd hσ he hx => wpIn_block (wpIn_mono (hi n0 ρ μ S w a hr hn hd hσ he hx) fun e a w hq => by cases e <;> exact hq)
          | exit id =>
            simp only [codeK] at h
            split at h
            · rename_i k' hk'
              have hi := ih h (fun y hy => hokk y (exit_sub hk' y hy)) (hh'.exit hk')
              exact fun n0 ρ μ S w a hr hn hd hσ he hx => wpIn_exit (WPx_exit hk' (hi n0 ρ μ S w a hr hn hd hσ he hx))
            · rename_i hk'
              cases h
              exact fun n0 ρ μ S w a hr hn hd hσ he hx => wpIn_exit (WPx_exitNone (Q := FinΦ (C.with B E) n0 μ S w) (here (.exit id) hE n0 μ S w a hn hd hσ he) hk')
          | loop c =>
            have hi := ih h (fun y hy => by
              simp only [List.mem_cons] at hy
              rcases hy with rfl | rfl | hy
              · exact hox
              · exact hox
              · exact hokk y hy) hh'
            exact fun n0 ρ μ S w a hr hn hd hσ he hx => wp_loop_round (wpIn_mono (hi n0 ρ μ S w a hr hn hd hσ he hx) fun e a w hq => by cases e <;> exact hq)
          | region id ops dr =>
            simp only [okIt, okCode, Bool.and_eq_true] at hox
            have hpl : ∀ o ∈ ops.toList, o.plainOp = true := fun o ho => List.all_eq_true.1 hox.1 o ho
            intro n0 ρ μ S w a hr hn hd hσ he hx
            simp only [codeK] at h
            show (Code.region id ops dr).wpIn (wide ρ) 0 P (WPx P ρ (FinΦ (C.with B E) n0 μ S w) (GΦ B n0 μ S w) k) a w
            cases dr with
            | false =>
              have hi := ih h (fun y hy => by simp at hy; rcases hy with rfl | hy; exact hpl; exact hokk y hy) hh' n0 ρ μ S w a hr hn hd hσ he hx
              refine wpIn_region_listR ?_
              have hi2 : wpListIn P ρ ops.toList.toArray (WPx P ρ (FinΦ (C.with B E) n0 μ S w) (GΦ B n0 μ S w) k) ops.toList a w := hi
              simpa using hi2
            | true =>
              have hlex : Region.lexB .any ops = true := by simpa using hox.2
              simp only [Region.lexB, Bool.and_eq_true] at hlex
              simp only at h
              split at h
              · rename_i pre oL htl
                obtain ⟨hsp, hanc⟩ := tailS_spec htl
                obtain ⟨es, t', m', c1, c2, c3, c4, c5, c6, c7⟩ := drawnC htb pre [] n _ (fun m hm => ihs m (by omega)) h
                have hout : ¬ LetsOut (WPx P ρ (FinΦ (C.with B E) n0 μ S w) (GΦ B n0 μ S w) k) := fun ⟨a0, w0, h0⟩ => WPx_out (fun _ _ h => h) k a0 w0 h0
                refine wpIn_region_any hmix ?_
                have hprej : ∀ j, j < pre.length → pre[j]? = ops.toList[j]? := fun j hj => by rw [hsp, List.getElem?_append_left hj]
                have hLo : ops.toList[pre.length]? = some oL := by rw [hsp]; simp
                have hlen : ops.toList.length = pre.length + 1 := by rw [hsp]; simp
                have hesl : es.length = pre.length := Exec.length c1
                have hcomp : ∀ i j oj ei qi ej qj, i < j → ops.toList[j]? = some oj → es[i]? = some (ei, qi) → es[j]? = some (ej, qj) → (∀ e ∈ oj.after, Region.binds .any e = true → e.on ≠ i) → Compat ops.toList[i]? oj ei ej := by
                  intro i j oj ei qi ej qj hij hoj hei hej hno
                  have hjl : j < pre.length := by rw [← hesl]; exact (List.getElem?_eq_some_iff.1 hej).1
                  have hd := c7 j oj ej qj (by rw [hprej j hjl]; exact hoj) hej
                  have hacc : ([] ++ (es.take j).map fun x => (x.1.reads, keysOf x.1.mem))[i]? = some (ei.reads, keysOf ei.mem) := by
                    rw [List.nil_append, List.getElem?_map, List.getElem?_take, if_pos hij, hei]; rfl
                  rcases okD_spec hd i _ hacc with ⟨e, h1, h2, h3⟩ | ⟨h1, h2⟩ | h1
                  · exact absurd (by omega) (hno e h1 h2)
                  rotate_left
                  · exact .inr (by simpa using h1)
                  · refine .inl ⟨fun k hk => ?_, fun k hk => disj_spec h2 k hk⟩
                    have := disj_spec h1 k hk
                    simp only [List.mem_append, not_or] at this
                    exact this
                have hlex2 : Region.lexFrom .any ops.toList.toArray (pre.length + 1) 0 (Array.replicate ops.size false) = true := by
                  have := hlex.2
                  rw [← hlen]; simpa using this
                have hany := AAnyL_lex (P := P) (L := pre.length) (Q := fun x => x = t') hlen hanc hcomp pre es 0 (Array.replicate ops.size false) _ t' (by simp) (by simp) (fun i o hi hl hs => by simp at hs; simp [Array.getD, hs] at hl) (fun j hj => by rw [hprej j hj]; simp) (fun j => by simp) (fun j hj => by omega) hlex2 c1 rfl
                have := anyL_ok (ds := a.defers) (ρ := ρ) (t := t') (es := fun i => es[i]?) hLo hpl (fun i e q hi => c6 (e, q) (List.mem_of_getElem? hi)) hout pre.length (Array.replicate ops.size false) _ μ S w.drew a hany hx.1.drew hn rfl hσ.drew
                  (he.mono (w' := w.drew) (KeysOk.refl μ) (fun _ h => h) (fun _ _ => rfl)) (fun μ' S' w' a' q1 q2 q3 q4 q5 => by
                    have ext : Ext μ S w μ' S' w' := (Ext.drew μ S w).trans q5
                    have hi := ihs m' (by omega) C (.ops ops.toList [oL] false [] :: k) t' j t c3 (fun y hy => by
                      simp only [List.mem_cons] at hy
                      rcases hy with rfl | hy
                      · exact fun o ho => hpl o (by rw [hsp]; simp only [List.mem_singleton] at ho; subst ho; simp)
                      · exact hokk y hy) hh' B E hE n0 ρ μ' S' w' a' hr q1 (by rw [q2]; exact hd.mono ext.st ext.mem ext.size) q3 q4 (hx.ext ext)
                    have hi2 : wpListIn P ρ ops.toList.toArray (WPx P ρ (FinΦ (C.with B E) n0 μ' S' w') (GΦ B n0 μ' S' w') k) [oL] a' w' := hi
                    exact wpListIn_mono (WPx_mono (P := P) (fin_mono (C := C.with B E) (ext.toB _)) (g_mono (ext.toB _)) k) _ _ _ hi2)
                have hz : ops.size = pre.length + 1 := by rw [← Array.length_toList]; exact hlen
                rw [← hz] at this
                simpa using this
              obtain ⟨es, t', m', c1, c2, c3, c4, c5, c6, c7⟩ := drawnC htb ops.toList [] n _ (fun m hm => ihs m (by omega)) h
              have hout : ¬ LetsOut (WPx P ρ (FinΦ (C.with B E) n0 μ S w) (GΦ B n0 μ S w) k) := fun ⟨a0, w0, h0⟩ => WPx_out (fun _ _ h => h) k a0 w0 h0
              refine wpIn_region_any hmix (wpAny_toIn hout hpl _ _ _ _ ?_)
              have hcomp : ∀ i j oj ei qi ej qj, i < j → ops.toList[j]? = some oj → es[i]? = some (ei, qi) → es[j]? = some (ej, qj) → (∀ e ∈ oj.after, Region.binds .any e = true → e.on ≠ i) → Compat ops.toList[i]? oj ei ej := by
                intro i j oj ei qi ej qj hij hoj hei hej hno
                have hd := c7 j oj ej qj hoj hej
                have hacc : ([] ++ (es.take j).map fun x => (x.1.reads, keysOf x.1.mem))[i]? = some (ei.reads, keysOf ei.mem) := by
                  rw [List.nil_append, List.getElem?_map, List.getElem?_take, if_pos hij, hei]; rfl
                rcases okD_spec hd i _ hacc with ⟨e, h1, h2, h3⟩ | ⟨h1, h2⟩ | h1
                · exact absurd (by omega) (hno e h1 h2)
                rotate_left
                · exact .inr (by simpa using h1)
                · refine .inl ⟨fun k hk => ?_, fun k hk => disj_spec h2 k hk⟩
                  have := disj_spec h1 k hk
                  simp only [List.mem_append, not_or] at this
                  exact this
              have hany := AAny_lex (P := P) (Q := fun x => x = t') hcomp ops.toList es 0 (Array.replicate ops.size false) _ t' (fun j => by simp) (fun j => by simp) (fun j hj => by omega) (by simpa using hlex.2) c1 rfl
              have := any_ok (ds := a.defers) (t := t') (es := fun i => es[i]?) (fun i e q hi => c6 (e, q) (List.mem_of_getElem? hi)) (Q := WPx P ρ (FinΦ (C.with B E) n0 μ S w) (GΦ B n0 μ S w) k) ops.toList.length (Array.replicate ops.size false) _ μ S w.drew a hany hx.1.drew hn rfl hσ.drew
                (he.mono (w' := w.drew) (KeysOk.refl μ) (fun _ h => h) (fun _ _ => rfl)) (fun μ' S' w' a' q1 q2 q3 q4 q5 => by
                  have ext : Ext μ S w μ' S' w' := (Ext.drew μ S w).trans q5
                  have hi := ihs m' (by omega) C k t' j t c3 hokk hh' B E hE n0 ρ μ' S' w' a' hr q1 (by rw [q2]; exact hd.mono ext.st ext.mem ext.size) q3 q4 (hx.ext ext)
                  exact WPx_mono (P := P) (fin_mono (C := C.with B E) (ext.toB _)) (g_mono (ext.toB _)) _ _ _ _ hi)
              simpa using this
          | rangeFunc g ps assign body =>
            simp only [codeK, evF_eq, forcedN_eq] at h
            split at h
            · rename_i hrnd hcxe
              split at h
              · rename_i f args hseq
                obtain ⟨kl, hkl⟩ : ∃ kl, kl = (clk + 1) * 65536 + 65532 := ⟨_, rfl⟩
                rw [← hkl] at h hseq
                unfold rngK at h
                split at h
                · rename_i fn hf
                  split at h
                  · rename_i c hfb
                    split at h
                    · rename_i hcond
                      simp only [lkF_eq, Bool.and_eq_true, Option.isNone_iff_eq_none] at hcond
                      obtain ⟨⟨⟨q1, q4⟩, q5'⟩, q6'⟩ := hcond
                      have q5 := okCodeQ_ok q5'
                      have q6 := okCodeQ_ok q6'
                      simp only [forced_eq, insF_eq] at h
                      obtain ⟨ok1, ok2, ok3⟩ := okFn_spec (okFnQ_ok q1) hfb
                      obtain ⟨j0, sc, hrun0⟩ : ∃ j0 sc, runC P tb n ⟨false, [(kl, ⟨env, ps.toList, assign, body, nt⟩)], f, tb.zs f⟩ [.code c] ⟨envOf 0 args, ins kl (.lp true false none) sto, clk + 1, fn.ntmps⟩ = .ok j0 sc := by
                        cases hr : runC P tb n ⟨false, [(kl, ⟨env, ps.toList, assign, body, nt⟩)], f, tb.zs f⟩ [.code c] ⟨envOf 0 args, ins kl (.lp true false none) sto, clk + 1, fn.ntmps⟩ with
                        | ok j0 sc => exact ⟨j0, sc, rfl⟩
                        | bad l => rw [hr] at h; cases h
                        | ask g qs => rw [hr] at h; cases h
                        | ret rs => rw [hr] at h; cases h
                      rw [hrun0] at h
                      have hE' : (j0 = .fin ∨ j0 = .ret) ∧ ∃ xs, results? P sc.env sc.sto fn.results.toList = some xs ∧ ((lk sc.sto kl = some (.lp true false none) ∧ runC P tb n C k ⟨env, ins kl .stale sc.sto, sc.clk, nt⟩ = .ok j t) ∨ ∃ c', lk sc.sto kl = some (.lp true false (some c')) ∧ okCode c' = true ∧ runC P tb n C (.code c' :: k) ⟨env, ins kl .stale sc.sto, sc.clk, nt⟩ = .ok j t) := by
                        cases j0 with
                        | exit id => cases h
                        | goto l => cases h
                        | fin =>
                          refine ⟨.inl rfl, ?_⟩
                          simp only [rngE] at h
                          split at h
                          · rename_i xs hxs
                            refine ⟨xs, hxs, ?_⟩
                            simp only [lkF_eq, forced_eq, insF_eq] at h
                            split at h
                            · rename_i hk; exact .inl ⟨hk, h⟩
                            · rename_i c' hk
                              split at h
                              · rename_i hoc; exact .inr ⟨c', hk, okCodeQ_ok hoc, h⟩
                              · cases h
                            · cases h
                          · cases h
                        | ret =>
                          refine ⟨.inr rfl, ?_⟩
                          simp only [rngE] at h
                          split at h
                          · rename_i xs hxs
                            refine ⟨xs, hxs, ?_⟩
                            simp only [lkF_eq, forced_eq, insF_eq] at h
                            split at h
                            · rename_i hk; exact .inl ⟨hk, h⟩
                            · rename_i c' hk
                              split at h
                              · rename_i hoc; exact .inr ⟨c', hk, okCodeQ_ok hoc, h⟩
                              · cases h
                            · cases h
                          · cases h
                      obtain ⟨hj0, xs, hxs, hE'⟩ := hE'
                      let B1 : List Nat := kl :: sto.map (·.1)
                      have hs := ihR _ _ _ _ _ hrun0 (fun y hy => by simp at hy; subst hy; exact ok3) trivial B1 (fun j' r => j' = j0 ∧ r = sc) ⟨rfl, rfl⟩
                      intro n0 ρ μ S w a hr hn hd hσ he hx
                      obtain rfl : ρ = none := by
                        have hr : ρ.isSome = C.rnd := hr
                        rw [hrnd] at hr
                        cases ρ with
                        | none => rfl
                        | some l => cases hr
                      refine wpIn_rangeFunc fun fnid _ => ?_
                      obtain ⟨w1, e1, e2, e3, e4⟩ := lp_new (P := P) fnid a.tmps ps assign body hσ q4
                      obtain ⟨vs, us, hargs, hev⟩ := seqA_run (he.ev g) hseq (w.heap.size + 1)
                      have hargs1 := hargs e3 (by rw [updK_same]; rfl)
                      have hcx1 : CxOk P (updK μ kl (.loop (w.heap.size + 1) a.tmps ps.toList assign body)) (fun b => S b ∨ b = w.heap.size) w1 [(kl, (⟨env, ps.toList, assign, body, nt⟩ : Cx))] := ⟨hx.1.mono e3.st e3.mem, fun x hxm => by
                        simp only [List.mem_singleton] at hxm
                        subst hxm
                        exact .inr ⟨_, _, updK_same _ _, he.ext e3, hn⟩⟩
                      obtain ⟨k1, k2⟩ := calls_of_sat (R := rangePost (wide none) 0 P (w.heap.size + 1) (WPx P none (FinΦ (C.with B E) n0 μ S w) (GΦ B n0 μ S w) k) { a with defers := [{ target := .collected w.heap.size, args := #[] }] ++ a.defers }) hf hfb (okFnQ_ok q1) hs e2 hargs1 hcx1
                        (fun j' r a' μ' S' w' hj hEr m2 m3 m5 => by
                          obtain ⟨rfl, rfl⟩ := hEr
                          obtain ⟨us', hru, _⟩ := results_ok (P := P) (fn := fn) m2 m3 hxs
                          refine ⟨_, hru, ?_⟩
                          have fin : ∀ (p : Option Code) (kk : List It), lk r.sto kl = some (.lp true false p) → Sat P (C.with B E) kk ⟨env, ins kl .stale r.sto, r.clk, nt⟩ → ∃ w4, (Instr.endLoop (w.heap.size + 1)).run P w' = .ok p w4 ∧ WPx P none (FinΦ (C.with B E) n0 μ S w) (GΦ B n0 μ S w) kk .normal { a with defers := [{ target := .collected w.heap.size, args := #[] }] ++ a.defers } w4 := by
                            intro p kk hk hsat
                            obtain ⟨l', tm', ps', as', bd', f1, w4, μ4, f2, f3, f4⟩ := lp_end (P := P) m2 hk
                            have hl : l' = w.heap.size + 1 := by
                              rcases m5.keys kl _ (by simp [B1]) (updK_same _ _) with e | e
                              · rw [f1] at e; cases e; rfl
                              · rw [f1] at e; cases e
                            subst hl
                            refine ⟨w4, f2, ?_⟩
                            have total : Ext μ S w μ4 S' w4 := (e3.trans (ExtB.all e2 (fun k hk => by
                              have : k ∈ kl :: sto.map (·.1) := by
                                obtain ⟨x, hx, rfl⟩ := List.mem_map.1 hk
                                have hx' : lk (ins kl (.lp true false none) sto) x.1 ≠ none ∨ True := .inr trivial
                                by_cases e : x.1 = kl
                                · rw [e]; simp
                                · refine List.mem_cons_of_mem _ ?_
                                  have : ∀ (l : Store), x ∈ ins kl (.lp true false none) l → x.1 ≠ kl → x.1 ∈ l.map (·.1) := by
                                    intro l
                                    induction l with
                                    | nil => intro hx hne; simp [ins] at hx; exact absurd (by rw [hx]) hne
                                    | cons y r ihl =>
                                      intro hx hne
                                      obtain ⟨jj, yy⟩ := y
                                      rw [ins_cons] at hx
                                      split at hx
                                      · rcases List.mem_cons.1 hx with e | hx
                                        · exact absurd (by rw [e]) hne
                                        · exact List.mem_map_of_mem hx
                                      · split at hx
                                        · rcases List.mem_cons.1 hx with e | hx
                                          · exact absurd (by rw [e]) hne
                                          · exact List.mem_cons_of_mem _ (List.mem_map_of_mem hx)
                                        · rcases List.mem_cons.1 hx with e | hx
                                          · rw [e]; simp
                                          · exact List.mem_cons_of_mem _ (ihl hx hne)
                                  exact this sto hx e
                              exact this) m5)).trans f4
                            have hD : w4.heap[w.heap.size]? = some (.deferred (some [])) ∧ S' w.heap.size := by
                              have hS1 : S' w.heap.size := m5.st _ (.inr rfl)
                              refine ⟨?_, hS1⟩
                              rw [f4.mem _ hS1, m5.mem _ (.inr rfl), e4]
                            have marks : Marks n0 S' w4 ([{ target := .collected w.heap.size, args := #[] }] ++ a.defers) := hd.cons total.st total.mem total.size hD.2 hD.1
                            have := hsat n0 none μ4 S' w4 { a with defers := [{ target := .collected w.heap.size, args := #[] }] ++ a.defers } (by show _ = C.rnd; rw [hrnd]; rfl) hn marks f3 (he.ext total) (by show CxOk P _ _ _ C.cx; rw [hcxe]; exact CxOk.nil (hx.1.mono total.st total.mem))
                            exact WPx_mono (fin_mono (C := C.with B E) (total.toB _)) (g_mono (total.toB _)) _ _ _ _ this
                          rcases hE' with ⟨hk, hE'⟩ | ⟨c', hk, hoc, hE'⟩
                          · obtain ⟨w4, f1, f2⟩ := fin none k hk (ih hE' hokk hh')
                            exact ⟨none, w4, f1, f2⟩
                          · obtain ⟨w4, f1, f2⟩ := fin (some c') (.code c' :: k) hk (ih hE' (fun y hy => by simp at hy; rcases hy with rfl | hy; exact hoc; exact hokk y hy) hh')
                            exact ⟨some c', w4, f1, f2⟩)
                        (fun j' r h1 h2 hEr => by obtain ⟨rfl, _⟩ := hEr; rcases hj0 with e | e; exact h1 e; exact h2 e)
                      refine ⟨w.heap.size + 1, _, w1, { target := .fn (.func f) us.toArray, args := vs.toArray ++ #[Value.func (.yield (w.heap.size + 1)) #[] #[]] }, w1, f, (vs ++ [Value.func (.yield (w.heap.size + 1)) #[] #[]] ++ us).toArray, w1, e1, ?_, fun _ _ => trivial, ?_, fun h => by simp [wide, Fence.wide] at h, ?_⟩
                      rotate_left 2
                      · exact k1
                      · have hy : a.eval (.const (.func (.yield (w.heap.size + 1)) #[] #[])) = .func (.yield (w.heap.size + 1)) #[] #[] := rfl
                        unfold Go.resolve; simp [Deferred.ofValue, hev, hy]
                      · have e2 : (vs ++ [Value.func (.yield (w.heap.size + 1)) #[] #[]] ++ us).toArray = vs.toArray ++ #[Value.func (.yield (w.heap.size + 1)) #[] #[]] ++ us.toArray := by simp
                        rw [e2] at k2 ⊢
                        simpa [invoke] using k2
                    · cases h
                  · cases h
                · cases h
              · cases h
            · cases h
          | scope c =>
            simp only [codeK] at h
            split at h
            · rename_i lab hlab
              split at h
              · rename_i rest hrest
                have okr := findLabel_ok hrest hox
                -- what the scope does
                have key : ∀ (m : Nat) (k0 : List It) (s0 : St) (j1 : Jmp) (s1 : St), scopeC (runC P tb n C) lab rest m k0 s0 = .ok j1 s1 → True := fun _ _ _ _ _ _ => trivial
                obtain ⟨j1, s1, hsc⟩ : ∃ j1 s1, scopeC (runC P tb n C) lab rest n [.code c] ⟨env, sto, clk, nt⟩ = .ok j1 s1 := by
                  cases hr : scopeC (runC P tb n C) lab rest n [.code c] ⟨env, sto, clk, nt⟩ with
                  | ok j1 s1 => exact ⟨j1, s1, rfl⟩
                  | bad l => rw [hr] at h; cases h
                  | ask g qs => rw [hr] at h; cases h
                  | ret rs => rw [hr] at h; cases h
                rw [hsc] at h
                intro n0 ρ μ S w a hr hn hd hσ he hx
                -- behind it
                have after : ∀ (μ' : Nat → Option KS) (S' : Nat → Prop) (w' : World) (a' : Act) (ex : Exit), ex = j1.ex → Marks n0 S' w' a'.defers → StoRep μ' S' w' s1.sto → EnvRep μ' S' w' s1.env a'.tmps → a'.tmps.size = s1.nt → Ext μ S w μ' S' w' → WPx P ρ (FinΦ (C.with B E) n0 μ S w) (GΦ B n0 μ S w) k ex a' w' := by
                  intro μ' S' w' a' ex hex hd' hσ' he' hn' hxx
                  have lift := fun ex a2 w2 => WPx_mono (P := P) (ρ := ρ) (fin_mono (C := C.with B E) (n0 := n0) (hxx.toB B)) (g_mono (n0 := n0) (hxx.toB B)) k ex a2 w2
                  have hereS : ∀ jj, E jj s1 → ∃ r, E jj r ∧ Fin B n0 μ' S' w' r a' w' := fun jj hjj => ⟨s1, hjj, μ', S', hd', hσ', he', hn', (Ext.refl μ' S' w').toB _⟩
                  cases j1 with
                  | fin => subst hex; exact lift _ _ _ (ih h hokk hh' n0 ρ μ' S' w' a' hr hn' hd' hσ' he' (hx.ext hxx))
                  | ret => subst hex; cases h; exact lift _ _ _ (WPx_ret (Q := FinΦ (C.with B E) n0 μ' S' w') (hereS .ret hE) k)
                  | exit id =>
                    subst hex
                    simp only [scopeE] at h
                    split at h
                    · rename_i k'' hk''
                      exact lift _ _ _ (WPx_exit hk'' (ih h (fun y hy => hokk y (exit_sub hk'' y hy)) (hh'.exit hk'') n0 ρ μ' S' w' a' hr hn' hd' hσ' he' (hx.ext hxx)))
                    · rename_i hk''
                      cases h
                      exact lift _ _ _ (WPx_exitNone (Q := FinΦ (C.with B E) n0 μ' S' w') (hereS (.exit id) hE) hk'')
                  | goto l => cases h
                -- a round of the scope
                have round : ∀ (m : Nat) (c0 : Code) (s0 : St) (μ' : Nat → Option KS) (S' : Nat → Prop) (w' : World) (a' : Act), okCode c0 = true → scopeC (runC P tb n C) lab rest m [.code c0] s0 = .ok j1 s1 → Marks n0 S' w' a'.defers → StoRep μ' S' w' s0.sto → EnvRep μ' S' w' s0.env a'.tmps → a'.tmps.size = s0.nt → Ext μ S w μ' S' w' →
                    c0.wpIn (wide ρ) 0 P (Exit.jump lab (fun a w'' => ∃ M, M < m ∧ ∃ s2 μ2 S2, scopeC (runC P tb n C) lab rest M [.code rest] s2 = .ok j1 s1 ∧ Marks n0 S2 w'' a.defers ∧ StoRep μ2 S2 w'' s2.sto ∧ EnvRep μ2 S2 w'' s2.env a.tmps ∧ a.tmps.size = s2.nt ∧ Ext μ S w μ2 S2 w'') (WPx P ρ (FinΦ (C.with B E) n0 μ S w) (GΦ B n0 μ S w) k)) a' w' := by
                  intro m c0 s0 μ' S' w' a' hc0 hsc0 hd' hσ' he' hn' hxx
                  obtain ⟨m', rfl, j2, s2, hr2, hcase⟩ := scopeC_ok hsc0
                  have hs := ihR C [.code c0] s0 j2 s2 hr2 (fun y hy => by simp at hy; subst hy; exact hc0) trivial (s0.sto.map (·.1)) (fun j' r => j' = j2 ∧ r = s2) ⟨rfl, rfl⟩
                  have hw := hs n0 ρ μ' S' w' a' hr hn' hd' hσ' he' (hx.ext hxx)
                  have hw' : c0.wpIn (wide ρ) 0 P (FinΦ (C.with (s0.sto.map (·.1)) fun j' r => j' = j2 ∧ r = s2) n0 μ' S' w') a' w' := by
                    refine wpIn_mono hw fun e a2 w2 hq => ?_
                    cases e <;> exact hq
                  refine wpIn_mono hw' fun e a2 w2 hq => ?_
                  have go : ∀ (jj : Jmp), (∃ r, (jj = j2 ∧ r = s2) ∧ Fin (s0.sto.map (·.1)) n0 μ' S' w' r a2 w2) → jj = j2 ∧ ∃ μ2 S2, Marks n0 S2 w2 a2.defers ∧ StoRep μ2 S2 w2 s2.sto ∧ EnvRep μ2 S2 w2 s2.env a2.tmps ∧ a2.tmps.size = s2.nt ∧ Ext μ S w μ2 S2 w2 := by
                    rintro jj ⟨r, ⟨e1, rfl⟩, μ2, S2, f1, f2, f3, f4, f5⟩
                    exact ⟨e1, μ2, S2, f1, f2, f3, f4, hxx.trans (f5.all hσ' fun k hk => hk)⟩
                  have fin : ∀ (jj : Jmp) (ex : Exit), ex = jj.ex → jj = j2 → (∀ l, jj ≠ .goto l) → (∃ μ2 S2, Marks n0 S2 w2 a2.defers ∧ StoRep μ2 S2 w2 s2.sto ∧ EnvRep μ2 S2 w2 s2.env a2.tmps ∧ a2.tmps.size = s2.nt ∧ Ext μ S w μ2 S2 w2) → WPx P ρ (FinΦ (C.with B E) n0 μ S w) (GΦ B n0 μ S w) k ex a2 w2 := by
                    intro jj ex hex e1 hno ⟨μ2, S2, f1, f2, f3, f4, f5⟩
                    rcases hcase with ⟨e2, _⟩ | ⟨_, e2, e3⟩
                    · exact absurd (e1.trans e2) (hno lab)
                    · subst e1 e2 e3
                      exact after μ2 S2 w2 a2 ex hex f1 f2 f3 f4 f5
                  cases e with
                  | normal => obtain ⟨e1, f⟩ := go .fin hq; exact fin .fin .normal rfl e1 (fun l h => by cases h) f
                  | ret => obtain ⟨e1, f⟩ := go .ret hq; exact fin .ret .ret rfl e1 (fun l h => by cases h) f
                  | exit id => obtain ⟨e1, f⟩ := go (.exit id) hq; exact fin (.exit id) (.exit id) rfl e1 (fun l h => by cases h) f
                  | goto l =>
                    obtain ⟨e1, μ2, S2, f⟩ := go (.goto l) hq
                    rcases hcase with ⟨e2, hsc2⟩ | ⟨e2, _⟩
                    · have : l = lab := by rw [e2] at e1; cases e1; rfl
                      subst this
                      exact ⟨rfl, m', Nat.lt_succ_self _, s2, μ2, S2, hsc2, f⟩
                    · exact absurd e1.symm (e2 l)
                  | panic ch => exact hq.elim
                  | outgrown => exact hq.elim
                refine scope_wp hrest (fun N a' w' => ∃ s2 μ2 S2, scopeC (runC P tb n C) lab rest N [.code rest] s2 = .ok j1 s1 ∧ Marks n0 S2 w' a'.defers ∧ StoRep μ2 S2 w' s2.sto ∧ EnvRep μ2 S2 w' s2.env a'.tmps ∧ a'.tmps.size = s2.nt ∧ Ext μ S w μ2 S2 w') (wpIn_mono (round n c _ μ S w a hox hsc hd hσ he hn (Ext.refl μ S w)) fun e a' w' hq => ?_) fun N a' w' hJ => ?_
                · cases e with
                  | goto l' =>
                    obtain ⟨e1, M, _, hM⟩ := hq
                    exact ⟨e1, M, hM⟩
                  | _ => exact hq
                · obtain ⟨s2, μ2, S2, f0, f1, f2, f3, f4, f5⟩ := hJ
                  exact round N rest s2 μ2 S2 w' a' okr f0 f1 f2 f3 f4 f5
              · cases h
            · cases h
          | goto lab =>
            cases h
            exact fun n0 ρ μ S w a hr hn hd hσ he hx => wpIn_goto (WPx_gotoNone (Q := FinΦ (C.with B E) n0 μ S w) (here (.goto lab) hE n0 μ S w a hn hd hσ he) hh')
          | refuse _ => cases h
        | scp lab g => cases h
        | blk id =>
          have h : runC P tb n C k s = .ok j t := h
          exact fun n0 ρ μ S w a hr hn hd hσ he hx => ih h hokk hh n0 ρ μ S w a hr hn hd hσ he hx
        | hook hk => cases h
        | loop c c0 =>
          have hi := ih h (fun y hy => by
            simp only [List.mem_cons] at hy
            rcases hy with rfl | rfl | hy
            · exact hox
            · exact hox
            · exact hokk y hy) hh
          exact fun n0 ρ μ S w a hr hn hd hσ he hx => inLoop_round (wpIn_mono (hi n0 ρ μ S w a hr hn hd hσ he hx) fun e a w hq => by cases e <;> exact hq)
        | ops all rest dr acc =>
          have hh' : noHook k := hh
          cases dr with
          | true => exact fun n0 ρ μ S w a hr hn hd hσ he hx => trivial
          | false =>
            cases rest with
            | nil =>
              have h : runC P tb n C k s = .ok j t := h
              exact fun n0 ρ μ S w a hr hn hd hσ he hx => ih h hokk hh' n0 ρ μ S w a hr hn hd hσ he hx
            | cons o rest =>
              have h : opsK P tb (runC P tb n) C all o rest false acc k s.env s.sto s.clk s.nt = .ok j t := h
              have hpo : o.plainOp = true := hox o (by simp)
              have okr : ∀ acc', ∀ y ∈ (It.ops all rest false acc' :: k), okIt y := fun acc' y hy => by
                simp only [List.mem_cons] at hy
                rcases hy with rfl | hy
                · exact fun o' ho' => hox o' (List.mem_cons_of_mem _ ho')
                · exact hokk y hy
              by_cases hpl : inPlace P tb s.env false o = false ∨ wantedA all s.env o = some false
              · intro n0 ρ μ S w a hr hn hd hσ he hx
                show wpListIn P ρ all.toArray (WPx P ρ (FinΦ (C.with B E) n0 μ S w) (GΦ B n0 μ S w) k) (o :: rest) a w
                obtain ⟨q, e, s1, acc', hq, h1, h2, _, _, h4, h5, h6⟩ := opsK_step htb ihR h hpl
                obtain ⟨env, hp, rfl⟩ := app_parts h2
                have := opA_ok hx.1 hq (a := a) h1 hσ he (K := wpListIn P ρ all.toArray (WPx P ρ (FinΦ (C.with B E) n0 μ S w) (GΦ B n0 μ S w) k) rest) (Q := WPx P ρ (FinΦ (C.with B E) n0 μ S w) (GΦ B n0 μ S w) k) (fun v μ' S' w' r1 r2 r3 => by
                  obtain ⟨e1, e2⟩ := (he.mono r3.keys r3.st r3.mem).put hn r1 hp
                  have hi := ih h4 (okr _) hh' n0 ρ μ' S' w' _ hr e2 (by rw [put_defers rfl]; exact hd.mono r3.st r3.mem r3.size) r2 e1 (hx.ext r3)
                  exact WPx_mono (P := P) (fin_mono (C := C.with B E) (r3.toB _)) (g_mono (r3.toB _)) _ _ _ _ hi)
                unfold wpListIn
                split
                · rename_i hw; rw [if_pos hw] at this; exact wp_to_In hpo this
                · rename_i hw; rw [if_neg hw] at this; exact this
              · simp only [not_or] at hpl
                obtain ⟨hpq, hpw⟩ := hpl
                have hpq : inPlace P tb s.env false o = true := by simpa using hpq
                obtain ⟨env, sto, clk, nt⟩ := s
                simp only at h hpq hpw
                unfold opsK at h
                rw [wantedF_eq] at h
                split at h
                · rename_i hw; exact absurd hw hpw
                · rename_i hw
                  unfold opK at h
                  simp only [evF_eq] at h
                  unfold inPlace at hpq
                  split at h
                  · -- a call that is gone through
                    rename_i f args hcal
                    rw [hcal] at hpq
                    simp only [Bool.not_eq_true'] at hpq
                    rw [hpq] at h
                    simp only at h
                    unfold inlK at h
                    split at h
                    · rename_i fn hf
                      split at h
                      · rename_i c hfb
                        split at h
                        · rename_i q1
                          rw [forced_eq] at h
                          obtain ⟨ok1, ok2, ok3⟩ := okFn_spec (okFnQ_ok q1) hfb
                          obtain ⟨j0, sc, hrun0⟩ : ∃ j0 sc, runC P tb n ⟨false, [], f, tb.zs f⟩ [.code c] ⟨envOf 0 args, sto, clk, fn.ntmps⟩ = .ok j0 sc := by
                            cases hr : runC P tb n ⟨false, [], f, tb.zs f⟩ [.code c] ⟨envOf 0 args, sto, clk, fn.ntmps⟩ with
                            | ok j0 sc => exact ⟨j0, sc, rfl⟩
                            | bad l => rw [hr] at h; cases h
                            | ask g qs => rw [hr] at h; cases h
                            | ret rs => rw [hr] at h; cases h
                          rw [hrun0] at h
                          have hE' : (j0 = .fin ∨ j0 = .ret) ∧ ∃ xs, results? P sc.env sc.sto fn.results.toList = some xs ∧ ∃ env2, putE o.dst nt (single xs) env = some env2 ∧ runC P tb n C (.ops all rest false acc :: k) ⟨env2, sc.sto, sc.clk, nt⟩ = .ok j t := by
                            cases j0 with
                            | exit id => cases h
                            | goto l => cases h
                            | fin =>
                              refine ⟨.inl rfl, ?_⟩
                              simp only [inlE] at h
                              split at h
                              · rename_i xs hxs
                                rw [forcedA_eq] at h
                                exact ⟨xs, hxs, putF_spec h⟩
                              · cases h
                            | ret =>
                              refine ⟨.inr rfl, ?_⟩
                              simp only [inlE] at h
                              split at h
                              · rename_i xs hxs
                                rw [forcedA_eq] at h
                                exact ⟨xs, hxs, putF_spec h⟩
                              · cases h
                          obtain ⟨hj0, xs, hxs, env2, hput, hE'⟩ := hE'
                          have hs := ihR _ _ _ _ _ hrun0 (fun y hy => by simp at hy; subst hy; exact ok3) trivial (sto.map (·.1)) (fun j' r => j' = j0 ∧ r = sc) ⟨rfl, rfl⟩
                          intro n0 ρ μ S w a hr hn hd hσ he hx
                          show wpListIn P ρ all.toArray (WPx P ρ (FinΦ (C.with B E) n0 μ S w) (GΦ B n0 μ S w) k) (o :: rest) a w
                          obtain ⟨vs, hargs, hrun⟩ := prep_call (P := P) (σ := sto) he.ev (calleeC_prep (P := P) (σ := sto) (k := 0) hcal)
                          obtain ⟨k1, k2⟩ := calls_of_sat (R := fun e w'' => match e with
                              | .returned v => wpListIn P ρ all.toArray (WPx P ρ (FinΦ (C.with B E) n0 μ S w) (GΦ B n0 μ S w) k) rest (a.put o.dst v) w''
                              | .panicked chain => WPx P ρ (FinΦ (C.with B E) n0 μ S w) (GΦ B n0 μ S w) k (.panic chain) a w''
                              | .outgrown => LetsOut (WPx P ρ (FinΦ (C.with B E) n0 μ S w) (GΦ B n0 μ S w) k)) hf hfb (okFnQ_ok q1) hs hσ hargs (CxOk.nil hx.1)
                            (fun j' r a' μ' S' w' hj hEr m2 m3 m5 => by
                              obtain ⟨rfl, rfl⟩ := hEr
                              obtain ⟨us, hru, hp⟩ := results_ok (P := P) (fn := fn) m2 m3 hxs
                              refine ⟨_, hru, ?_⟩
                              have m6 := ExtB.all hσ (fun k hk => hk) m5
                              obtain ⟨e1, e2⟩ := (he.ext m6).put hn (single_rep hp) hput
                              have hi := ih hE' (okr _) hh' n0 ρ μ' S' w' _ hr e2 (by rw [put_defers rfl]; exact hd.mono m5.st m5.mem m5.size) m2 e1 (hx.ext m6)
                              exact WPx_mono (P := P) (fin_mono (C := C.with B E) (m6.toB _)) (g_mono (m6.toB _)) _ _ _ _ hi)
                            (fun j' r h1 h2 hEr => by obtain ⟨rfl, _⟩ := hEr; rcases hj0 with e | e; exact h1 e; exact h2 e)
                          unfold wpListIn
                          rw [wantedA_ok he hw, if_pos rfl]
                          refine ⟨fun _ _ => trivial, ?_⟩
                          rw [Oper.semAt_eq _ _ _ (plainOp_spec hpo), hrun, k2, Oper.uponIn_enter]
                          refine ⟨fun h => by simp [wide, Fence.wide] at h, callsIn_wideR.2 ((callsIn_wideR.1 k1).mono fun e w'' he => ?_)⟩
                          cases e <;> exact he
                        · cases h
                      · cases h
                    · cases h
                  · rename_i hcal
                    rw [hcal] at hpq
                    simp only at hpq
                    split at h
                    · -- a round
                      rename_i kl args hyl
                      unfold yldK at h
                      split at h
                      · rename_i cx hcxl hlp
                        rw [lkF_eq] at hlp
                        split at h
                        · rename_i envR hcond hput
                          simp only [Bool.and_eq_true] at hcond
                          obtain ⟨q3, q4⟩ := hcond
                          rw [forced_eq] at h
                          have hmem := lkCx_mem hcxl
                          obtain ⟨ja, sa, hra⟩ : ∃ ja sa, runC P tb n ⟨true, [], C.fn, C.z⟩ [.code cx.assign] ⟨envR, sto, clk, cx.nt⟩ = .ok ja sa := by
                            cases hr : runC P tb n ⟨true, [], C.fn, C.z⟩ [.code cx.assign] ⟨envR, sto, clk, cx.nt⟩ with
                            | ok j0 sc => exact ⟨j0, sc, rfl⟩
                            | bad l => rw [hr] at h; cases h
                            | ask g qs => rw [hr] at h; cases h
                            | ret rs => rw [hr] at h; cases h
                          rw [hra] at h
                          cases ja with
                          | ret => cases h
                          | exit id => cases h
                          | goto l => cases h
                          | fin =>
                            simp only [yldA] at h
                            split at h
                            · rename_i hlp1
                              rw [lkF_eq] at hlp1
                              rw [forced_eq, insF_eq] at h
                              obtain ⟨jb, sb, hrb⟩ : ∃ jb sb, runC P tb n ⟨true, [], C.fn, C.z⟩ [.code cx.body] ⟨sa.env, ins kl (.lp true true none) sa.sto, sa.clk, sa.nt⟩ = .ok jb sb := by
                                cases hr : runC P tb n ⟨true, [], C.fn, C.z⟩ [.code cx.body] ⟨sa.env, ins kl (.lp true true none) sa.sto, sa.clk, sa.nt⟩ with
                                | ok j0 sc => exact ⟨j0, sc, rfl⟩
                                | bad l => rw [hr] at h; cases h
                                | ask g qs => rw [hr] at h; cases h
                                | ret rs => rw [hr] at h; cases h
                              rw [hrb] at h
                              simp only [yldE] at h
                              split at h
                              · rename_i hlp2
                                rw [lkF_eq] at hlp2
                                rw [forced_eq, insF_eq] at h
                                obtain ⟨env2, hput2, hE'⟩ := putF_spec h
                                have hs1 := ihR _ _ _ _ _ hra (fun y hy => by simp at hy; subst hy; exact okCodeQ_ok q3) trivial (sto.map (·.1)) (fun j' r => j' = .fin ∧ r = sa) ⟨rfl, rfl⟩
                                have hs2 := ihR _ _ _ _ _ hrb (fun y hy => by simp at hy; subst hy; exact okCodeQ_ok q4) trivial ((ins kl (.lp true true none) sa.sto).map (·.1)) (fun j' r => j' = jb ∧ r = sb) ⟨rfl, rfl⟩
                                intro n0 ρ μ S w a hr hn hd hσ he hx
                                show wpListIn P ρ all.toArray (WPx P ρ (FinΦ (C.with B E) n0 μ S w) (GΦ B n0 μ S w) k) (o :: rest) a w
                                obtain ⟨l, tmps, ps, as, bd, rec, g1, g2, g3, g4, g5, g6, g7, g8, _⟩ := lp_set hσ hlp
                                obtain ⟨henv, hnt, hps, has, hbd⟩ : EnvRep μ S w cx.env tmps ∧ tmps.size = cx.nt ∧ ps = cx.ps ∧ as = cx.assign ∧ bd = cx.body := by
                                  rcases hx.2 _ hmem with e | ⟨l', tm', e, x1, x2⟩
                                  · simp only at e; rw [g1] at e; cases e
                                  · simp only at e; rw [g1] at e; cases e
                                    exact ⟨x1, x2, rfl, rfl, rfl⟩
                                obtain ⟨vs, hargs, hrun⟩ := yieldA_run (P := P) he.ev hyl g1
                                subst hps has hbd
                                obtain ⟨r1, r2, r3⟩ := putAll_rep hput henv hnt hargs
                                have hsize : vs.toArray.size = rec.params.size := by
                                  have : rec.params.toList.length = vs.length := by rw [g5, r3]
                                  simpa using this.symm
                                unfold wpListIn
                                rw [wantedA_ok he hw, if_pos rfl]
                                refine ⟨fun _ _ => trivial, ?_⟩
                                rw [Oper.semAt_eq _ _ _ (plainOp_spec hpo), hrun, run_yield g2 hsize, Oper.uponIn_round]
                                refine ⟨fun h => by simp [wide, Fence.wide] at h, ?_⟩
                                have etmps : ((rec.params.zip vs.toArray).foldl (fun t (x : Nat × Value) => t.setIfInBounds x.1 x.2) rec.tmps) = (cx.ps.zip vs).foldl (fun t p => t.setIfInBounds p.1 p.2) tmps := by
                                  rw [g8, ← g5, ← Array.foldl_toList, Array.toList_zip]
                                refine roundIn_of_wpIn (F := wide ρ) trivial ?_
                                rw [g6, g7]
                                have hw1 := hs1 ⟨w.heap.size, []⟩ (some l) μ S w { tmps := (cx.ps.zip vs).foldl (fun t p => t.setIfInBounds p.1 p.2) tmps, defers := [] } rfl r2 (Marks.nil (Nat.le_refl _)) hσ r1 (CxOk.nil hx.1)
                                have hw1' : cx.assign.wpIn (wide (some l)) 0 P (FinΦ _ ⟨w.heap.size, []⟩ μ S w) _ w := hw1
                                rw [show ((rec.params.zip vs.toArray).foldl (fun tmps (x : Nat × Value) => match x with | (t, a) => tmps.setIfInBounds t a) rec.tmps) = (cx.ps.zip vs).foldl (fun t p => t.setIfInBounds p.1 p.2) tmps from etmps]
                                refine wpIn_mono hw1' fun e1 a1 w1 hq1 => ?_
                                have no1 : ∀ (j : Jmp), j ≠ .fin → ¬ ∃ r, (fun j' r => j' = Jmp.fin ∧ r = sa) j r ∧ Fin (sto.map (·.1)) ⟨w.heap.size, []⟩ μ S w r a1 w1 := fun j hj ⟨r, ⟨e, _⟩, _⟩ => hj e
                                cases e1 with
                                | normal =>
                                  obtain ⟨ra, ⟨_, rfl⟩, μ1, S1, n1, n2, n3, n4, n5⟩ := hq1
                                  have n6 := ExtB.all hσ (fun k hk => hk) n5
                                  obtain ⟨l1, tm1, ps1, as1, bd1, rec1, u1, u2, u3, u4, u5, u6, u7, u8, u9⟩ := lp_set n2 hlp1
                                  have hl1 : l1 = l := by
                                    rcases n6.keys kl _ g1 with e | e
                                    · rw [u1] at e; cases e; rfl
                                    · rw [u1] at e; cases e
                                  subst hl1
                                  obtain ⟨v1, v2⟩ := u9 { rec1 with state := .busy } true rfl rfl rfl rfl rfl
                                  rw [show Blk.lp true true ({ rec1 with state := LoopState.busy } : Loop).pending = Blk.lp true true none from by show Blk.lp true true rec1.pending = _; rw [u4]] at v1
                                  refine ⟨_, run_beginRound u2 (by rw [u3]; rfl), ?_⟩
                                  have hw2 := hs2 ⟨w.heap.size, []⟩ (some l1) μ1 S1 _ a1 rfl n4 (n1.mono v2.st v2.mem v2.size) v1 (n3.mono v2.keys v2.st v2.mem) (CxOk.nil ((hx.1.mono n5.st n5.mem).mono v2.st v2.mem))
                                  have hw2' : cx.body.wpIn (wide (some l1)) 0 P (FinΦ _ ⟨w.heap.size, []⟩ μ1 S1 _) a1 _ := hw2
                                  refine wpIn_mono hw2' fun e2 a2 w3 hq2 => ?_
                                  have endR : ∀ (j0 : Jmp), (∃ r, (fun j' r => j' = jb ∧ r = sb) j0 r ∧ Fin ((ins kl (.lp true true none) ra.sto).map (·.1)) ⟨w.heap.size, []⟩ μ1 S1 (w1.putObj l1 (.loop { rec1 with state := .busy })) r a2 w3) →
                                      ∃ v w', (Instr.endRound l1 j0.pend).run P w3 = .ok v w' ∧ wpListIn P ρ all.toArray (WPx P ρ (FinΦ (C.with B E) n0 μ S w) (GΦ B n0 μ S w) k) rest (a.put o.dst v) w' := by
                                    rintro j0 ⟨r, ⟨rfl, rfl⟩, μ2, S2, _, z2, _, _, z5⟩
                                    have z6 := ExtB.all v1 (fun k hk => hk) z5
                                    obtain ⟨l2, tm2, ps2, as2, bd2, rec2, y1, y2, y3, y4, y5, y6, y7, y8, y9⟩ := lp_set z2 hlp2
                                    have hl2 : l2 = l1 := by
                                      rcases n6.keys kl _ g1 with e | e
                                      · rcases z6.keys kl _ e with e' | e'
                                        · rw [y1] at e'; cases e'; rfl
                                        · rw [y1] at e'; cases e'
                                      · rw [u1] at e; cases e
                                    subst hl2
                                    refine ⟨_, _, run_endRound j0.pend y2, ?_⟩
                                    obtain ⟨t1, t2⟩ := y9 { rec2 with state := if j0.pend.isNone then .ready else .done, pending := j0.pend } false (by simp) rfl rfl rfl rfl
                                    have total : Ext μ S w μ2 S2 _ := ((n6.trans v2).trans z6).trans t2
                                    have hbool : RepA μ2 S2 (w3.putObj l2 (.loop { rec2 with state := if j0.pend.isNone then .ready else .done, pending := j0.pend })) (.pv (.lit (.bool j0.pend.isNone))) (.bool j0.pend.isNone) := .pv (.lit rfl)
                                    obtain ⟨o1, o2⟩ := (he.ext total).put hn hbool hput2
                                    have hi := ih hE' (okr _) hh' n0 ρ μ2 S2 _ _ hr o2 (by rw [put_defers rfl]; exact hd.mono total.st total.mem total.size) t1 o1 (hx.ext total)
                                    exact WPx_mono (P := P) (fin_mono (C := C.with B E) (total.toB _)) (g_mono (total.toB _)) _ _ _ _ hi
                                  cases e2 with
                                  | normal => exact endR .fin hq2
                                  | ret => exact endR .ret hq2
                                  | exit id => exact endR (.exit id) hq2
                                  | goto t => exact endR (.goto t) hq2
                                  | panic ch => exact hq2.elim
                                  | outgrown => exact hq2.elim
                                | ret => exact (no1 .ret (by simp) hq1).elim
                                | exit id => exact (no1 (.exit id) (by simp) hq1).elim
                                | goto t => exact (no1 (.goto t) (by simp) hq1).elim
                                | panic ch => exact hq1.elim
                                | outgrown => exact hq1.elim
                              · cases h
                            · cases h
                        · cases h
                      · cases h
                    · rename_i hyl
                      rw [hyl] at hpq; cases hpq
                · cases h

/-- A function's contract at arguments, by a run. -/
theorem ct_run {tb : Tbl} (htb : tb.Ok P) (hmix : P.follows .mixedOrders = true) (l : List (Nat × List PV × List RV)) (hl : AllCt P l) (n : Nat) {f : Nat} {ps : List PV} {rs : List RV} (h : tryC P (tb.plus l) n f ps = .ret rs) : Ct P f ps rs := by
  obtain ⟨rs', h1, h2⟩ := callC_ok (runC_ok (Tbl.plus_ok htb hl) hmix n) (r := .ret rs) trivial h
  cases h2
  exact h1
end Go.Mir
