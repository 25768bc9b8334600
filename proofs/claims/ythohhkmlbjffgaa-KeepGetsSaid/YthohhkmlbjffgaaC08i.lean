import Derived.Test.YthohhkmlbjffgaaC08h
namespace Go.Proofs.Ythohhkmlbjffgaa.M
open Go Go.Mir Go.Proofs Go.RowKit
set_option maxRecDepth 100000
abbrev zI : PV := .agg [I 0, I 0, I 0, I 0, I 0, I 0, .sl true [], .sl true []]
theorem get20n (lf : Bool) (n u : Int) (l : List Item) (hl : l.length < 4611686018427387904) (h : l.findIdx? (fun a => a.seq == u) = none) : call E 20 [.agg [I n, .sl lf (l.map eI)], I u] = some [.pv zI, .pv (B false)] := by
  have hp := place32 33 u (fun n => n == u) (fun n => get33 u n) lf n l hl
  have e : idxOf (fun n => n == u) l = -1 := by unfold idxOf; rw [h]
  rw [e] at hp
  exact callQ (fn := Try.f20) 200 [(6, .call [.pv (I (-1))])] (qs := [call E 32 [.agg [I n, .sl lf (l.map eI)], .fn (.func 33) [] [.ip [I u] 0]] = some [.pv (I (-1))]]) rfl rfl (Nat.le_of_ble_eq_true rfl) (by kernel_rfl) (Holds.cons hp Holds.nil)
theorem get20s (lf : Bool) (n u : Int) (l : List Item) (hl : l.length < 4611686018427387904) (i : Nat) (a : Item) (h : l.findIdx? (fun a => a.seq == u) = some i) (hg : l[i]? = some a) : call E 20 [.agg [I n, .sl lf (l.map eI)], I u] = some [.pv (eI a), .pv (B true)] := by
  have hp := place32 33 u (fun n => n == u) (fun n => get33 u n) lf n l hl
  have e : idxOf (fun n => n == u) l = i := by unfold idxOf; rw [h]
  rw [e] at hp
  have h0 : ¬ (i : Int) < 0 := by omega
  have h1 : (0 : Int) ≤ (i : Int) := by omega
  refine callQ (fn := Try.f20) 200 [(6, .call [.pv (I i)]), (9, .val (.pv (B false))), (13, .eff ⟨.pv (.ip (eI a).cells 0), [], []⟩)] (qs := [call E 32 [.agg [I n, .sl lf (l.map eI)], .fn (.func 33) [] [.ip [I u] 0]] = some [.pv (I i)], AV.pv (B (decide ((i : Int) < 0))) = .pv (B false),
    indexAddrE E.P 22 (.pv (.sl lf (l.map eI))) (.pv (I i)) [(65552, .box true [.pv (I n), .pv (.sl lf (l.map eI))]), (65560, .box true [.pv (I u)]), (65568, .box true (zI.cells.map .pv))] = some ⟨.pv (.ip (eI a).cells 0), [], []⟩]) rfl rfl (Nat.le_of_ble_eq_true rfl) (by kernel_rfl) (Holds.cons hp (Holds.cons (by rw [decide_eq_false h0]) (Holds.cons ?_ Holds.nil)))
  simp only [indexAddrE, EP, Try.underlying22, asI, List.getElem?_map, hg, Int.toNat_natCast, Option.map_some, h1, if_true, sz28, PV.cells, valE, List.length_cons, List.length_nil]
  rw [if_pos ⟨trivial, by omega⟩]
end Go.Proofs.Ythohhkmlbjffgaa.M
