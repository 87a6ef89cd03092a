/- 'Plus', 'Of', 'Minus', 'Int' of the reference, walked. -/
import Derived.Test.YtjjmhmbmjpedkaaBigSub
namespace Go.Proofs.Ytjjmhmbmjpedkaa
open Go.RowKit
theorem loadBig {ops : Array Oper} {rest : List Oper} {o : Oper} {a : Act} {w : World} {Q : Exit → Act → World → Prop} (hgd : o.guard = none) (x : Operand) (ho : o.op = .load 107 x) (g : Nat) (hx : a.eval x = .pointer (some ⟨g, 0, none⟩))
    (f : Nat → Nat) (neg : Bool) (hg : Blk w g (arr f neg) 107) (h : wpList Try.prog ops Q rest (a.put o.dst (.agg (arr f neg))) w) : wpList Try.prog ops Q (o :: rest) a w :=
  wpList_load_row hgd 107 x ho g hx 107 (arr f neg) (0, 0) _ hg Try.underlying107 rfl (by kernel_rfl) h
theorem storeBig {ops : Array Oper} {rest : List Oper} {o : Oper} {a : Act} {w : World} {Q : Exit → Act → World → Prop} (hgd : o.guard = none) (x y : Operand) (ho : o.op = .store 107 x y) (g : Nat) (f : Nat → Nat) (neg : Bool) (hx : a.eval x = .pointer (some ⟨g, 0, none⟩)) (hy : a.eval y = .agg (arr f neg))
    (old : Array Value) (hg : Blk w g old 107) (ho2 : old.size = 11) (h : wpList Try.prog ops Q rest (a.put o.dst undef) (w.setRow g (arr f neg))) : wpList Try.prog ops Q (o :: rest) a w :=
  wpList_store_row hgd 107 x y ho g (arr f neg) hx hy 107 old hg (by kernel_rfl) ho2 (arr_one _ _) h
theorem retBig {fn : Func} {p : Tmp} (h : fn.results = #[.cell p 107]) (tmps : Array Value) (w : World) (g : Nat) (f : Nat → Nat) (neg : Bool) (hp : tmps.getD p undef = .pointer (some ⟨g, 0, none⟩)) (hg : Blk w g (arr f neg) 107) : (results fn tmps).run Try.prog w = .ok (.agg (arr f neg)) w :=
  results_cell_row h tmps w g 107 (arr f neg) (0, 0) _ hp hg Try.underlying107 rfl (by kernel_rfl)
set_option maxRecDepth 100000 in
set_option maxHeartbeats 1000000 in
theorem plus_same (n m : Nat) (na : Bool) (w : World) :
    Calls Try.prog 59 #[bigM n na, bigM m na] w fun e w' => e = .returned (bigM (n + m) na) ∧ Below w.heap.size w w' := by
  unfold bigM
  have hn := arr_neg (limb n) na
  have hm := arr_neg (limb m) na
  go_enter Try.func59, Try.ntmps59
  have hbool : ((na == na) = true) := by simp
  obtain ⟨h1, h2, h3, hb⟩ := al3 w (.cells (arr (limb n) na) 107) (.cells (arr (limb m) na) 107) (.cells (arr (fun _ => 0) false) 107)
  rw [arr_zero] at h1 h2 h3 hb
  have H1 := hid h1; have H2 := hid h2; have H3 := hid h3; have HB := hid hb
  clear h1 h2 h3 hb
  go_wp2_with (first
    | (refine loadBig rfl (.tmp 2) rfl w.heap.size rfl (limb n) na H1.out ?_)
    | (refine loadBig rfl (.tmp 3) rfl (w.heap.size + 1) rfl (limb m) na H2.out ?_))
  refine (radd_any n m na na _).mono ?_
  rintro e W1 ⟨rfl, hb1⟩
  have K3 := hid (Blk.below (show Blk _ (w.heap.size + 1 + 1) _ 107 from H3.out) hb1 (Nat.le_refl _))
  have B1 := hid (HB.out.trans (hb1.mono HB.out.size))
  clear hb1 hn hm hbool H1 H2 H3 HB
  go_wp2_with (refine storeBig rfl (.tmp 4) (.tmp 13) rfl (w.heap.size + 1 + 1) (limb (n + m)) na rfl rfl _ (K3.out) rfl ?_)
  refine bodyPost_ret (retBig rfl _ _ (w.heap.size + 1 + 1) (limb (n + m)) na rfl (K3.out.setRow _)) rfl ⟨rfl, ?_⟩
  exact B1.out.trans (Below_setRow (Below.refl _ _) (by omega) _)
/-- What is left of two numbers of unlike signs. -/
def diffM (n m : Nat) (na nb : Bool) : Value := if n < m then bigM (m - n) nb else bigM (n - m) (if n = m then false else na)
set_option maxRecDepth 100000 in
set_option maxHeartbeats 2000000 in
theorem plus_less (n m : Nat) (na nb : Bool) (hne : na ≠ nb) (hn3 : n < lim) (hm3 : m < lim) (hlt : n < m) (w : World) :
    Calls Try.prog 59 #[bigM n na, bigM m nb] w fun e w' => e = .returned (bigM (m - n) nb) ∧ Below w.heap.size w w' := by
  unfold bigM
  have hn := arr_neg (limb n) na
  have hm := arr_neg (limb m) nb
  have hbool : ((na == nb) = false) := by simpa using hne
  have HN := hid hn3; have HM := hid hm3; have HL := hid hlt
  clear hn3 hm3 hne hlt
  go_enter Try.func59, Try.ntmps59
  obtain ⟨h1, h2, h3, hb⟩ := al3 w (.cells (arr (limb n) na) 107) (.cells (arr (limb m) nb) 107) (.cells (arr (fun _ => 0) false) 107)
  rw [arr_zero] at h1 h2 h3 hb
  have H1 := hid h1; have H2 := hid h2; have H3 := hid h3; have HB := hid hb
  clear h1 h2 h3 hb
  go_wp2_with (first
    | (refine loadBig rfl (.tmp 2) rfl w.heap.size rfl (limb n) na H1.out ?_)
    | (refine loadBig rfl (.tmp 3) rfl (w.heap.size + 1) rfl (limb m) nb H2.out ?_))
  refine (rless_any n m na nb HN.out HM.out _).mono ?_
  rintro e W1 ⟨rfl, hb1⟩
  rw [decide_eq_true HL.out]
  have K1 := hid (Blk.below (show Blk _ w.heap.size _ 107 from H1.out) hb1 (Nat.le_refl _))
  have K2 := hid (Blk.below (show Blk _ (w.heap.size + 1) _ 107 from H2.out) hb1 (Nat.le_refl _))
  have K3 := hid (Blk.below (show Blk _ (w.heap.size + 1 + 1) _ 107 from H3.out) hb1 (Nat.le_refl _))
  have B1 := hid (HB.out.trans (hb1.mono HB.out.size))
  clear hb1 hn hm hbool H1 H2 H3 HB
  have L2 := hid ((K2.out.otherRow (k := w.heap.size) (arr (limb m) nb) (by omega)).setRow (arr (limb n) na))
  have L1 := hid ((K1.out.setRow (arr (limb m) nb)).otherRow (k := w.heap.size + 1) (arr (limb n) na) (by omega))
  have L3 := hid ((K3.out.otherRow (k := w.heap.size) (arr (limb m) nb) (by omega)).otherRow (k := w.heap.size + 1) (arr (limb n) na) (by omega))
  have LB := hid (Below_setRow (Below_setRow B1.out (Nat.le_refl _) (arr (limb m) nb)) (show w.heap.size ≤ w.heap.size + 1 by omega) (arr (limb n) na))
  go_wp2_with (first
    | (refine loadBig rfl (.tmp 3) rfl (w.heap.size + 1) rfl (limb m) nb K2.out ?_)
    | (refine loadBig rfl (.tmp 2) rfl w.heap.size rfl (limb n) na K1.out ?_)
    | (refine storeBig rfl (.tmp 2) (.tmp 17) rfl w.heap.size (limb m) nb rfl rfl _ (K1.out) rfl ?_)
    | (refine storeBig rfl (.tmp 3) (.tmp 18) rfl (w.heap.size + 1) (limb n) na rfl rfl _ ((K2.out.otherRow _ (by omega))) rfl ?_)
    | (refine loadBig rfl (.tmp 2) rfl w.heap.size rfl (limb m) nb L1.out ?_)
    | (refine loadBig rfl (.tmp 3) rfl (w.heap.size + 1) rfl (limb n) na L2.out ?_))
  generalize (W1.setRow w.heap.size (arr (limb m) nb)).setRow (w.heap.size + 1) (arr (limb n) na) = W2 at *
  refine (rsub_any m n nb na (Nat.le_of_lt HL.out) _).mono ?_
  rintro e W3 ⟨rfl, hb3⟩
  clear K1 K2 K3 L1 L2
  have M3 := hid (L3.out.below hb3 (Nat.le_refl _))
  have MB := hid (LB.out.trans (hb3.mono LB.out.size))
  clear hb3 L3
  have hsz : ∀ k, k < w.heap.size + 1 + 1 + 1 → k < W3.heap.size ∨ k = w.heap.size + 1 + 1 := fun k hk => by have := M3.out.lt; omega
  have HS := hid hsz; clear hsz
  go_wp2_with (first
    | (refine storeBig rfl (.tmp 5) (.tmp 21) rfl W3.heap.size (limb (m - n)) nb rfl rfl _ (.new rfl) rfl ?_)
    | (refine loadBig rfl (.tmp 5) rfl W3.heap.size rfl (limb (m - n)) nb ((Blk.new rfl).setRow _) ?_))
  refine (rzero_any (m - n) nb (by have := HM.out; omega) _).mono ?_
  rintro e W4 ⟨rfl, hb4⟩
  rw [decide_eq_false (show ¬ (m - n = 0) by have := HL.out; omega)]
  have N5 := hid (Blk.below ((Blk.new (w := W3) rfl).setRow (arr (limb (m - n)) nb)) hb4 (Nat.le_refl _))
  have N3 := hid (Blk.below ((M3.out.alloc _).otherRow (arr (limb (m - n)) nb) (by have := M3.out.lt; omega)) hb4 (Nat.le_refl _))
  have NB := hid ((Below_setRow (MB.out.alloc MB.out.size _) (g := W3.heap.size) MB.out.size (arr (limb (m - n)) nb)).trans (hb4.mono (by have := MB.out.size; simp; omega)))
  clear hb4
  go_wp2_with (first
    | (refine loadBig rfl (.tmp 5) rfl W3.heap.size rfl (limb (m - n)) nb N5.out ?_)
    | (refine storeBig rfl (.tmp 4) (.tmp 25) rfl (w.heap.size + 1 + 1) (limb (m - n)) nb rfl rfl _ N3.out rfl ?_))
  refine bodyPost_ret (retBig rfl _ _ (w.heap.size + 1 + 1) (limb (m - n)) nb rfl (N3.out.setRow _)) rfl ⟨rfl, ?_⟩
  exact NB.out.trans (Below_setRow (Below.refl _ _) (by omega) _)
set_option maxRecDepth 100000 in
set_option maxHeartbeats 2000000 in
theorem plus_ge (n m : Nat) (na nb : Bool) (hne : na ≠ nb) (hn3 : n < lim) (hm3 : m < lim) (hlt : m ≤ n) (r : Bool) (hr0 : r = if n = m then false else na) (w : World) :
    Calls Try.prog 59 #[bigM n na, bigM m nb] w fun e w' => e = .returned (bigM (n - m) r) ∧ Below w.heap.size w w' := by
  unfold bigM
  have hn := arr_neg (limb n) na
  have hm := arr_neg (limb m) nb
  have hbool : ((na == nb) = false) := by simpa using hne
  have HN := hid hn3; have HM := hid hm3; have HL := hid hlt; have HR := hid hr0
  clear hn3 hm3 hne hlt hr0
  go_enter Try.func59, Try.ntmps59
  obtain ⟨h1, h2, h3, hb⟩ := al3 w (.cells (arr (limb n) na) 107) (.cells (arr (limb m) nb) 107) (.cells (arr (fun _ => 0) false) 107)
  rw [arr_zero] at h1 h2 h3 hb
  have H1 := hid h1; have H2 := hid h2; have H3 := hid h3; have HB := hid hb
  clear h1 h2 h3 hb
  go_wp2_with (first
    | (refine loadBig rfl (.tmp 2) rfl w.heap.size rfl (limb n) na H1.out ?_)
    | (refine loadBig rfl (.tmp 3) rfl (w.heap.size + 1) rfl (limb m) nb H2.out ?_))
  refine (rless_any n m na nb HN.out HM.out _).mono ?_
  rintro e W1 ⟨rfl, hb1⟩
  rw [decide_eq_false (show ¬ n < m by have := HL.out; omega)]
  have K1 := hid (Blk.below (show Blk _ w.heap.size _ 107 from H1.out) hb1 (Nat.le_refl _))
  have K2 := hid (Blk.below (show Blk _ (w.heap.size + 1) _ 107 from H2.out) hb1 (Nat.le_refl _))
  have K3 := hid (Blk.below (show Blk _ (w.heap.size + 1 + 1) _ 107 from H3.out) hb1 (Nat.le_refl _))
  have B1 := hid (HB.out.trans (hb1.mono HB.out.size))
  clear hb1 hn hm hbool H1 H2 H3 HB
  go_wp2_with (first
    | (refine loadBig rfl (.tmp 2) rfl w.heap.size rfl (limb n) na K1.out ?_)
    | (refine loadBig rfl (.tmp 3) rfl (w.heap.size + 1) rfl (limb m) nb K2.out ?_))
  refine (rsub_any n m na nb HL.out _).mono ?_
  rintro e W3 ⟨rfl, hb3⟩
  have M3 := hid (K3.out.below hb3 (Nat.le_refl _))
  have MB := hid (B1.out.trans (hb3.mono B1.out.size))
  clear hb3 K1 K2 K3
  go_wp2_with (first
    | (refine storeBig rfl (.tmp 5) (.tmp 21) rfl W3.heap.size (limb (n - m)) na rfl rfl _ (.new rfl) rfl ?_)
    | (refine loadBig rfl (.tmp 5) rfl W3.heap.size rfl (limb (n - m)) na ((Blk.new rfl).setRow _) ?_))
  refine (rzero_any (n - m) na (by have := HN.out; omega) _).mono ?_
  rintro e W4 ⟨rfl, hb4⟩
  have N5 := hid (Blk.below ((Blk.new (w := W3) rfl).setRow (arr (limb (n - m)) na)) hb4 (Nat.le_refl _))
  have N3 := hid (Blk.below ((M3.out.alloc _).otherRow (arr (limb (n - m)) na) (by have := M3.out.lt; omega)) hb4 (Nat.le_refl _))
  have NB := hid ((Below_setRow (MB.out.alloc MB.out.size _) (g := W3.heap.size) MB.out.size (arr (limb (n - m)) na)).trans (hb4.mono (by have := MB.out.size; simp; omega)))
  have hl5 := M3.out.lt
  have HL5 := hid hl5
  clear hb4 hl5
  by_cases heq : n = m
  · have hl := HL.out
    obtain rfl : r = false := by rw [HR.out, if_pos heq]
    rw [decide_eq_true (show n - m = 0 by omega)]
    clear heq hl
    have hc : W4.cell? ⟨W3.heap.size, 10, none⟩ = some (.bool na) := N5.out.cell 10
    have hf := N5.out.frozen 10
    have P5 := hid ((N5.out.setCell 10 (.bool false)))
    have P3 := hid (N3.out.other (k := W3.heap.size) (i := 10) (v := .bool false) (by have := HL5.out; omega))
    have PB := hid (NB.out.setCell (p := ⟨W3.heap.size, 10, none⟩) MB.out.size (.bool false))
    rw [arr_setNeg] at P5
    go_wp2_with (first
      | (refine loadBig rfl (.tmp 5) rfl W3.heap.size rfl (limb (n - m)) false P5.out ?_)
      | (refine storeBig rfl (.tmp 4) (.tmp 25) rfl (w.heap.size + 1 + 1) (limb (n - m)) false rfl rfl _ P3.out rfl ?_))
    refine bodyPost_ret (retBig rfl _ _ (w.heap.size + 1 + 1) (limb (n - m)) false rfl (P3.out.setRow _)) rfl ⟨rfl, ?_⟩
    exact PB.out.trans (Below_setRow (Below.refl _ _) (by omega) _)
  · have hl := HL.out
    obtain rfl : na = r := by rw [HR.out, if_neg heq]
    rw [decide_eq_false (show ¬ n - m = 0 by omega)]
    clear heq hl
    go_wp2_with (first
      | (refine loadBig rfl (.tmp 5) rfl W3.heap.size rfl (limb (n - m)) na N5.out ?_)
      | (refine storeBig rfl (.tmp 4) (.tmp 25) rfl (w.heap.size + 1 + 1) (limb (n - m)) na rfl rfl _ N3.out rfl ?_))
    refine bodyPost_ret (retBig rfl _ _ (w.heap.size + 1 + 1) (limb (n - m)) na rfl (N3.out.setRow _)) rfl ⟨rfl, ?_⟩
    exact NB.out.trans (Below_setRow (Below.refl _ _) (by omega) _)
theorem rPlus_any (x y : Int) (hx : 2 * x.natAbs < lim) (hy : 2 * y.natAbs < lim) (w : World) :
    Calls Try.prog 59 #[bigOf x, bigOf y] w fun e w' => e = .returned (bigOf (x + y)) ∧ Below w.heap.size w w' := by
  have p1 : x.natAbs < lim := by omega
  have p2 : y.natAbs < lim := by omega
  by_cases h : decide (x < 0) = decide (y < 0)
  · refine (show Calls Try.prog 59 #[bigM x.natAbs (decide (x < 0)), bigM y.natAbs (decide (y < 0))] w _ from ?_)
    rw [← h]
    refine (plus_same x.natAbs y.natAbs (decide (x < 0)) w).mono ?_
    rintro e w' ⟨rfl, hb⟩
    refine ⟨?_, hb⟩
    unfold bigOf
    have h2 : (x < 0) ↔ (y < 0) := by simpa using h
    rw [show (x + y).natAbs = x.natAbs + y.natAbs by omega, show decide (x + y < 0) = decide (x < 0) by rw [decide_eq_decide]; omega]
  · have h2 : ¬ ((x < 0) ↔ (y < 0)) := by simpa using h
    by_cases hlt : x.natAbs < y.natAbs
    · refine (plus_less x.natAbs y.natAbs _ _ h p1 p2 hlt w).mono ?_
      rintro e w' ⟨rfl, hb⟩
      refine ⟨?_, hb⟩
      unfold bigOf
      rw [show (x + y).natAbs = y.natAbs - x.natAbs by omega, show decide (x + y < 0) = decide (y < 0) by rw [decide_eq_decide]; omega]
    · refine (plus_ge x.natAbs y.natAbs _ _ h p1 p2 (by omega) _ rfl w).mono ?_
      rintro e w' ⟨rfl, hb⟩
      refine ⟨?_, hb⟩
      unfold bigOf
      rw [show (x + y).natAbs = x.natAbs - y.natAbs by omega]
      split
      · rw [show decide (x + y < 0) = false by rw [decide_eq_false_iff_not]; omega]
      · rw [show decide (x + y < 0) = decide (x < 0) by rw [decide_eq_decide]; omega]
end Go.Proofs.Ytjjmhmbmjpedkaa
