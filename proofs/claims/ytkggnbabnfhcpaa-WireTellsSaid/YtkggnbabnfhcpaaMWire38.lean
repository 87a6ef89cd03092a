import Derived.Test.YtkggnbabnfhcpaaMWire37
import Derived.Test.YtkggnbabnfhcpaaMWire35
import Derived.Test.YtkggnbabnfhcpaaMWire36
import Derived.Test.YtkggnbabnfhcpaaProg
import Derived.Test.YtkggnbabnfhcpaaMWire32
set_option linter.unusedVariables false
section
/- The document's bytes of a request, wholly; walked. -/
namespace Go.Proofs.Ytkggnbabnfhcpaa
open Go.RowKit
theorem askOk_iff {q : Rq} {zs : List Int} (hk : 1 ≤ q.k ∧ q.k ≤ 14) (hz : (numsO q.k).map q.ns = zs) {R : Prop} (hR : R ↔ RestOk q) : (((True ∧ ∀ z ∈ [q.k], inFar z) ∧ ∀ z ∈ zs, inFar z) ∧ R) ↔ AskOk q := by
  subst hz
  constructor
  · rintro ⟨⟨_, h2⟩, h3⟩
    exact ⟨hk, fun o ho => h2 _ (List.mem_map_of_mem ho), hR.1 h3⟩
  · rintro ⟨h1, h2, h3⟩
    refine ⟨⟨⟨trivial, fun z hz => ?_⟩, fun z hz => ?_⟩, hR.2 h3⟩
    · rw [List.mem_singleton.1 hz]
      unfold inFar wfar
      omega
    · obtain ⟨o, ho, rfl⟩ := List.mem_map.1 hz
      exact h2 o ho
theorem restOk_none {q : Rq} (h1 : ¬ q.k ≤ 3) (h2 : ¬ hasLim q.k) (h3 : q.k ≠ 11) (h4 : q.k ≠ 12) : True ↔ RestOk q := ⟨fun _ => ⟨fun c => absurd c h1, fun c => absurd c h2, fun c => absurd c h3, fun c => absurd c h4⟩, fun _ => trivial⟩
theorem wtext_ret (bs : List UInt8) (hl : bs.length ≤ 100000000) (w : World) : Calls Try.prog 31 #[.string (strOf bs)] w (Ret (.string (strOf (textB bs))) w) := fText_any bs hl w
def QAsk (q : Rq) (w : World) (v : Value) (w' : World) : Prop := ∃ (s : ByteArray) (ok : Bool), v = .tuple #[.string s, .bool ok] ∧ (ok = true ↔ AskOk q) ∧ (AskOk q → s = strOf (askB q)) ∧ Below w.heap.size w w'
theorem qask_end {q : Rq} {w w9 : World} {g2 L : Nat} {bs : List UInt8} {P : Prop} (h : DW w9 (fun k => k < w.heap.size) g2 bs P L) (hP : P ↔ AskOk q) (hbs : AskOk q → bs = askB q) (B : Bs w w9) : GWiR.qask_k1 (QAsk q w) g2 w9 := by
  unfold GWiR.qask_k1
  refine drewB B fun w10 b10 B10 _ => ?_
  obtain ⟨bs', bad, k1, k2, k3, k4⟩ := (h.below b10).ex
  obtain ⟨a, c, r1, r2, _⟩ := k1.raw
  refine ⟨a, _, c, by rw [r1.cell]; rfl, bs', rfl, r2.row, bad, k1.c1, strOf bs', !bad, rfl, ?_, fun c => by rw [k3 (hP.2 c), hbs c], B10⟩
  rw [← hP, ← k2]
  cases bad <;> simp
set_option maxHeartbeats 3200000 in
theorem qask_new (q : Rq) (a : RqA) (w : World) (hx : RqIn w q a) : Calls Try.prog 10 #[rqV q a] w fun e w' => ∃ v, e = .returned v ∧ QAsk q w v w' := by
  refine GWiR.qask_calls q.k (q.ns 1) (q.ns 2) (q.ns 3) (q.ns 4) (q.ns 5) (q.ns 6) (q.ns 7) (q.ns 8) (q.ns 9) (q.ns 10) (q.ns 11) a.ia q.items.length a.ic q.plan.day q.plan.frm q.plan.til q.plan.base.grp q.plan.base.mode q.plan.base.block a.pa q.plan.base.ts.length a.pc q.plan.other.grp q.plan.other.mode q.plan.other.block a.qa q.plan.other.ts.length a.qc a.ca q.carry.length a.cc w (QAsk q w) ?_
  unfold GWiR.qask_vc
  refine newB (Bs.refl w) fun g w2 g0 sg n2 z2 b2 B2 => newB B2 fun gw w3 gw0 sgw n3 z3 b3 B3 => ?_
  have kb : ∀ {wx : World}, Below w2.heap.size w2 wx → ∀ q' ∈ [g], ∃ cs t, Bk wx q' cs t ∧ t ≠ 5 ∧ t ≠ 86 := fun b q' hq' => by
    rw [List.mem_singleton] at hq'
    subst hq'
    exact ⟨_, 30, Bk.below (show Bk w2 q' _ _ from n2) b, by decide, by decide⟩
  have h3 : DW w3 (fun k => k < w.heap.size) gw [] True 0 := DW.start n3 (by omega) fun k hk => by have := B3.size; omega
  refine q_lit (zs := [q.k]) h3 (kb b3) (by omega) (by simp) fun w5 h5 f5 => ⟨rfl, ?_⟩
  have B5 := f5.old0 B3 fun _ h => h
  -- the param's box lives on
  have kg : ∀ {wx : World}, YFr (fun k => k < w.heap.size) w5 wx → ∀ q' ∈ [g], ∃ cs t, Bk wx q' cs t ∧ t ≠ 5 ∧ t ≠ 86 := fun f q' hq' => by
    obtain ⟨cs, t, k1, k2, k3⟩ := kb b3 q' hq'
    exact ⟨cs, t, (k1.yfr f5 k2 k3).yfr f k2 k3, k2, k3⟩
  have hbk : ∀ {zs : List Int} {r : List UInt8}, (numsO q.k).map q.ns = zs → r = restB q → ([] ++ [q.k].flatMap uintB ++ zs.flatMap uintB) ++ r = askB q := fun hz hr => by
    subst hz; subst hr
    unfold askB rqHeadB
    rw [List.flatMap_map]
    simp
  -- with nothing behind the numbers
  have plain : ∀ (zs : List Int), (numsO q.k).map q.ns = zs → (1 ≤ q.k ∧ q.k ≤ 14) → (¬ q.k ≤ 3) → ¬ hasLim q.k → q.k ≠ 11 → q.k ≠ 12 → zs.length ≤ 100 → newO w5 (.cells (zs.map iV).toArray 3) fun g_4 w_6 => Calls Try.prog 27 #[.pointer (some ⟨gw, 0, none⟩), .slice (some ⟨g_4, 0, none⟩) zs.length zs.length] w_6 fun e_2 w_7 => KeepG [g] w_6 w_7 ∧ e_2 = .returned (.tuple #[]) ∧ GWiR.qask_k1 (QAsk q w) gw w_7 := fun zs hz hk q1 q2 q3 q4 hl =>
    q_lit (zs := zs) h5 (kg (YFr.refl _ _)) (by simp) hl fun w7 h7 f7 => ⟨rfl, qask_end (h7.to rfl (by
      rw [← askOk_iff hk hz (restOk_none q1 q2 q3 q4)]
      exact ⟨fun h => ⟨h, trivial⟩, fun h => h.1⟩) (Nat.le_refl _)) Iff.rfl (fun _ => by rw [← hbk hz (restB_none q1 q2 q3 q4).symm, List.append_nil]) (f7.old0 B5 fun _ h => h)⟩
  have its : ∀ (zs : List Int) (k' : Int), k' = q.k → (numsO q.k).map q.ns = zs → (q.k = 1 ∨ q.k = 2 ∨ q.k = 3) → zs.length ≤ 10 → newO w5 (.cells (zs.map iV).toArray 3) fun g_4 w_6 => Calls Try.prog 27 #[.pointer (some ⟨gw, 0, none⟩), .slice (some ⟨g_4, 0, none⟩) zs.length zs.length] w_6 fun e_2 w_7 => KeepG [g] w_6 w_7 ∧ e_2 = .returned (.tuple #[]) ∧
      Calls Try.prog 28 #[.pointer (some ⟨gw, 0, none⟩), .int .i64 k', .slice a.ia q.items.length a.ic] w_7 fun e_3 w_8 => KeepG [g] w_7 w_8 ∧ e_3 = .returned (.tuple #[]) ∧ GWiR.qask_k1 (QAsk q w) gw w_8 := fun zs k' hk' hz hk hl => by
    subst hk'
    refine q_lit (zs := zs) h5 (kg (YFr.refl _ _)) (by simp) (by omega) fun w7 h7 f7 => ⟨rfl, ?_⟩
    have B7 := f7.old0 B5 fun _ h => h
    refine (qitems_any (c := a.ic) (xs := q.items) (a := a.ia) hk h7 (by simp; omega) hx.il (fun w' f => hx.items.below (f.old0 B7 fun _ h => h))).mono ?_
    rintro e w8 ⟨rfl, h8, f8⟩
    have hR : (pItems q.k).ok (q.items.map (itOnly q.k)) ↔ RestOk q := ⟨fun c => ⟨fun _ => c, fun c => by unfold hasLim at c; omega, fun c => by omega, fun c => by omega⟩, fun c => c.items (by omega)⟩
    exact ⟨keepG_yfr f8 (kg f7), rfl, qask_end (h8.to rfl (askOk_iff (by omega) hz hR) (Nat.le_refl _)) Iff.rfl (fun _ => hbk hz (restB_items (by omega)).symm) (f8.old0 B7 fun _ h => h)⟩
  have lim : ∀ (zs : List Int), (numsO q.k).map q.ns = zs → hasLim q.k → zs.length ≤ 10 → newO w5 (.cells (zs.map iV).toArray 3) fun g_4 w_6 => Calls Try.prog 27 #[.pointer (some ⟨gw, 0, none⟩), .slice (some ⟨g_4, 0, none⟩) zs.length zs.length] w_6 fun e_2 w_7 => KeepG [g] w_6 w_7 ∧ e_2 = .returned (.tuple #[]) ∧
      Calls Try.prog 29 #[.pointer (some ⟨gw, 0, none⟩), .int .i64 (q.ns 9)] w_7 fun e_3 w_8 => KeepG [g] w_7 w_8 ∧ e_3 = .returned (.tuple #[]) ∧ GWiR.qask_k1 (QAsk q w) gw w_8 := fun zs hz hk hl => by
    have hk2 := hk
    unfold hasLim at hk2
    refine q_lit (zs := zs) h5 (kg (YFr.refl _ _)) (by simp) (by omega) fun w7 h7 f7 => ⟨rfl, ?_⟩
    have B7 := f7.old0 B5 fun _ h => h
    refine (qlim_any (z := q.ns 9) h7 (by simp; omega)).mono ?_
    rintro e w8 ⟨rfl, h8, f8⟩
    have hR : limOk (q.ns 9) ↔ RestOk q := ⟨fun c => ⟨fun c => by omega, fun _ => c, fun c => by omega, fun c => by omega⟩, fun c => c.lim hk⟩
    exact ⟨keepG_yfr f8 (kg f7), rfl, qask_end (h8.to rfl (askOk_iff (by omega) hz hR) (Nat.le_refl _)) Iff.rfl (fun _ => hbk hz (restB_lim hk).symm) (f8.old0 B7 fun _ h => h)⟩
  refine br_dec (fun e => ?_) fun n1 => br_dec (fun e => ?_) fun n2 => br_dec (fun e => ?_) fun n3 => br_dec (fun e => ?_) fun n4 => br_dec (fun e => ?_) fun n5 => br_dec (fun e => ?_) fun n6 => br_dec (fun e => ?_) fun n7 => br_dec (fun e => ?_) fun n8 => br_dec (fun e => ?_) fun n13 => br_dec (fun e => ?_) fun n9 => br_dec (fun e => ?_) fun n10 => br_dec (fun e => ?_) fun n11 => br_dec (fun e => ?_) fun n12 => br_dec (fun e => ?_) fun n14 => ?_
  · exact its [q.ns 1, q.ns 3] 1 e.symm (by rw [e]; rfl) (.inl e) (by simp)
  · exact its [q.ns 1, q.ns 2] q.k rfl (by rw [e]; rfl) (.inr (.inl e)) (by simp)
  · exact its [q.ns 1, q.ns 2] q.k rfl (by rw [e]; rfl) (.inr (.inr e)) (by simp)
  · exact plain [q.ns 2, q.ns 3, q.ns 4, q.ns 5] (by rw [e]; rfl) (by omega) (by omega) (by unfold hasLim; omega) (by omega) (by omega) (by simp)
  · exact plain [q.ns 2, q.ns 6] (by rw [e]; rfl) (by omega) (by omega) (by unfold hasLim; omega) (by omega) (by omega) (by simp)
  · exact lim [q.ns 3, q.ns 7, q.ns 8] (by rw [e]; rfl) (.inl e) (by simp)
  · exact plain [q.ns 3, q.ns 7] (by rw [e]; rfl) (by omega) (by omega) (by unfold hasLim; omega) (by omega) (by omega) (by simp)
  · exact plain [q.ns 3] (by rw [e]; rfl) (by omega) (by omega) (by unfold hasLim; omega) (by omega) (by omega) (by simp)
  · exact plain [q.ns 3] (by rw [e]; rfl) (by omega) (by omega) (by unfold hasLim; omega) (by omega) (by omega) (by simp)
  · exact lim [q.ns 3] (by rw [e]; rfl) (.inr e) (by simp)
  · exact plain [q.ns 3, q.ns 10] (by rw [e]; rfl) (by omega) (by omega) (by unfold hasLim; omega) (by omega) (by omega) (by simp)
  · -- a plan
    obtain ⟨bs', bad, k1, k2, k3, k4⟩ := h5.ex
    have hP5 : True ∧ ∀ z ∈ [q.k], inFar z := ⟨trivial, fun z hz => by rw [List.mem_singleton.1 hz]; unfold inFar wfar; omega⟩
    have hb : bad = false := k2.2 hP5
    subst hb
    have hbs := k3 hP5
    have hz : (numsO q.k).map q.ns = [] := by rw [e]; rfl
    have hR : planE q.plan = 0 ↔ RestOk q := ⟨fun c => ⟨fun c => by omega, fun c => by unfold hasLim at c; omega, fun _ => c, fun c => by omega⟩, fun c => c.plan e⟩
    have hA : planE q.plan = 0 ↔ AskOk q := by
      rw [← askOk_iff (zs := []) (by omega) hz hR]
      exact ⟨fun c => ⟨⟨hP5, fun z hz => by cases hz⟩, c⟩, fun c => c.2⟩
    refine ⟨false, k1.c1, br_f rfl ((r9cplan_ret q.plan a.pa a.qa a.pc a.qc w5 (hx.plan.to B5)).mono ?_)⟩
    rintro r w6 ⟨rfl, b6⟩
    have B6 := B5.to b6
    refine ⟨keepG_below b6, _, rfl, y_flag (kg (YFr.ofBelow b6)) (k1.below b6) fun w7 h7 f7 z7 => ?_⟩
    have F7 : YFr (fun k => k < w.heap.size) w5 w7 := (YFr.ofBelow b6).trans f7
    have B7 := F7.old0 B5 fun _ h => h
    refine ⟨_, h7.c1, ?_⟩
    by_cases hpe : planE q.plan = 0
    · rw [decide_eq_false (not_not_intro hpe)]
      refine br_t rfl (drewB B7 fun w8 b8 B8 _ => ?_)
      obtain ⟨a0, c0, hc0⟩ := (h7.below b8).c0
      have hpl := planB_len hpe
      have htl := textB_len (ts := planB q.plan) (by omega)
      refine ⟨a0, _, c0, hc0, (rwrite_ret q.plan a.pa a.qa a.pc a.qc w8 (hx.plan.to B8) hpe).mono ?_⟩
      rintro r w9 ⟨rfl, b9⟩
      have hc9 : w9.cell? ⟨gw, 0, none⟩ = some (.slice a0 bs'.length c0) := by rw [cell_keep (b9.block gw ((h7.below b8).lt))]; exact hc0
      refine ⟨keepG_below b9, _, rfl, hc9, (wtext_ret (planB q.plan) (by omega) w9).mono ?_⟩
      rintro r w10 ⟨rfl, b10⟩
      have hc10 : w10.cell? ⟨gw, 0, none⟩ = some (.slice a0 bs'.length c0) := by rw [cell_keep (b10.block gw (((h7.below b8).below b9).lt))]; exact hc9
      have F10 : YFr (fun k => k < w.heap.size) w5 w10 := F7.trans (YFr.ofBelow (b8.trans ((b9.trans (b10.mono b9.size)).mono b8.size)))
      have hbl : bs'.length ≤ 1000 := by simp at k4; omega
      refine ⟨keepG_below b10, _, rfl, hc10, y_str (((h7.below b8).below b9).below b10) (kg F10) (textB (planB q.plan)) (by omega) (fun w11 h11 f11 => ?_) a0 c0 hc10⟩
      refine qask_end (P := True) (L := 10000) ⟨_, _, h11, by simp [hpe], fun _ => rfl, by rw [List.length_append]; omega⟩ ⟨fun _ => hA.1 hpe, fun _ => trivial⟩ (fun _ => ?_) ((F10.trans f11).old0 B5 fun _ h => h)
      rw [hbs]
      have := hbk hz (restB_plan e).symm
      rw [← this]
      simp
    · rw [decide_eq_true hpe]
      exact br_f rfl (qask_end (P := False) (bs := bs') (L := bs'.length) ⟨_, _, h7, by simp [hpe], fun c => c.elim, Nat.le_refl _⟩ ⟨fun c => c.elim, fun c => hpe (hA.2 c)⟩ (fun c => absurd (hA.2 c) hpe) B7)
  · -- what is carried over
    obtain ⟨bs', bad, k1, k2, k3, k4⟩ := h5.ex
    have hP5 : True ∧ ∀ z ∈ [q.k], inFar z := ⟨trivial, fun z hz => by rw [List.mem_singleton.1 hz]; unfold inFar wfar; omega⟩
    have hb : bad = false := k2.2 hP5
    subst hb
    have hbs := k3 hP5
    have hcl := hx.cl
    have hz : (numsO q.k).map q.ns = [] := by rw [e]; rfl
    have hR : pCarry.ok q.carry ↔ RestOk q := ⟨fun c => ⟨fun c => by omega, fun c => by unfold hasLim at c; omega, fun c => by omega, fun _ => c⟩, fun c => c.carry e⟩
    have hA : pCarry.ok q.carry ↔ AskOk q := by
      rw [← askOk_iff (zs := []) (by omega) hz hR]
      exact ⟨fun c => ⟨⟨hP5, fun z hz => by cases hz⟩, c⟩, fun c => c.2⟩
    refine ⟨false, k1.c1, br_f rfl (y_flag (kg (YFr.refl _ _)) k1 fun w7 h7 f7 z7 => ?_)⟩
    have h7' : DW w7 (fun k => k < w.heap.size) gw bs' ((q.carry.length : Int) ≤ 32) (0 + 10 * [q.k].length) := ⟨bs', _, h7, by simp, fun _ => rfl, k4⟩
    refine q_lit (zs := [(q.carry.length : Int)]) h7' (kg f7) (by simp) (by simp) fun w8 h8 f8 => ⟨rfl, ?_⟩
    have F8 := f7.trans f8
    have B8 := F8.old0 B5 fun _ h => h
    refine (quint_any (c := a.cc) (zs := q.carry) (a := a.ca) h8 (fun w' f => hx.carry.below (f.old0 B8 fun _ h => h) (Nat.le_refl _)) (by simp) (by omega)).mono ?_
    rintro r w9 ⟨rfl, h9, f9⟩
    refine ⟨keepG_yfr f9 (kg F8), rfl, qask_end (h9.to rfl ?_ (Nat.le_refl _)) Iff.rfl (fun _ => ?_) (f9.old0 B8 fun _ h => h)⟩
    · rw [← hA]
      show _ ↔ (q.carry.length : Int) ≤ 32 ∧ ∀ x ∈ q.carry, inFar x
      constructor
      · rintro ⟨⟨q1, _⟩, q2⟩; exact ⟨q1, q2⟩
      · rintro ⟨q1, q2⟩; exact ⟨⟨q1, fun z hz => by rw [List.mem_singleton.1 hz]; unfold inFar wfar; omega⟩, q2⟩
    · rw [hbs]
      have := hbk hz (restB_carry e).symm
      rw [← this]
      show _ = _ ++ (uintB (q.carry.length : Int) ++ q.carry.flatMap uintB)
      simp
  · exact plain [q.ns 3, q.ns 11] (by rw [e]; rfl) (by omega) (by omega) (by unfold hasLim; omega) (by omega) (by omega) (by simp)
  · have hno : ¬ AskOk q := fun c => absurd c.kind (by omega)
    exact ⟨_, false, rfl, ⟨fun c => (by cases c), fun c => absurd c hno⟩, fun c => absurd c hno, B5⟩
end Go.Proofs.Ytkggnbabnfhcpaa
end
section
/- The document's bytes of an answer; walked. -/
namespace Go.Proofs.Ytkggnbabnfhcpaa
open Go.RowKit
theorem YFr.filled {pr : Nat → Prop} {wx w5 w6 : World} {g2 : Nat} (b5 : Below wx.heap.size wx w5) (sg5 : wx.heap.size = g2) (f6 : Fr [g2] w5 w6) : YFr pr wx w6 :=
  ⟨f6.os.trans b5.os, f6.tape.trans b5.tape, f6.output.trans b5.output, Nat.le_trans b5.size f6.size, fun k h1 h2 => (f6.block k (by have := b5.size; omega) (by rw [List.mem_singleton]; omega)).trans (b5.block k h1), fun k cs t f h1 _ _ => (f6.block k (by have := b5.size; have := heap_lt h1; omega) (by rw [List.mem_singleton]; have := heap_lt h1; omega)).trans (b5.block k (heap_lt h1))⟩
theorem DW.other {pr : Nat → Prop} {g q L : Nat} {w w1 : World} {bs : List UInt8} {P : Prop} {cs : Array Value} {t : TypeId} (h : DW w pr g bs P L) (hq : Bk w q cs t) (h1 : t ≠ 5) (h2 : t ≠ 86) (f : Fr [q] w w1) : DW w1 pr g bs P L := by
  obtain ⟨bs', bad, k1, k2⟩ := h.ex
  exact ⟨bs', bad, k1.other hq h1 h2 f, k2⟩
section
variable {pr : Nat → Prop} {g L : Nat} {w w1 : World} {bs : List UInt8} {r : Bool} {P : Prop}
theorem keepG_pr {gs : List Nat} (f : YFr pr w w1) (h : ∀ q ∈ gs, pr q) : KeepG gs w w1 := fun hlt q hq => f.old q (hlt q hq) (h q hq)
/-- Bytes more; the boxes are the writer's never. -/
theorem y_app2 {gs : List Nat} (hgs : ∀ q ∈ gs, pr q) {tx : TypeId} {a : Option Addr} {c m : Nat} {x : Value} {news : List UInt8} (hb : Bk w g #[.slice a bs.length c, .bool r] 86) (ho : Own w 0 5 1 (.slice a bs.length c) bs.length (bs.map bV)) (hop : ∀ k, (Value.slice a bs.length c).ownBlock = some k → ¬ pr k) (g0 : ¬ pr g) (hup : ∀ q, pr q → q < w.heap.size)
    (s : Src Try.prog 1 tx x m (news.map bV) w) (hm : news.length = m) (hl : bs.length + m ≤ 1000000000) {K : World → Prop} (k : ∀ w2, YAt w2 pr g (bs ++ news) r → YFr pr w w2 → K w2) :
    appO Try.prog gs w 5 1 1 tx a bs.length c x fun m' a' c' w1 => stO gs w1 g 0 [.slice a' (bs.length + m') c'] K := by
  subst hm
  refine ⟨news.length, bs.map bV, news.map bV, ho.base_le fun _ _ => Nat.zero_le _, s, by unfold maxLen; omega, by omega, (fun q hq e => hop q e (hgs q hq)), fun a' c' w1 o1 g1 or1 _ => ?_⟩
  have hne : (Value.slice a bs.length c).ownBlock ≠ some g := own_far2 hb ho (by decide)
  have b1 : Bk w1 g #[.slice a bs.length c, .bool r] 86 := hb.keep (g1.block g hb.lt fun e => hne e.symm)
  have o2 : ∀ q, (Value.slice a' (bs.length + news.length) c').ownBlock = some q → ¬ pr q := fun q hq hp => by
    rcases or1 with h | ⟨g', h, h3⟩
    · exact hop q (h ▸ hq) hp
    · rw [h] at hq; injection hq with hq; have := hup q hp; omega
  refine stO_bk b1 (i := 0) (by simp) (fun q hq e => by subst e; exact g0 (hgs _ hq)) fun w2 b2 f2 z2 => k w2 ⟨⟨.slice a' (bs.length + news.length) c', b2, ?_, o2⟩, g0, fun q hq => by have := hup q hq; have := g1.size; omega⟩ ⟨f2.os.trans g1.os, f2.tape.trans g1.tape, f2.output.trans g1.output, by have := g1.size; omega, fun q h1 h2 => ?_, fun q cs t f h1 h2 h3 => ?_⟩
  · rw [List.length_append, List.map_append]
    exact o1.keep fun q hq => f2.block q (o1.lt q hq).2 (by rw [List.mem_singleton]; rintro rfl; exact own_far2 b1 o1 (by decide) hq)
  · have := g1.size
    exact (f2.block q (by omega) (by rw [List.mem_singleton]; rintro rfl; exact g0 h2)).trans (g1.block q h1 fun e => hop q e.symm h2)
  · have hq := heap_lt h1
    have := g1.size
    have hne2 : q ≠ g := fun e => by subst e; have hb' : w.heap[q]? = _ := hb; rw [h1] at hb'; injection hb' with hb'; injection hb' with _ hb'; exact h3 hb'
    exact (f2.block q (by omega) (by rw [List.mem_singleton]; exact hne2)).trans (g1.block q hq fun e => own_far2 h1 ho h2 e.symm)
theorem y_flag2 {gs : List Nat} (hgs : ∀ q ∈ gs, pr q) (h : YAt w pr g bs r) {v : Bool} {K : World → Prop} (k : ∀ w2, YAt w2 pr g bs v → YFr pr w w2 → w2.heap.size = w.heap.size → K w2) : stO gs w g 1 [.bool v] K := by
  have h0 := h.g0
  obtain ⟨q1, q2, q3⟩ := y_flag (gs := []) (fun q hq => by cases hq) h k
  exact ⟨fun q hq e => by subst e; exact h0 (hgs _ hq), q2, q3⟩
theorem y_str2 {gs : List Nat} {bs' : List UInt8} {b : Bool} (h : YAt w pr g bs' b) (hgs : ∀ q ∈ gs, pr q) (ts : List UInt8) (hl : bs'.length + ts.length ≤ 1000000000) {K : World → Prop} (k : ∀ w2, YAt w2 pr g (bs' ++ ts) b → YFr pr w w2 → K w2) :
    ∀ a c, w.cell? ⟨g, 0, none⟩ = some (.slice a bs'.length c) → appO Try.prog gs w 5 1 1 9 a bs'.length c (.string (strOf ts)) fun m a' c' w6 => stO gs w6 g 0 [.slice a' (bs'.length + m) c'] K := fun a c hc => by
  obtain ⟨a', c', k1, k2, k3⟩ := h.raw
  have e : (some (.slice a bs'.length c) : Option Value) = some (.slice a' bs'.length c') := hc.symm.trans (by rw [k1.cell]; rfl)
  injection e with e
  injection e with e1 e2 e3
  subst e1; subst e3
  exact y_app2 hgs k1 k2 k3 h.g0 h.up (srcStr ts) rfl hl k
theorem q_lit2 {gs : List Nat} {zs : List Int} (h : DW w pr g bs P L) (hgs : ∀ q ∈ gs, pr q) (hl : L ≤ 10000) (hz : zs.length ≤ 100) {R : Ending → World → Prop}
    (k : ∀ w', DW w' pr g (bs ++ zs.flatMap uintB) (P ∧ ∀ z ∈ zs, inFar z) (L + 10 * zs.length) → YFr pr w w' → R (.returned (.tuple #[])) w') :
    newO w (.cells (zs.map iV).toArray 3) fun q w3 => Calls Try.prog 27 #[.pointer (some ⟨g, 0, none⟩), .slice (some ⟨q, 0, none⟩) zs.length zs.length] w3 fun e w4 => KeepG gs w3 w4 ∧ R e w4 := by
  refine newB (Bs.refl w) fun q w3 q0 sq n3 z3 b3 B3 => (quint_any (c := zs.length) (zs := zs) (h.below b3) (fun w' f => ?_) (by omega) (by omega)).mono ?_
  · have hb : Bk w3 q (zs.map iV).toArray 3 := n3
    exact RowAt.ofWhole (hb.yfr f (by decide) (by decide))
  · rintro e w4 ⟨rfl, h4, f4⟩
    exact ⟨keepG_pr f4 hgs, k w4 h4 ((YFr.ofBelow b3).trans f4)⟩
theorem DW.more {q : Nat} (h : DW w pr g bs P L) (b : Below w.heap.size w w1) (hq : w.heap.size ≤ q) (hq1 : q < w1.heap.size) : DW w1 (fun k => pr k ∨ k = q) g bs P L := by
  obtain ⟨bs', bad, k1, k2⟩ := h.ex
  exact ⟨bs', bad, k1.more b hq hq1, k2⟩
theorem DW.mono {pr2 : Nat → Prop} (h : DW w pr g bs P L) (hp : ∀ q, pr2 q → pr q) : DW w pr2 g bs P L := by
  obtain ⟨bs', bad, k1, k2⟩ := h.ex
  exact ⟨bs', bad, k1.mono hp, k2⟩
end
def dnCells (x : An) (ga : Option Addr) (gc : Nat) : Array Value := #[.int .i64 x.k, .int .i64 x.e, .slice ga x.gs.length gc, .int .i64 (x.ns 3), .int .i64 (x.ns 4), .int .i64 (x.ns 5), .int .i64 (x.ns 6), .int .i64 (x.ns 7), .int .i64 (x.ns 8), .int .i64 (x.ns 9), .int .i64 (x.ns 10), .int .i64 (x.ns 11), .string (strOf x.inv)]
def dnV (x : An) (ga : Option Addr) (gc : Nat) : Value := .agg (dnCells x ga gc)
def QTell (x : An) (w : World) (v : Value) (w' : World) : Prop := ∃ (s : ByteArray) (ok : Bool), v = .tuple #[.string s, .bool ok] ∧ (ok = true ↔ TellOk x) ∧ (TellOk x → s = strOf (tellB x)) ∧ Below w.heap.size w w'
theorem tellOk_iff {x : An} {zs : List Int} (hk : 0 ≤ x.k ∧ x.k ≤ 14) (he : x.e = 0) (hz : (ansO x.k).map x.ns = zs) {G I : Prop} (hG : G ↔ (hasGr x.k → pGrants.ok x.gs)) (hI : I ↔ (x.k = 14 → x.inv.length ≤ 65536)) : ((G ∧ ∀ z ∈ zs, inFar z) ∧ I) ↔ TellOk x := by
  subst hz
  constructor
  · rintro ⟨⟨h1, h2⟩, h3⟩
    exact ⟨hk, by omega, fun _ => ⟨hG.1 h1, fun o ho => h2 _ (List.mem_map_of_mem ho), hI.1 h3⟩⟩
  · intro h
    have b := h.body he
    refine ⟨⟨hG.2 b.grants, fun z hz => ?_⟩, hI.2 b.inv⟩
    obtain ⟨o, ho, rfl⟩ := List.mem_map.1 hz
    exact b.nums o ho
theorem tellB_eq {x : An} {zs : List Int} (he : x.e = 0) (hz : (ansO x.k).map x.ns = zs) : tellB x = uintB x.k ++ (uintB x.e ++ (grB x.k x.gs ++ (zs.flatMap uintB ++ invB x.k x.inv))) := by
  subst hz
  unfold tellB bodyA numB
  rw [if_pos he, List.flatMap_map]
theorem qtell_end {pr : Nat → Prop} {x : An} {w w9 : World} {g2 L : Nat} {bs : List UInt8} {P : Prop} (h : DW w9 pr g2 bs P L) (hP : P ↔ TellOk x) (hbs : TellOk x → bs = tellB x) (B : Bs w w9) : GWiR.qtell_k1 (QTell x w) g2 w9 := by
  unfold GWiR.qtell_k1
  refine drewB B fun w10 b10 B10 _ => ?_
  obtain ⟨bs', bad, k1, k2, k3, k4⟩ := (h.below b10).ex
  obtain ⟨a, c, r1, r2, _⟩ := k1.raw
  refine ⟨a, _, c, by rw [r1.cell]; rfl, bs', rfl, r2.row, bad, k1.c1, strOf bs', !bad, rfl, ?_, fun c => by rw [k3 (hP.2 c), hbs c], B10⟩
  rw [← hP, ← k2]
  cases bad <;> simp
set_option maxHeartbeats 3200000 in
theorem qtell_new (x : An) (ga : Option Addr) (gc : Nat) (w : World) (hgs : GnsAt 0 w ga x.gs) (hgl : x.gs.length ≤ 100) (hil : x.inv.length ≤ 100000) : Calls Try.prog 20 #[dnV x ga gc] w fun e w' => ∃ v, e = .returned v ∧ QTell x w v w' := by
  refine GWiR.qtell_calls x.k x.e ga x.gs.length gc (x.ns 3) (x.ns 4) (x.ns 5) (x.ns 6) (x.ns 7) (x.ns 8) (x.ns 9) (x.ns 10) (x.ns 11) (strOf x.inv) w (QTell x w) ?_
  unfold GWiR.qtell_vc
  refine newB (Bs.refl w) fun g w2 g0 sg n2 z2 b2 B2 => newB B2 fun gw w3 gw0 sgw n3 z3 b3 B3 => ?_
  have kg : ∀ q ∈ [g], (fun k => k < w2.heap.size) q := fun q hq => by rw [List.mem_singleton] at hq; subst hq; show q < w2.heap.size; omega
  have hw2 : ∀ q, q < w.heap.size → q < w2.heap.size := fun q hq => by have := b2.size; omega
  have no : ¬ TellOk x → QTell x w (.tuple #[.string (⟨#[]⟩ : ByteArray), .bool false]) w3 := fun h => ⟨_, false, rfl, ⟨fun c => (by cases c), fun c => absurd c h⟩, fun c => absurd c h, B3⟩
  have h3 : DW w3 (fun k => k < w2.heap.size) gw [] True 0 := DW.start n3 (by omega) fun k hk => by have hk : k < w2.heap.size := hk; have := b3.size; omega
  refine br_dec (fun h1 => no fun c => by have := c.kind; omega) fun h1 => br_dec (fun h2 => no fun c => by have := c.kind; omega) fun h2 => br_dec (fun h5 => no fun c => by have := c.err; omega) fun h5 => br_dec (fun h4 => no fun c => by have := c.err; omega) fun h4 => ?_
  refine q_lit2 (zs := [x.k, x.e]) h3 kg (by omega) (by simp) fun w5 h5 f5 => ⟨rfl, ?_⟩
  have B5 := f5.old0 B3 hw2
  have h5 : DW w5 (fun k => k < w2.heap.size) gw (uintB x.k ++ uintB x.e) True 20 := h5.to (by simp) (by
    constructor
    · intro _; trivial
    · intro _
      refine ⟨trivial, fun z hz => ?_⟩
      simp only [List.mem_cons, List.not_mem_nil, or_false] at hz
      unfold inFar wfar
      rcases hz with rfl | rfl <;> omega) (by simp)
  refine br_dec (fun he => ?_) fun he => ?_
  · have hok : TellOk x := ⟨by omega, by omega, fun c => absurd c he⟩
    obtain ⟨bs', bad, k1, k2, k3, k4⟩ := h5.ex
    obtain ⟨a, c, r1, r2, _⟩ := k1.raw
    refine ⟨a, _, c, by rw [r1.cell]; rfl, bs', rfl, r2.row, strOf bs', true, rfl, ⟨fun _ => hok, fun _ => rfl⟩, fun _ => ?_, B5⟩
    rw [k3 trivial]
    unfold tellB
    rw [if_neg he, List.append_nil]
  have he : x.e = 0 := Decidable.not_not.1 he
  have hk : 0 ≤ x.k ∧ x.k ≤ 14 := by omega
  -- without grants and text
  have plain : ∀ (zs : List Int), (ansO x.k).map x.ns = zs → ¬ hasGr x.k → x.k ≠ 14 → zs.length ≤ 100 → newO w5 (.cells (zs.map iV).toArray 3) fun g_4 w_6 => Calls Try.prog 27 #[.pointer (some ⟨gw, 0, none⟩), .slice (some ⟨g_4, 0, none⟩) zs.length zs.length] w_6 fun e_2 w_7 => KeepG [g] w_6 w_7 ∧ e_2 = .returned (.tuple #[]) ∧ GWiR.qtell_k1 (QTell x w) gw w_7 := fun zs hz q1 q2 hl =>
    q_lit2 (zs := zs) h5 kg (by simp) hl fun w7 h7 f7 => ⟨rfl, qtell_end (h7.to rfl (by
      rw [← tellOk_iff (G := True) (I := True) hk he hz ⟨fun _ c => absurd c q1, fun _ => trivial⟩ ⟨fun _ c => absurd c q2, fun _ => trivial⟩]
      exact ⟨fun h => ⟨h, trivial⟩, fun h => h.1⟩) (Nat.le_refl _)) Iff.rfl (fun _ => by
        rw [tellB_eq he hz]; unfold grB invB; rw [if_neg q1, if_neg q2]; simp) (f7.old0 B5 hw2)⟩
  -- with grants
  have go : ∀ zs, (ansO x.k).map x.ns = zs → hasGr x.k → x.k ≠ 14 → zs = [x.ns 3, x.ns 4] → stO [g] w5 gw 1 [.bool (decide (((x.gs.length : Nat) : Int) > 4))] fun w_6 =>
      newO w_6 (.cells #[.int .i64 ((x.gs.length : Nat) : Int)] 3) fun g_4 w_7 =>
      Calls Try.prog 27 #[.pointer (some ⟨gw, 0, none⟩), .slice (some ⟨g_4, 0, none⟩) 1 1] w_7 fun e_2 w_8 => KeepG [g] w_7 w_8 ∧
      e_2 = .returned (.tuple #[]) ∧
      ∃ (I : Int → World → Prop) (μ : Int → World → Nat),
      I 0 w_8 ∧
      ∀ (x5 : Int) (w_9 : World), I x5 w_9 →
      br (decide (x5 < ((x.gs.length : Nat) : Int))) (
        withP ga fun g70 o70 =>
        (0 : Int) ≤ x5 ∧ x5 < (((x.gs.length : Nat) : Int) : Int) ∧
        ∃ (x71_0 : Int) (x71_1 : Int) (x71_2 : Int) (b71_3 : Bool),
        cellsAt w_9 g70 (o70 + x5.toNat * 4) [.int .i64 x71_0, .int .i64 x71_1, .int .i64 x71_2, .bool b71_3] ∧
        newO w_9 (.cells #[.int .i64 0, .int .i64 0, .int .i64 0, .bool false] 115) fun g_5 w_10 =>
        ∀ w_11 : World, BoxSt g_5 w_10 w_11 →
        newO w_11 (.cells #[.int .i64 x71_0, .int .i64 x71_1, .int .i64 x71_2] 3) fun g_6 w_12 =>
        Calls Try.prog 27 #[.pointer (some ⟨gw, 0, none⟩), .slice (some ⟨g_6, 0, none⟩) 3 3] w_12 fun e_3 w_13 => KeepG [g_5, g] w_12 w_13 ∧
        e_3 = .returned (.tuple #[]) ∧
        drewO w_13 fun w_14 =>
        ∃ (a85 : Option Addr) (n85 : Nat) (c85 : Nat), w_14.cell? ⟨gw, 0, none⟩ = some (.slice a85 n85 c85) ∧
        Calls Try.prog 50 #[.bool b71_3] w_14 fun e_4 w_15 => KeepG [g_5, g] w_14 w_15 ∧
        ∃ (s88 : ByteArray),
        e_4 = .returned (.string s88) ∧
        w_15.cell? ⟨gw, 0, none⟩ = some (.slice a85 n85 c85) ∧
        appO Try.prog [g_5, g] w_15 5 1 1 9 a85 n85 c85 (.string s88) fun m89 a89 c89 w_16 =>
        stO [g_5, g] w_16 gw 0 [.slice a89 (n85 + m89) c89] fun w_17 =>
        I (IntKind.i64.wrap (x5 + 1)) w_17 ∧ μ (IntKind.i64.wrap (x5 + 1)) w_17 < μ x5 w_9
      ) (
        newO w_9 (.cells #[.int .i64 (x.ns 3), .int .i64 (x.ns 4)] 3) fun g_7 w_18 =>
        Calls Try.prog 27 #[.pointer (some ⟨gw, 0, none⟩), .slice (some ⟨g_7, 0, none⟩) 2 2] w_18 fun e_5 w_19 => KeepG [g] w_18 w_19 ∧
        e_5 = .returned (.tuple #[]) ∧
        GWiR.qtell_k1 (QTell x w) gw w_19
      ) := fun zs hz q1 q2 hzs => by
    subst hzs
    obtain ⟨bs', bad, k1, k2, k3, k4⟩ := h5.ex
    refine y_flag2 kg k1 fun w6 h6 f6 z6 => ?_
    have h6 : DW w6 (fun k => k < w2.heap.size) gw (uintB x.k ++ uintB x.e) ((x.gs.length : Int) ≤ 4) 20 := ⟨bs', _, h6, by simp, fun _ => k3 trivial, k4⟩
    refine q_lit2 (zs := [(x.gs.length : Int)]) h6 kg (by omega) (by simp) fun w8 h8 f8 => ⟨rfl, ?_⟩
    refine ⟨fun y wx => ∃ i : Nat, y = i ∧ i ≤ x.gs.length ∧ DW wx (fun k => k < w2.heap.size) gw ((uintB x.k ++ uintB x.e) ++ (uintB x.gs.length ++ (x.gs.take i).flatMap pGn.enc)) ((x.gs.length : Int) ≤ 4 ∧ ∀ z ∈ x.gs.take i, pGn.ok z) (30 + 31 * i) ∧ YFr (fun k => k < w2.heap.size) w5 wx, fun y _ => (x.gs.length - y).toNat,
      ⟨0, rfl, Nat.zero_le _, h8.to (by simp) (by
        simp only [List.mem_singleton, forall_eq, List.take_zero]
        constructor
        · rintro ⟨q1, q2⟩; exact ⟨q1, fun z hz => by cases hz⟩
        · rintro ⟨q1, _⟩; exact ⟨q1, by unfold inFar wfar; omega⟩) (by simp), f6.trans f8⟩, ?_⟩
    rintro y wx ⟨i, rfl, hi, hX, hF⟩
    have Bx := hF.old0 B5 hw2
    refine br_dec (fun h1 => ?_) fun h1 => by
      have e : i = x.gs.length := by omega
      subst e
      rw [List.take_length] at hX
      refine q_lit2 (zs := [x.ns 3, x.ns 4]) hX kg (by omega) (by simp) fun w19 h19 f19 => ⟨rfl, qtell_end (h19.to rfl (by
        rw [← tellOk_iff (G := pGrants.ok x.gs) (I := True) hk he hz ⟨fun c _ => c, fun c => c q1⟩ ⟨fun _ c => absurd c q2, fun _ => trivial⟩]
        exact ⟨fun h => ⟨h, trivial⟩, fun h => h.1⟩) (Nat.le_refl _)) Iff.rfl (fun _ => by
          rw [tellB_eq he hz]; unfold grB invB; rw [if_pos q1, if_neg q2]
          show _ = uintB x.k ++ (uintB x.e ++ ((uintB (x.gs.length : Int) ++ x.gs.flatMap pGn.enc) ++ _))
          simp only [List.append_assoc, List.append_nil]) (f19.old0 Bx hw2)⟩
    have hi2 : i < x.gs.length := by omega
    obtain ⟨b, off, ha, hc⟩ := (hgs.below Bx).get hi2
    have hi1 : IntKind.i64.wrap ((i : Int) + 1) = ((i + 1 : Nat) : Int) := by rw [wr64 (by omega) (by omega)]; omega
    rw [hi1]
    refine withP_mk b off ha ⟨by omega, by omega, _, _, _, _, by rw [Int.toNat_natCast]; exact hc, newB Bx fun g3 w10 g30 sg3 n10 z10 b10 B10 => fun w11 x11 => ?_⟩
    have k10 : Bk w10 g3 #[.int .i64 0, .int .i64 0, .int .i64 0, .bool false] 115 := n10
    have hX11 := (hX.more b10 (q := g3) (by omega) (by omega)).other k10 (by decide) (by decide) x11.1
    have F11 : YFr (fun k => k < w2.heap.size) wx w11 := YFr.filled b10 sg3 x11.1
    have kg2 : ∀ q ∈ [g3, g], (fun k => k < w2.heap.size ∨ k = g3) q := fun q hq => by
      rcases List.mem_cons.1 hq with e0 | hq
      · exact .inr e0
      · exact .inl (kg q hq)
    have md : ∀ q, (fun k => k < w2.heap.size) q → (fun k => k < w2.heap.size ∨ k = g3) q := fun q hq => .inl hq
    refine q_lit2 (zs := [x.gs[i].g, x.gs[i].u, x.gs[i].a]) hX11 kg2 (by omega) (by simp) fun w13 h13 f13 => ⟨rfl, drewB (Bs.refl w13) fun w14 b14 B14 _ => ?_⟩
    obtain ⟨bs2, bad2, m1, m2, m3, m4⟩ := (h13.below b14).ex
    obtain ⟨a0, c0, hc0⟩ := m1.c0
    refine ⟨a0, _, c0, hc0, (fFlag_any x.gs[i].f w14).mono ?_⟩
    rintro r w15 ⟨rfl, rfl⟩
    have F15 := f13.trans (YFr.ofBelow b14)
    refine ⟨keepG_below (Below.refl _ _), _, rfl, hc0, y_str2 m1 kg2 (flagB x.gs[i].f) (by simp at m4; show bs2.length + 1 ≤ _; omega) (fun w17 h17 f17 => ?_) a0 c0 hc0⟩
    have et : x.gs.take (i + 1) = x.gs.take i ++ [x.gs[i]] := by rw [List.take_add_one, List.getElem?_eq_getElem hi2]; rfl
    have hgo : (∀ z ∈ [x.gs[i].g, x.gs[i].u, x.gs[i].a], inFar z) ↔ pGn.ok x.gs[i] := by simp [pGn]
    have hiff : (((x.gs.length : Int) ≤ 4 ∧ ∀ z ∈ x.gs.take i, pGn.ok z) ∧ ∀ z ∈ [x.gs[i].g, x.gs[i].u, x.gs[i].a], inFar z) ↔ ((x.gs.length : Int) ≤ 4 ∧ ∀ z ∈ x.gs.take (i + 1), pGn.ok z) := by
      rw [hgo, et]
      constructor
      · rintro ⟨⟨q2, q3⟩, q4⟩
        exact ⟨q2, fun z hz => by
          rcases List.mem_append.1 hz with hz | hz
          · exact q3 z hz
          · rw [List.mem_singleton.1 hz]; exact q4⟩
      · rintro ⟨q2, q3⟩
        exact ⟨⟨q2, fun z hz => q3 z (List.mem_append_left _ hz)⟩, q3 x.gs[i] (List.mem_append_right _ List.mem_cons_self)⟩
    refine ⟨⟨i + 1, rfl, hi2, ⟨_, bad2, h17.mono md, m2.trans hiff, fun q => ?_, ?_⟩, hF.trans (F11.trans ((F15.trans f17).mono md))⟩, by dsimp only; omega⟩
    · rw [m3 (hiff.2 q), et]
      simp only [List.flatMap_append, List.flatMap_cons, List.flatMap_nil, List.append_nil, List.append_assoc]
      simp [pGn, pI2]
    · rw [List.length_append]
      simp at m4
      show bs2.length + 1 ≤ _
      omega
  refine br_dec (fun e => ?_) fun n1 => br_dec (fun e => ?_) fun n2 => br_dec (fun e => ?_) fun n3 => br_dec (fun e => ?_) fun n4 => br_dec (fun e => ?_) fun n5 => br_dec (fun e => ?_) fun n12 => br_dec (fun e => ?_) fun n13 => br_dec (fun e => ?_) fun n14 => ?_
  · exact go _ rfl (.inl e) (by omega) (by rw [e]; rfl)
  · exact go _ rfl (.inr e) (by omega) (by rw [e]; rfl)
  · unfold GWiR.qtell_k2
    exact plain [x.ns 4] (by rw [e]; rfl) (by unfold hasGr; omega) (by omega) (by simp)
  · unfold GWiR.qtell_k2
    exact plain [x.ns 4] (by rw [e]; rfl) (by unfold hasGr; omega) (by omega) (by simp)
  · exact plain [x.ns 4] (by rw [e]; rfl) (by unfold hasGr; omega) (by omega) (by simp)
  · exact plain [x.ns 5] (by rw [e]; rfl) (by unfold hasGr; omega) (by omega) (by simp)
  · exact plain [x.ns 7, x.ns 8, x.ns 9, x.ns 10, x.ns 11, x.ns 6] (by rw [e]; rfl) (by unfold hasGr; omega) (by omega) (by simp)
  · -- a text
    have q1 : ¬ hasGr x.k := by unfold hasGr; omega
    have hz : (ansO x.k).map x.ns = [] := by rw [e]; rfl
    obtain ⟨bs', bad, k1, k2, k3, k4⟩ := h5.ex
    have hb : bad = false := k2.2 trivial
    subst hb
    refine ⟨false, k1.c1, br_f rfl (y_flag2 kg k1 fun w7 h7 f7 z7 => drewB (Bs.refl w7) fun w8 b8 B8 _ => ?_)⟩
    obtain ⟨a0, c0, hc0⟩ := (h7.below b8).c0
    have htl := textB_len (ts := x.inv) (by omega)
    refine ⟨a0, _, c0, hc0, (wtext_ret x.inv (by omega) w8).mono ?_⟩
    rintro r w10 ⟨rfl, b10⟩
    have hc10 : w10.cell? ⟨gw, 0, none⟩ = some (.slice a0 bs'.length c0) := by rw [cell_keep (b10.block gw (h7.below b8).lt)]; exact hc0
    have F10 : YFr (fun k => k < w2.heap.size) w5 w10 := f7.trans (YFr.ofBelow (b8.trans (b10.mono b8.size)))
    refine ⟨keepG_below b10, _, rfl, hc10, y_str2 ((h7.below b8).below b10) kg (textB x.inv) (by omega) (fun w11 h11 f11 => ?_) a0 c0 hc10⟩
    refine qtell_end (P := x.inv.length ≤ 65536) (L := 20 + (textB x.inv).length) ⟨_, _, h11, by rw [strOf_size]; simp; omega, fun _ => rfl, by rw [List.length_append]; omega⟩ ?_ (fun _ => ?_) ((F10.trans f11).old0 B5 hw2)
    · rw [← tellOk_iff (G := True) (I := x.inv.length ≤ 65536) hk he hz ⟨fun _ c => absurd c q1, fun _ => trivial⟩ ⟨fun c _ => c, fun c => c e⟩]
      exact ⟨fun h => ⟨⟨trivial, fun z hz => by cases hz⟩, h⟩, fun h => h.2⟩
    · rw [k3 trivial, tellB_eq he hz]
      unfold grB invB
      rw [if_neg q1, if_pos e]
      simp
  · have q1 : ¬ hasGr x.k := by unfold hasGr; omega
    have hz : (ansO x.k).map x.ns = [] := by unfold ansO; rw [if_neg q1, if_neg (by omega), if_neg n12, if_neg n13]; rfl
    refine qtell_end h5 ?_ (fun _ => ?_) B5
    · rw [← tellOk_iff (G := True) (I := True) hk he hz ⟨fun _ c => absurd c q1, fun _ => trivial⟩ ⟨fun _ c => absurd c n14, fun _ => trivial⟩]
      exact ⟨fun _ => ⟨⟨trivial, fun z hz => by cases hz⟩, trivial⟩, fun _ => trivial⟩
    · rw [tellB_eq he hz]
      unfold grB invB
      rw [if_neg q1, if_neg n14]
      simp
end Go.Proofs.Ytkggnbabnfhcpaa
end
section
/- An answer is read; walked. -/
namespace Go.Proofs.Ytkggnbabnfhcpaa
open Go.RowKit
theorem an_set1 (x : An) (a : AnA) {o : Nat} (v : Int) (ho : 3 ≤ o ∧ o ≤ 11) : (anCells x a).setIfInBounds o (.int .i64 v) = anCells { x with ns := fun j => if j = o then v else x.ns j } a := by
  have : o = 3 ∨ o = 4 ∨ o = 5 ∨ o = 6 ∨ o = 7 ∨ o = 8 ∨ o = 9 ∨ o = 10 ∨ o = 11 := by omega
  rcases this with rfl | rfl | rfl | rfl | rfl | rfl | rfl | rfl | rfl <;> rfl
theorem an_setO : ∀ (os : List Nat) (xs : List Int) (x : An) (a : AnA), (∀ o ∈ os, 3 ≤ o ∧ o ≤ 11) → setO (anCells x a) os xs = anCells { x with ns := updL x.ns os xs } a
  | [], xs, x, a, _ => by cases xs <;> rfl
  | o :: os, [], x, a, _ => rfl
  | o :: os, v :: xs, x, a, h => by
    show setO ((anCells x a).setIfInBounds o (.int .i64 v)) os xs = _
    rw [an_set1 x a v (h o List.mem_cons_self), an_setO os xs _ a fun o' ho' => h o' (List.mem_cons_of_mem _ ho')]
    rfl
/-- What is taken of a grant. -/
theorem gn_take (bs : List UInt8) (e : Int) : setO #[.int .i64 0, .int .i64 0, .int .i64 0, .bool false] [0, 1, 2] (rdM pFar ⟨[], bs, e⟩ 3).xs = #[.int .i64 (pGn.rd bs e).1.g, .int .i64 (pGn.rd bs e).1.u, .int .i64 (pGn.rd bs e).1.a, .bool false] ∧ (rdM pFar ⟨[], bs, e⟩ 3).bs = (pI2.rd bs e).2.1 ∧ (rdM pFar ⟨[], bs, e⟩ 3).e = (pI2.rd bs e).2.2 := ⟨rfl, rfl, rfl⟩
/-- Where an answer's rows lie: from a block on. -/
structure AnN (n0 : Nat) (w : World) (x : An) (a : AnA) : Prop where
  gs : GnsAt n0 w a.ga x.gs
  inv : RowAt w a.ia (x.inv.map bV)
  iN : ∀ k, a.ia = some k → n0 ≤ k.block
  gl : x.gs.length ≤ 100
  il : x.inv.length ≤ 100000
theorem AnN.to {n0 : Nat} {w : World} {x : An} {a : AnA} (h : AnN n0 w x a) : AnIn w x a := ⟨h.gs.low (Nat.zero_le _), h.inv, h.gl, h.il⟩
theorem AnN.below {n0 : Nat} {w w1 : World} {x : An} {a : AnA} (h : AnN n0 w x a) (b : Below w.heap.size w w1) : AnN n0 w1 x a := ⟨h.gs.below b, h.inv.below b (Nat.le_refl _), h.iN, h.gl, h.il⟩
theorem AnN.box {n0 g : Nat} {w w1 : World} {x : An} {a : AnA} (h : AnN n0 w x a) (b : BoxSt g w w1) (hg : g < n0) : AnN n0 w1 x a := ⟨h.gs.box b hg, h.inv.boxed b (fun k hk => by have := h.iN k hk; omega), h.iN, h.gl, h.il⟩
theorem AnN.low {n0 n1 : Nat} {w : World} {x : An} {a : AnA} (h : AnN n0 w x a) (hn : n1 ≤ n0) : AnN n1 w x a := ⟨h.gs.low hn, h.inv, fun k hk => Nat.le_trans hn (h.iN k hk), h.gl, h.il⟩
def ToldV (w : World) (bs : List UInt8) (v : Value) (w' : World) : Prop := ∃ a, v = .tuple #[anV (rdTold bs) a, .int .i64 (if ansOk bs then 0 else 2)] ∧ AnIn w' (rdTold bs) a ∧ Below w.heap.size w w'
def noAn : AnA := ⟨none, 0, none, 0⟩
theorem told_no {w w' : World} {bs : List UInt8} (h : ¬ ansOk bs) (B : Bs w w') : ToldV w bs (.tuple #[anV zeroAn noAn, .int .i64 2]) w' := by
  refine ⟨noAn, ?_, ?_, B⟩
  · unfold rdTold; rw [if_neg h, if_neg h]
  · unfold rdTold; rw [if_neg h]
    exact ⟨.inl rfl, .inl rfl, by simp [zeroAn], by simp [zeroAn]⟩
section
variable {w wB w1 : World} {L : List Nat} {gr gc g x : Nat} {bs : List UInt8} {y : An} {a : AnA}
theorem told_k1 (h : IRd wB w1 L gr gc false (rdAns bs).bs (rdAns bs).e) (hb : Bk w1 x (anCells y a) 62) (hin : AnN (g + 1) w1 y a) (B : Bs w w1) (hg0 : w.heap.size ≤ g) (hy : ansOf bs = y) (hl : (rdAns bs).bs.length ≤ 100000) : GWi.itold_k1 (ToldV w bs) g gr x w1 := by
  unfold GWi.itold_k1
  refine callB B (right_any h (by omega)) fun w2 b2 B2 => ⟨_, rfl, ?_⟩
  have hiff : ansOk bs ↔ (false = false ∧ rdEnd (rdAns bs).bs (rdAns bs).e = 0) := by unfold ansOk; simp
  by_cases hc : ansOk bs
  · rw [decide_eq_true (hiff.1 hc)]
    refine br_f rfl ⟨_, _, _, _, _, _, _, _, _, _, _, _, _, _, _, _, _, Bk.cells (hb.below b2) 0 rfl, boxB B2 hg0 fun w3 x3 B3 z3 => ⟨a, ?_, ?_, B3⟩⟩
    · unfold rdTold; rw [if_pos hc, if_pos hc, hy]; rfl
    · unfold rdTold; rw [if_pos hc, hy]
      exact ((hin.below b2).box x3 (Nat.lt_succ_self _)).to
  · rw [decide_eq_false (fun c => hc (hiff.2 c))]
    exact br_t rfl (boxB B2 hg0 fun w3 x3 B3 z3 => told_no hc B3)
theorem told_k2 {k : Int} {b : List UInt8} {e : Int} {n0 : Nat} (h : IRd wB w1 L gr gc false (rdGr k b e).2.1 (rdGr k b e).2.2) (hb : Bk w1 x (anCells ⟨k, 0, (rdGr k b e).1, fun _ => 0, []⟩ a) 62) (hga : GnsAt n0 w1 a.ga (rdGr k b e).1) (hgl : (rdGr k b e).1.length ≤ 4) (hia : a.ia = none ∧ a.ic = 0) (hx0 : wB.heap.size ≤ x) (hxn : x < n0) (hgn : g < n0) (hn1 : n0 ≤ w1.heap.size)
    (BB : Bs w wB) (hFw : From w.heap.size L) (hg0 : w.heap.size ≤ g) (hgk : ∀ M : List Nat, (∀ q ∈ M, q = x ∨ q = gr ∨ q ∈ L) → ∀ k ∈ [g], k ∉ M) (hk : ansK bs = k) (hE : ansE bs = 0) (h2 : ans2 bs = (b, e)) (hl : b.length ≤ 100000) : GWi.itold_k2 (ToldV w bs) g gr x w1 := by
  unfold GWi.itold_k2
  have hxr : x ≠ gr := hb.ne h.r (by decide)
  have hLn : ∀ q ∈ L, q < n0 := fun q hq => by have := h.rp.un q hq; omega
  have hR : rdAns bs = rdBody k b e := by unfold rdAns; rw [if_pos hE, hk, h2]
  have hbl : (rdGr k b e).2.1.length ≤ 100000 := by
    unfold rdGr
    split
    · exact Nat.le_trans (pGrants.len _ _) hl
    · exact hl
  refine (numa_any (x := x) (k := k) (by rw [hb.cell]; rfl)).mono ?_
  rintro r w2 ⟨a2, c2, rfl, p2, pn2, b2⟩
  have h2' := h.below b2
  have hb2 := hb.below b2
  have hwB := h.rp.fr.size
  refine ⟨keepG_below b2, a2, _, c2, rfl, (take_any h2' p2 (fun q' hq' => by have := pn2 q' hq'; omega) hb2 hx0 hxr (by decide) (fun o ho => by show o < 13; have := ans_mem ho; omega) (by omega) (by have := ans_few k; omega)).mono ?_⟩
  rintro r w3 ⟨rfl, h3, hb3, f3⟩
  have hNs : rdNs k b e = rdM pFar ⟨[], (rdGr k b e).2.1, (rdGr k b e).2.2⟩ (ansO k).length := rfl
  rw [← hNs] at h3 hb3
  have hxl : (rdNs k b e).xs.length = (ansO k).length := by rw [hNs, rdM_len]; simp
  rw [an_setO _ _ _ _ (fun o ho => ans_mem ho), updL_zero _ _ (ans_nodup k) hxl] at hb3
  dsimp only at hb3
  have hga3 : GnsAt n0 w3 a.ga (rdGr k b e).1 := (hga.below b2).fr f3 fun q hq => by
    rcases List.mem_cons.1 hq with rfl | hq
    · exact hxn
    · exact hLn q hq
  have hbl3 : (rdNs k b e).bs.length ≤ 100000 := by rw [hNs]; exact Nat.le_trans (rdM_bs _ _ _) hbl
  have hAn : ∀ inv, (rdBody k b e).inv = inv → ansOf bs = ⟨k, 0, (rdGr k b e).1, nsOf (ansO k) (rdNs k b e).xs, inv⟩ := fun inv hi => by
    unfold ansOf
    rw [hR, hk, hE, hi]
    rfl
  refine ⟨keepG_fr f3 (hgk _ fun q' hq' => by rcases List.mem_cons.1 hq' with h | h; exact .inl h; exact .inr (.inr h)), rfl, k, by rw [hb3.cell]; rfl, br_dec (fun e14 => ?_) fun n14 => ?_⟩
  · refine ⟨_, by rw [h3.r.cell]; rfl, (rText_any gc 65536 (by decide) (by decide) _ _ L w3 h3.rp.at' (by omega)).mono ?_⟩
    rintro r w4 ⟨v, rfl, o4, r4, f4⟩
    obtain ⟨a4, c4, rfl⟩ := o4.isSlice
    have h4 := h3.to r4 f4
    have hb4 := hb3.fr f4 (h.low hx0)
    have hga4 := hga3.fr f4 hLn
    have hBi : rdInv k (rdNs k b e).bs (rdNs k b e).e = rdText 65536 (rdNs k b e).bs (rdNs k b e).e := by unfold rdInv; rw [if_pos e14]
    have htl := text_len (most := 65536) (bs := (rdNs k b e).bs) (e := (rdNs k b e).e)
    refine ⟨keepG_fr f4 (hgk _ fun q' hq' => .inr (.inr hq')), a4, _, c4, rfl, stO_bk hb4 (i := 12) (by show 12 < 13; omega) (fun q hq e0 => hgk [x] (fun q' hq' => .inl (List.mem_singleton.1 hq')) q hq (by rw [e0]; exact List.mem_cons_self)) fun w5 b5 f5 z5 => ?_⟩
    have h5 := h4.away f5 fun q hq => by rw [List.mem_singleton] at hq; subst hq; exact ⟨hx0, hxr⟩
    have e5 : (anCells ⟨k, 0, (rdGr k b e).1, nsOf (ansO k) (rdNs k b e).xs, []⟩ a).setIfInBounds 12 (.slice a4 (rdText 65536 (rdNs k b e).bs (rdNs k b e).e).1.length c4) = anCells ⟨k, 0, (rdGr k b e).1, nsOf (ansO k) (rdNs k b e).xs, (rdText 65536 (rdNs k b e).bs (rdNs k b e).e).1⟩ { a with ia := a4, ic := c4 } := rfl
    rw [e5] at b5
    have hS : w1.heap.size ≤ w3.heap.size := Nat.le_trans b2.size f3.size
    refine told_k1 (by rw [hR]; show IRd wB w5 L gr gc false (rdInv k (rdNs k b e).bs (rdNs k b e).e).2.1 (rdInv k (rdNs k b e).bs (rdNs k b e).e).2.2; rw [hBi]; exact h5) b5 (AnN.low (n0 := n0) ⟨hga4.fr f5 (fun q hq => by rw [List.mem_singleton] at hq; omega), ?_, (fun q hq => ?_), by show (rdGr k b e).1.length ≤ 100; omega, by show (rdText 65536 (rdNs k b e).bs (rdNs k b e).e).1.length ≤ 100000; omega⟩ (by omega)) (h5.old BB hFw) hg0 (hAn _ (by show (rdInv k (rdNs k b e).bs (rdNs k b e).e).1 = _; rw [hBi])) (by rw [hR]; show (rdInv k (rdNs k b e).bs (rdNs k b e).e).2.1.length ≤ 100000; rw [hBi]; omega)
    · exact (o4.keep fun q hq => f5.block q (o4.lt q hq).2 (by rw [List.mem_singleton]; have := (o4.lt q hq).1; omega)).row
    · have hq : a4 = some q := hq
      subst hq
      have := (o4.lt q.block rfl).1
      omega
  · have hBi : rdInv k (rdNs k b e).bs (rdNs k b e).e = ([], (rdNs k b e).bs, (rdNs k b e).e) := by unfold rdInv; rw [if_neg n14]
    refine told_k1 (by rw [hR]; show IRd wB w3 L gr gc false (rdInv k (rdNs k b e).bs (rdNs k b e).e).2.1 (rdInv k (rdNs k b e).bs (rdNs k b e).e).2.2; rw [hBi]; exact h3) hb3 (AnN.low (n0 := n0) ⟨hga3, .inl rfl, (fun q hq => by have hq : a.ia = some q := hq; rw [hia.1] at hq; cases hq), by show (rdGr k b e).1.length ≤ 100; omega, by show 0 ≤ 100000; omega⟩ (by omega)) (h3.old BB hFw) hg0 (hAn _ (by show (rdInv k (rdNs k b e).bs (rdNs k b e).e).1 = _; rw [hBi])) (by rw [hR]; show (rdInv k (rdNs k b e).bs (rdNs k b e).e).2.1.length ≤ 100000; rw [hBi]; exact hbl3)
end
end Go.Proofs.Ytkggnbabnfhcpaa
end
section
/- An answer is read, wholly; walked. -/
namespace Go.Proofs.Ytkggnbabnfhcpaa
open Go.RowKit
set_option maxHeartbeats 3200000 in
theorem told_new (a : Option Addr) (c : Nat) (bs : List UInt8) (w : World) (hr : RowAt w a (bs.map bV)) (hl : bs.length ≤ 100000) : Calls Try.prog 21 #[.slice a bs.length c] w fun r w' => ∃ v, r = .returned v ∧ ToldV w bs v w' := by
  refine GWi.itold_calls a bs.length c w (ToldV w bs) ?_
  unfold GWi.itold_vc
  refine newB (Bs.refl w) fun g w2 g0 sg n2 z2 b2 B2 => (cRead_any a c bs w2 (hr.below B2 (Nat.le_refl _)) (by omega)).mono ?_
  rintro r w3 ⟨gc, L, rfl, hR3, hF, b3⟩
  have B3 := B2.to b3
  have b3s := b3.size
  have hFw : From w.heap.size L := fun k hk => by have := hF k hk; omega
  refine ⟨keepG_below b3, _, rfl, newB B3 fun gr w4 gr0 sgr n4 z4 b4 B4 => ?_⟩
  have hR4 : IRd w3 w4 L gr gc false bs 0 := ⟨(RP.start hR3).below b4, n4, by omega⟩
  have gnL : ∀ k ∈ [g], k ∉ L := fun k hk hm => by rw [List.mem_singleton] at hk; have := hF k hm; omega
  refine ⟨_, by rw [hR4.r.cell]; rfl, hR4.uint 14 (by decide) (by decide) (by omega) gnL fun w5 h5 f5 => ⟨_, rfl, ?_⟩⟩
  have B5 := h5.old B3 hFw
  have z5 := f5.size
  have z4' := b4.size
  refine newB B5 fun x w6 x0 sx n6 z6 b6 B6 => stB B6 x0 (show Bk w6 x _ _ from n6) rfl (fun q hq => by rw [List.mem_singleton] at hq; subst hq; omega) fun w7 n7 f7 B7 z7 => ?_
  have hxr : x ≠ gr := fun e0 => by have := h5.r.lt; omega
  have hx0 : w3.heap.size ≤ x := by omega
  have h7 := (h5.below b6).away f7 fun k hk => by rw [List.mem_singleton] at hk; subst hk; exact ⟨hx0, hxr⟩
  have hk : ansK bs = (rdUint 14 bs 0).1 := rfl
  have hb7 : Bk w7 x (anCells ⟨ansK bs, 0, [], fun _ => 0, []⟩ noAn) 62 := n7
  have hl1 := rdLenU 14 bs 0
  refine ⟨_, by rw [h7.r.cell]; rfl, h7.uint 255 (by decide) (by decide) (by omega) gnL fun w8 h8 f8 => ⟨_, rfl, ?_⟩⟩
  have hb8 := hb7.fr f8 (h7.low hx0)
  have hl2 := rdLenU 255 (rdUint 14 bs 0).2.1 (rdUint 14 bs 0).2.2
  have hgk : ∀ M : List Nat, (∀ q ∈ M, q = x ∨ q = gr ∨ q ∈ L) → ∀ k ∈ [g], k ∉ M := fun M hM k hk hm => by
    rw [List.mem_singleton] at hk
    subst hk
    rcases hM _ hm with e0 | e0 | e0
    · omega
    · omega
    · have := hF _ e0; omega
  refine stO_bk hb8 (i := 1) (by show 1 < 13; omega) (fun q hq e0 => hgk [x] (fun q' hq' => .inl (List.mem_singleton.1 hq')) q hq (by rw [e0]; exact List.mem_cons_self)) fun w9 b9 f9 z9 => ?_
  have h9 := h8.away f9 fun k hk => by rw [List.mem_singleton] at hk; subst hk; exact ⟨hx0, hxr⟩
  have e9 : (anCells ⟨ansK bs, 0, [], fun _ => 0, []⟩ noAn).setIfInBounds 1 (.int .i64 (rdUint 255 (rdUint 14 bs 0).2.1 (rdUint 14 bs 0).2.2).1) = anCells ⟨ansK bs, ansE bs, [], fun _ => 0, []⟩ noAn := rfl
  rw [e9] at b9
  have h9 : IRd w3 w9 L gr gc false (ans2 bs).1 (ans2 bs).2 := h9
  have hl2 : (ans2 bs).1.length ≤ 100000 := by show (rdUint 255 (rdUint 14 bs 0).2.1 (rdUint 14 bs 0).2.2).2.1.length ≤ 100000; omega
  have B9 := h9.old B3 hFw
  have z8 := f8.size
  have zx : x < w9.heap.size := b9.lt
  refine ⟨ansE bs, by rw [b9.cell]; rfl, br_dec (fun hE => ?_) fun hE => ?_⟩
  rotate_left
  · have hR : rdAns bs = ⟨[], [], [], (ans2 bs).1, (ans2 bs).2⟩ := by unfold rdAns; rw [if_neg hE]
    refine told_k1 (by rw [hR]; exact h9) b9 (AnN.low (n0 := g + 1) ⟨.inl rfl, .inl rfl, (fun k hk => by cases hk), by simp, by simp⟩ (Nat.le_refl _)) B9 g0 ?_ (by rw [hR]; exact hl2)
    unfold ansOf
    rw [hR]
    have : nsOf (ansO (ansK bs)) [] = fun _ => 0 := by
      funext o
      cases ansO (ansK bs) <;> rfl
    rw [this]
  have b9 : Bk w9 x (anCells ⟨ansK bs, 0, [], fun _ => 0, []⟩ noAn) 62 := by rw [hE] at b9; exact b9
  obtain ⟨b, e, h2⟩ : ∃ b e, ans2 bs = (b, e) := ⟨_, _, rfl⟩
  rw [h2] at h9 hl2
  dsimp only at h9 hl2
  generalize hkk : ansK bs = k at *
  refine ⟨k, by rw [b9.cell]; rfl, callB B9 (igrants_ret k w9) fun w10 b10 B10 => ⟨_, rfl, ?_⟩⟩
  have h10 := h9.below b10
  have hb10 := b9.below b10
  have z10 := b10.size
  by_cases hg : hasGr k
  · rw [decide_eq_true hg]
    refine br_t rfl ⟨_, by rw [h10.r.cell]; rfl, h10.uint 4 (by decide) (by decide) (by omega) gnL fun w11 h11 f11 => ⟨_, rfl, ?_⟩⟩
    have hn := uint_upto (bs := b) (e := e) (most := 4) (by decide)
    have hb11 := hb10.fr f11 (h10.low hx0)
    have hlen := rdLenU 4 b e
    have z11 := f11.size
    have e1 : rdGr k b e = ((rdM pGn ⟨[], (rdUint 4 b e).2.1, (rdUint 4 b e).2.2⟩ (rdUint 4 b e).1.toNat).xs, (rdM pGn ⟨[], (rdUint 4 b e).2.1, (rdUint 4 b e).2.2⟩ (rdUint 4 b e).1.toNat).bs, (rdM pGn ⟨[], (rdUint 4 b e).2.1, (rdUint 4 b e).2.2⟩ (rdUint 4 b e).1.toNat).e) := by unfold rdGr; rw [if_pos hg]; rfl
    have h11 : IRd w3 w11 L gr gc false (⟨[], (rdUint 4 b e).2.1, (rdUint 4 b e).2.2⟩ : RdM Gn).bs (⟨[], (rdUint 4 b e).2.1, (rdUint 4 b e).2.2⟩ : RdM Gn).e := h11
    have hs0x : (⟨[], (rdUint 4 b e).2.1, (rdUint 4 b e).2.2⟩ : RdM Gn).xs = [] := rfl
    have hs0b : (⟨[], (rdUint 4 b e).2.1, (rdUint 4 b e).2.2⟩ : RdM Gn).bs.length ≤ 100000 := Nat.le_trans hlen hl2
    generalize (⟨[], (rdUint 4 b e).2.1, (rdUint 4 b e).2.2⟩ : RdM Gn) = s0 at *
    generalize hnn : (rdUint 4 b e).1 = n at *
    have xsl : ∀ i, (rdM pGn s0 i).xs.length = i := fun i => by rw [rdM_len, hs0x]; simp
    refine ⟨fun y wx => ∃ (i : Nat) (ga : Option Addr) (gcc : Nat), y = i ∧ (i : Int) ≤ n ∧ IRd w3 wx L gr gc false (rdM pGn s0 i).bs (rdM pGn s0 i).e ∧ Bk wx x (anCells ⟨k, 0, (rdM pGn s0 i).xs, fun _ => 0, []⟩ ⟨ga, gcc, none, 0⟩) 62 ∧ Own wx w11.heap.size 111 4 (.slice ga i gcc) i ((rdM pGn s0 i).xs.flatMap gnC) ∧ w11.heap.size ≤ wx.heap.size, fun y _ => (n - y).toNat,
      ⟨0, none, 0, rfl, by omega, h11, ?_, ?_, Nat.le_refl _⟩, ?_⟩
    · have : (rdM pGn s0 0).xs = [] := List.length_eq_zero_iff.1 (xsl 0)
      rw [this]
      exact hb11
    · rw [List.length_eq_zero_iff.1 (xsl 0)]
      exact Own.nil _ _ _ _
    rintro y wx ⟨i, ga, gcc, rfl, hi, hR, hB, hO, hz⟩
    refine br_dec (fun h1 => ?_) fun h1 => by
      have : i = n.toNat := by omega
      subst this
      refine told_k2 (k := k) (b := b) (e := e) (n0 := w11.heap.size) (a := ⟨ga, gcc, none, 0⟩) (by rw [e1]; exact hR) (by rw [e1]; exact hB) (by rw [e1]; exact Rws.ofOwn (by omega) gnC_len hO) (by rw [e1]; show (rdM pGn s0 n.toNat).xs.length ≤ 4; rw [xsl]; omega) ⟨rfl, rfl⟩ hx0 (by omega) (by omega) hz B3 hFw g0 hgk hkk hE h2 hl2
    have hi1 : IntKind.i64.wrap ((i : Int) + 1) = ((i + 1 : Nat) : Int) := by rw [wr64 (by omega) (by omega)]; omega
    rw [hi1]
    have hbl : (rdM pGn s0 i).bs.length ≤ 100000 := Nat.le_trans (rdM_bs _ _ _) hs0b
    refine newB (Bs.refl wx) fun g4 w13 g40 sg4 n13 z13 b13 B13 => newB B13 fun g5 w14 g50 sg5 n14 z14 b14 B14 => ?_
    have k13 : Bk w13 g4 #[.int .i64 0, .int .i64 0, .int .i64 0, .bool false] 111 := n13
    have k14 := k13.below b14
    have hR14 := (hR.below b13).below b14
    have hB14 := (hB.below b13).below b14
    have hO14 := (hO.below b13 (Nat.le_refl _)).below b14 (Nat.le_refl _)
    have hg4r : g4 ≠ gr := fun e0 => by have := hR.r.lt; omega
    have hg4x : g4 ≠ x := fun e0 => by have := hB.lt; omega
    refine (take_any (os := [0, 1, 2]) hR14 (.inr ⟨g5, rfl, n14⟩) (fun q' hq' => by injection hq' with hq'; subst hq'; show w3.heap.size ≤ g5; omega) k14 (by omega) hg4r (by decide) (fun o ho => by simp at ho; show o < 4; omega) (by omega) (by simp)).mono ?_
    rintro r w15 ⟨rfl, hR15, k15, f15⟩
    obtain ⟨t1, t2, t3⟩ := gn_take (rdM pGn s0 i).bs (rdM pGn s0 i).e
    have hR15 : IRd w3 w15 L gr gc false (pI2.rd (rdM pGn s0 i).bs (rdM pGn s0 i).e).2.1 (pI2.rd (rdM pGn s0 i).bs (rdM pGn s0 i).e).2.2 := hR15
    have k15 : Bk w15 g4 #[.int .i64 (pGn.rd (rdM pGn s0 i).bs (rdM pGn s0 i).e).1.g, .int .i64 (pGn.rd (rdM pGn s0 i).bs (rdM pGn s0 i).e).1.u, .int .i64 (pGn.rd (rdM pGn s0 i).bs (rdM pGn s0 i).e).1.a, .bool false] 111 := k15
    have z15 := f15.size
    have hB15 := hB14.fr f15 fun hm => by
      rcases List.mem_cons.1 hm with e0 | hm
      · exact hg4x e0.symm
      · exact hR14.low hx0 hm
    have lowL : ∀ q, w11.heap.size ≤ q → q ∉ L := fun q hq hm => by have := h11.rp.un q hm; omega
    have hO15 : Own w15 w11.heap.size 111 4 (.slice ga i gcc) i ((rdM pGn s0 i).xs.flatMap gnC) := hO14.keep fun q hq => f15.block q (hO14.lt q hq).2 fun hm => by
      rcases List.mem_cons.1 hm with e0 | hm
      · have := (hO.lt q hq).2; omega
      · exact lowL q (hO14.lt q hq).1 hm
    have g4n : ∀ k ∈ [g], k ≠ g4 := fun k hk e0 => by rw [List.mem_singleton] at hk; omega
    refine ⟨keepG_fr f15 fun k hk hm => by
      rcases List.mem_cons.1 hm with e0 | hm
      · exact g4n k hk e0
      · exact gnL k hk hm, rfl, _, by rw [hR15.r.cell]; rfl, (rFlag_any gc _ _ L w15 hR15.rp.at').mono ?_⟩
    rintro r w16 ⟨rfl, r16, f16, _⟩
    have hR16 : IRd w3 w16 L gr gc false (rdM pGn s0 (i + 1)).bs (rdM pGn s0 (i + 1)).e := hR15.to r16 f16
    have k16 := k15.fr f16 (lowL g4 (by omega))
    have hB16 := hB15.fr f16 (hR15.low hx0)
    have hO16 := hO15.keep fun q hq => f16.block q (hO15.lt q hq).2 (lowL q (hO15.lt q hq).1)
    have z16 := f16.size
    refine ⟨keepG_fr f16 gnL, _, rfl, stO_bk k16 (i := 3) (by show 3 < 4; omega) g4n fun w17 b17 f17 z17 => ?_⟩
    have hR17 := hR16.away f17 fun q hq => by rw [List.mem_singleton] at hq; subst hq; exact ⟨by omega, hg4r⟩
    have hB17 := hB16.fr1 f17 hg4x.symm
    have hO17 : Own w17 w11.heap.size 111 4 (.slice ga i gcc) i ((rdM pGn s0 i).xs.flatMap gnC) := hO16.keep fun q hq => f17.block q (hO16.lt q hq).2 (by rw [List.mem_singleton]; have := (hO.lt q hq).2; omega)
    have c2 : ∀ {wy : World}, Bk wy x (anCells ⟨k, 0, (rdM pGn s0 i).xs, fun _ => 0, []⟩ ⟨ga, gcc, none, 0⟩) 62 → wy.cell? ⟨x, 2, none⟩ = some (.slice ga i gcc) := fun hy => by rw [hy.cell]; exact congrArg (fun n => some (Value.slice ga n gcc)) (xsl i)
    refine ⟨ga, i, gcc, c2 hB17, _, _, _, _, Bk.cells b17 0 rfl, newB (Bs.refl w17) fun g6 w18 g60 sg6 n18 z18 b18 B18 => ?_⟩
    have hO18 := hO17.below b18 (Nat.le_refl _)
    have hR18 := hR17.below b18
    have hB18 := hB17.below b18
    have gOwn : ∀ q ∈ [g], (Value.slice ga i gcc).ownBlock ≠ some q := fun q hq e0 => by rw [List.mem_singleton] at hq; have := (hO.lt q e0).1; omega
    refine ⟨1, _, gnC (pGn.rd (rdM pGn s0 i).bs (rdM pGn s0 i).e).1, hO18.base_le fun _ _ => Nat.zero_le _, src_block (cs := gnC (pGn.rd (rdM pGn s0 i).bs (rdM pGn s0 i).e).1) Try.underlying58 n18 rfl rfl, by unfold maxLen; omega, by omega, gOwn, fun a19 c19 w19 o19 g19 or19 _ => ?_⟩
    have hne : ∀ {q' : Nat} {cs : Array Value} {t : TypeId}, Bk w18 q' cs t → t ≠ 111 → (Value.slice ga i gcc).ownBlock ≠ some q' := fun hq ht => own_far2 hq hO18 ht
    have hB19 : Bk w19 x _ 62 := hB18.keep (g19.block x hB18.lt fun e0 => hne hB18 (by decide) e0.symm)
    have fo : Fr (Value.slice ga i gcc).ownBlock.toList w18 w19 := (Fr.refl _ w18).grown g19 fun k hk => .inl (by simp [hk])
    have hR19 := hR18.away fo fun q hq => by
      have hq : (Value.slice ga i gcc).ownBlock = some q := by simpa using hq
      exact ⟨by have := (hO18.lt q hq).1; omega, fun e0 => hne hR18.r (by decide) (e0 ▸ hq)⟩
    have o19' : Own w19 w11.heap.size 111 4 (.slice a19 (i + 1) c19) (i + 1) ((rdM pGn s0 (i + 1)).xs.flatMap gnC) := by
      show Own w19 w11.heap.size 111 4 (.slice a19 (i + 1) c19) (i + 1) (((rdM pGn s0 i).xs ++ [(pGn.rd (rdM pGn s0 i).bs (rdM pGn s0 i).e).1]).flatMap gnC)
      rw [List.flatMap_append, List.flatMap_cons, List.flatMap_nil, List.append_nil]
      exact o19.base_le fun q hq => by
        rcases or19 with h' | ⟨g', h', h''⟩
        · exact (hO18.lt q (h' ▸ hq)).1
        · rw [h'] at hq; injection hq with hq; omega
    have z19 := g19.size
    refine stO_bk hB19 (i := 2) (by show 2 < 13; omega) (fun q hq e0 => hgk [x] (fun q' hq' => .inl (List.mem_singleton.1 hq')) q hq (by rw [e0]; exact List.mem_cons_self)) fun w20 b20 f20 z20 => ⟨⟨i + 1, a19, c19, rfl, by omega, hR19.away f20 (fun q hq => by rw [List.mem_singleton] at hq; subst hq; exact ⟨hx0, hxr⟩), ?_, o19'.keep (fun q hq => f20.block q (o19'.lt q hq).2 (by rw [List.mem_singleton]; rintro rfl; exact own_far2 hB19 o19' (by decide) hq)), by omega⟩, by dsimp only; omega⟩
    have e20 : (anCells ⟨k, 0, (rdM pGn s0 i).xs, fun _ => 0, []⟩ ⟨ga, gcc, none, 0⟩).setIfInBounds 2 (.slice a19 (i + 1) c19) = anCells ⟨k, 0, (rdM pGn s0 (i + 1)).xs, fun _ => 0, []⟩ ⟨a19, c19, none, 0⟩ := by
      have e0 : (rdM pGn s0 (i + 1)).xs.length = i + 1 := xsl (i + 1)
      unfold anCells
      dsimp only
      rw [e0]
      rfl
    rw [← e20]
    exact b20
  · rw [decide_eq_false hg]
    have e1 : rdGr k b e = ([], b, e) := by unfold rdGr; rw [if_neg hg]
    exact br_f rfl (told_k2 (k := k) (b := b) (e := e) (n0 := w10.heap.size) (a := noAn) (by rw [e1]; exact h10) (by rw [e1]; exact hb10) (by rw [e1]; exact .inl rfl) (by rw [e1]; simp) ⟨rfl, rfl⟩ hx0 (by omega) (by omega) (Nat.le_refl _) B3 hFw g0 hgk hkk hE h2 hl2)
end Go.Proofs.Ytkggnbabnfhcpaa
end
section
/- A plan is read by the document; the plans that come in; walked. -/
namespace Go.Proofs.Ytkggnbabnfhcpaa
open Go.RowKit
/-- Since w0 only the document's reader, and new blocks, have turned. -/
structure FP (w0 w : World) (g : Nat) (bs : List UInt8) (e : Int) : Prop where
  at' : RfAt w g bs e
  fr : Fr [g] w0 w
  lt : g < w0.heap.size
section
variable {w0 w w1 w2 : World} {g : Nat} {bs : List UInt8} {e : Int}
theorem FP.start (h : RfAt w g bs e) : FP w w g bs e := ⟨h, Fr.refl _ _, Bk.lt h⟩
theorem FP.below (h : FP w0 w g bs e) (b : Below w.heap.size w w1) : FP w0 w1 g bs e := ⟨Bk.keep h.at' (b.block g (Bk.lt h.at')), h.fr.trans (Fr.ofBelow (L := [g]) b) (Gr.refl _ _), h.lt⟩
theorem FP.box (h : FP w0 w g bs e) {x : Nat} (hx : BoxSt x w w1) (hz : w0.heap.size ≤ x) : FP w0 w1 g bs e :=
  ⟨Bk.keep h.at' (hx.1.block g (Bk.lt h.at') (by rw [List.mem_singleton]; have := h.lt; omega)), h.fr.trans hx.1 (fun k hk => by rw [List.mem_singleton] at hk; exact .inr (by omega)), h.lt⟩
theorem FP.uint (h : FP w0 w g bs e) {gs : List Nat} {R : Ending → World → Prop} (most : Int) (hm : most ≤ 9223372036854775807) (hm2 : 0 ≤ most) (hl : bs.length ≤ 100000000) (hg : ∀ x ∈ gs, x ≠ g)
    (k : ∀ w1, FP w0 w1 g (rdUint most bs e).2.1 (rdUint most bs e).2.2 → Fr [g] w w1 → w1.heap.size = w.heap.size → R (.returned (.int .i64 (rdUint most bs e).1)) w1) :
    Calls Try.prog 38 #[.pointer (some ⟨g, 0, none⟩), .int .i64 most] w fun r w1 => KeepG gs w w1 ∧ R r w1 :=
  (fRuint_any g most hm (by omega) bs e w h.at' hl).mono (by
    rintro r w1 ⟨rfl, h1, f1, z1⟩
    exact ⟨keepG_fr f1 fun x hx hm => hg x hx (by simpa using hm), k w1 ⟨h1, h.fr.trans f1 (Gr.refl _ _), h.lt⟩ f1 z1⟩)
end
theorem rdTs_add (s : RdT) (i : Nat) : ∀ k, rdTs s (i + k) = rdTs (rdTs s i) k
  | 0 => rfl
  | k + 1 => by show rdTr (rdTs s (i + k)) = rdTr (rdTs (rdTs s i) k); rw [rdTs_add s i k]
def TakeF (w : World) (gr : Nat) (bs : List UInt8) (e : Int) (v : Value) (w' : World) : Prop :=
  ∃ (t : Tar) (a : Option Addr) (c : Nat), v = tarV t a c ∧ TsAt w.heap.size w' a t.ts ∧ RfAt w' gr (rdTar bs e).2.1 (rdTar bs e).2.2 ∧ Fr [gr] w w' ∧ t.ts.length ≤ 6 ∧ ((rdTar bs e).2.2 = 0 → t = (rdTar bs e).1)
set_option maxRecDepth 20000 in
theorem rtake_new (gr : Nat) (bs : List UInt8) (e : Int) (w : World) (h : RfAt w gr bs e) (hl : bs.length ≤ 100000000) :
    Calls Try.prog 70 #[.pointer (some ⟨gr, 0, none⟩)] w fun r w' => ∃ v, r = .returned v ∧ TakeF w gr bs e v w' := by
  refine GTarB.rtake_calls (some ⟨gr, 0, none⟩) w (TakeF w gr bs e) ?_
  unfold GTarB.rtake_vc
  have hE := rdTar_eq bs e
  have hg0 := Bk.lt h
  have r1 := rd3_len bs e 1
  have r2 := rd3_len bs e 2
  have r3 := rd3_len bs e 3
  have ne : ∀ x, w.heap.size ≤ x → x ≠ gr := fun x hx => by omega
  refine newO_in fun w2 n2 b2 s2 => ((FP.start h).below b2).uint 1099511627776 (by decide) (by decide) hl (fun x hx => by rw [List.mem_singleton] at hx; subst hx; exact ne _ (by omega)) fun w3 R3 f3 z3 => ⟨_, rfl, newO_in fun w4 n4 b4 s4 w5 h5 => ?_⟩
  have z5 := h5.2
  refine ((R3.below b4).box h5 (by omega)).uint 1099511627776 (by decide) (by decide) (Nat.le_trans r1 hl) (fun x hx => by simp only [List.mem_cons, List.not_mem_nil, or_false] at hx; exact ne _ (by omega)) fun w6 R6 f6 z6 => ⟨_, rfl, fun w7 h7 => ?_⟩
  have z7 := h7.2
  refine (R6.box h7 (by omega)).uint 1099511627776 (by decide) (by decide) (Nat.le_trans r2 hl) (fun x hx => by simp only [List.mem_cons, List.not_mem_nil, or_false] at hx; exact ne _ (by omega)) fun w8 R8 f8 z8 => ⟨_, rfl, fun w9 h9 => ?_⟩
  have z9 := h9.2
  refine (R8.box h9 (by omega)).uint 6 (by decide) (by decide) (Nat.le_trans r3 hl) (fun x hx => by simp only [List.mem_cons, List.not_mem_nil, or_false] at hx; exact ne _ (by omega)) fun w10 R10 f10 z10 => ⟨_, rfl, ?_⟩
  have e0 : (rdUint 1099511627776 bs e).1 = rd3v bs e 0 := rfl
  have e1 : (rdUint 1099511627776 (rdUint 1099511627776 bs e).2.1 (rdUint 1099511627776 bs e).2.2).1 = rd3v bs e 1 := rfl
  have e2 : (rdUint 1099511627776 (rdUint 1099511627776 (rdUint 1099511627776 bs e).2.1 (rdUint 1099511627776 bs e).2.2).2.1 (rdUint 1099511627776 (rdUint 1099511627776 bs e).2.1 (rdUint 1099511627776 bs e).2.2).2.2).1 = rd3v bs e 2 := rfl
  rw [e0, e1, e2]
  change FP w w10 gr (rdUint 6 (rd3 bs e 3).1 (rd3 bs e 3).2).2.1 (rdUint 6 (rd3 bs e 3).1 (rd3 bs e 3).2).2.2 at R10
  have hn := rdUint_range 6 (rd3 bs e 3).1 (rd3 bs e 3).2
  have hn6 := uint_le (most := 6) (bs := (rd3 bs e 3).1) (e := (rd3 bs e 3).2) (by decide)
  have hnl := rdLenU 6 (rd3 bs e 3).1 (rd3 bs e 3).2
  have en : (rdUint 6 (rdUint 1099511627776 (rdUint 1099511627776 (rdUint 1099511627776 bs e).2.1 (rdUint 1099511627776 bs e).2.2).2.1 (rdUint 1099511627776 (rdUint 1099511627776 bs e).2.1 (rdUint 1099511627776 bs e).2.2).2.2).2.1 (rdUint 1099511627776 (rdUint 1099511627776 (rdUint 1099511627776 bs e).2.1 (rdUint 1099511627776 bs e).2.2).2.1 (rdUint 1099511627776 (rdUint 1099511627776 bs e).2.1 (rdUint 1099511627776 bs e).2.2).2.2).2.2).1 = (rdUint 6 (rd3 bs e 3).1 (rd3 bs e 3).2).1 := rfl
  rw [en]
  clear e0 e1 e2 en
  generalize rdUint 6 (rd3 bs e 3).1 (rd3 bs e 3).2 = q at *
  obtain ⟨n, qb, qe⟩ := q
  dsimp only at *
  have hts := rdTs_len ⟨[], qb, qe⟩
  have htb := rdTs_bs ⟨[], qb, qe⟩
  have hbs0 : (⟨[], qb, qe⟩ : RdT).bs.length = qb.length := rfl
  have hs0 : (⟨[], qb, qe⟩ : RdT).ts.length = 0 := rfl
  have R10 : FP w w10 gr (⟨[], qb, qe⟩ : RdT).bs (⟨[], qb, qe⟩ : RdT).e := R10
  generalize (⟨[], qb, qe⟩ : RdT) = s0 at *
  refine ⟨fun x x0 x1 x2 a3 n3 c3 wx => ∃ i : Nat, x = i ∧ (i : Int) ≤ n ∧ x0 = rd3v bs e 0 ∧ x1 = rd3v bs e 1 ∧ x2 = rd3v bs e 2 ∧ n3 = i ∧ FP w wx gr (rdTs s0 i).bs (rdTs s0 i).e ∧ Own wx w10.heap.size 142 2 (.slice a3 i c3) i ((rdTs s0 i).ts.flatMap trCells) ∧ w10.heap.size ≤ wx.heap.size, fun x _ _ _ _ _ _ _ => n.toNat - x.toNat, ?_, ?_⟩
  · refine ⟨0, rfl, by omega, rfl, rfl, rfl, rfl, R10, ?_, by omega⟩
    rw [show (rdTs s0 0).ts = [] from List.length_eq_zero_iff.1 (by rw [hts 0, hs0])]
    exact Own.nil _ _ _ _
  rintro x x0 x1 x2 a3 n3 c3 wx ⟨i, rfl, hi, rfl, rfl, rfl, rfl, hR, hO, hsz⟩
  have hti : (rdTs s0 n3).ts.length = n3 := by rw [hts n3, hs0]; omega
  have klt := fun k hk => hO.lt k hk
  have fin : (n3 : Int) = n ∨ (rdTs s0 n3).e ≠ 0 → ∀ w20, BoxSt w.heap.size wx w20 → TakeF w gr bs e (.agg #[.int .i64 (rd3v bs e 0), .int .i64 (rd3v bs e 1), .int .i64 (rd3v bs e 2), .slice a3 n3 c3]) w20 := by
    intro hor w20 h20
    have R20 := hR.box h20 (Nat.le_refl _)
    have O20 := hO.box h20 fun k hk => by have := (klt k hk).1; omega
    have hst : (rdTs s0 n.toNat).e = (rdTs s0 n3).e ∧ (rdTs s0 n.toNat).bs = (rdTs s0 n3).bs := by
      rcases hor with q | q
      · rw [show n.toNat = n3 by omega]; exact ⟨rfl, rfl⟩
      · rw [show n.toNat = n3 + (n.toNat - n3) by omega, rdTs_add]; exact rdTs_dead q _
    refine ⟨⟨rd3v bs e 0, rd3v bs e 1, rd3v bs e 2, (rdTs s0 n3).ts⟩, a3, c3, ?_, (Rws.ofOwn (by decide) tr_len O20).low (by omega), ?_, R20.fr, ?_, fun h0 => ?_⟩
    · unfold tarV; dsimp only; rw [hti]
    · rw [hE]; show RfAt _ _ (rdTs s0 n.toNat).bs (rdTs s0 n.toNat).e; rw [hst.1, hst.2]; exact R20.at'
    · show (rdTs s0 n3).ts.length ≤ 6; omega
    · rw [hE] at h0 ⊢
      have h0 : (rdTs s0 n.toNat).e = 0 := h0
      rw [hst.1] at h0
      rcases hor with q | q
      · dsimp only; rw [show n.toNat = n3 by omega]
      · exact absurd h0 q
  refine br_dec (fun hlt => ⟨_, RfAt.c1 hR.at', br_dec (fun he0 => ?_) fun he0 => fin (.inr he0)⟩) fun hge => fin (.inl (by omega))
  have hbl := htb n3
  have hR1 := rdLenU 1099511627776 (rdTs s0 n3).bs (rdTs s0 n3).e
  refine hR.uint 1099511627776 (by decide) (by decide) (by omega) (fun x hx => by simp only [List.mem_cons, List.not_mem_nil, or_false] at hx; exact ne _ (by omega)) fun w12 R12 f12 z12 => ⟨_, rfl, newO_in fun w13 n13 b13 s13 w14 h14 => ?_⟩
  have z14 := h14.2
  refine ((R12.below b13).box h14 (by omega)).uint 1099511627776 (by decide) (by decide) (by omega) (fun x hx => by simp only [List.mem_cons, List.not_mem_nil, or_false] at hx; exact ne _ (by omega)) fun w15 R15 f15 z15 => ⟨_, rfl, fun w16 h16 => newO_in fun w17 n17 b17 s17 => ?_⟩
  have z16 := h16.2
  have kO : ∀ k ∈ [gr], k < w10.heap.size := fun k hk => by rw [List.mem_singleton] at hk; omega
  have O16 : Own w16 w10.heap.size 142 2 (.slice a3 n3 c3) n3 ((rdTs s0 n3).ts.flatMap trCells) := (own_fr ((own_fr hO f12 kO).newbox b13 rfl h14) f15 kO).box h16 fun k hk => by have := (klt k hk).2; omega
  have O17 := O16.below b17 (Nat.le_refl _)
  have R17 := (R15.box h16 (by omega)).below b17
  refine ⟨1, _, _, O17.base_le fun _ _ => Nat.zero_le _, src_block (n := 1) (size := 2) Try.underlying23 n17 rfl rfl, by unfold maxLen; omega, by omega, fun x hx e => ?_, fun a' c' w18 o18 g18 or18 _ w19 h19 => ?_⟩
  · have := klt _ e
    simp only [List.mem_cons, List.not_mem_nil, or_false] at hx
    omega
  have z18 := g18.size
  have o18' : Own w18 w10.heap.size 142 2 (.slice a' (n3 + 1) c') (n3 + 1) ((rdTs s0 n3).ts.flatMap trCells ++ trCells ⟨(rdUint 1099511627776 (rdTs s0 n3).bs (rdTs s0 n3).e).1, (rdUint 1099511627776 (rdUint 1099511627776 (rdTs s0 n3).bs (rdTs s0 n3).e).2.1 (rdUint 1099511627776 (rdTs s0 n3).bs (rdTs s0 n3).e).2.2).1⟩) := o18.base_le fun k hk => by
    rcases or18 with q | ⟨y, q, hy⟩
    · rw [q] at hk; exact (klt k hk).1
    · rw [q] at hk; injection hk with hk; omega
  have R18 : FP w w18 gr (rdTs s0 (n3 + 1)).bs (rdTs s0 (n3 + 1)).e := ⟨Bk.keep R17.at' (g18.block gr (by omega) fun h => by have := klt gr h.symm; omega), R17.fr.grown g18 fun k hk => .inr (by have := klt k hk; omega), hg0⟩
  have z19 := h19.2
  rw [wr64 (by omega) (by omega)]
  refine ⟨⟨n3 + 1, by omega, by omega, rfl, rfl, rfl, rfl, R18.box h19 (by omega), ?_, by omega⟩, by dsimp only; omega⟩
  have ho := o18'.box h19 fun k hk => by have := (o18'.lt k hk).1; omega
  have : (rdTs s0 (n3 + 1)).ts = (rdTs s0 n3).ts ++ [⟨(rdUint 1099511627776 (rdTs s0 n3).bs (rdTs s0 n3).e).1, (rdUint 1099511627776 (rdUint 1099511627776 (rdTs s0 n3).bs (rdTs s0 n3).e).2.1 (rdUint 1099511627776 (rdTs s0 n3).bs (rdTs s0 n3).e).2.2).1⟩] := rfl
  rw [this, List.flatMap_append]
  simpa using ho
end Go.Proofs.Ytkggnbabnfhcpaa
end
section
/- A plan is read by the document, whole; walked. -/
namespace Go.Proofs.Ytkggnbabnfhcpaa
open Go.RowKit
theorem rdTar_dead {bs : List UInt8} {e : Int} (h : (rdTar bs e).2.2 = 0) : e = 0 := (un_tar h).1
set_option maxRecDepth 20000 in
theorem rread_new (bs : List UInt8) (w : World) (hl : bs.length ≤ 100000000) :
    Calls Try.prog 41 #[.string (strOf bs)] w fun r w' => ∃ v, r = .returned v ∧ PlanRd w bs v w' := by
  refine GTarB.rread_calls (strOf bs) w (PlanRd w bs) ?_
  unfold GTarB.rread_vc
  refine newB (Bs.refl w) fun g w2 g0 sg n2 z2 b2 B2 => newB B2 fun g2 w3 g02 sg2 n3 z3 b3 B3 => ?_
  have F3 : FP w3 w3 g2 bs 0 := FP.start n3
  have ne : ∀ {x : Nat}, x ≠ g2 → x ≠ g2 := id
  have hFw : From w.heap.size [g2] := fun k hk => by rw [List.mem_singleton] at hk; omega
  have Bof : ∀ {wy : World} {b : List UInt8} {e : Int}, FP w3 wy g2 b e → Bs w wy := fun h => B3.trans (h.fr.below hFw B3.size)
  have r1 := rd3_len bs 0 1
  have r2 := rd3_len bs 0 2
  have r3 := rd3_len bs 0 3
  refine F3.uint 1099511627776 (by decide) (by decide) hl (fun x hx => by rw [List.mem_singleton] at hx; omega) fun w4 R4 f4 z4 => ⟨_, rfl, newO_in fun w5 n5 b5 s5 w6 h6 => ?_⟩
  have z6 := h6.2
  have gs3 : ∀ x ∈ [w4.heap.size, g], x ≠ g2 := fun x hx => by
    simp only [List.mem_cons, List.not_mem_nil, or_false] at hx
    omega
  refine ((R4.below b5).box h6 (by omega)).uint 1099511627776 (by decide) (by decide) (Nat.le_trans r1 hl) gs3 fun w7 R7 f7 z7 => ⟨_, rfl, fun w8 h8 => ?_⟩
  have z8 := h8.2
  refine (R7.box h8 (by omega)).uint 1099511627776 (by decide) (by decide) (Nat.le_trans r2 hl) gs3 fun w9 R9 f9 z9 => ⟨_, rfl, fun w10 h10 => ?_⟩
  have z10 := h10.2
  have R10 := R9.box h10 (by omega)
  have e0 : (rdUint 1099511627776 bs 0).1 = rd3v bs 0 0 := rfl
  have e1 : (rdUint 1099511627776 (rdUint 1099511627776 bs 0).2.1 (rdUint 1099511627776 bs 0).2.2).1 = rd3v bs 0 1 := rfl
  have e2 : (rdUint 1099511627776 (rdUint 1099511627776 (rdUint 1099511627776 bs 0).2.1 (rdUint 1099511627776 bs 0).2.2).2.1 (rdUint 1099511627776 (rdUint 1099511627776 bs 0).2.1 (rdUint 1099511627776 bs 0).2.2).2.2).1 = rd3v bs 0 2 := rfl
  rw [e0, e1, e2]
  change FP w3 w10 g2 (rd3 bs 0 3).1 (rd3 bs 0 3).2 at R10
  have hE := rdPl_eq bs
  have v0 := rd3v_range bs 0 0
  clear e0 e1 e2
  have hb1 := rdTar_bs (rd3 bs 0 3).1 (rd3 bs 0 3).2
  refine (rtake_new g2 _ _ w10 R10.at' (by omega)).mono ?_
  rintro r w11 ⟨v, rfl, t1, a1, c1, rfl, ta, R11, f11, l1, q1⟩
  have z11 := f11.size
  have hb2 := rdTar_bs (rdTar (rd3 bs 0 3).1 (rd3 bs 0 3).2).2.1 (rdTar (rd3 bs 0 3).1 (rd3 bs 0 3).2).2.2
  generalize rdTar (rd3 bs 0 3).1 (rd3 bs 0 3).2 = p1 at *
  obtain ⟨T1, bs1, e1⟩ := p1
  dsimp only at *
  generalize rd3v bs 0 0 = d0 at *
  generalize rd3v bs 0 1 = d1 at *
  generalize rd3v bs 0 2 = d2 at *
  have R11' : FP w3 w11 g2 bs1 e1 := ⟨R11, R10.fr.trans f11 (Gr.refl _ _), R10.lt⟩
  refine ⟨keepG_fr f11 (fun x hx hm => gs3 x hx (by simpa using hm)), _, _, _, _, _, _, rfl, fun w12 h12 => ?_⟩
  have z12 := h12.2
  have R12 := R11'.box h12 (by omega)
  have t12 := ta.box h12 (by omega)
  have fin : ∀ (wy : World) (P : Pl) (a2 : Option Addr) (c2 : Nat) (bs' : List UInt8) (e' : Int), FP w3 wy g2 bs' e' → TsAt w10.heap.size wy a1 P.base.ts → TsAt w10.heap.size wy a2 P.other.ts → P.base.ts.length ≤ 6 → P.other.ts.length ≤ 6 → (0 ≤ P.day ∧ P.day ≤ 9223372036854775807) → w5.heap.size ≤ wy.heap.size → (rdPl bs).2 = (bs', e') → (e' = 0 → (rdPl bs).1 = P) →
      Calls Try.prog 43 #[.pointer (some ⟨g2, 0, none⟩)] wy fun e_5 w_13 => KeepG [w4.heap.size, g] wy w_13 ∧
      ∃ (x35 : Int),
      e_5 = .returned (.int .i64 x35) ∧
      br (decide (x35 ≠ 0)) (
        ∀ w_14 : World, BoxSt g w_13 w_14 →
        PlanRd w bs (.tuple #[.agg #[.int .i64 0, .int .i64 0, .int .i64 0, .int .i64 0, .int .i64 0, .int .i64 0, .slice none 0 0, .int .i64 0, .int .i64 0, .int .i64 0, .slice none 0 0], .int .i64 2]) w_14
      ) (
        Calls Try.prog 30 #[planV P a1 c1 a2 c2] w_13 fun e_6 w_15 => KeepG [w4.heap.size, g] w_13 w_15 ∧
        ∃ (x39 : Int),
        e_6 = .returned (.int .i64 x39) ∧
        br (decide (x39 ≠ 0)) (
          ∀ w_16 : World, BoxSt g w_15 w_16 →
          PlanRd w bs (.tuple #[.agg #[.int .i64 0, .int .i64 0, .int .i64 0, .int .i64 0, .int .i64 0, .int .i64 0, .slice none 0 0, .int .i64 0, .int .i64 0, .int .i64 0, .slice none 0 0], .int .i64 x39]) w_16
        ) (
          ∀ w_17 : World, BoxSt g w_15 w_17 →
          PlanRd w bs (.tuple #[planV P a1 c1 a2 c2, .int .i64 0]) w_17
        )
      ) := by
    intro wy P a2 c2 bs' e' Ry ta tb la lb hd hsy hq hP
    have BB := Bof Ry
    refine (fRend_any g2 bs' e' wy Ry.at').mono ?_
    rintro r w13 ⟨rfl, rfl⟩
    have hEE : rdPlE bs = if rdEnd bs' e' ≠ 0 then 2 else planE (rdPl bs).1 := by unfold rdPlE; rw [hq]
    refine ⟨keepG_nil' _ _, _, rfl, br_dec (fun k => boxB BB g0 fun w14 h14 B14 _ => planRd_bad 2 (by decide) (by rw [hEE, if_pos k]) B14) fun k => ?_⟩
    have he' : e' = 0 := (end_zero (Decidable.not_not.1 k)).1
    rw [if_neg k, hP he'] at hEE
    have hpA : PlAt wy P a1 a2 := ⟨ta.low (Nat.zero_le _), tb.low (Nat.zero_le _), by omega, by omega⟩
    refine callB BB (r9cplan_ret P a1 a2 c1 c2 wy hpA) fun w15 b15 B15 => ⟨_, rfl, br_dec (fun k1 => boxB B15 g0 fun w16 h16 B16 _ => planRd_bad (planE P) k1 hEE B16) fun k1 => boxB B15 g0 fun w17 h17 B17 _ => ?_⟩
    have hp0 : rdPlE bs = 0 := by rw [hEE]; exact Decidable.not_not.1 k1
    have hPP : rdPlan bs = P := by unfold rdPlan; rw [if_pos hp0, hP he']
    unfold PlanRd
    rw [hPP, hp0]
    exact ⟨⟨a1, a2, c1, c2, rfl, ((ta.below b15).box h17 (by omega)).low (by omega), ((tb.below b15).box h17 (by omega)).low (by omega), la, lb, hd⟩, B17⟩
  refine br_dec (fun hd => ?_) fun hd => ?_
  · rw [if_pos hd] at hE
    refine (rtake_new g2 _ _ w12 R12.at' (by omega)).mono ?_
    rintro r w13 ⟨v, rfl, t2, a2, c2, rfl, tb, R13, f13, l2, q2⟩
    have z13 := f13.size
    have hde := @rdTar_dead bs1 e1
    generalize rdTar bs1 e1 = p2 at *
    obtain ⟨T2, bs2, e2⟩ := p2
    dsimp only at *
    refine ⟨keepG_fr f13 (fun x hx hm => gs3 x hx (by simpa using hm)), _, _, _, _, _, _, rfl, fun w14 h14 => ?_⟩
    have R14 : FP w3 w14 g2 bs2 e2 := FP.box ⟨R13, R12.fr.trans f13 (Gr.refl _ _), R12.lt⟩ h14 (by omega)
    have z14 := h14.2
    have t14 := (t12.fr f13 (fun k hk => by rw [List.mem_singleton] at hk; omega)).box h14 (by omega)
    refine fin w14 ⟨d0, d1, d2, t1, t2⟩ a2 c2 bs2 e2 R14 t14 ((tb.box h14 (by omega)).low (by omega)) l1 l2 v0 (by omega) (by rw [hE]) fun h0 => ?_
    rw [hE, q2 h0, q1 (hde h0)]
  · rw [if_neg hd] at hE
    refine fin w12 ⟨d0, d1, d2, t1, ⟨0, 0, 0, []⟩⟩ none 0 bs1 e1 R12 t12 Rws.nil l1 (by simp) v0 (by omega) (by rw [hE]) fun h0 => ?_
    rw [hE, q1 h0]
end Go.Proofs.Ytkggnbabnfhcpaa
end
section
/- A request is read by the document; walked. -/
namespace Go.Proofs.Ytkggnbabnfhcpaa
open Go.RowKit
theorem FP.to {w0 w w1 : World} {g : Nat} {bs bs2 : List UInt8} {e e2 : Int} (h : FP w0 w g bs e) (r : RfAt w1 g bs2 e2) (f : Fr [g] w w1) : FP w0 w1 g bs2 e2 := ⟨r, h.fr.trans f (Gr.refl _ _), h.lt⟩
theorem qrlim_any {w0 w : World} {g : Nat} {bs : List UInt8} {e : Int} (h : FP w0 w g bs e) (hl : bs.length ≤ 100000000) :
    Calls Try.prog 40 #[.pointer (some ⟨g, 0, none⟩)] w fun r w' => r = .returned (.tuple #[.int .i64 (rdInt bs e).1, .bool (decide (limOk (rdInt bs e).1))]) ∧ FP w0 w' g (rdInt bs e).2.1 (rdInt bs e).2.2 ∧ Fr [g] w w' ∧ w'.heap.size = w.heap.size := by
  refine (GWiR.qrlim_calls (some ⟨g, 0, none⟩) w (fun v w' => v = .tuple #[.int .i64 (rdInt bs e).1, .bool (decide (limOk (rdInt bs e).1))] ∧ FP w0 w' g (rdInt bs e).2.1 (rdInt bs e).2.2 ∧ Fr [g] w w' ∧ w'.heap.size = w.heap.size) ?_).mono (by rintro e w' ⟨v, rfl, rfl, h⟩; exact ⟨rfl, h⟩)
  unfold GWiR.qrlim_vc
  refine (fRint_any g bs e w h.at' hl).mono ?_
  rintro r w2 ⟨rfl, h2, f2, z2⟩
  refine ⟨keepG_nil _ _, _, rfl, br_dec (fun h1 => ⟨?_, h.to h2 f2, f2, z2⟩) fun h1 => ⟨?_, h.to h2 f2, f2, z2⟩⟩
  · have : decide ((rdInt bs e).1 ≤ 4611686018427387904) = decide (limOk (rdInt bs e).1) := by
      apply Bool.eq_iff_iff.2
      rw [decide_eq_true_iff, decide_eq_true_iff]
      unfold limOk wfar
      omega
    rw [this]
  · rw [decide_eq_false (fun c : limOk _ => h1 c.1)]
def QIts (w0 w : World) (g : Nat) (k : Int) (bs : List UInt8) (e : Int) (v : Value) (w' : World) : Prop :=
  ∃ a n c, v = .slice a n c ∧ FP w0 w' g ((pItems k).rd bs e).2.1 ((pItems k).rd bs e).2.2 ∧ Fr [g] w w' ∧ (((pItems k).rd bs e).2.2 = 0 → n = ((pItems k).rd bs e).1.length ∧ ItsAt w.heap.size w' a ((pItems k).rd bs e).1) ∧ n ≤ 100
set_option maxHeartbeats 800000 in
theorem qritems_any {w0 w : World} {g : Nat} {bs : List UInt8} {e : Int} {k : Int} (hk : k = 1 ∨ k = 2 ∨ k = 3) (h : FP w0 w g bs e) (hl : bs.length ≤ 100000) :
    Calls Try.prog 39 #[.pointer (some ⟨g, 0, none⟩), .int .i64 k] w fun r w' => ∃ v, r = .returned v ∧ QIts w0 w g k bs e v w' := by
  refine GWiR.qritems_calls (some ⟨g, 0, none⟩) k w (QIts w0 w g k bs e) ?_
  unfold GWiR.qritems_vc QIts
  have e1 : (pItems k).rd bs e = ((rdM (pIt k) ⟨[], (rdUint 4 bs e).2.1, (rdUint 4 bs e).2.2⟩ (rdUint 4 bs e).1.toNat).xs, (rdM (pIt k) ⟨[], (rdUint 4 bs e).2.1, (rdUint 4 bs e).2.2⟩ (rdUint 4 bs e).1.toNat).bs, (rdM (pIt k) ⟨[], (rdUint 4 bs e).2.1, (rdUint 4 bs e).2.2⟩ (rdUint 4 bs e).1.toNat).e) := rfl
  rw [e1]
  dsimp only
  have hlen := rdLenU 4 bs e
  have hn := uint_upto (bs := bs) (e := e) (most := 4) (by decide)
  have hfp0 : w0.heap.size ≤ w.heap.size := h.fr.size
  refine h.uint 4 (by decide) (by decide) (by omega) (fun x hx => by cases hx) fun w3 h3 f3 z3 => ⟨_, rfl, ?_⟩
  have h3 : FP w0 w3 g (⟨[], (rdUint 4 bs e).2.1, (rdUint 4 bs e).2.2⟩ : RdM It).bs (⟨[], (rdUint 4 bs e).2.1, (rdUint 4 bs e).2.2⟩ : RdM It).e := h3
  have hs0x : (⟨[], (rdUint 4 bs e).2.1, (rdUint 4 bs e).2.2⟩ : RdM It).xs = [] := rfl
  have hs0b : (⟨[], (rdUint 4 bs e).2.1, (rdUint 4 bs e).2.2⟩ : RdM It).bs.length ≤ 100000 := Nat.le_trans hlen hl
  generalize (⟨[], (rdUint 4 bs e).2.1, (rdUint 4 bs e).2.2⟩ : RdM It) = s0 at *
  generalize hnn : (rdUint 4 bs e).1 = n at *
  have xsl : ∀ i, (rdM (pIt k) s0 i).xs.length = i := fun i => by rw [rdM_len, hs0x]; simp
  refine ⟨fun a5 n5 c5 y wx => ∃ i : Nat, y = i ∧ (i : Int) ≤ n ∧ n5 = i ∧ FP w0 wx g (rdM (pIt k) s0 i).bs (rdM (pIt k) s0 i).e ∧ Own wx w.heap.size 81 3 (.slice a5 i c5) i ((rdM (pIt k) s0 i).xs.flatMap itC) ∧ Fr [g] w wx, fun _ _ _ y _ => (n - y).toNat,
    ⟨0, rfl, by omega, rfl, h3, by rw [List.length_eq_zero_iff.1 (xsl 0)]; exact Own.nil _ _ _ _, f3⟩, ?_⟩
  rintro a5 n5 c5 y wx ⟨i, rfl, hi, rfl, hR, hO, hF⟩
  have zw := hF.size
  have fin : (n5 : Int) = n ∨ (rdM (pIt k) s0 n5).e ≠ 0 → ∃ a n' c, Value.slice a5 n5 c5 = .slice a n' c ∧ FP w0 wx g (rdM (pIt k) s0 n.toNat).bs (rdM (pIt k) s0 n.toNat).e ∧ Fr [g] w wx ∧ ((rdM (pIt k) s0 n.toNat).e = 0 → n' = (rdM (pIt k) s0 n.toNat).xs.length ∧ ItsAt w.heap.size wx a (rdM (pIt k) s0 n.toNat).xs) ∧ n' ≤ 100 := fun hc => by
    rcases hc with hc | hc
    · have : n5 = n.toNat := by omega
      subst this
      exact ⟨_, _, _, rfl, hR, hF, fun _ => ⟨(xsl _).symm, Rws.ofOwn (by omega) itC_len hO⟩, by omega⟩
    · obtain ⟨q1, q2⟩ := rdM_stop (pIt k) (i := n5) (n := n.toNat) (by omega) hc
      rw [q1, q2]
      exact ⟨_, _, _, rfl, hR, hF, fun c => absurd c hc, by omega⟩
  refine br_dec (fun h1 => ?_) fun h1 => fin (.inl (by omega))
  refine withP_mk g 0 rfl ⟨(rdM (pIt k) s0 n5).e, hR.at'.c1, br_dec (fun he => ?_) fun he => fin (.inr he)⟩
  have hbl : (rdM (pIt k) s0 n5).bs.length ≤ 100000 := Nat.le_trans (rdM_bs _ _ _) hs0b
  have hi1 : IntKind.i64.wrap ((n5 : Int) + 1) = ((n5 + 1 : Nat) : Int) := by rw [wr64 (by omega) (by omega)]; omega
  have glt := hR.lt
  refine newB (Bs.refl wx) fun g3 w5 g30 sg5 n6 z5 b5 B5 => ?_
  have hg3 : g3 ≠ g := fun e0 => by have := Bk.lt hR.at'; omega
  have hO5 := hO.below b5 (Nat.le_refl _)
  have hF5 : Fr [g] w w5 := hF.trans (Fr.ofBelow (L := [g]) b5) (Gr.refl _ _)
  -- what goes on with the item
  have put : ∀ (x : It) (w9 : World), FP w0 w9 g (rdM (pIt k) s0 (n5 + 1)).bs (rdM (pIt k) s0 (n5 + 1)).e → ((pIt k).rd (rdM (pIt k) s0 n5).bs (rdM (pIt k) s0 n5).e).1 = x → Own w9 w.heap.size 81 3 (.slice a5 n5 c5) n5 ((rdM (pIt k) s0 n5).xs.flatMap itC) → Fr [g] w w9 → g3 < w9.heap.size → w9.heap.size ≤ w9.heap.size →
      newO w9 (.cells #[.int .i64 x.g, .int .i64 x.u, .int .i64 x.w] 81) fun g_4 w_16 => appO Try.prog [g3] w_16 81 3 24 22 a5 n5 c5 (.slice (some ⟨g_4, 0, none⟩) 1 1) fun m39 a39 c39 w_17 =>
        (∃ i' : Nat, IntKind.i64.wrap ((n5 : Int) + 1) = i' ∧ (i' : Int) ≤ n ∧ n5 + m39 = i' ∧ FP w0 w_17 g (rdM (pIt k) s0 i').bs (rdM (pIt k) s0 i').e ∧ Own w_17 w.heap.size 81 3 (.slice a39 i' c39) i' ((rdM (pIt k) s0 i').xs.flatMap itC) ∧ Fr [g] w w_17) ∧ (n - IntKind.i64.wrap ((n5 : Int) + 1)).toNat < (n - (n5 : Int)).toNat := fun x w9 hR9 hx hO9 hF9 hg9 _ => by
    rw [hi1]
    refine newB (Bs.refl w9) fun g4 w10 g40 sg10 n10 z10 b10 B10 => ?_
    have hO10 := hO9.below b10 (Nat.le_refl _)
    have hR10 := hR9.below b10
    have hF10 : Fr [g] w w10 := hF9.trans (Fr.ofBelow (L := [g]) b10) (Gr.refl _ _)
    refine ⟨1, _, itC x, hO10.base_le fun _ _ => Nat.zero_le _, src_block (cs := itC x) Try.underlying22 n10 rfl rfl, by unfold maxLen; omega, by omega, (fun q hq e0 => by rw [List.mem_singleton] at hq; subst hq; have := (hO.lt q e0).2; omega), fun a11 c11 w11 o11 g11 or11 _ => ?_⟩
    have fo : Fr (Value.slice a5 n5 c5).ownBlock.toList w10 w11 := (Fr.refl _ w10).grown g11 fun k hk => .inl (by simp [hk])
    have hog : (Value.slice a5 n5 c5).ownBlock ≠ some g := fun e0 => by
      have hb : Bk w10 g _ _ := hR10.at'
      exact own_far2 hb hO10 (by decide) e0
    refine ⟨⟨n5 + 1, rfl, by omega, rfl, ⟨Bk.fr hR10.at' fo (fun hm => hog (by simpa using hm)), hR10.fr.trans fo (fun q hq => .inr (by have := (hO10.lt q (by simpa using hq)).1; omega)), hR10.lt⟩, ?_, hF10.grown g11 fun q hq => .inr (hO10.lt q hq).1⟩, by omega⟩
    show Own w11 w.heap.size 81 3 (.slice a11 (n5 + 1) c11) (n5 + 1) (((rdM (pIt k) s0 n5).xs ++ [((pIt k).rd (rdM (pIt k) s0 n5).bs (rdM (pIt k) s0 n5).e).1]).flatMap itC)
    rw [hx, List.flatMap_append, List.flatMap_cons, List.flatMap_nil, List.append_nil]
    exact o11.base_le fun q hq => by
      rcases or11 with h' | ⟨g', h', h''⟩
      · exact (hO10.lt q (h' ▸ hq)).1
      · rw [h'] at hq; injection hq with hq; have := hF10.size; omega
  have own2 : ∀ {w6 : World}, w5.heap.size ≤ w6.heap.size → (∀ q, q < w5.heap.size → q ≠ g → q ≠ g3 → w6.heap[q]? = w5.heap[q]?) → Own w6 w.heap.size 81 3 (.slice a5 n5 c5) n5 ((rdM (pIt k) s0 n5).xs.flatMap itC) := fun _ hk => hO5.keep fun q hq => hk q (hO5.lt q hq).2 (fun e0 => by
      subst e0
      have hb : Bk w5 q _ _ := (hR.below b5).at'
      exact own_far2 hb hO5 (by decide) hq) (fun e0 => by have := (hO.lt q hq).2; omega)
  have hgs : ∀ x ∈ [g3], x ≠ g := fun x hx => by rw [List.mem_singleton] at hx; subst hx; exact hg3
  have box : ∀ {wa wb : World} {b' : List UInt8} {e' : Int}, FP w0 wa g b' e' → BoxSt g3 wa wb → FP w0 wb g b' e' := fun hh hx => hh.box hx (by omega)
  refine (hR.below b5).uint 4611686018427387904 (by decide) (by decide) (by omega) hgs fun w6 h6 f6 z6 => ⟨_, rfl, fun w7 x7 => ?_⟩
  have h7 := box h6 x7
  have z7 := x7.2
  have k7 : ∀ q, q < w5.heap.size → q ≠ g → q ≠ g3 → w7.heap[q]? = w5.heap[q]? := fun q h1 h2 h3 => (x7.1.block q (by omega) (by rw [List.mem_singleton]; exact h3)).trans (f6.block q h1 (by rw [List.mem_singleton]; exact h2))
  have F7 : Fr [g] w w7 := (hF5.trans f6 (Gr.refl _ _)).trans x7.1 fun q hq => by rw [List.mem_singleton] at hq; exact .inr (by omega)
  have l1 : (rdUint 4611686018427387904 (rdM (pIt k) s0 n5).bs (rdM (pIt k) s0 n5).e).2.1.length ≤ 100000 := Nat.le_trans (rdLenU _ _ _) hbl
  rcases hk with rfl | rfl | rfl
  · refine br_n (by decide) ?_
    unfold GWiR.qritems_k1
    refine br_y (by decide) (h7.uint 4611686018427387904 (by decide) (by decide) (by omega) hgs fun w8 h8 f8 z8 => ⟨_, rfl, fun w9 x9 => ?_⟩)
    have z9 := x9.2
    exact put ⟨_, 0, _⟩ w9 (box h8 x9) rfl (own2 (by omega) fun q h1 h2 h3 => (x9.1.block q (by omega) (by rw [List.mem_singleton]; exact h3)).trans ((f8.block q (by omega) (by rw [List.mem_singleton]; exact h2)).trans (k7 q h1 h2 h3))) ((F7.trans f8 (Gr.refl _ _)).trans x9.1 fun q hq => by rw [List.mem_singleton] at hq; exact .inr (by omega)) (by omega) (Nat.le_refl _)
  · refine br_y (by decide) (h7.uint 4611686018427387904 (by decide) (by decide) (by omega) hgs fun w8 h8 f8 z8 => ⟨_, rfl, fun w9 x9 => ?_⟩)
    have z9 := x9.2
    have l2 := Nat.le_trans (rdLenU 4611686018427387904 (rdUint 4611686018427387904 (rdM (pIt 2) s0 n5).bs (rdM (pIt 2) s0 n5).e).2.1 (rdUint 4611686018427387904 (rdM (pIt 2) s0 n5).bs (rdM (pIt 2) s0 n5).e).2.2) l1
    have k9 : ∀ q, q < w5.heap.size → q ≠ g → q ≠ g3 → w9.heap[q]? = w5.heap[q]? := fun q h1 h2 h3 => (x9.1.block q (by omega) (by rw [List.mem_singleton]; exact h3)).trans ((f8.block q (by omega) (by rw [List.mem_singleton]; exact h2)).trans (k7 q h1 h2 h3))
    have F9 : Fr [g] w w9 := (F7.trans f8 (Gr.refl _ _)).trans x9.1 fun q hq => by rw [List.mem_singleton] at hq; exact .inr (by omega)
    unfold GWiR.qritems_k1
    refine br_y (by decide) ((box h8 x9).uint 4611686018427387904 (by decide) (by decide) (by omega) hgs fun w10 h10 f10 z10 => ⟨_, rfl, fun w11 x11 => ?_⟩)
    have z11 := x11.2
    exact put ⟨_, _, _⟩ w11 (box h10 x11) rfl (own2 (by omega) fun q h1 h2 h3 => (x11.1.block q (by omega) (by rw [List.mem_singleton]; exact h3)).trans ((f10.block q (by omega) (by rw [List.mem_singleton]; exact h2)).trans (k9 q h1 h2 h3))) ((F9.trans f10 (Gr.refl _ _)).trans x11.1 fun q hq => by rw [List.mem_singleton] at hq; exact .inr (by omega)) (by omega) (Nat.le_refl _)
  · refine br_y (by decide) (h7.uint 4611686018427387904 (by decide) (by decide) (by omega) hgs fun w8 h8 f8 z8 => ⟨_, rfl, fun w9 x9 => ?_⟩)
    have z9 := x9.2
    unfold GWiR.qritems_k1
    refine br_n (by decide) ?_
    exact put ⟨_, _, 0⟩ w9 (box h8 x9) rfl (own2 (by omega) fun q h1 h2 h3 => (x9.1.block q (by omega) (by rw [List.mem_singleton]; exact h3)).trans ((f8.block q (by omega) (by rw [List.mem_singleton]; exact h2)).trans (k7 q h1 h2 h3))) ((F7.trans f8 (Gr.refl _ _)).trans x9.1 fun q hq => by rw [List.mem_singleton] at hq; exact .inr (by omega)) (by omega) (Nat.le_refl _)
end Go.Proofs.Ytkggnbabnfhcpaa
end
section
/- A request is read by the document, wholly; walked. -/
namespace Go.Proofs.Ytkggnbabnfhcpaa
open Go.RowKit
def QAskedV (w : World) (bs : List UInt8) (v : Value) (w' : World) : Prop := ∃ a, v = .tuple #[rqV (rdReq bs) a, .bool (decide (reqOk bs))] ∧ RqIn w' (rdReq bs) a ∧ Below w.heap.size w w'
theorem qasked_no {w w' : World} {bs : List UInt8} (h : ¬ reqOk bs) (B : Bs w w') : QAskedV w bs (.tuple #[rqV zeroRq noA, .bool false]) w' := by
  refine ⟨noA, ?_, ?_, B⟩
  · unfold rdReq; rw [if_neg h, decide_eq_false h]
  · unfold rdReq; rw [if_neg h]
    exact (RqN.none 0 w' zeroRq ⟨rfl, rfl, rfl⟩).to
theorem reqOf_eq {bs : List UInt8} {k : Int} {xs : List Int} {its : List It} {lim : Int} {p : Pl} {cs : List Int} {bad : Bool} {b : List UInt8} {e : Int} (hk : (rdUint wfar bs 0).1 = k) (hx : (rdHead bs).xs = xs) (ht : rdTail bs = ⟨its, lim, p, cs, bad, b, e⟩) : reqOf bs = ⟨k, nsL k xs lim, its, p, cs⟩ := by
  unfold reqOf
  rw [hk, hx, ht]
theorem rdTail_eq {bs : List UInt8} {k : Int} {s : RdM Int} (hk : (rdUint wfar bs 0).1 = k) (hs : rdHead bs = s) : rdTail bs = rdRest k s.bs s.e := by
  unfold rdTail
  rw [hk, hs]
section
variable {w w0 : World} {g g2 g3 : Nat} {bs : List UInt8}
theorem q_step {wx : World} {s : RdM Int} {j : Nat} {gs : List Nat} (h : FP w0 wx g2 (rdM pFar s j).bs (rdM pFar s j).e) (hl : s.bs.length ≤ 100000) (hg : ∀ x ∈ gs, x ≠ g2) (h3 : w0.heap.size ≤ g3) {K : Int → World → Prop}
    (k : ∀ w8, FP w0 w8 g2 (rdM pFar s (j + 1)).bs (rdM pFar s (j + 1)).e → wx.heap.size ≤ w8.heap.size → K (rdUint wfar (rdM pFar s j).bs (rdM pFar s j).e).1 w8) :
    Calls Try.prog 38 #[.pointer (some ⟨g2, 0, none⟩), .int .i64 4611686018427387904] wx fun e w7 => KeepG gs wx w7 ∧ ∃ (x : Int), e = .returned (.int .i64 x) ∧ ∀ w8 : World, BoxSt g3 w7 w8 → K x w8 :=
  h.uint 4611686018427387904 (by decide) (by decide) (Nat.le_trans (rdM_bs pFar s j) (by omega)) hg fun w7 h7 f7 z7 => ⟨_, rfl, fun w8 x8 => k w8 (h7.box x8 h3) (by have := x8.2; omega)⟩
/-- The end of it. -/
theorem q_end {w13 : World} {gs : List Nat} {V : Value} {n0 : Nat} (h : FP w0 w13 g2 (rdTail bs).bs (rdTail bs).e) (B0 : Bs w w0) (hb : (rdTail bs).bad = false) (hk : 1 ≤ (rdUint wfar bs 0).1 ∧ (rdUint wfar bs 0).1 ≤ 14) (hg0 : w.heap.size ≤ g) (hg2 : w.heap.size ≤ g2) (hn : g < n0)
    (hv : (rdTail bs).e = 0 → ∃ a, V = rqV (reqOf bs) a ∧ RqN n0 w13 (reqOf bs) a) :
    Calls Try.prog 43 #[.pointer (some ⟨g2, 0, none⟩)] w13 fun e_5 w_14 => KeepG gs w13 w_14 ∧ ∃ (x164 : Int), e_5 = .returned (.int .i64 x164) ∧ br (decide (x164 ≠ 0)) (∀ w_15 : World, BoxSt g w_14 w_15 → QAskedV w bs (.tuple #[rqV zeroRq noA, .bool false]) w_15) (∀ w_16 : World, BoxSt g w_14 w_16 → QAskedV w bs (.tuple #[V, .bool true]) w_16) := by
  have B13 : Bs w w13 := B0.fr1 h.fr hg2
  refine (fRend_any g2 _ _ w13 h.at').mono ?_
  rintro r w14 ⟨rfl, rfl⟩
  refine ⟨fun _ _ _ => rfl, _, rfl, br_dec (fun h1 => boxB B13 hg0 fun w15 x15 B15 z15 => qasked_no (fun c => h1 c.2.2) B15) fun h1 => boxB B13 hg0 fun w15 x15 B15 z15 => ?_⟩
  have he := Decidable.not_not.1 h1
  have hok : reqOk bs := ⟨hk, hb, he⟩
  obtain ⟨a, rfl, hr⟩ := hv (end_zero he).1
  have hRq : rdReq bs = reqOf bs := by unfold rdReq; rw [if_pos hok]
  refine ⟨a, by rw [hRq, decide_eq_true hok], ?_, B15⟩
  rw [hRq]
  exact (hr.box x15 hn).to
end
set_option maxHeartbeats 6400000 in
theorem qasked_new (bs : List UInt8) (w : World) (hl : bs.length ≤ 100000) : Calls Try.prog 15 #[.string (strOf bs)] w fun r w' => ∃ v, r = .returned v ∧ QAskedV w bs v w' := by
  refine GWiR.qasked_calls (strOf bs) w (QAskedV w bs) ?_
  unfold GWiR.qasked_vc
  refine newB (Bs.refl w) fun g w2 g0 sg n2 z2 b2 B2 => newB B2 fun g2 w3 g20 sg2 n3 z3 b3 B3 => ?_
  have h3 : FP w3 w3 g2 bs 0 := FP.start n3
  have gne : g ≠ g2 := by omega
  refine h3.uint 4611686018427387904 (by decide) (by decide) (by omega) (fun x hx => by rw [List.mem_singleton] at hx; omega) fun w4 h4 f4 z4 => ⟨_, rfl, newB (B3.fr1 f4 g20) fun g3 w5 g30 sg3 n5 z5 b5 B5 => fun w6 x6 => ?_⟩
  have h6 := (h4.below b5).box x6 (by omega)
  have B6 : Bs w w6 := B3.fr1 h6.fr g20
  have hgs : ∀ x ∈ [g3, g], x ≠ g2 := fun x hx => by simp at hx; omega
  have h30 : w3.heap.size ≤ g3 := by omega
  generalize hk : (rdUint 4611686018427387904 bs 0).1 = k at *
  have hk : (rdUint wfar bs 0).1 = k := hk
  have hsl : (rdUint wfar bs 0).2.1.length ≤ 100000 := Nat.le_trans (rdLenU _ _ _) hl
  have hH : ∀ m, (numsO k).length = m → rdHead bs = rdM pFar ⟨[], (rdUint wfar bs 0).2.1, (rdUint wfar bs 0).2.2⟩ m := fun m hm => by unfold rdHead; rw [hk, hm]
  have h6 : FP w3 w6 g2 (rdM pFar ⟨[], (rdUint wfar bs 0).2.1, (rdUint wfar bs 0).2.2⟩ 0).bs (rdM pFar ⟨[], (rdUint wfar bs 0).2.1, (rdUint wfar bs 0).2.2⟩ 0).e := h6
  have hsx : (⟨[], (rdUint wfar bs 0).2.1, (rdUint wfar bs 0).2.2⟩ : RdM Int).xs = [] := rfl
  have hsl : (⟨[], (rdUint wfar bs 0).2.1, (rdUint wfar bs 0).2.2⟩ : RdM Int).bs.length ≤ 100000 := hsl
  generalize hs0 : (⟨[], (rdUint wfar bs 0).2.1, (rdUint wfar bs 0).2.2⟩ : RdM Int) = s at *
  have sx1 : (rdM pFar s 1).xs = [(rdUint wfar (rdM pFar s 0).bs (rdM pFar s 0).e).1] := by show s.xs ++ _ = _; rw [hsx]; rfl
  have sx2 : (rdM pFar s 2).xs = [(rdUint wfar (rdM pFar s 0).bs (rdM pFar s 0).e).1, (rdUint wfar (rdM pFar s 1).bs (rdM pFar s 1).e).1] := by show (rdM pFar s 1).xs ++ _ = _; rw [sx1]; rfl
  have sx3 : (rdM pFar s 3).xs = [(rdUint wfar (rdM pFar s 0).bs (rdM pFar s 0).e).1, (rdUint wfar (rdM pFar s 1).bs (rdM pFar s 1).e).1, (rdUint wfar (rdM pFar s 2).bs (rdM pFar s 2).e).1] := by show (rdM pFar s 2).xs ++ _ = _; rw [sx2]; rfl
  have sx4 : (rdM pFar s 4).xs = [(rdUint wfar (rdM pFar s 0).bs (rdM pFar s 0).e).1, (rdUint wfar (rdM pFar s 1).bs (rdM pFar s 1).e).1, (rdUint wfar (rdM pFar s 2).bs (rdM pFar s 2).e).1, (rdUint wfar (rdM pFar s 3).bs (rdM pFar s 3).e).1] := by show (rdM pFar s 3).xs ++ _ = _; rw [sx3]; rfl
  have sb : ∀ j, (rdM pFar s j).bs.length ≤ 100000 := fun j => Nat.le_trans (rdM_bs pFar s j) hsl
  -- kinds with numbers alone
  have plain : ∀ {m : Nat} {xs : List Int} {V : Value} {wx : World}, (numsO k).length = m → (rdM pFar s m).xs = xs → ¬ k ≤ 3 → ¬ hasLim k → k ≠ 11 → k ≠ 12 → k ≤ 14 → V = rqV ⟨k, nsL k xs 0, [], zeroPl, []⟩ noA → FP w3 wx g2 (rdM pFar s m).bs (rdM pFar s m).e →
      Calls Try.prog 43 #[.pointer (some ⟨g2, 0, none⟩)] wx fun e_5 w_14 => KeepG [g3, g] wx w_14 ∧ ∃ (x164 : Int), e_5 = .returned (.int .i64 x164) ∧ br (decide (x164 ≠ 0)) (∀ w_15 : World, BoxSt g w_14 w_15 → QAskedV w bs (.tuple #[rqV zeroRq noA, .bool false]) w_15) (∀ w_16 : World, BoxSt g w_14 w_16 → QAskedV w bs (.tuple #[V, .bool true]) w_16) := fun {m xs V wx} hm hx q1 q2 q3 q4 q5 hV hf => by
    have hT : rdTail bs = _ := (rdTail_eq hk (hH _ hm)).trans (rdRest_none q1 q2 q3 q4 _ _)
    have hQ := reqOf_eq (xs := xs) hk (by rw [hH _ hm]; exact hx) hT
    refine q_end (n0 := g + 1) (by rw [hT]; exact hf) B3 (by rw [hT]) (by rw [hk]; omega) g0 g20 (by omega) fun _ => ⟨noA, by rw [hQ]; exact hV, by rw [hQ]; exact RqN.none _ _ _ ⟨rfl, rfl, rfl⟩⟩
  have its : ∀ {m : Nat} {xs : List Int} {wx : World} {k' : Int} {F : Option Addr → Nat → Nat → Value}, k' = k → (numsO k).length = m → (rdM pFar s m).xs = xs → (k = 1 ∨ k = 2 ∨ k = 3) → (∀ (ys : List It) a c, F a ys.length c = rqV ⟨k, nsL k xs 0, ys, zeroPl, []⟩ { noA with ia := a, ic := c }) → g3 < wx.heap.size → FP w3 wx g2 (rdM pFar s m).bs (rdM pFar s m).e →
      Calls Try.prog 39 #[.pointer (some ⟨g2, 0, none⟩), .int .i64 k'] wx fun e_4 w_11 => KeepG [g3, g] wx w_11 ∧ ∃ (a29 : Option Addr) (n29 : Nat) (c29 : Nat), e_4 = .returned (.slice a29 n29 c29) ∧ ∀ w_12 : World, BoxSt g3 w_11 w_12 →
        Calls Try.prog 43 #[.pointer (some ⟨g2, 0, none⟩)] w_12 fun e_5 w_14 => KeepG [g3, g] w_12 w_14 ∧ ∃ (x164 : Int), e_5 = .returned (.int .i64 x164) ∧ br (decide (x164 ≠ 0)) (∀ w_15 : World, BoxSt g w_14 w_15 → QAskedV w bs (.tuple #[rqV zeroRq noA, .bool false]) w_15) (∀ w_16 : World, BoxSt g w_14 w_16 → QAskedV w bs (.tuple #[F a29 n29 c29, .bool true]) w_16) := fun {m xs wx k' F} hk' hm hx hk3 hF hz hf => by
    subst hk'
    have hT : rdTail bs = _ := (rdTail_eq hk (hH _ hm)).trans (rdRest_items (by omega) _ _)
    have hQ := reqOf_eq (xs := xs) hk (by rw [hH _ hm]; exact hx) hT
    have hw36 := hf.fr.size
    refine (qritems_any hk3 hf (sb m)).mono ?_
    rintro r w11 ⟨v, rfl, a, n, c, rfl, h11, f11, hq, hn⟩
    refine ⟨keepG_fr f11 fun x hx hm => by rw [List.mem_singleton] at hm; exact hgs x hx hm, a, n, c, rfl, fun w12 x12 => ?_⟩
    have h12 := h11.box x12 h30
    refine q_end (n0 := wx.heap.size) (by rw [hT]; exact h12) B3 (by rw [hT]) (by rw [hk]; omega) g0 g20 (by omega) fun he => ?_
    rw [hT] at he
    obtain ⟨rfl, hi⟩ := hq he
    refine ⟨{ noA with ia := a, ic := c }, by rw [hQ]; exact hF _ _ _, ?_⟩
    rw [hQ]
    exact ⟨hi.box x12 hz, .inl rfl, .inl rfl, by show 0 ≤ 1000; omega, by show 0 ≤ 1000; omega, .inl rfl, (fun k hk => by cases hk), hn, by show 0 ≤ 100; omega, by show _ ≤ (0 : Int) ∧ (0 : Int) ≤ _; decide⟩
  have lim : ∀ {m : Nat} {xs : List Int} {wx : World} {F : Int → Value}, (numsO k).length = m → (rdM pFar s m).xs = xs → hasLim k → (∀ z, F z = rqV ⟨k, nsL k xs z, [], zeroPl, []⟩ noA) → FP w3 wx g2 (rdM pFar s m).bs (rdM pFar s m).e →
      Calls Try.prog 40 #[.pointer (some ⟨g2, 0, none⟩)] wx fun e_4 w_11 => KeepG [g3, g] wx w_11 ∧ ∃ (x80 : Int) (b80 : Bool), e_4 = .returned (.tuple #[.int .i64 x80, .bool b80]) ∧ ∀ w_12 : World, BoxSt g3 w_11 w_12 →
        br (!b80) (∀ w_50 : World, BoxSt g w_12 w_50 → QAskedV w bs (.tuple #[rqV zeroRq noA, .bool false]) w_50) (Calls Try.prog 43 #[.pointer (some ⟨g2, 0, none⟩)] w_12 fun e_5 w_14 => KeepG [g3, g] w_12 w_14 ∧ ∃ (x164 : Int), e_5 = .returned (.int .i64 x164) ∧ br (decide (x164 ≠ 0)) (∀ w_15 : World, BoxSt g w_14 w_15 → QAskedV w bs (.tuple #[rqV zeroRq noA, .bool false]) w_15) (∀ w_16 : World, BoxSt g w_14 w_16 → QAskedV w bs (.tuple #[F x80, .bool true]) w_16)) := fun {m xs wx F} hm hx hl9 hF hf => by
    have hk2 := hl9
    unfold hasLim at hk2
    have hT : rdTail bs = _ := (rdTail_eq hk (hH _ hm)).trans (rdRest_lim hl9 _ _)
    have hQ := reqOf_eq (xs := xs) hk (by rw [hH _ hm]; exact hx) hT
    refine (qrlim_any hf (by have := sb m; omega)).mono ?_
    rintro r w11 ⟨rfl, h11, f11, z11⟩
    refine ⟨keepG_fr f11 fun x hx hm => by rw [List.mem_singleton] at hm; exact hgs x hx hm, _, _, rfl, fun w12 x12 => ?_⟩
    have h12 := h11.box x12 h30
    have B12 : Bs w w12 := B3.fr1 h12.fr g20
    by_cases hlo : limOk (rdInt (rdM pFar s m).bs (rdM pFar s m).e).1
    · rw [decide_eq_true hlo]
      refine br_f rfl (q_end (n0 := g + 1) (by rw [hT]; exact h12) B3 (by rw [hT]; simp [hlo]) (by rw [hk]; omega) g0 g20 (by omega) fun _ => ⟨noA, by rw [hQ]; exact hF _, by rw [hQ]; exact RqN.none _ _ _ ⟨rfl, rfl, rfl⟩⟩)
    · rw [decide_eq_false hlo]
      exact br_t rfl (boxB B12 g0 fun w15 x15 B15 z15 => qasked_no (fun c => by have := c.2.1; rw [hT] at this; simp [hlo] at this) B15)
  have z6 : g3 < w6.heap.size := by have := x6.2; omega
  refine br_dec (fun e => ?_) fun n1 => br_dec (fun e => ?_) fun n2 => br_dec (fun e => ?_) fun n3 => br_dec (fun e => ?_) fun n4 => br_dec (fun e => ?_) fun n5 => br_dec (fun e => ?_) fun n6 => br_dec (fun e => ?_) fun n7 => br_dec (fun e => ?_) fun n8 => br_dec (fun e => ?_) fun n13 => br_dec (fun e => ?_) fun n9 => br_dec (fun e => ?_) fun n10 => br_dec (fun e => ?_) fun n11 => br_dec (fun e => ?_) fun n12 => br_dec (fun e => ?_) fun n14 => ?_
  · subst e
    refine q_step h6 hsl hgs h30 fun w8 h8 z8 => q_step h8 hsl hgs h30 fun w10 h10 z10 => ?_
    unfold GWiR.qasked_k1
    exact its (m := 2) rfl rfl sx2 (.inl rfl) (fun ys a c => rfl) (by omega) h10
  · subst e
    refine q_step h6 hsl hgs h30 fun w8 h8 z8 => q_step h8 hsl hgs h30 fun w10 h10 z10 => ?_
    unfold GWiR.qasked_k1
    exact its (m := 2) rfl rfl sx2 (.inr (.inl rfl)) (fun ys a c => rfl) (by omega) h10
  · subst e
    refine q_step h6 hsl hgs h30 fun w8 h8 z8 => q_step h8 hsl hgs h30 fun w10 h10 z10 => ?_
    unfold GWiR.qasked_k1
    exact its (m := 2) rfl rfl sx2 (.inr (.inr rfl)) (fun ys a c => rfl) (by omega) h10
  · subst e
    refine q_step h6 hsl hgs h30 fun w8 h8 z8 => q_step h8 hsl hgs h30 fun w10 h10 z10 => q_step h10 hsl hgs h30 fun w12 h12 z12 => q_step h12 hsl hgs h30 fun w14 h14 z14 => ?_
    unfold GWiR.qasked_k1
    exact plain (m := 4) rfl sx4 (by decide) (by decide) (by decide) (by decide) (by decide) rfl h14
  · subst e
    refine q_step h6 hsl hgs h30 fun w8 h8 z8 => q_step h8 hsl hgs h30 fun w10 h10 z10 => ?_
    unfold GWiR.qasked_k1
    exact plain (m := 2) rfl sx2 (by decide) (by decide) (by decide) (by decide) (by decide) rfl h10
  · subst e
    refine q_step h6 hsl hgs h30 fun w8 h8 z8 => q_step h8 hsl hgs h30 fun w10 h10 z10 => q_step h10 hsl hgs h30 fun w12 h12 z12 => ?_
    unfold GWiR.qasked_k2
    exact lim (m := 3) rfl sx3 (.inl rfl) (fun z => rfl) h12
  · subst e
    refine q_step h6 hsl hgs h30 fun w8 h8 z8 => q_step h8 hsl hgs h30 fun w10 h10 z10 => ?_
    unfold GWiR.qasked_k1
    exact plain (m := 2) rfl sx2 (by decide) (by decide) (by decide) (by decide) (by decide) rfl h10
  · subst e
    refine q_step h6 hsl hgs h30 fun w8 h8 z8 => ?_
    unfold GWiR.qasked_k1
    exact plain (m := 1) rfl sx1 (by decide) (by decide) (by decide) (by decide) (by decide) rfl h8
  · subst e
    refine q_step h6 hsl hgs h30 fun w8 h8 z8 => ?_
    unfold GWiR.qasked_k1
    exact plain (m := 1) rfl sx1 (by decide) (by decide) (by decide) (by decide) (by decide) rfl h8
  · subst e
    refine q_step h6 hsl hgs h30 fun w8 h8 z8 => ?_
    unfold GWiR.qasked_k2
    exact lim (m := 1) rfl sx1 (.inr rfl) (fun z => rfl) h8
  · subst e
    refine q_step h6 hsl hgs h30 fun w8 h8 z8 => q_step h8 hsl hgs h30 fun w10 h10 z10 => ?_
    unfold GWiR.qasked_k1
    exact plain (m := 2) rfl sx2 (by decide) (by decide) (by decide) (by decide) (by decide) rfl h10
  · subst e
    have hT : rdTail bs = _ := (rdTail_eq hk (hH 0 rfl)).trans (rdRest_plan rfl _ _)
    have hQ := reqOf_eq (xs := []) hk (by rw [hH 0 rfl]; exact hsx) hT
    have sb0 := sb 0
    refine (fRtext_any g2 1024 (by decide) (by decide) _ _ w6 h6.at' (by omega)).mono ?_
    rintro r w7 ⟨rfl, k7, f7, z7⟩
    have h7 := h6.to k7 f7
    have htl : (rdText 1024 (rdM pFar s 0).bs (rdM pFar s 0).e).1.length ≤ 100000 := by have := (text_len (most := 1024) (bs := (rdM pFar s 0).bs) (e := (rdM pFar s 0).e)).1; omega
    refine ⟨keepG_fr f7 fun x hx hm => by rw [List.mem_singleton] at hm; exact hgs x hx hm, _, rfl, (rread_new _ w7 (by omega)).mono ?_⟩
    rintro r w8 ⟨pl, rfl, ⟨a1, a2, c1, c2, rfl, ht1, ht2, hl1, hl2, hd⟩, b8⟩
    have h8 := h7.below b8
    have z8 := b8.size
    generalize (rdText 1024 (rdM pFar s 0).bs (rdM pFar s 0).e).1 = tx at *
    refine ⟨keepG_below b8, _, _, _, _, _, _, _, _, _, _, _, _, _, _, _, _, rfl, newB (Bs.refl w8) fun g4 w9 g40 sg4 n9 z9 b9 B9 => fun w10 x10 w11 x11 => ?_⟩
    have zx10 := x10.2
    have T1 := (ht1.newbox b9 sg4 x10).box x11 (by omega)
    have T2 := (ht2.newbox b9 sg4 x10).box x11 (by omega)
    have h11 := ((h8.below b9).box x10 (by omega)).box x11 h30
    have B11 : Bs w w11 := B3.fr1 h11.fr g20
    by_cases hpe : rdPlE tx = 0
    · rw [decide_eq_true hpe]
      refine br_f rfl (q_end (n0 := w7.heap.size) (by rw [hT]; exact h11) B3 (by rw [hT]; simp [hpe]) (by rw [hk]; omega) g0 g20 (by omega) fun _ => ⟨⟨none, 0, a1, c1, a2, c2, none, 0⟩, by rw [hQ]; rfl, ?_⟩)
      rw [hQ]
      exact ⟨.inl rfl, T1, T2, by show (rdPlan tx).base.ts.length ≤ 1000; omega, by show (rdPlan tx).other.ts.length ≤ 1000; omega, .inl rfl, (fun k hk => by cases hk), by show 0 ≤ 100; omega, by show 0 ≤ 100; omega, by show _ ≤ (rdPlan tx).day ∧ (rdPlan tx).day ≤ _; omega⟩
    · rw [decide_eq_false hpe]
      exact br_t rfl (boxB B11 g0 fun w15 x15 B15 z15 => qasked_no (fun c => by have := c.2.1; rw [hT] at this; simp [hpe] at this) B15)
  · subst e
    have hT := (rdTail_eq hk (hH 0 rfl)).trans (rdRest_carry rfl _ _)
    have hQ := reqOf_eq (xs := []) hk (by rw [hH 0 rfl]; exact hsx) hT
    have sb0 := sb 0
    have hlen := rdLenU 32 (rdM pFar s 0).bs (rdM pFar s 0).e
    have hn := uint_upto (bs := (rdM pFar s 0).bs) (e := (rdM pFar s 0).e) (most := 32) (by decide)
    have e1 : pCarry.rd (rdM pFar s 0).bs (rdM pFar s 0).e = ((rdM pFar ⟨[], (rdUint 32 (rdM pFar s 0).bs (rdM pFar s 0).e).2.1, (rdUint 32 (rdM pFar s 0).bs (rdM pFar s 0).e).2.2⟩ (rdUint 32 (rdM pFar s 0).bs (rdM pFar s 0).e).1.toNat).xs, (rdM pFar ⟨[], (rdUint 32 (rdM pFar s 0).bs (rdM pFar s 0).e).2.1, (rdUint 32 (rdM pFar s 0).bs (rdM pFar s 0).e).2.2⟩ (rdUint 32 (rdM pFar s 0).bs (rdM pFar s 0).e).1.toNat).bs, (rdM pFar ⟨[], (rdUint 32 (rdM pFar s 0).bs (rdM pFar s 0).e).2.1, (rdUint 32 (rdM pFar s 0).bs (rdM pFar s 0).e).2.2⟩ (rdUint 32 (rdM pFar s 0).bs (rdM pFar s 0).e).1.toNat).e) := rfl
    rw [e1] at hT hQ
    dsimp only at hT hQ
    refine h6.uint 32 (by decide) (by decide) (by omega) hgs fun w7 h7 f7 z7 => ⟨_, rfl, ?_⟩
    have h7 : FP w3 w7 g2 (⟨[], (rdUint 32 (rdM pFar s 0).bs (rdM pFar s 0).e).2.1, (rdUint 32 (rdM pFar s 0).bs (rdM pFar s 0).e).2.2⟩ : RdM Int).bs (⟨[], (rdUint 32 (rdM pFar s 0).bs (rdM pFar s 0).e).2.1, (rdUint 32 (rdM pFar s 0).bs (rdM pFar s 0).e).2.2⟩ : RdM Int).e := h7
    have hs1x : (⟨[], (rdUint 32 (rdM pFar s 0).bs (rdM pFar s 0).e).2.1, (rdUint 32 (rdM pFar s 0).bs (rdM pFar s 0).e).2.2⟩ : RdM Int).xs = [] := rfl
    have hs1b : (⟨[], (rdUint 32 (rdM pFar s 0).bs (rdM pFar s 0).e).2.1, (rdUint 32 (rdM pFar s 0).bs (rdM pFar s 0).e).2.2⟩ : RdM Int).bs.length ≤ 100000 := Nat.le_trans hlen sb0
    generalize (⟨[], (rdUint 32 (rdM pFar s 0).bs (rdM pFar s 0).e).2.1, (rdUint 32 (rdM pFar s 0).bs (rdM pFar s 0).e).2.2⟩ : RdM Int) = s1 at *
    generalize (rdUint 32 (rdM pFar s 0).bs (rdM pFar s 0).e).1 = n at *
    have xsl : ∀ i, (rdM pFar s1 i).xs.length = i := fun i => by rw [rdM_len, hs1x]; simp
    have zw7 : g3 < w7.heap.size := by omega
    refine ⟨fun y v0 v1 v2 v3 v4 v5 v6 v7 v8 v9 v10 v11 a12 n12 c12 v13 v14 v15 v16 v17 v18 a19 n19 c19 v20 v21 v22 a23 n23 c23 a24 n24 c24 wx => ∃ i : Nat, y = i ∧ (i : Int) ≤ n ∧ n24 = i ∧ FP w3 wx g2 (rdM pFar s1 i).bs (rdM pFar s1 i).e ∧ Own wx w7.heap.size 3 1 (.slice a24 i c24) i ((rdM pFar s1 i).xs.map iV) ∧ w7.heap.size ≤ wx.heap.size ∧ v0 = 12 ∧ v1 = 0 ∧ v2 = 0 ∧ v3 = 0 ∧ v4 = 0 ∧ v5 = 0 ∧ v6 = 0 ∧ v7 = 0 ∧ v8 = 0 ∧ v9 = 0 ∧ v10 = 0 ∧ v11 = 0 ∧ a12 = none ∧ n12 = 0 ∧ c12 = 0 ∧ v13 = 0 ∧ v14 = 0 ∧ v15 = 0 ∧ v16 = 0 ∧ v17 = 0 ∧ v18 = 0 ∧ a19 = none ∧ n19 = 0 ∧ c19 = 0 ∧ v20 = 0 ∧ v21 = 0 ∧ v22 = 0 ∧ a23 = none ∧ n23 = 0 ∧ c23 = 0, fun y _ _ _ _ _ _ _ _ _ _ _ _ _ _ _ _ _ _ _ _ _ _ _ _ _ _ _ _ _ _ _ _ _ _ => (n - y).toNat,
      ⟨0, rfl, by omega, rfl, h7, by rw [List.length_eq_zero_iff.1 (xsl 0)]; exact Own.nil _ _ _ _, Nat.le_refl _, rfl, rfl, rfl, rfl, rfl, rfl, rfl, rfl, rfl, rfl, rfl, rfl, rfl, rfl, rfl, rfl, rfl, rfl, rfl, rfl, rfl, rfl, rfl, rfl, rfl, rfl, rfl, rfl, rfl, rfl⟩, ?_⟩
    rintro y v0 v1 v2 v3 v4 v5 v6 v7 v8 v9 v10 v11 a12 n12 c12 v13 v14 v15 v16 v17 v18 a19 n19 c19 v20 v21 v22 a23 n23 c23 a24 n24 c24 wx ⟨i, rfl, hi, rfl, hR, hO, hz, rfl, rfl, rfl, rfl, rfl, rfl, rfl, rfl, rfl, rfl, rfl, rfl, rfl, rfl, rfl, rfl, rfl, rfl, rfl, rfl, rfl, rfl, rfl, rfl, rfl, rfl, rfl, rfl, rfl, rfl⟩
    have fin : (n24 : Int) = n ∨ (rdM pFar s1 n24).e ≠ 0 → GWiR.qasked_k1 (QAskedV w bs) g g2 g3 12 0 0 0 0 0 0 0 0 0 0 0 none 0 0 0 0 0 0 0 0 none 0 0 0 0 0 none 0 0 a24 n24 c24 wx := fun hc => by
      unfold GWiR.qasked_k1
      refine q_end (n0 := w7.heap.size) ?_ B3 (by rw [hT]) (by rw [hk]; omega) g0 g20 (by omega) fun he => ?_
      · rw [hT]
        dsimp only
        rcases hc with hc | hc
        · rw [show n.toNat = n24 by omega]; exact hR
        · obtain ⟨q1, q2⟩ := rdM_stop pFar (i := n24) (n := n.toNat) (by omega) hc
          rw [q1, q2]; exact hR
      · rw [hT] at he
        dsimp only at he
        have : n24 = n.toNat := by
          rcases hc with hc | hc
          · omega
          · obtain ⟨q1, q2⟩ := rdM_stop pFar (i := n24) (n := n.toNat) (by omega) hc
            exact absurd (q1 ▸ he) hc
        subst this
        refine ⟨⟨none, 0, none, 0, none, 0, a24, c24⟩, ?_, ?_⟩
        · rw [hQ]
          have : n.toNat = (rdM pFar s1 n.toNat).xs.length := (xsl _).symm
          unfold rqV rqCells
          dsimp only
          rw [← this]
          rfl
        · rw [hQ]
          exact ⟨.inl rfl, .inl rfl, .inl rfl, by show 0 ≤ 1000; omega, by show 0 ≤ 1000; omega, hO.row, (fun k hk => by have hk : a24 = some k := hk; subst hk; exact (hO.lt k.block rfl).1), by show 0 ≤ 100; omega, by show (rdM pFar s1 n.toNat).xs.length ≤ 100; rw [xsl]; omega, by show _ ≤ (0 : Int) ∧ (0 : Int) ≤ _; decide⟩
    refine br_dec (fun h1 => ?_) fun h1 => fin (.inl (by omega))
    refine ⟨(rdM pFar s1 n24).e, hR.at'.c1, br_dec (fun he => ?_) fun he => fin (.inr he)⟩
    have hbl : (rdM pFar s1 n24).bs.length ≤ 100000 := Nat.le_trans (rdM_bs _ _ _) hs1b
    have hi1 : IntKind.i64.wrap ((n24 : Int) + 1) = ((n24 + 1 : Nat) : Int) := by rw [wr64 (by omega) (by omega)]; omega
    rw [hi1]
    refine drewB (Bs.refl wx) fun w9 b9 B9 _ => ((hR.below b9).uint 4611686018427387904 (by decide) (by decide) (by omega) hgs fun w10 h10 f10 z10 => ⟨_, rfl, ?_⟩)
    refine newB (Bs.refl w10) fun g5 w11 g50 sg5 n11 z11 b11 B11 => ?_
    have hg2o : ∀ {wy : World} {b' : List UInt8} {e' : Int}, FP w3 wy g2 b' e' → Own wy w7.heap.size 3 1 (.slice a24 n24 c24) n24 ((rdM pFar s1 n24).xs.map iV) → (Value.slice a24 n24 c24).ownBlock ≠ some g2 := fun hh ho e0 => by
      have hb : Bk _ g2 _ _ := hh.at'
      exact own_far2 hb ho (by decide) e0
    have hO9 := hO.below b9 (Nat.le_refl _)
    have hO10 : Own w10 w7.heap.size 3 1 (.slice a24 n24 c24) n24 ((rdM pFar s1 n24).xs.map iV) := hO9.keep fun q hq => f10.block q (hO9.lt q hq).2 (by rw [List.mem_singleton]; rintro rfl; exact hg2o (hR.below b9) hO9 hq)
    have hO11 := hO10.below b11 (Nat.le_refl _)
    have z9 := b9.size
    have zz : w7.heap.size ≤ w11.heap.size := by omega
    refine ⟨1, _, [iV (rdUint 4611686018427387904 (rdM pFar s1 n24).bs (rdM pFar s1 n24).e).1], hO11.base_le fun _ _ => Nat.zero_le _, src_block (cs := [iV (rdUint 4611686018427387904 (rdM pFar s1 n24).bs (rdM pFar s1 n24).e).1]) Try.underlying28 n11 rfl rfl, by unfold maxLen; omega, by omega, (fun q hq e0 => by have := (hO11.lt q e0).1; simp at hq; omega), fun a12 c12 w12 o12 g12 or12 _ => fun w13 x13 => ?_⟩
    have fo : Fr (Value.slice a24 n24 c24).ownBlock.toList w11 w12 := (Fr.refl _ w11).grown g12 fun k hk => .inl (by simp [hk])
    have h11 := h10.below b11
    have h12 : FP w3 w12 g2 (rdM pFar s1 (n24 + 1)).bs (rdM pFar s1 (n24 + 1)).e := ⟨Bk.fr h11.at' fo (fun hm => hg2o h11 hO11 (by simpa using hm)), h11.fr.trans fo (fun q hq => .inr (by have := (hO11.lt q (by simpa using hq)).1; omega)), h11.lt⟩
    have o12' : Own w12 w7.heap.size 3 1 (.slice a12 (n24 + 1) c12) (n24 + 1) ((rdM pFar s1 (n24 + 1)).xs.map iV) := by
      show Own w12 w7.heap.size 3 1 (.slice a12 (n24 + 1) c12) (n24 + 1) (((rdM pFar s1 n24).xs ++ [(rdUint 4611686018427387904 (rdM pFar s1 n24).bs (rdM pFar s1 n24).e).1]).map iV)
      rw [List.map_append]
      exact o12.base_le fun q hq => by
        rcases or12 with h' | ⟨g', h', h''⟩
        · exact (hO11.lt q (h' ▸ hq)).1
        · rw [h'] at hq; injection hq with hq; omega
    have z12 := g12.size
    exact ⟨⟨n24 + 1, rfl, by omega, rfl, h12.box x13 h30, o12'.keep (fun q hq => x13.1.block q (o12'.lt q hq).2 (by rw [List.mem_singleton]; have := (o12'.lt q hq).1; omega)), by have := x13.2; omega, rfl, rfl, rfl, rfl, rfl, rfl, rfl, rfl, rfl, rfl, rfl, rfl, rfl, rfl, rfl, rfl, rfl, rfl, rfl, rfl, rfl, rfl, rfl, rfl, rfl, rfl, rfl, rfl, rfl, rfl⟩, by dsimp only; omega⟩
  · subst e
    refine q_step h6 hsl hgs h30 fun w8 h8 z8 => q_step h8 hsl hgs h30 fun w10 h10 z10 => ?_
    unfold GWiR.qasked_k1
    exact plain (m := 2) rfl sx2 (by decide) (by decide) (by decide) (by decide) (by decide) rfl h10
  · exact boxB B6 g0 fun w8 x8 B8 z8 => qasked_no (fun c => by have := c.1; rw [hk] at this; omega) B8
end Go.Proofs.Ytkggnbabnfhcpaa
end
section
/- Conditions of functions, printed by a program of this claim's own (vcgen.py) out of the loaded code; each is proved to be enough. -/
set_option maxRecDepth 100000
namespace Go.Proofs.Ytkggnbabnfhcpaa
open Go.RowKit
namespace GWiT
def env : Env := ⟨[(3, ⟨.int .i64, 1, .int .i64 0, 8, [.int .i64]⟩), (22, ⟨.slice 81, 1, .slice none 0 0, 24, [.slice]⟩), (23, ⟨.slice 142, 1, .slice none 0 0, 24, [.slice]⟩), (25, ⟨.struct [(0, 3), (1, 3), (2, 3), (3, 23)], 4, .agg #[.int .i64 0, .int .i64 0, .int .i64 0, .slice none 0 0], 48, [.int .i64, .int .i64, .int .i64, .slice]⟩), (27, ⟨.struct [(0, 3), (1, 3), (2, 3), (3, 25), (7, 25)], 11, .agg #[.int .i64 0, .int .i64 0, .int .i64 0, .int .i64 0, .int .i64 0, .int .i64 0, .slice none 0 0, .int .i64 0, .int .i64 0, .int .i64 0, .slice none 0 0], 120, [.int .i64, .int .i64, .int .i64, .int .i64, .int .i64, .int .i64, .slice, .int .i64, .int .i64, .int .i64, .slice]⟩), (28, ⟨.slice 3, 1, .slice none 0 0, 24, [.slice]⟩), (30, ⟨.struct [(0, 3), (1, 3), (2, 3), (3, 3), (4, 3), (5, 3), (6, 3), (7, 3), (8, 3), (9, 3), (10, 3), (11, 3), (12, 22), (13, 27), (24, 28)], 25, .agg #[.int .i64 0, .int .i64 0, .int .i64 0, .int .i64 0, .int .i64 0, .int .i64 0, .int .i64 0, .int .i64 0, .int .i64 0, .int .i64 0, .int .i64 0, .int .i64 0, .slice none 0 0, .int .i64 0, .int .i64 0, .int .i64 0, .int .i64 0, .int .i64 0, .int .i64 0, .slice none 0 0, .int .i64 0, .int .i64 0, .int .i64 0, .slice none 0 0, .slice none 0 0], 264, [.int .i64, .int .i64, .int .i64, .int .i64, .int .i64, .int .i64, .int .i64, .int .i64, .int .i64, .int .i64, .int .i64, .int .i64, .slice, .int .i64, .int .i64, .int .i64, .int .i64, .int .i64, .int .i64, .slice, .int .i64, .int .i64, .int .i64, .slice, .slice]⟩), (36, ⟨.slice 83, 1, .slice none 0 0, 24, [.slice]⟩), (37, ⟨.struct [(0, 3), (1, 3), (2, 3), (3, 25), (7, 25)], 11, .agg #[.int .i64 0, .int .i64 0, .int .i64 0, .int .i64 0, .int .i64 0, .int .i64 0, .slice none 0 0, .int .i64 0, .int .i64 0, .int .i64 0, .slice none 0 0], 120, [.int .i64, .int .i64, .int .i64, .int .i64, .int .i64, .int .i64, .slice, .int .i64, .int .i64, .int .i64, .slice]⟩), (39, ⟨.struct [(0, 3), (1, 3), (2, 3), (3, 3), (4, 3), (5, 3), (6, 3), (7, 3), (8, 3), (9, 3), (10, 3), (11, 3), (12, 36), (13, 37), (24, 28)], 25, .agg #[.int .i64 0, .int .i64 0, .int .i64 0, .int .i64 0, .int .i64 0, .int .i64 0, .int .i64 0, .int .i64 0, .int .i64 0, .int .i64 0, .int .i64 0, .int .i64 0, .slice none 0 0, .int .i64 0, .int .i64 0, .int .i64 0, .int .i64 0, .int .i64 0, .int .i64 0, .slice none 0 0, .int .i64 0, .int .i64 0, .int .i64 0, .slice none 0 0, .slice none 0 0], 264, [.int .i64, .int .i64, .int .i64, .int .i64, .int .i64, .int .i64, .int .i64, .int .i64, .int .i64, .int .i64, .int .i64, .int .i64, .slice, .int .i64, .int .i64, .int .i64, .int .i64, .int .i64, .int .i64, .slice, .int .i64, .int .i64, .int .i64, .slice, .slice]⟩), (81, ⟨.arr 3 3, 3, .agg #[.int .i64 0, .int .i64 0, .int .i64 0], 24, [.int .i64, .int .i64, .int .i64]⟩), (83, ⟨.struct [(0, 3), (1, 3), (2, 3)], 3, .agg #[.int .i64 0, .int .i64 0, .int .i64 0], 24, [.int .i64, .int .i64, .int .i64]⟩)], [], []⟩
theorem ty3 : TyOk Try.prog 3 ⟨.int .i64, 1, .int .i64 0, 8, [.int .i64]⟩ := tyok (by kernel_rfl) (by kernel_rfl)
theorem ty22 : TyOk Try.prog 22 ⟨.slice 81, 1, .slice none 0 0, 24, [.slice]⟩ := tyok (by kernel_rfl) (by kernel_rfl)
theorem ty23 : TyOk Try.prog 23 ⟨.slice 142, 1, .slice none 0 0, 24, [.slice]⟩ := tyok (by kernel_rfl) (by kernel_rfl)
theorem ty25 : TyOk Try.prog 25 ⟨.struct [(0, 3), (1, 3), (2, 3), (3, 23)], 4, .agg #[.int .i64 0, .int .i64 0, .int .i64 0, .slice none 0 0], 48, [.int .i64, .int .i64, .int .i64, .slice]⟩ := tyok (by kernel_rfl) (by kernel_rfl)
theorem ty27 : TyOk Try.prog 27 ⟨.struct [(0, 3), (1, 3), (2, 3), (3, 25), (7, 25)], 11, .agg #[.int .i64 0, .int .i64 0, .int .i64 0, .int .i64 0, .int .i64 0, .int .i64 0, .slice none 0 0, .int .i64 0, .int .i64 0, .int .i64 0, .slice none 0 0], 120, [.int .i64, .int .i64, .int .i64, .int .i64, .int .i64, .int .i64, .slice, .int .i64, .int .i64, .int .i64, .slice]⟩ := tyok (by kernel_rfl) (by kernel_rfl)
theorem ty28 : TyOk Try.prog 28 ⟨.slice 3, 1, .slice none 0 0, 24, [.slice]⟩ := tyok (by kernel_rfl) (by kernel_rfl)
theorem ty30 : TyOk Try.prog 30 ⟨.struct [(0, 3), (1, 3), (2, 3), (3, 3), (4, 3), (5, 3), (6, 3), (7, 3), (8, 3), (9, 3), (10, 3), (11, 3), (12, 22), (13, 27), (24, 28)], 25, .agg #[.int .i64 0, .int .i64 0, .int .i64 0, .int .i64 0, .int .i64 0, .int .i64 0, .int .i64 0, .int .i64 0, .int .i64 0, .int .i64 0, .int .i64 0, .int .i64 0, .slice none 0 0, .int .i64 0, .int .i64 0, .int .i64 0, .int .i64 0, .int .i64 0, .int .i64 0, .slice none 0 0, .int .i64 0, .int .i64 0, .int .i64 0, .slice none 0 0, .slice none 0 0], 264, [.int .i64, .int .i64, .int .i64, .int .i64, .int .i64, .int .i64, .int .i64, .int .i64, .int .i64, .int .i64, .int .i64, .int .i64, .slice, .int .i64, .int .i64, .int .i64, .int .i64, .int .i64, .int .i64, .slice, .int .i64, .int .i64, .int .i64, .slice, .slice]⟩ := tyok (by kernel_rfl) (by kernel_rfl)
theorem ty36 : TyOk Try.prog 36 ⟨.slice 83, 1, .slice none 0 0, 24, [.slice]⟩ := tyok (by kernel_rfl) (by kernel_rfl)
theorem ty37 : TyOk Try.prog 37 ⟨.struct [(0, 3), (1, 3), (2, 3), (3, 25), (7, 25)], 11, .agg #[.int .i64 0, .int .i64 0, .int .i64 0, .int .i64 0, .int .i64 0, .int .i64 0, .slice none 0 0, .int .i64 0, .int .i64 0, .int .i64 0, .slice none 0 0], 120, [.int .i64, .int .i64, .int .i64, .int .i64, .int .i64, .int .i64, .slice, .int .i64, .int .i64, .int .i64, .slice]⟩ := tyok (by kernel_rfl) (by kernel_rfl)
theorem ty39 : TyOk Try.prog 39 ⟨.struct [(0, 3), (1, 3), (2, 3), (3, 3), (4, 3), (5, 3), (6, 3), (7, 3), (8, 3), (9, 3), (10, 3), (11, 3), (12, 36), (13, 37), (24, 28)], 25, .agg #[.int .i64 0, .int .i64 0, .int .i64 0, .int .i64 0, .int .i64 0, .int .i64 0, .int .i64 0, .int .i64 0, .int .i64 0, .int .i64 0, .int .i64 0, .int .i64 0, .slice none 0 0, .int .i64 0, .int .i64 0, .int .i64 0, .int .i64 0, .int .i64 0, .int .i64 0, .slice none 0 0, .int .i64 0, .int .i64 0, .int .i64 0, .slice none 0 0, .slice none 0 0], 264, [.int .i64, .int .i64, .int .i64, .int .i64, .int .i64, .int .i64, .int .i64, .int .i64, .int .i64, .int .i64, .int .i64, .int .i64, .slice, .int .i64, .int .i64, .int .i64, .int .i64, .int .i64, .int .i64, .slice, .int .i64, .int .i64, .int .i64, .slice, .slice]⟩ := tyok (by kernel_rfl) (by kernel_rfl)
theorem ty81 : TyOk Try.prog 81 ⟨.arr 3 3, 3, .agg #[.int .i64 0, .int .i64 0, .int .i64 0], 24, [.int .i64, .int .i64, .int .i64]⟩ := tyok (by kernel_rfl) (by kernel_rfl)
theorem ty83 : TyOk Try.prog 83 ⟨.struct [(0, 3), (1, 3), (2, 3)], 3, .agg #[.int .i64 0, .int .i64 0, .int .i64 0], 24, [.int .i64, .int .i64, .int .i64]⟩ := tyok (by kernel_rfl) (by kernel_rfl)
theorem envOk : EOk Try.prog env := ⟨(by simp only [env, List.forall_mem_cons, List.not_mem_nil, false_implies, implies_true, and_true]; exact ⟨ty3, ty22, ty23, ty25, ty27, ty28, ty30, ty36, ty37, ty39, ty81, ty83⟩), (fun _ h => by cases h), by kernel_rfl, (fun _ h => by cases h)⟩
/-- purser/purserlaw22.to -/
def lto_vc (x0_0 : Int) (x0_1 : Int) (x0_2 : Int) (x0_3 : Int) (x0_4 : Int) (x0_5 : Int) (x0_6 : Int) (x0_7 : Int) (x0_8 : Int) (x0_9 : Int) (x0_10 : Int) (x0_11 : Int) (a0_12 : Option Addr) (n0_12 : Nat) (c0_12 : Nat) (x0_13 : Int) (x0_14 : Int) (x0_15 : Int) (x0_16 : Int) (x0_17 : Int) (x0_18 : Int) (a0_19 : Option Addr) (n0_19 : Nat) (c0_19 : Nat) (x0_20 : Int) (x0_21 : Int) (x0_22 : Int) (a0_23 : Option Addr) (n0_23 : Nat) (c0_23 : Nat) (a0_24 : Option Addr) (n0_24 : Nat) (c0_24 : Nat) (w : World) (K : Value → World → Prop) : Prop :=
  newO w (.cells #[.int .i64 x0_0, .int .i64 x0_1, .int .i64 x0_2, .int .i64 x0_3, .int .i64 x0_4, .int .i64 x0_5, .int .i64 x0_6, .int .i64 x0_7, .int .i64 x0_8, .int .i64 x0_9, .int .i64 x0_10, .int .i64 x0_11, .slice a0_12 n0_12 c0_12, .int .i64 x0_13, .int .i64 x0_14, .int .i64 x0_15, .int .i64 x0_16, .int .i64 x0_17, .int .i64 x0_18, .slice a0_19 n0_19 c0_19, .int .i64 x0_20, .int .i64 x0_21, .int .i64 x0_22, .slice a0_23 n0_23 c0_23, .slice a0_24 n0_24 c0_24] 30) fun g w_2 =>
  newO w_2 (.cells #[.int .i64 0, .int .i64 0, .int .i64 0, .int .i64 0, .int .i64 0, .int .i64 0, .int .i64 0, .int .i64 0, .int .i64 0, .int .i64 0, .int .i64 0, .int .i64 0, .slice none 0 0, .int .i64 0, .int .i64 0, .int .i64 0, .int .i64 0, .int .i64 0, .int .i64 0, .slice none 0 0, .int .i64 0, .int .i64 0, .int .i64 0, .slice none 0 0, .slice none 0 0] 39) fun g_2 w_3 =>
  newO w_3 (.cells #[.int .i64 0, .int .i64 0, .int .i64 0, .int .i64 0, .int .i64 0, .int .i64 0, .int .i64 0, .int .i64 0, .int .i64 0, .int .i64 0, .int .i64 0, .int .i64 0, .slice none 0 0, .int .i64 0, .int .i64 0, .int .i64 0, .int .i64 0, .int .i64 0, .int .i64 0, .slice none 0 0, .int .i64 0, .int .i64 0, .int .i64 0, .slice none 0 0, .slice none 0 0] 39) fun g_3 w_4 =>
  ∀ w_5 : World, BoxSt g_3 w_4 w_5 →
  ∀ w_6 : World, BoxSt g_3 w_5 w_6 →
  ∃ (I : Int → Int → Int → Int → Int → Int → Int → Int → Int → Int → Int → Int → Int → Option Addr → Nat → Nat → Int → Int → Int → Int → Int → Int → Option Addr → Nat → Nat → Int → Int → Int → Option Addr → Nat → Nat → Option Addr → Nat → Nat → World → Prop) (μ : Int → Int → Int → Int → Int → Int → Int → Int → Int → Int → Int → Int → Int → Option Addr → Nat → Nat → Int → Int → Int → Int → Int → Int → Option Addr → Nat → Nat → Int → Int → Int → Option Addr → Nat → Nat → Option Addr → Nat → Nat → World → Nat),
  I 0 x0_0 x0_1 x0_2 x0_3 x0_4 x0_5 x0_6 x0_7 x0_8 x0_9 x0_10 x0_11 none 0 0 x0_13 x0_14 x0_15 x0_16 x0_17 x0_18 a0_19 n0_19 c0_19 x0_20 x0_21 x0_22 a0_23 n0_23 c0_23 a0_24 n0_24 c0_24 w_6 ∧
  ∀ (x4 : Int) (x3_0 : Int) (x3_1 : Int) (x3_2 : Int) (x3_3 : Int) (x3_4 : Int) (x3_5 : Int) (x3_6 : Int) (x3_7 : Int) (x3_8 : Int) (x3_9 : Int) (x3_10 : Int) (x3_11 : Int) (a3_12 : Option Addr) (n3_12 : Nat) (c3_12 : Nat) (x3_13 : Int) (x3_14 : Int) (x3_15 : Int) (x3_16 : Int) (x3_17 : Int) (x3_18 : Int) (a3_19 : Option Addr) (n3_19 : Nat) (c3_19 : Nat) (x3_20 : Int) (x3_21 : Int) (x3_22 : Int) (a3_23 : Option Addr) (n3_23 : Nat) (c3_23 : Nat) (a3_24 : Option Addr) (n3_24 : Nat) (c3_24 : Nat) (w_7 : World), I x4 x3_0 x3_1 x3_2 x3_3 x3_4 x3_5 x3_6 x3_7 x3_8 x3_9 x3_10 x3_11 a3_12 n3_12 c3_12 x3_13 x3_14 x3_15 x3_16 x3_17 x3_18 a3_19 n3_19 c3_19 x3_20 x3_21 x3_22 a3_23 n3_23 c3_23 a3_24 n3_24 c3_24 w_7 →
  br (decide (x4 < ((n0_12 : Nat) : Int))) (
    drewO w_7 fun w_8 =>
    withP a0_12 fun g61 o61 =>
    (0 : Int) ≤ x4 ∧ x4 < (((n0_12 : Nat) : Int) : Int) ∧
    (0 : Int) ≤ 0 ∧ 0 < ((3 : Nat) : Int) ∧
    ∃ (x63 : Int), w_8.cell? ⟨g61, o61 + x4.toNat * 3 + (0 : Int).toNat * 1, none⟩ = some (.int .i64 x63) ∧
    withP a0_12 fun g67 o67 =>
    (0 : Int) ≤ x4 ∧ x4 < (((n0_12 : Nat) : Int) : Int) ∧
    (0 : Int) ≤ 1 ∧ 1 < ((3 : Nat) : Int) ∧
    ∃ (x69 : Int), w_8.cell? ⟨g67, o67 + x4.toNat * 3 + (1 : Int).toNat * 1, none⟩ = some (.int .i64 x69) ∧
    withP a0_12 fun g73 o73 =>
    (0 : Int) ≤ x4 ∧ x4 < (((n0_12 : Nat) : Int) : Int) ∧
    (0 : Int) ≤ 2 ∧ 2 < ((3 : Nat) : Int) ∧
    ∃ (x75 : Int), w_8.cell? ⟨g73, o73 + x4.toNat * 3 + (2 : Int).toNat * 1, none⟩ = some (.int .i64 x75) ∧
    newO w_8 (.cells #[.int .i64 x63, .int .i64 x69, .int .i64 x75] 83) fun g_4 w_9 =>
    appO Try.prog [g_3, g_2, g] w_9 83 3 24 36 a3_12 n3_12 c3_12 (.slice (some ⟨g_4, 0, none⟩) 1 1) fun m78 a78 c78 w_10 =>
    ∀ w_11 : World, BoxSt g_3 w_10 w_11 →
    I (IntKind.i64.wrap (x4 + 1)) x3_0 x3_1 x3_2 x3_3 x3_4 x3_5 x3_6 x3_7 x3_8 x3_9 x3_10 x3_11 a78 (n3_12 + m78) c78 x3_13 x3_14 x3_15 x3_16 x3_17 x3_18 a3_19 n3_19 c3_19 x3_20 x3_21 x3_22 a3_23 n3_23 c3_23 a3_24 n3_24 c3_24 w_11 ∧ μ (IntKind.i64.wrap (x4 + 1)) x3_0 x3_1 x3_2 x3_3 x3_4 x3_5 x3_6 x3_7 x3_8 x3_9 x3_10 x3_11 a78 (n3_12 + m78) c78 x3_13 x3_14 x3_15 x3_16 x3_17 x3_18 a3_19 n3_19 c3_19 x3_20 x3_21 x3_22 a3_23 n3_23 c3_23 a3_24 n3_24 c3_24 w_11 < μ x4 x3_0 x3_1 x3_2 x3_3 x3_4 x3_5 x3_6 x3_7 x3_8 x3_9 x3_10 x3_11 a3_12 n3_12 c3_12 x3_13 x3_14 x3_15 x3_16 x3_17 x3_18 a3_19 n3_19 c3_19 x3_20 x3_21 x3_22 a3_23 n3_23 c3_23 a3_24 n3_24 c3_24 w_7
  ) (
    ∀ w_12 : World, BoxSt g_2 w_7 w_12 →
    K (.agg #[.int .i64 x3_0, .int .i64 x3_1, .int .i64 x3_2, .int .i64 x3_3, .int .i64 x3_4, .int .i64 x3_5, .int .i64 x3_6, .int .i64 x3_7, .int .i64 x3_8, .int .i64 x3_9, .int .i64 x3_10, .int .i64 x3_11, .slice a3_12 n3_12 c3_12, .int .i64 x3_13, .int .i64 x3_14, .int .i64 x3_15, .int .i64 x3_16, .int .i64 x3_17, .int .i64 x3_18, .slice a3_19 n3_19 c3_19, .int .i64 x3_20, .int .i64 x3_21, .int .i64 x3_22, .slice a3_23 n3_23 c3_23, .slice a3_24 n3_24 c3_24]) w_12
  )
def lto_notes : Notes := ⟨[(6, ⟨[0, 1, 0, 4, 0, 28, 60, 124, 0, 256, 0, 1792, 3840, 7936, 0, 16384, 0, 114688, 245760, 507904, 1048572, 2097148, 4194303, 8388607, 16777215], [21, 22, 24], [0, 1, 2, 3, 4, 5, 6, 7, 8, 9, 10, 11, 12, 13, 14, 15, 16, 17, 18, 19, 20, 23]⟩)], [(4, ⟨[(4, .lf (.int .i64))], [(3, [.int .i64, .int .i64, .int .i64, .int .i64, .int .i64, .int .i64, .int .i64, .int .i64, .int .i64, .int .i64, .int .i64, .int .i64, .slice, .int .i64, .int .i64, .int .i64, .int .i64, .int .i64, .int .i64, .slice, .int .i64, .int .i64, .int .i64, .slice, .slice])], [49, 50, 51, 52, 53, 56, 57, 58, 59, 60, 61, 62, 63, 64, 65, 66, 67, 68, 69, 70, 71, 72, 73, 74, 75, 76, 77, 78, 79, 54, 55, 4], [3]⟩)], [], []⟩
set_option maxHeartbeats 4000000 in
theorem lto_calls (x0_0 : Int) (x0_1 : Int) (x0_2 : Int) (x0_3 : Int) (x0_4 : Int) (x0_5 : Int) (x0_6 : Int) (x0_7 : Int) (x0_8 : Int) (x0_9 : Int) (x0_10 : Int) (x0_11 : Int) (a0_12 : Option Addr) (n0_12 : Nat) (c0_12 : Nat) (x0_13 : Int) (x0_14 : Int) (x0_15 : Int) (x0_16 : Int) (x0_17 : Int) (x0_18 : Int) (a0_19 : Option Addr) (n0_19 : Nat) (c0_19 : Nat) (x0_20 : Int) (x0_21 : Int) (x0_22 : Int) (a0_23 : Option Addr) (n0_23 : Nat) (c0_23 : Nat) (a0_24 : Option Addr) (n0_24 : Nat) (c0_24 : Nat) (w : World) (K : Value → World → Prop) (h : lto_vc x0_0 x0_1 x0_2 x0_3 x0_4 x0_5 x0_6 x0_7 x0_8 x0_9 x0_10 x0_11 a0_12 n0_12 c0_12 x0_13 x0_14 x0_15 x0_16 x0_17 x0_18 a0_19 n0_19 c0_19 x0_20 x0_21 x0_22 a0_23 n0_23 c0_23 a0_24 n0_24 c0_24 w K) : Calls Try.prog 9 #[.agg #[.int .i64 x0_0, .int .i64 x0_1, .int .i64 x0_2, .int .i64 x0_3, .int .i64 x0_4, .int .i64 x0_5, .int .i64 x0_6, .int .i64 x0_7, .int .i64 x0_8, .int .i64 x0_9, .int .i64 x0_10, .int .i64 x0_11, .slice a0_12 n0_12 c0_12, .int .i64 x0_13, .int .i64 x0_14, .int .i64 x0_15, .int .i64 x0_16, .int .i64 x0_17, .int .i64 x0_18, .slice a0_19 n0_19 c0_19, .int .i64 x0_20, .int .i64 x0_21, .int .i64 x0_22, .slice a0_23 n0_23 c0_23, .slice a0_24 n0_24 c0_24]] w fun e w' => ∃ v, e = .returned v ∧ K v w' :=
  calls_of_eq envOk Try.func9 lto_notes [1, 2, 3] [.agg #[.int .i64 x0_0, .int .i64 x0_1, .int .i64 x0_2, .int .i64 x0_3, .int .i64 x0_4, .int .i64 x0_5, .int .i64 x0_6, .int .i64 x0_7, .int .i64 x0_8, .int .i64 x0_9, .int .i64 x0_10, .int .i64 x0_11, .slice a0_12 n0_12 c0_12, .int .i64 x0_13, .int .i64 x0_14, .int .i64 x0_15, .int .i64 x0_16, .int .i64 x0_17, .int .i64 x0_18, .slice a0_19 n0_19 c0_19, .int .i64 x0_20, .int .i64 x0_21, .int .i64 x0_22, .slice a0_23 n0_23 c0_23, .slice a0_24 n0_24 c0_24]] w K h (by as_aux_lemma => kernel_rfl)
/-- purser/purserlaw22.from -/
def lfrom_vc (x0_0 : Int) (x0_1 : Int) (x0_2 : Int) (x0_3 : Int) (x0_4 : Int) (x0_5 : Int) (x0_6 : Int) (x0_7 : Int) (x0_8 : Int) (x0_9 : Int) (x0_10 : Int) (x0_11 : Int) (a0_12 : Option Addr) (n0_12 : Nat) (c0_12 : Nat) (x0_13 : Int) (x0_14 : Int) (x0_15 : Int) (x0_16 : Int) (x0_17 : Int) (x0_18 : Int) (a0_19 : Option Addr) (n0_19 : Nat) (c0_19 : Nat) (x0_20 : Int) (x0_21 : Int) (x0_22 : Int) (a0_23 : Option Addr) (n0_23 : Nat) (c0_23 : Nat) (a0_24 : Option Addr) (n0_24 : Nat) (c0_24 : Nat) (w : World) (K : Value → World → Prop) : Prop :=
  newO w (.cells #[.int .i64 x0_0, .int .i64 x0_1, .int .i64 x0_2, .int .i64 x0_3, .int .i64 x0_4, .int .i64 x0_5, .int .i64 x0_6, .int .i64 x0_7, .int .i64 x0_8, .int .i64 x0_9, .int .i64 x0_10, .int .i64 x0_11, .slice a0_12 n0_12 c0_12, .int .i64 x0_13, .int .i64 x0_14, .int .i64 x0_15, .int .i64 x0_16, .int .i64 x0_17, .int .i64 x0_18, .slice a0_19 n0_19 c0_19, .int .i64 x0_20, .int .i64 x0_21, .int .i64 x0_22, .slice a0_23 n0_23 c0_23, .slice a0_24 n0_24 c0_24] 39) fun g w_2 =>
  newO w_2 (.cells #[.int .i64 0, .int .i64 0, .int .i64 0, .int .i64 0, .int .i64 0, .int .i64 0, .int .i64 0, .int .i64 0, .int .i64 0, .int .i64 0, .int .i64 0, .int .i64 0, .slice none 0 0, .int .i64 0, .int .i64 0, .int .i64 0, .int .i64 0, .int .i64 0, .int .i64 0, .slice none 0 0, .int .i64 0, .int .i64 0, .int .i64 0, .slice none 0 0, .slice none 0 0] 30) fun g_2 w_3 =>
  newO w_3 (.cells #[.int .i64 0, .int .i64 0, .int .i64 0, .int .i64 0, .int .i64 0, .int .i64 0, .int .i64 0, .int .i64 0, .int .i64 0, .int .i64 0, .int .i64 0, .int .i64 0, .slice none 0 0, .int .i64 0, .int .i64 0, .int .i64 0, .int .i64 0, .int .i64 0, .int .i64 0, .slice none 0 0, .int .i64 0, .int .i64 0, .int .i64 0, .slice none 0 0, .slice none 0 0] 30) fun g_3 w_4 =>
  ∀ w_5 : World, BoxSt g_3 w_4 w_5 →
  ∀ w_6 : World, BoxSt g_3 w_5 w_6 →
  ∃ (I : Int → Int → Int → Int → Int → Int → Int → Int → Int → Int → Int → Int → Int → Option Addr → Nat → Nat → Int → Int → Int → Int → Int → Int → Option Addr → Nat → Nat → Int → Int → Int → Option Addr → Nat → Nat → Option Addr → Nat → Nat → World → Prop) (μ : Int → Int → Int → Int → Int → Int → Int → Int → Int → Int → Int → Int → Int → Option Addr → Nat → Nat → Int → Int → Int → Int → Int → Int → Option Addr → Nat → Nat → Int → Int → Int → Option Addr → Nat → Nat → Option Addr → Nat → Nat → World → Nat),
  I 0 x0_0 x0_1 x0_2 x0_3 x0_4 x0_5 x0_6 x0_7 x0_8 x0_9 x0_10 x0_11 none 0 0 x0_13 x0_14 x0_15 x0_16 x0_17 x0_18 a0_19 n0_19 c0_19 x0_20 x0_21 x0_22 a0_23 n0_23 c0_23 a0_24 n0_24 c0_24 w_6 ∧
  ∀ (x4 : Int) (x3_0 : Int) (x3_1 : Int) (x3_2 : Int) (x3_3 : Int) (x3_4 : Int) (x3_5 : Int) (x3_6 : Int) (x3_7 : Int) (x3_8 : Int) (x3_9 : Int) (x3_10 : Int) (x3_11 : Int) (a3_12 : Option Addr) (n3_12 : Nat) (c3_12 : Nat) (x3_13 : Int) (x3_14 : Int) (x3_15 : Int) (x3_16 : Int) (x3_17 : Int) (x3_18 : Int) (a3_19 : Option Addr) (n3_19 : Nat) (c3_19 : Nat) (x3_20 : Int) (x3_21 : Int) (x3_22 : Int) (a3_23 : Option Addr) (n3_23 : Nat) (c3_23 : Nat) (a3_24 : Option Addr) (n3_24 : Nat) (c3_24 : Nat) (w_7 : World), I x4 x3_0 x3_1 x3_2 x3_3 x3_4 x3_5 x3_6 x3_7 x3_8 x3_9 x3_10 x3_11 a3_12 n3_12 c3_12 x3_13 x3_14 x3_15 x3_16 x3_17 x3_18 a3_19 n3_19 c3_19 x3_20 x3_21 x3_22 a3_23 n3_23 c3_23 a3_24 n3_24 c3_24 w_7 →
  br (decide (x4 < ((n0_12 : Nat) : Int))) (
    drewO w_7 fun w_8 =>
    withP a0_12 fun g61 o61 =>
    (0 : Int) ≤ x4 ∧ x4 < (((n0_12 : Nat) : Int) : Int) ∧
    ∃ (x63 : Int), w_8.cell? ⟨g61, o61 + x4.toNat * 3, none⟩ = some (.int .i64 x63) ∧
    withP a0_12 fun g67 o67 =>
    (0 : Int) ≤ x4 ∧ x4 < (((n0_12 : Nat) : Int) : Int) ∧
    ∃ (x69 : Int), w_8.cell? ⟨g67, o67 + x4.toNat * 3 + 1, none⟩ = some (.int .i64 x69) ∧
    withP a0_12 fun g73 o73 =>
    (0 : Int) ≤ x4 ∧ x4 < (((n0_12 : Nat) : Int) : Int) ∧
    ∃ (x75 : Int), w_8.cell? ⟨g73, o73 + x4.toNat * 3 + 2, none⟩ = some (.int .i64 x75) ∧
    newO w_8 (.cells #[.int .i64 x63, .int .i64 x69, .int .i64 x75] 81) fun g_4 w_9 =>
    appO Try.prog [g_3, g_2, g] w_9 81 3 24 22 a3_12 n3_12 c3_12 (.slice (some ⟨g_4, 0, none⟩) 1 1) fun m78 a78 c78 w_10 =>
    ∀ w_11 : World, BoxSt g_3 w_10 w_11 →
    I (IntKind.i64.wrap (x4 + 1)) x3_0 x3_1 x3_2 x3_3 x3_4 x3_5 x3_6 x3_7 x3_8 x3_9 x3_10 x3_11 a78 (n3_12 + m78) c78 x3_13 x3_14 x3_15 x3_16 x3_17 x3_18 a3_19 n3_19 c3_19 x3_20 x3_21 x3_22 a3_23 n3_23 c3_23 a3_24 n3_24 c3_24 w_11 ∧ μ (IntKind.i64.wrap (x4 + 1)) x3_0 x3_1 x3_2 x3_3 x3_4 x3_5 x3_6 x3_7 x3_8 x3_9 x3_10 x3_11 a78 (n3_12 + m78) c78 x3_13 x3_14 x3_15 x3_16 x3_17 x3_18 a3_19 n3_19 c3_19 x3_20 x3_21 x3_22 a3_23 n3_23 c3_23 a3_24 n3_24 c3_24 w_11 < μ x4 x3_0 x3_1 x3_2 x3_3 x3_4 x3_5 x3_6 x3_7 x3_8 x3_9 x3_10 x3_11 a3_12 n3_12 c3_12 x3_13 x3_14 x3_15 x3_16 x3_17 x3_18 a3_19 n3_19 c3_19 x3_20 x3_21 x3_22 a3_23 n3_23 c3_23 a3_24 n3_24 c3_24 w_7
  ) (
    ∀ w_12 : World, BoxSt g_2 w_7 w_12 →
    K (.agg #[.int .i64 x3_0, .int .i64 x3_1, .int .i64 x3_2, .int .i64 x3_3, .int .i64 x3_4, .int .i64 x3_5, .int .i64 x3_6, .int .i64 x3_7, .int .i64 x3_8, .int .i64 x3_9, .int .i64 x3_10, .int .i64 x3_11, .slice a3_12 n3_12 c3_12, .int .i64 x3_13, .int .i64 x3_14, .int .i64 x3_15, .int .i64 x3_16, .int .i64 x3_17, .int .i64 x3_18, .slice a3_19 n3_19 c3_19, .int .i64 x3_20, .int .i64 x3_21, .int .i64 x3_22, .slice a3_23 n3_23 c3_23, .slice a3_24 n3_24 c3_24]) w_12
  )
def lfrom_notes : Notes := ⟨[(6, ⟨[0, 1, 0, 4, 0, 28, 60, 124, 0, 256, 0, 1792, 3840, 7936, 0, 16384, 0, 114688, 245760, 507904, 1048572, 2097148, 4194303, 8388607, 16777215], [21, 22, 24], [0, 1, 2, 3, 4, 5, 6, 7, 8, 9, 10, 11, 12, 13, 14, 15, 16, 17, 18, 19, 20, 23]⟩)], [(4, ⟨[(4, .lf (.int .i64))], [(3, [.int .i64, .int .i64, .int .i64, .int .i64, .int .i64, .int .i64, .int .i64, .int .i64, .int .i64, .int .i64, .int .i64, .int .i64, .slice, .int .i64, .int .i64, .int .i64, .int .i64, .int .i64, .int .i64, .slice, .int .i64, .int .i64, .int .i64, .slice, .slice])], [49, 50, 51, 52, 53, 56, 57, 58, 59, 60, 61, 62, 63, 64, 65, 66, 67, 68, 69, 70, 71, 72, 73, 74, 75, 76, 77, 78, 79, 54, 55, 4], [3]⟩)], [], []⟩
set_option maxHeartbeats 4000000 in
theorem lfrom_calls (x0_0 : Int) (x0_1 : Int) (x0_2 : Int) (x0_3 : Int) (x0_4 : Int) (x0_5 : Int) (x0_6 : Int) (x0_7 : Int) (x0_8 : Int) (x0_9 : Int) (x0_10 : Int) (x0_11 : Int) (a0_12 : Option Addr) (n0_12 : Nat) (c0_12 : Nat) (x0_13 : Int) (x0_14 : Int) (x0_15 : Int) (x0_16 : Int) (x0_17 : Int) (x0_18 : Int) (a0_19 : Option Addr) (n0_19 : Nat) (c0_19 : Nat) (x0_20 : Int) (x0_21 : Int) (x0_22 : Int) (a0_23 : Option Addr) (n0_23 : Nat) (c0_23 : Nat) (a0_24 : Option Addr) (n0_24 : Nat) (c0_24 : Nat) (w : World) (K : Value → World → Prop) (h : lfrom_vc x0_0 x0_1 x0_2 x0_3 x0_4 x0_5 x0_6 x0_7 x0_8 x0_9 x0_10 x0_11 a0_12 n0_12 c0_12 x0_13 x0_14 x0_15 x0_16 x0_17 x0_18 a0_19 n0_19 c0_19 x0_20 x0_21 x0_22 a0_23 n0_23 c0_23 a0_24 n0_24 c0_24 w K) : Calls Try.prog 17 #[.agg #[.int .i64 x0_0, .int .i64 x0_1, .int .i64 x0_2, .int .i64 x0_3, .int .i64 x0_4, .int .i64 x0_5, .int .i64 x0_6, .int .i64 x0_7, .int .i64 x0_8, .int .i64 x0_9, .int .i64 x0_10, .int .i64 x0_11, .slice a0_12 n0_12 c0_12, .int .i64 x0_13, .int .i64 x0_14, .int .i64 x0_15, .int .i64 x0_16, .int .i64 x0_17, .int .i64 x0_18, .slice a0_19 n0_19 c0_19, .int .i64 x0_20, .int .i64 x0_21, .int .i64 x0_22, .slice a0_23 n0_23 c0_23, .slice a0_24 n0_24 c0_24]] w fun e w' => ∃ v, e = .returned v ∧ K v w' :=
  calls_of_eq envOk Try.func17 lfrom_notes [1, 2, 3] [.agg #[.int .i64 x0_0, .int .i64 x0_1, .int .i64 x0_2, .int .i64 x0_3, .int .i64 x0_4, .int .i64 x0_5, .int .i64 x0_6, .int .i64 x0_7, .int .i64 x0_8, .int .i64 x0_9, .int .i64 x0_10, .int .i64 x0_11, .slice a0_12 n0_12 c0_12, .int .i64 x0_13, .int .i64 x0_14, .int .i64 x0_15, .int .i64 x0_16, .int .i64 x0_17, .int .i64 x0_18, .slice a0_19 n0_19 c0_19, .int .i64 x0_20, .int .i64 x0_21, .int .i64 x0_22, .slice a0_23 n0_23 c0_23, .slice a0_24 n0_24 c0_24]] w K h (by as_aux_lemma => kernel_rfl)
end GWiT
end Go.Proofs.Ytkggnbabnfhcpaa
end
section
/- What lines cost, by the document; the document's rate, worst and fit; walked. -/
namespace Go.Proofs.Ytkggnbabnfhcpaa
open Go.RowKit
def bigA (x0 x1 x2 x3 x4 x5 x6 x7 x8 x9 : Int) (b : Bool) : Value := .agg #[.int .u64 x0, .int .u64 x1, .int .u64 x2, .int .u64 x3, .int .u64 x4, .int .u64 x5, .int .u64 x6, .int .u64 x7, .int .u64 x8, .int .u64 x9, .bool b]
theorem small_lim {z : Int} (h : 0 ≤ z ∧ z ≤ 1152921504606846976) : z.natAbs < lim ∧ 2 * z.natAbs < lim ∧ z.natAbs < 2 ^ (32 * 5) := by
  have h1 : 2 * z.natAbs < 2 ^ 62 := by show _ < 4611686018427387904; omega
  refine ⟨lim_big (by decide) (Nat.lt_of_le_of_lt (by omega) h1), lim_big (by decide) h1, Nat.lt_of_lt_of_le (Nat.lt_of_le_of_lt (by omega) h1) (Nat.pow_le_pow_right (by omega) (by omega))⟩
theorem dearT_app : ∀ (xs ys : List Tr), dearT (xs ++ ys) = max (dearT xs) (dearT ys)
  | [], ys => by have := dearT_nn ys; simp only [List.nil_append, dearT]; omega
  | x :: r, ys => by simp only [List.cons_append, dearT, dearT_app r ys]; omega
end Go.Proofs.Ytkggnbabnfhcpaa
end
section
/- Plans, tamed; what a rate comes to. -/
namespace Go.Proofs.Ytkggnbabnfhcpaa
open Go.RowKit
def tameT (t : Tar) : Tar := { t with ts := t.ts.take 9 }
def tameP (p : Pl) : Pl := { p with base := tameT p.base, other := tameT p.other }
theorem min9 (ts : List Tr) : (min ((ts.length : Nat) : Int) 9).toNat = (ts.take 9).length := by rw [List.length_take]; omega
theorem take9 (ts : List Tr) : (ts.take 9).length ≤ 9 := by rw [List.length_take]; omega
def DayIn (p : Pl) : Prop := -9223372036854775808 ≤ p.day ∧ p.day ≤ 9223372036854775807
theorem PlAt.box {w w1 : World} {p : Pl} {a a2 : Option Addr} {n g : Nat} (h1 : TsAt n w a p.base.ts) (h2 : TsAt n w a2 p.other.ts) (l1 : p.base.ts.length ≤ 1000) (l2 : p.other.ts.length ≤ 1000) (hb : BoxSt g w w1) (hg : g < n) : PlAt w1 p a a2 :=
  ⟨(h1.box hb hg).low (Nat.zero_le _), (h2.box hb hg).low (Nat.zero_le _), l1, l2⟩
def plan0 : Pl := ⟨0, 0, 0, ⟨1, 1, 10, [⟨0, 3⟩]⟩, ⟨0, 0, 0, []⟩⟩
theorem plan0_rate : rateE plan0 0 0 11 = 0 ∧ (rateR plan0 0 0 11).blocks = 2 ∧ (rateR plan0 0 0 11).cost = 6 ∧ (rateR plan0 0 0 11).pos = 2 ∧ fitE plan0 7 100 = 0 ∧ fitU plan0 7 100 = 20 ∧ fitC plan0 7 100 = 6 := by decide +kernel
theorem dearT_at {p : Pl} (now : Int) : dearT (atT p now).ts ≤ dear p := by
  unfold atT dear
  split <;> omega
theorem rateR_len (q : Pl) (now pos n : Int) : (rateR q now pos n).ls.length ≤ 1000 := by
  by_cases hE : rateE q now pos n = 0
  · obtain ⟨k1, k2, k3, k4⟩ := rateE_ok hE
    have hat := at_ok k1 now
    have hb := (chk_ok (plan_ok k1).1).1.2
    have := (splitL_ok hat.1 k4.1 (blk_nn n q.base.block (by omega) k3.1)).2.2
    unfold rateR
    rw [if_pos hE]
    exact Nat.le_trans this (by decide)
  · unfold rateR
    rw [if_neg hE]
    exact Nat.zero_le _
theorem rateR_yes {q : Pl} {now pos n : Int} (hE : rateE q now pos n = 0) : rateR q now pos n = ⟨splitL (atT q now) pos (blk n q.base.block), blk n q.base.block, costOf (splitL (atT q now) pos (blk n q.base.block)), pos + blk n q.base.block⟩ := by unfold rateR; rw [if_pos hE]
theorem rate_facts {q : Pl} {now pos n : Int} (hE : rateE q now pos n = 0) :
    LsOk (rateR q now pos n).ls ∧ (rateR q now pos n).cost = costOf (rateR q now pos n).ls ∧ 0 ≤ (rateR q now pos n).cost ∧ (rateR q now pos n).cost ≤ worstN q n ∧ (rateR q now pos n).pos = pos + (rateR q now pos n).blocks ∧ 0 ≤ (rateR q now pos n).blocks ∧ (rateR q now pos n).blocks ≤ 1073741824 ∧ worstE q n = 0 ∧ posOk pos := by
  obtain ⟨k1, k2, k3, k4⟩ := rateE_ok hE
  have hat := at_ok k1 now
  have hb := (chk_ok (plan_ok k1).1).1.2
  have hbn := blk_nn n q.base.block (by omega) k3.1
  have hbs := blk_self n q.base.block (by omega) k3.1
  have hc := splitL_cost hat.1 k4.1 hbn
  have hso : LsOk (splitL (atT q now) pos (blk n q.base.block)) := by
    have := splitO_ok hat.1 pos (n := blk n q.base.block) (by omega)
    unfold splitO at this
    rwa [if_pos k4] at this
  have hw : worstE q n = 0 := by unfold worstE; rw [if_neg (by omega)]
  have hd := Int.mul_le_mul_of_nonneg_left (dearT_at (p := q) now) hbn
  rw [rateR_yes hE]
  unfold worstN
  rw [if_pos hw]
  exact ⟨hso, rfl, hc.1, Int.le_trans hc.2 hd, rfl, hbn, by dsimp only; omega, hw, k4⟩
end Go.Proofs.Ytkggnbabnfhcpaa
end
section
/- The laws of the plans' bytes; walked. -/
namespace Go.Proofs.Ytkggnbabnfhcpaa
open Go.RowKit
end Go.Proofs.Ytkggnbabnfhcpaa
end
section
/- Requests of the law: to, from, the same, no longer than some; walked. -/
namespace Go.Proofs.Ytkggnbabnfhcpaa
open Go.RowKit
theorem keepG_one {gs : List Nat} {w w1 : World} (b : Below w.heap.size w w1) : KeepG gs w w1 := keepG_below b
/-- An item more behind a row of one's own, beside boxes. -/
theorem app_it {w0 w9 : World} {n1 n c : Nat} {t : TypeId} {tx : TypeId} {a : Option Addr} {xs : List It} {x : It} {gs : List Nat} {K : Nat → Option Addr → Nat → World → Prop} (hT : Try.prog.underlying tx = some (.slice t)) (B : Bs w0 w9) (o : Own w9 n1 t 3 (.slice a n c) n (xs.flatMap itC)) (hn : n ≤ 1000) (h0 : w0.heap.size ≤ n1) (h1 : n1 ≤ w9.heap.size) (hg : ∀ g ∈ gs, g < n1)
    (k : ∀ a' c' w1, Own w1 n1 t 3 (.slice a' (n + 1) c') (n + 1) ((xs ++ [x]).flatMap itC) → Bs w0 w1 → w9.heap.size ≤ w1.heap.size → K 1 a' c' w1) :
    newO w9 (.cells #[.int .i64 x.g, .int .i64 x.u, .int .i64 x.w] t) fun g_4 w_16 => appO Try.prog gs w_16 t 3 24 tx a n c (.slice (some ⟨g_4, 0, none⟩) 1 1) K := by
  refine newB B fun g4 w10 g40 sg10 n10 z10 b10 B10 => ?_
  have o10 := o.below b10 (Nat.le_refl _)
  refine appB B10 o10 h0 (Nat.le_trans h1 b10.size) (src_block (cs := itC x) hT n10 rfl rfl) (by unfold maxLen; omega) (by omega) (fun g hg' e => by have := (o10.lt g e).1; have := hg g hg'; omega) fun a' c' w1 o1 g1 B1 z1 => k a' c' w1 ?_ B1 (by have := b10.size; omega)
  rw [List.flatMap_append, List.flatMap_cons, List.flatMap_nil, List.append_nil]
  exact o1
def ToV (q : Rq) (a : RqA) (w : World) (v : Value) (w' : World) : Prop := ∃ ia ic, v = rqV q { a with ia := ia, ic := ic } ∧ ItsAt w.heap.size w' ia q.items ∧ Below w.heap.size w w'
set_option maxHeartbeats 3200000 in
theorem to_new (q : Rq) (a : RqA) (w : World) (hi : ItsAt 0 w a.ia q.items) (hil : q.items.length ≤ 100) : Calls Try.prog 9 #[rqV q a] w fun e w' => ∃ v, e = .returned v ∧ ToV q a w v w' := by
  refine GWiT.lto_calls q.k (q.ns 1) (q.ns 2) (q.ns 3) (q.ns 4) (q.ns 5) (q.ns 6) (q.ns 7) (q.ns 8) (q.ns 9) (q.ns 10) (q.ns 11) a.ia q.items.length a.ic q.plan.day q.plan.frm q.plan.til q.plan.base.grp q.plan.base.mode q.plan.base.block a.pa q.plan.base.ts.length a.pc q.plan.other.grp q.plan.other.mode q.plan.other.block a.qa q.plan.other.ts.length a.qc a.ca q.carry.length a.cc w (ToV q a w) ?_
  unfold GWiT.lto_vc
  refine newB (Bs.refl w) fun g w2 g0 sg n2 z2 b2 B2 => newB B2 fun g2 w3 g20 sg2 n3 z3 b3 B3 => newB B3 fun g3 w4 g30 sg3 n4 z4 b4 B4 => boxB B4 g30 fun w5 x5 B5 z5 => boxB B5 g30 fun w6 x6 B6 z6 => ?_
  refine ⟨fun y v0 v1 v2 v3 v4 v5 v6 v7 v8 v9 v10 v11 a12 n12 c12 v13 v14 v15 v16 v17 v18 a19 n19 c19 v20 v21 v22 a23 n23 c23 a24 n24 c24 wx => ∃ i : Nat, y = i ∧ i ≤ q.items.length ∧ n12 = i ∧ Own wx w6.heap.size 83 3 (.slice a12 i c12) i ((q.items.take i).flatMap itC) ∧ Bs w wx ∧ w6.heap.size ≤ wx.heap.size ∧ v0 = q.k ∧ v1 = q.ns 1 ∧ v2 = q.ns 2 ∧ v3 = q.ns 3 ∧ v4 = q.ns 4 ∧ v5 = q.ns 5 ∧ v6 = q.ns 6 ∧ v7 = q.ns 7 ∧ v8 = q.ns 8 ∧ v9 = q.ns 9 ∧ v10 = q.ns 10 ∧ v11 = q.ns 11 ∧ v13 = q.plan.day ∧ v14 = q.plan.frm ∧ v15 = q.plan.til ∧ v16 = q.plan.base.grp ∧ v17 = q.plan.base.mode ∧ v18 = q.plan.base.block ∧ a19 = a.pa ∧ n19 = q.plan.base.ts.length ∧ c19 = a.pc ∧ v20 = q.plan.other.grp ∧ v21 = q.plan.other.mode ∧ v22 = q.plan.other.block ∧ a23 = a.qa ∧ n23 = q.plan.other.ts.length ∧ c23 = a.qc ∧ a24 = a.ca ∧ n24 = q.carry.length ∧ c24 = a.cc, fun y _ _ _ _ _ _ _ _ _ _ _ _ _ _ _ _ _ _ _ _ _ _ _ _ _ _ _ _ _ _ _ _ _ _ => (q.items.length - y).toNat,
    ⟨0, rfl, Nat.zero_le _, rfl, Own.nil _ _ _ _, B6, Nat.le_refl _, rfl, rfl, rfl, rfl, rfl, rfl, rfl, rfl, rfl, rfl, rfl, rfl, rfl, rfl, rfl, rfl, rfl, rfl, rfl, rfl, rfl, rfl, rfl, rfl, rfl, rfl, rfl, rfl, rfl, rfl⟩, ?_⟩
  rintro y v0 v1 v2 v3 v4 v5 v6 v7 v8 v9 v10 v11 a12 n12 c12 v13 v14 v15 v16 v17 v18 a19 n19 c19 v20 v21 v22 a23 n23 c23 a24 n24 c24 wx ⟨i, rfl, hil2, rfl, hO, Bx, zx, rfl, rfl, rfl, rfl, rfl, rfl, rfl, rfl, rfl, rfl, rfl, rfl, rfl, rfl, rfl, rfl, rfl, rfl, rfl, rfl, rfl, rfl, rfl, rfl, rfl, rfl, rfl, rfl, rfl, rfl⟩
  refine br_dec (fun h1 => ?_) fun h1 => boxB Bx g20 fun w12 x12 B12 z12 => ?_
  · have hi2 : n12 < q.items.length := by omega
    refine drewB Bx fun w8 b8 B8 _ => ?_
    obtain ⟨b, off, ha, hc⟩ := (hi.below B8).get hi2
    have hi1 : IntKind.i64.wrap ((n12 : Int) + 1) = ((n12 + 1 : Nat) : Int) := by rw [wr64 (by omega) (by omega)]; omega
    rw [hi1]
    have et : q.items.take (n12 + 1) = q.items.take n12 ++ [q.items[n12]] := by rw [List.take_add_one, List.getElem?_eq_getElem hi2]; rfl
    refine withP_mk b off ha ⟨by omega, by omega, by omega, by omega, q.items[n12].g, by rw [Int.toNat_natCast]; exact cellsAt_get hc 0 _ rfl, withP_mk b off ha ⟨by omega, by omega, by omega, by omega, q.items[n12].u, by rw [Int.toNat_natCast]; exact cellsAt_get hc 1 _ rfl, withP_mk b off ha ⟨by omega, by omega, by omega, by omega, q.items[n12].w, by rw [Int.toNat_natCast]; exact cellsAt_get hc 2 _ rfl, ?_⟩⟩⟩
    refine app_it Try.underlying36 B8 (hO.below b8 (Nat.le_refl _)) (by omega) B6.size (by have := b8.size; omega) (fun g' hg' => by simp at hg'; omega) fun a10 c10 w10 o10 B10 z10 => boxB B10 g30 fun w11 x11 B11 z11 => ⟨⟨n12 + 1, rfl, hi2, rfl, ?_, B11, by have := b8.size; omega, rfl, rfl, rfl, rfl, rfl, rfl, rfl, rfl, rfl, rfl, rfl, rfl, rfl, rfl, rfl, rfl, rfl, rfl, rfl, rfl, rfl, rfl, rfl, rfl, rfl, rfl, rfl, rfl, rfl, rfl⟩, by dsimp only; omega⟩
    rw [et]
    exact o10.keep fun q' hq' => x11.1.block q' (o10.lt q' hq').2 (by rw [List.mem_singleton]; have := (o10.lt q' hq').1; omega)
  · have e : n12 = q.items.length := by omega
    subst e
    rw [List.take_length] at hO
    exact ⟨a12, c12, rfl, (((Rws.ofOwn (by omega) itC_len hO).box x12 (by omega)).low B6.size), B12⟩
set_option maxHeartbeats 3200000 in
theorem from_new (q : Rq) (a : RqA) (w : World) (hi : ItsAt 0 w a.ia q.items) (hil : q.items.length ≤ 100) : Calls Try.prog 17 #[rqV q a] w fun e w' => ∃ v, e = .returned v ∧ ToV q a w v w' := by
  refine GWiT.lfrom_calls q.k (q.ns 1) (q.ns 2) (q.ns 3) (q.ns 4) (q.ns 5) (q.ns 6) (q.ns 7) (q.ns 8) (q.ns 9) (q.ns 10) (q.ns 11) a.ia q.items.length a.ic q.plan.day q.plan.frm q.plan.til q.plan.base.grp q.plan.base.mode q.plan.base.block a.pa q.plan.base.ts.length a.pc q.plan.other.grp q.plan.other.mode q.plan.other.block a.qa q.plan.other.ts.length a.qc a.ca q.carry.length a.cc w (ToV q a w) ?_
  unfold GWiT.lfrom_vc
  refine newB (Bs.refl w) fun g w2 g0 sg n2 z2 b2 B2 => newB B2 fun g2 w3 g20 sg2 n3 z3 b3 B3 => newB B3 fun g3 w4 g30 sg3 n4 z4 b4 B4 => boxB B4 g30 fun w5 x5 B5 z5 => boxB B5 g30 fun w6 x6 B6 z6 => ?_
  refine ⟨fun y v0 v1 v2 v3 v4 v5 v6 v7 v8 v9 v10 v11 a12 n12 c12 v13 v14 v15 v16 v17 v18 a19 n19 c19 v20 v21 v22 a23 n23 c23 a24 n24 c24 wx => ∃ i : Nat, y = i ∧ i ≤ q.items.length ∧ n12 = i ∧ Own wx w6.heap.size 81 3 (.slice a12 i c12) i ((q.items.take i).flatMap itC) ∧ Bs w wx ∧ w6.heap.size ≤ wx.heap.size ∧ v0 = q.k ∧ v1 = q.ns 1 ∧ v2 = q.ns 2 ∧ v3 = q.ns 3 ∧ v4 = q.ns 4 ∧ v5 = q.ns 5 ∧ v6 = q.ns 6 ∧ v7 = q.ns 7 ∧ v8 = q.ns 8 ∧ v9 = q.ns 9 ∧ v10 = q.ns 10 ∧ v11 = q.ns 11 ∧ v13 = q.plan.day ∧ v14 = q.plan.frm ∧ v15 = q.plan.til ∧ v16 = q.plan.base.grp ∧ v17 = q.plan.base.mode ∧ v18 = q.plan.base.block ∧ a19 = a.pa ∧ n19 = q.plan.base.ts.length ∧ c19 = a.pc ∧ v20 = q.plan.other.grp ∧ v21 = q.plan.other.mode ∧ v22 = q.plan.other.block ∧ a23 = a.qa ∧ n23 = q.plan.other.ts.length ∧ c23 = a.qc ∧ a24 = a.ca ∧ n24 = q.carry.length ∧ c24 = a.cc, fun y _ _ _ _ _ _ _ _ _ _ _ _ _ _ _ _ _ _ _ _ _ _ _ _ _ _ _ _ _ _ _ _ _ _ => (q.items.length - y).toNat,
    ⟨0, rfl, Nat.zero_le _, rfl, Own.nil _ _ _ _, B6, Nat.le_refl _, rfl, rfl, rfl, rfl, rfl, rfl, rfl, rfl, rfl, rfl, rfl, rfl, rfl, rfl, rfl, rfl, rfl, rfl, rfl, rfl, rfl, rfl, rfl, rfl, rfl, rfl, rfl, rfl, rfl, rfl⟩, ?_⟩
  rintro y v0 v1 v2 v3 v4 v5 v6 v7 v8 v9 v10 v11 a12 n12 c12 v13 v14 v15 v16 v17 v18 a19 n19 c19 v20 v21 v22 a23 n23 c23 a24 n24 c24 wx ⟨i, rfl, hil2, rfl, hO, Bx, zx, rfl, rfl, rfl, rfl, rfl, rfl, rfl, rfl, rfl, rfl, rfl, rfl, rfl, rfl, rfl, rfl, rfl, rfl, rfl, rfl, rfl, rfl, rfl, rfl, rfl, rfl, rfl, rfl, rfl, rfl⟩
  refine br_dec (fun h1 => ?_) fun h1 => boxB Bx g20 fun w12 x12 B12 z12 => ?_
  · have hi2 : n12 < q.items.length := by omega
    refine drewB Bx fun w8 b8 B8 _ => ?_
    obtain ⟨b, off, ha, hc⟩ := (hi.below B8).get hi2
    have hi1 : IntKind.i64.wrap ((n12 : Int) + 1) = ((n12 + 1 : Nat) : Int) := by rw [wr64 (by omega) (by omega)]; omega
    rw [hi1]
    have et : q.items.take (n12 + 1) = q.items.take n12 ++ [q.items[n12]] := by rw [List.take_add_one, List.getElem?_eq_getElem hi2]; rfl
    refine withP_mk b off ha ⟨by omega, by omega, q.items[n12].g, by rw [Int.toNat_natCast]; exact cellsAt_get hc 0 _ rfl, withP_mk b off ha ⟨by omega, by omega, q.items[n12].u, by rw [Int.toNat_natCast]; exact cellsAt_get hc 1 _ rfl, withP_mk b off ha ⟨by omega, by omega, q.items[n12].w, by rw [Int.toNat_natCast]; exact cellsAt_get hc 2 _ rfl, ?_⟩⟩⟩
    refine app_it Try.underlying22 B8 (hO.below b8 (Nat.le_refl _)) (by omega) B6.size (by have := b8.size; omega) (fun g' hg' => by simp at hg'; omega) fun a10 c10 w10 o10 B10 z10 => boxB B10 g30 fun w11 x11 B11 z11 => ⟨⟨n12 + 1, rfl, hi2, rfl, ?_, B11, by have := b8.size; omega, rfl, rfl, rfl, rfl, rfl, rfl, rfl, rfl, rfl, rfl, rfl, rfl, rfl, rfl, rfl, rfl, rfl, rfl, rfl, rfl, rfl, rfl, rfl, rfl, rfl, rfl, rfl, rfl, rfl, rfl⟩, by dsimp only; omega⟩
    rw [et]
    exact o10.keep fun q' hq' => x11.1.block q' (o10.lt q' hq').2 (by rw [List.mem_singleton]; have := (o10.lt q' hq').1; omega)
  · have e : n12 = q.items.length := by omega
    subst e
    rw [List.take_length] at hO
    exact ⟨a12, c12, rfl, (((Rws.ofOwn (by omega) itC_len hO).box x12 (by omega)).low B6.size), B12⟩
end Go.Proofs.Ytkggnbabnfhcpaa
end
section
/- The same request, a known one, one no longer than some; walked. -/
namespace Go.Proofs.Ytkggnbabnfhcpaa
open Go.RowKit
theorem ichanges_ret (k : Int) (w : World) : Calls Try.prog 12 #[.int .i64 k] w (Ret (.bool (decide (1 ≤ k ∧ k ≤ 12))) w) := by
  refine ret_in (GWi.ichanges_calls k w (fun u w' => u = .bool (decide (1 ≤ k ∧ k ≤ 12)) ∧ Below w.heap.size w w') ?_)
  unfold GWi.ichanges_vc
  refine br_dec (fun h => ⟨?_, Below.refl _ _⟩) fun h => ⟨?_, Below.refl _ _⟩
  · have : (k ≤ 12) ↔ (1 ≤ k ∧ k ≤ 12) := by omega
    rw [decide_eq_decide.2 this]
  · rw [decide_eq_false (by omega)]
theorem qchanges_ret (k : Int) (w : World) : Calls Try.prog 13 #[.int .i64 k] w (Ret (.bool (decide (1 ≤ k ∧ k ≤ 12))) w) := by
  refine ret_in (GWiR.qchanges_calls k w (fun u w' => u = .bool (decide (1 ≤ k ∧ k ≤ 12)) ∧ Below w.heap.size w w') ?_)
  unfold GWiR.qchanges_vc
  refine br_dec (fun h => ⟨?_, Below.refl _ _⟩) fun h => ⟨?_, Below.refl _ _⟩
  · have : (k ≤ 12) ↔ (1 ≤ k ∧ k ≤ 12) := by omega
    rw [decide_eq_decide.2 this]
  · rw [decide_eq_false (by omega)]
set_option maxHeartbeats 1600000 in
theorem rsame22_ret (q : Rq) (a b : RqA) (w : World) (h : RqIn w q a) (h2 : RqIn w q b) : Calls Try.prog 16 #[rqV q a, rqV q b] w (Ret (.bool true) w) := by
  refine ret_in (GWiR.qsame_calls q.k (q.ns 1) (q.ns 2) (q.ns 3) (q.ns 4) (q.ns 5) (q.ns 6) (q.ns 7) (q.ns 8) (q.ns 9) (q.ns 10) (q.ns 11) a.ia q.items.length a.ic q.plan.day q.plan.frm q.plan.til q.plan.base.grp q.plan.base.mode q.plan.base.block a.pa q.plan.base.ts.length a.pc q.plan.other.grp q.plan.other.mode q.plan.other.block a.qa q.plan.other.ts.length a.qc a.ca q.carry.length a.cc q.k (q.ns 1) (q.ns 2) (q.ns 3) (q.ns 4) (q.ns 5) (q.ns 6) (q.ns 7) (q.ns 8) (q.ns 9) (q.ns 10) (q.ns 11) b.ia q.items.length b.ic q.plan.day q.plan.frm q.plan.til q.plan.base.grp q.plan.base.mode q.plan.base.block b.pa q.plan.base.ts.length b.pc q.plan.other.grp q.plan.other.mode q.plan.other.block b.qa q.plan.other.ts.length b.qc b.ca q.carry.length b.cc w (fun u w' => u = .bool true ∧ Below w.heap.size w w') ?_)
  unfold GWiR.qsame_vc
  have hil := h.il
  have hcl := h.cl
  refine newB (Bs.refl w) fun g w2 g0 sg n2 z2 b2 B2 => newB B2 fun g2 w3 g20 sg2 n3 z3 b3 B3 => ?_
  have ne : ∀ {x : Int}, ¬ x ≠ x := fun h => h rfl
  refine br_n ne (br_n ne (br_n ne (br_n ne (br_n ne (br_n ne (br_n ne (br_n ne (br_n ne (br_n ne (br_n ne (br_n ne (br_n ne (br_n ne (callB B3 (samep_ret q.plan a.pa a.qa b.pa b.qa a.pc a.qc b.pc b.qc w3 (h.plan.to B3) (h2.plan.to B3)) fun w4 b4 B4 => ⟨_, rfl, br_f rfl ?_⟩))))))))))))))
  refine ⟨fun y wx => ∃ i : Nat, y = i ∧ i ≤ q.items.length ∧ Bs w wx, fun y _ => (q.items.length - y).toNat, ⟨0, rfl, Nat.zero_le _, B4⟩, ?_⟩
  rintro y wx ⟨i, rfl, hi, Bx⟩
  refine br_dec (fun h1 => ?_) fun h1 => ?_
  · have hi2 : i < q.items.length := by omega
    refine drewB Bx fun w6 b6 B6 _ => ?_
    obtain ⟨b1, off1, ha1, hc1⟩ := (h.items.below B6).get hi2
    obtain ⟨b2, off2, ha2, hc2⟩ := (h2.items.below B6).get hi2
    have hi1 : IntKind.i64.wrap ((i : Int) + 1) = ((i + 1 : Nat) : Int) := by rw [wr64 (by omega) (by omega)]; omega
    refine withP_mk b1 off1 ha1 ⟨by omega, by omega, _, _, _, by rw [Int.toNat_natCast]; exact hc1, withP_mk b2 off2 ha2 ⟨by omega, by omega, _, _, _, by rw [Int.toNat_natCast]; exact hc2, br_f (by simp) ⟨⟨i + 1, hi1, hi2, B6⟩, by dsimp only; rw [hi1]; omega⟩⟩⟩
  · refine ⟨fun y wx => ∃ i : Nat, y = i ∧ i ≤ q.carry.length ∧ Bs w wx, fun y _ => (q.carry.length - y).toNat, ⟨0, rfl, Nat.zero_le _, Bx⟩, ?_⟩
    rintro y wx ⟨i, rfl, hi, Bx⟩
    refine br_dec (fun h1 => ?_) fun h1 => ⟨rfl, Bx⟩
    have hi2 : i < q.carry.length := by omega
    refine drewB Bx fun w6 b6 B6 _ => ?_
    obtain ⟨b1, off1, ha1, hc1⟩ := (h.carry.below B6 (Nat.le_refl _)).int hi2
    obtain ⟨b2, off2, ha2, hc2⟩ := (h2.carry.below B6 (Nat.le_refl _)).int hi2
    have hi1 : IntKind.i64.wrap ((i : Int) + 1) = ((i + 1 : Nat) : Int) := by rw [wr64 (by omega) (by omega)]; omega
    refine withP_mk b1 off1 ha1 ⟨by omega, by omega, _, by rw [Int.toNat_natCast, Nat.mul_one]; exact hc1, withP_mk b2 off2 ha2 ⟨by omega, by omega, _, by rw [Int.toNat_natCast, Nat.mul_one]; exact hc2, br_n ne ⟨⟨i + 1, hi1, hi2, B6⟩, by dsimp only; rw [hi1]; omega⟩⟩⟩
def rq8 : Rq := ⟨8, fun o => if o = 3 then 3 else 0, [], zeroPl, []⟩
theorem rq8_ok : AskOk rq8 := ⟨⟨by decide, by decide⟩, fun o ho => by
  have : numsO rq8.k = [3] := rfl
  rw [this, List.mem_singleton] at ho
  subst ho
  exact ⟨by decide, by decide⟩, ⟨fun c => absurd c (by decide), fun c => absurd c (by decide), fun c => absurd c (by decide), fun c => absurd c (by decide)⟩⟩
theorem rq8_b : askB rq8 = [8, 3] := by
  have e1 : numsO rq8.k = [3] := rfl
  have e2 : restB rq8 = [] := restB_none (by decide) (by decide) (by decide) (by decide)
  unfold askB rqHeadB
  rw [e1, e2]
  show uintB 8 ++ (([3] : List Nat).flatMap (fun o => uintB (rq8.ns o)) ++ []) = _
  rw [List.append_nil, List.flatMap_cons, List.flatMap_nil, List.append_nil]
  show uintB 8 ++ uintB 3 = _
  rw [uint_nat (by decide), uint_nat (by decide), grp_lt (by decide), grp_lt (by decide)]
  rfl
theorem not_830 : ¬ reqOk [8, 3, 0] := fun h => by
  obtain ⟨h1, h2⟩ := un_req h
  -- what begins like the known one is it, with a byte behind
  have hk := ck_req rq8_ok (fun c => absurd c (by decide))
  have e : ([8, 3, 0] : List UInt8) = askB rq8 ++ [0] := by rw [rq8_b]; rfl
  have e1 : rdUint wfar [8, 3, 0] 0 = (8, [3, 0], 0) := by
    have := ck_uint (n := 8) (most := wfar) (by decide) (by decide) (by decide) [3, 0]
    rw [uint_nat (by decide), grp_lt (by decide)] at this
    exact this
  have e2 : (rdHead [8, 3, 0]).bs = [0] ∧ (rdHead [8, 3, 0]).e = 0 := by
    unfold rdHead
    rw [e1]
    have := ck_uint (n := 3) (most := wfar) (by decide) (by decide) (by decide) [0]
    rw [uint_nat (by decide), grp_lt (by decide)] at this
    show (rdUint wfar [3, 0] 0).2.1 = [0] ∧ (rdUint wfar [3, 0] 0).2.2 = 0
    rw [show ([3, 0] : List UInt8) = [UInt8.ofNat (3 : Int).toNat] ++ [0] from rfl, this]
    exact ⟨rfl, rfl⟩
  have e3 := h.2.2
  unfold rdTail at e3
  rw [e1] at e3
  dsimp only at e3
  rw [rdRest_none (by decide) (by decide) (by decide) (by decide), e2.1, e2.2] at e3
  exact absurd e3 (by decide)
theorem wires_ret (w : World) : Calls Try.prog 11 #[] w (Ret (.bool true) w) := by
  refine ret_in (GWiR.lwires_calls w (fun u w' => u = .bool true ∧ Below w.heap.size w w') ?_)
  unfold GWiR.lwires_vc
  refine (ask_new rq8 noA w (RqN.none 0 w rq8 ⟨rfl, rfl, rfl⟩).to).mono ?_
  rintro e w2 ⟨a, c, h2, b2⟩
  rcases h2 with ⟨_, rfl, o2⟩ | ⟨no, _⟩
  rotate_left
  · exact absurd rq8_ok no
  refine ⟨keepG_nil _ _, a, _, c, _, rfl, newB b2 fun g w3 g0 sg n3 z3 b3 B3 => ?_⟩
  have hrow : RowAt w3 (some ⟨g, 0, none⟩) (([8, 3, 0] : List UInt8).map bV) := RowAt.ofWhole n3
  refine (asked_new (some ⟨g, 0, none⟩) 3 [8, 3, 0] w3 hrow (by decide)).mono ?_
  rintro e w4 ⟨v, rfl, a2, rfl, hin, b4⟩
  have hz : rdReq [8, 3, 0] = zeroRq := by unfold rdReq; rw [if_neg not_830]
  rw [hz, if_neg not_830]
  have B4 := B3.to b4
  refine ⟨keepG_nil _ _, _, _, _, _, _, _, _, _, _, _, _, _, _, _, _, _, _, _, _, _, _, _, _, _, _, _, _, _, _, _, _, _, _, _, rfl, newB B4 fun g2 w5 g20 sg5 n5 z5 b5 B5 => boxB B5 g20 fun w6 x6 B6 z6 => ?_⟩
  have r6 : RowAt w6 a ((askB rq8).map bV) := ((((show RowAt w2 a ((askB rq8).map bV) from o2.row).below b3 (Nat.le_refl _)).below b4 (Nat.le_refl _)).below b5 (Nat.le_refl _)).boxed x6 fun k hk => by
    subst hk
    have := (o2.lt k.block rfl).2
    have := b3.size
    have := b4.size
    omega
  refine br_y rfl ⟨askB rq8, rfl, r6, br_y (by rw [rq8_b]; rfl) (br_y rfl (callB B6 (ichanges_ret 8 w6) fun w7 b7 B7 => ⟨_, rfl, rfl, B7⟩))⟩
/-- A request that came in. -/
structure RqArg (w : World) (q : Rq) (a : RqA) : Prop where
  items : ItsAt 0 w a.ia q.items
  pb : TsAt 0 w a.pa q.plan.base.ts
  po : TsAt 0 w a.qa q.plan.other.ts
  carry : RowAt w a.ca (q.carry.map iV)
  ci : q.items.length ≤ a.ic
  cb : q.plan.base.ts.length ≤ a.pc
  co : q.plan.other.ts.length ≤ a.qc
  cc : q.carry.length ≤ a.cc
  day : -9223372036854775808 ≤ q.plan.day ∧ q.plan.day ≤ 9223372036854775807
def tameR (q : Rq) : Rq := ⟨q.k, q.ns, q.items.take 6, tameP q.plan, q.carry.take 40⟩
def TameV (q : Rq) (w : World) (v : Value) (w' : World) : Prop := ∃ a, v = rqV (tameR q) a ∧ RqN w.heap.size w' (tameR q) a ∧ Below w.heap.size w w'
/-- A row's beginning, in a block of one's own. -/
theorem tame_row {α : Type} {enc : α → List Value} {k by8 : Nat} {t tx : TypeId} {w0 w : World} {n0 : Nat} {a : Option Addr} {c m : Nat} {xs : List α} {gs : List Nat} {K : Nat → Option Addr → Nat → World → Prop} (hT : Try.prog.underlying tx = some (.slice t)) (hkp : 0 < k) (hk : ∀ x, (enc x).length = k) (h1 : ∀ x, ∀ v ∈ enc x, v.oneCell' = true) (hb : by8 ≤ 1000) (B : Bs w0 w) (h : ∀ w', Bs w0 w' → w.heap.size ≤ w'.heap.size → Below w.heap.size w w' → Rws enc k n0 w' a xs) (hm : m ≤ 100) (hc : xs.length ≤ c) (hg : ∀ g ∈ gs, g < w.heap.size)
    (kk : ∀ a' c' w1, Rws enc k w.heap.size w1 a' (xs.take m) → (∀ q, a' = some q → w.heap.size ≤ q.block) → Below w.heap.size w w1 → Bs w0 w1 → K (xs.take m).length a' c' w1) :
    newO w (.cells #[] t) fun g_3 w_4 => (0 : Int) ≤ min ((xs.length : Nat) : Int) (m : Int) ∧ min ((xs.length : Nat) : Int) (m : Int) ≤ (((c : Nat) : Int) : Int) ∧ appO Try.prog gs w_4 t k by8 tx (some ⟨g_3, 0, none⟩) 0 0 (.slice a ((min ((xs.length : Nat) : Int) (m : Int)).toNat) c) K := by
  refine newB (Bs.refl w) fun g4 w4 g04 sg4 n4 z4 b4 B4 => ⟨by omega, by omega, ?_⟩
  have hl : (xs.take m).length ≤ m := by rw [List.length_take]; omega
  have o4 : Own w4 w.heap.size t k (.slice (some ⟨g4, 0, none⟩) 0 0) 0 [] := (own_empty k n4).base_le fun q hq => by simp [Value.ownBlock] at hq; omega
  have s4 := ((h w4 (B.to b4) b4.size b4).take m).src (c := c) hT hkp hk h1
  rw [show (min ((xs.length : Nat) : Int) (m : Int)).toNat = (xs.take m).length by rw [List.length_take]; omega]
  refine appB B4 o4 (Nat.le_refl _) B4.size s4 (by unfold maxLen; omega) (Nat.le_trans (Nat.mul_le_mul (show 0 + (xs.take m).length ≤ 100 by omega) hb) (by decide)) (fun x hx e => by have := (o4.lt _ e).1; have := hg x hx; omega) fun a5 c5 w5 o5 g5 B5 z5 => kk a5 c5 w5 (Rws.ofOwn hkp hk (by rw [List.nil_append, Nat.zero_add] at o5; exact o5)) (fun q hq => by subst hq; exact (o5.lt q.block rfl).1) B5 (B.to B5)
def iC (z : Int) : List Value := [.int .i64 z]
theorem iC_row {w : World} {a : Option Addr} {zs : List Int} (h : RowAt w a (zs.map iV)) : Rws iC 1 0 w a zs := by
  rcases h with h | ⟨b, off, ha, h⟩
  · exact .inl (by simpa using h)
  · refine .inr ⟨b, off, ha, Nat.zero_le _, fun i x hx => ⟨?_, trivial⟩⟩
    rw [Nat.mul_one]
    exact h i (iV x) (by rw [List.getElem?_map, hx]; rfl)
theorem row_iC {n0 : Nat} {w : World} {a : Option Addr} {zs : List Int} (h : Rws iC 1 n0 w a zs) : RowAt w a (zs.map iV) := by
  rcases h with h | ⟨b, off, ha, _, h⟩
  · exact .inl (by rw [h]; rfl)
  · refine .inr ⟨b, off, ha, fun i v hv => ?_⟩
    rw [List.getElem?_map] at hv
    cases hz : zs[i]? with
    | none => rw [hz] at hv; cases hv
    | some z =>
      rw [hz] at hv
      injection hv with hv
      subst hv
      have := (h i z hz).1
      rw [Nat.mul_one] at this
      exact this
set_option maxHeartbeats 1600000 in
theorem tame22_new (q : Rq) (a : RqA) (w : World) (h : RqArg w q a) : Calls Try.prog 7 #[rqV q a] w fun e w' => ∃ v, e = .returned v ∧ TameV q w v w' := by
  refine GWiR.ltame_calls q.k (q.ns 1) (q.ns 2) (q.ns 3) (q.ns 4) (q.ns 5) (q.ns 6) (q.ns 7) (q.ns 8) (q.ns 9) (q.ns 10) (q.ns 11) a.ia q.items.length a.ic q.plan.day q.plan.frm q.plan.til q.plan.base.grp q.plan.base.mode q.plan.base.block a.pa q.plan.base.ts.length a.pc q.plan.other.grp q.plan.other.mode q.plan.other.block a.qa q.plan.other.ts.length a.qc a.ca q.carry.length a.cc w (TameV q w) ?_
  unfold GWiR.ltame_vc
  refine newB (Bs.refl w) fun g w2 g0 sg n2 z2 b2 B2 => newB B2 fun g2 w3 g20 sg2 n3 z3 b3 B3 => ?_
  have hgs : ∀ {wx : World}, w3.heap.size ≤ wx.heap.size → ∀ x ∈ [g2, g], x < wx.heap.size := fun hz x hx => by simp at hx; omega
  refine tame_row Try.underlying22 (by omega) itC_len itC_one (by omega) B3 (fun w' B' _ _ => h.items.below B') (m := 6) (by omega) h.ci (hgs (Nat.le_refl _)) fun a5 c5 w5 k5 _ b5 B5 => ?_
  have z5 := b5.size
  refine boxB B5 g0 fun w6 x6 B6 z6 => ?_
  have k6 := k5.box x6 (by omega)
  refine tame_row (enc := iC) (xs := q.carry) Try.underlying28 (by omega) (fun _ => rfl) (fun x v hv => by rw [iC, List.mem_singleton] at hv; subst hv; rfl) (by omega) B6 (fun w' B' _ _ => iC_row (h.carry.below B' (Nat.le_refl _))) (m := 40) (by omega) h.cc (hgs (by omega)) fun a7 c7 w7 k7 p7 b7 B7 => ?_
  have z7 := b7.size
  refine boxB B7 g0 fun w8 x8 B8 z8 => ?_
  have k8 := (k6.below b7).box x8 (by omega)
  have m8 := k7.box x8 (by omega)
  refine tame_row Try.underlying23 (by omega) tr_len tr_one (by omega) B8 (fun w' B' _ _ => h.pb.below B') (m := 9) (by omega) h.cb (hgs (by omega)) fun a9 c9 w9 k9 _ b9 B9 => ?_
  have z9 := b9.size
  refine boxB B9 g0 fun w10 x10 B10 z10 => ?_
  have k10 := (k8.below b9).box x10 (by omega)
  have m10 := (m8.below b9).box x10 (by omega)
  have p10 := k9.box x10 (by omega)
  refine tame_row Try.underlying23 (by omega) tr_len tr_one (by omega) B10 (fun w' B' _ _ => h.po.below B') (m := 9) (by omega) h.co (hgs (by omega)) fun a11 c11 w11 k11 _ b11 B11 => ?_
  have z11 := b11.size
  refine boxB B11 g0 fun w12 x12 B12 z12 => boxB B12 g20 fun w13 x13 B13 z13 => ?_
  have e6 : (q.items.take 6).length ≤ 6 := by rw [List.length_take]; omega
  have e40 : (q.carry.take 40).length ≤ 40 := by rw [List.length_take]; omega
  have t1 := take9 q.plan.base.ts
  have t2 := take9 q.plan.other.ts
  rw [Nat.zero_add, Nat.zero_add, Nat.zero_add, Nat.zero_add]
  have l0 : w.heap.size ≤ w3.heap.size := B3.size
  exact ⟨⟨a5, c5, a9, c9, a11, c11, a7, c7⟩, rfl, ⟨((((k10.below b11).box x12 (by omega)).box x13 (by omega)).low l0), ((((p10.below b11).box x12 (by omega)).box x13 (by omega)).low (by omega)), ((k11.box x12 (by omega)).box x13 (by omega)).low (by omega), by show (q.plan.base.ts.take 9).length ≤ 1000; omega, by show (q.plan.other.ts.take 9).length ≤ 1000; omega, row_iC (((m10.below b11).box x12 (by omega)).box x13 (by omega)), (fun k hk => by have := p7 k hk; omega), by show (q.items.take 6).length ≤ 100; omega, by show (q.carry.take 40).length ≤ 100; omega, h.day⟩, B13⟩
end Go.Proofs.Ytkggnbabnfhcpaa
end
section
/- The laws of requests; walked. -/
namespace Go.Proofs.Ytkggnbabnfhcpaa
open Go.RowKit
theorem flat_le {α : Type} {f : α → List UInt8} {m : Nat} (h : ∀ x, (f x).length ≤ m) : ∀ xs : List α, (xs.flatMap f).length ≤ m * xs.length
  | [] => by simp
  | x :: r => by
    rw [List.flatMap_cons, List.length_append, List.length_cons, Nat.mul_add, Nat.mul_one]
    have := h x
    have := flat_le h r
    omega
theorem uintB_len {z : Int} (h : z ≤ 9223372036854775807) : (uintB z).length ≤ 10 := uint_len10 h
theorem ub10 (z : Int) : z ≤ 9223372036854775807 ∨ True := .inr trivial
theorem far_flat : ∀ zs : List Int, (∀ z ∈ zs, inFar z) → (zs.flatMap uintB).length ≤ 10 * zs.length
  | [], _ => by simp
  | z :: r, h => by
    rw [List.flatMap_cons, List.length_append, List.length_cons]
    have := uint_len10 (far64 (h z List.mem_cons_self))
    have := far_flat r fun x hx => h x (List.mem_cons_of_mem _ hx)
    omega
theorem it_flat (k : Int) : ∀ xs : List It, (∀ x ∈ xs, (pIt k).ok x) → (xs.flatMap (pIt k).enc).length ≤ 30 * xs.length
  | [], _ => by simp
  | x :: r, h => by
    rw [List.flatMap_cons, List.length_append, List.length_cons]
    have hx := h x List.mem_cons_self
    have := it_flat k r fun y hy => h y (List.mem_cons_of_mem _ hy)
    have h3 : ((pIt k).enc x).length ≤ 30 := by
      unfold pIt at hx ⊢
      split at hx
      · rename_i e
        rw [if_pos e]
        have a := uint_len10 (far64 hx.1)
        have b := uint_len10 (far64 hx.2.2)
        show (uintB x.g ++ uintB x.w).length ≤ 30
        rw [List.length_append]; omega
      · rename_i e
        rw [if_neg e]
        split at hx
        · rename_i e2
          rw [if_pos e2]
          have a := uint_len10 (far64 hx.1)
          have b := uint_len10 (far64 hx.2.1)
          have c := uint_len10 (far64 hx.2.2)
          show (uintB x.g ++ (uintB x.u ++ uintB x.w)).length ≤ 30
          rw [List.length_append, List.length_append]; omega
        · rename_i e2
          rw [if_neg e2]
          have a := uint_len10 (far64 hx.1)
          have b := uint_len10 (far64 hx.2.1)
          show (uintB x.g ++ uintB x.u).length ≤ 30
          rw [List.length_append]; omega
    omega
theorem askB_len {q : Rq} (h : AskOk q) : (askB q).length ≤ 2000 := by
  have hk := h.kind
  have h1 := uint_len10 (n := q.k) (by omega)
  have h2 : (rqHeadB q).length ≤ 40 := by
    have e : rqHeadB q = ((numsO q.k).map q.ns).flatMap uintB := by unfold rqHeadB; rw [List.flatMap_map]
    have := far_flat ((numsO q.k).map q.ns) fun z hz => by obtain ⟨o, ho, rfl⟩ := List.mem_map.1 hz; exact h.nums o ho
    rw [List.length_map] at this
    have := nums_few q.k
    rw [e]; omega
  have h3 : (restB q).length ≤ 1000 := by
    by_cases c1 : q.k ≤ 3
    · have hi := h.rest.items c1
      rw [restB_items c1, ← items_enc]
      have h4 := it_flat q.k _ hi.2
      have h5 := hi.1
      have h6 := uint_len10 (n := ((q.items.map (itOnly q.k)).length : Int)) (by omega)
      show (uintB ((q.items.map (itOnly q.k)).length : Int) ++ _).length ≤ 1000
      rw [List.length_append]
      omega
    by_cases c2 : hasLim q.k
    · have hl := h.rest.lim c2
      rw [restB_lim c2]
      have := int_len10 (n := q.ns 9) (by have := hl.1; omega) (Int.le_trans hl.2 (by decide))
      omega
    by_cases c3 : q.k = 11
    · rw [restB_plan c3]
      have := planB_len (h.rest.plan c3)
      have := textB_len (ts := planB q.plan) (by omega)
      omega
    by_cases c4 : q.k = 12
    · have hc := h.rest.carry c4
      rw [restB_carry c4]
      have h4 := far_flat _ hc.2
      have h5 := hc.1
      have h6 := uint_len10 (n := (q.carry.length : Int)) (by omega)
      show (uintB (q.carry.length : Int) ++ q.carry.flatMap uintB).length ≤ 1000
      rw [List.length_append]
      omega
    · rw [restB_none c1 c2 c3 c4]; simp
  unfold askB
  rw [List.length_append, List.length_append]
  omega
theorem RowAt.newbox {w w1 w2 : World} {a : Option Addr} {vs : List Value} {g : Nat} (h : RowAt w a vs) (b : Below w.heap.size w w1) (sg : w.heap.size = g) (x : BoxSt g w1 w2) : RowAt w2 a vs := by
  rcases h with h | ⟨b', off, ha, h⟩
  · exact .inl h
  · refine .inr ⟨b', off, ha, fun i v hv => ?_⟩
    have hc := h i v hv
    have hlt : b' < w.heap.size := block_lt_of_cell hc
    rw [cell_keep ((x.1.block b' (by have := b.size; omega) (by rw [List.mem_singleton]; omega)).trans (b.block b' hlt))]
    exact hc
theorem RqIn.newbox {w w1 w2 : World} {q : Rq} {a : RqA} {g : Nat} (h : RqIn w q a) (b : Below w.heap.size w w1) (sg : w.heap.size = g) (x : BoxSt g w1 w2) : RqIn w2 q a :=
  ⟨h.items.newbox b sg x, ⟨h.plan.base.newbox b sg x, h.plan.other.newbox b sg x, h.plan.lb, h.plan.lo⟩, h.carry.newbox b sg x, h.il, h.cl, h.day⟩
theorem RqIn.below {w w1 : World} {q : Rq} {a : RqA} (h : RqIn w q a) (b : Below w.heap.size w w1) : RqIn w1 q a := ⟨h.items.below b, h.plan.to b, h.carry.below b (Nat.le_refl _), h.il, h.cl, h.day⟩
theorem ToV.to {w1 w2 : World} {q : Rq} {a : RqA} {v : Value} (h : ToV q a w1 v w2) (hin : RqIn w1 q a) : ∃ b, v = rqV q b ∧ RqIn w2 q b ∧ Below w1.heap.size w1 w2 := by
  obtain ⟨ia, ic, rfl, hi, b⟩ := h
  exact ⟨_, rfl, ⟨hi.low (Nat.zero_le _), hin.plan.to b, hin.carry.below b (Nat.le_refl _), hin.il, hin.cl, hin.day⟩, b⟩
theorem RqArg.below {w w1 : World} {q : Rq} {a : RqA} (h : RqArg w q a) (b : Below w.heap.size w w1) : RqArg w1 q a := ⟨h.items.below b, h.pb.below b, h.po.below b, h.carry.below b (Nat.le_refl _), h.ci, h.cb, h.co, h.cc, h.day⟩
set_option maxHeartbeats 3200000 in
theorem lasks_walk (q : Rq) (a : RqA) (w : World) (h : RqArg w q a) : Calls Try.prog 3 #[rqV q a] w (Ret (.bool true) w) := by
  refine ret_in (GWiR.lasks_calls q.k (q.ns 1) (q.ns 2) (q.ns 3) (q.ns 4) (q.ns 5) (q.ns 6) (q.ns 7) (q.ns 8) (q.ns 9) (q.ns 10) (q.ns 11) a.ia q.items.length a.ic q.plan.day q.plan.frm q.plan.til q.plan.base.grp q.plan.base.mode q.plan.base.block a.pa q.plan.base.ts.length a.pc q.plan.other.grp q.plan.other.mode q.plan.other.block a.qa q.plan.other.ts.length a.qc a.ca q.carry.length a.cc w (fun u w' => u = .bool true ∧ Below w.heap.size w w') ?_)
  unfold GWiR.lasks_vc
  refine newB (Bs.refl w) fun g w2 g0 sg n2 z2 b2 B2 => (tame22_new q a w2 (h.below B2)).mono ?_
  rintro e w3 ⟨v, rfl, a1, rfl, hn1, b3⟩
  have B3 := B2.to b3
  refine ⟨keepG_below b3, _, _, _, _, _, _, _, _, _, _, _, _, _, _, _, _, _, _, _, _, _, _, _, _, _, _, _, _, _, _, _, _, _, rfl, boxB B3 g0 fun w4 x4 B4 z4 => ?_⟩
  have hin4 : RqIn w4 (tameR q) a1 := (hn1.box x4 (by omega)).to
  have hkk : (tameR q).k = q.k := rfl
  generalize tameR q = q1 at *
  refine (to_new q1 a1 w4 hin4.items hin4.il).mono ?_
  rintro e w5 ⟨v, rfl, hT⟩
  obtain ⟨a2, rfl, hin5, b5⟩ := hT.to hin4
  have B5 := B4.to b5
  refine ⟨keepG_below b5, _, _, _, _, _, _, _, _, _, _, _, _, _, _, _, _, _, _, _, _, _, _, _, _, _, _, _, _, _, _, _, _, _, rfl, (ask_new q1 a2 w5 hin5).mono ?_⟩
  rintro e w6 ⟨ab, cb, hA, b6⟩
  have B6 := B5.to b6
  have hin6 := (hin4.below b5).below b6
  have hdo : Calls Try.prog 10 #[rqV q1 a1] w6 fun e w' => ∃ v, e = .returned v ∧ QAsk q1 w6 v w' := qask_new q1 a1 w6 hin6
  rcases hA with ⟨hok, rfl, o6⟩ | ⟨hno, rfl⟩
  · refine ⟨keepG_below b6, ab, _, cb, 0, rfl, hdo.mono ?_⟩
    rintro e w7 ⟨v, rfl, s, ok, rfl, h7, h7b, b7⟩
    have hs := h7b hok
    have hokt := h7.2 hok
    subst hs; subst hokt
    have B7 := B6.to b7
    refine ⟨keepG_below b7, _, _, rfl, drewB B7 fun w8 b8 B8 _ => callB B8 (wires_ret w8) fun w9 b9 B9 => ⟨_, rfl, br_f rfl (br_n (by simp) (br_n (fun h => h rfl) (callB B9 (ichanges_ret q1.k w9) fun w10 b10 B10 => ⟨_, rfl, callB B10 (qchanges_ret q1.k w10) fun w11 b11 B11 => ⟨_, rfl, ?_⟩⟩)))⟩⟩
    rw [decide_eq_false (fun h => h rfl)]
    unfold GWiR.lasks_k2
    refine br_f rfl ?_
    unfold GWiR.lasks_k1
    have hlen := askB_len hok
    have r6 : RowAt w6 ab ((askB q1).map bV) := o6.row
    have r11 : RowAt w11 ab ((askB q1).map bV) := ((((r6.below b7 (Nat.le_refl _)).below b8 (Nat.le_refl _)).below b9 (Nat.le_refl _)).below b10 (Nat.le_refl _)).below b11 (Nat.le_refl _)
    obtain ⟨c1, c2⟩ := ck_req hok (fun c => by have := planB_len (hok.rest.plan c); omega)
    refine br_n (fun h => h rfl) ((asked_new ab cb (askB q1) w11 r11 (by omega)).mono ?_)
    rintro e w12 ⟨v, rfl, a3, rfl, hin12, b12⟩
    rw [if_pos c1]
    have B12 := B11.to b12
    refine ⟨keepG_below b12, _, _, _, _, _, _, _, _, _, _, _, _, _, _, _, _, _, _, _, _, _, _, _, _, _, _, _, _, _, _, _, _, _, _, rfl, newB B12 fun g2 w13 g20 sg13 n13 z13 b13 B13 => boxB B13 g20 fun w14 x14 B14 z14 => ?_⟩
    have hin14 := hin12.newbox b13 sg13 x14
    have r14 := (r11.below b12 (Nat.le_refl _)).newbox b13 sg13 x14
    refine (qasked_new (askB q1) w14 (by omega)).mono ?_
    rintro e w15 ⟨v, rfl, a4, rfl, hin15, b15⟩
    rw [decide_eq_true c1]
    have B15 := B14.to b15
    refine ⟨keepG_below b15, _, _, _, _, _, _, _, _, _, _, _, _, _, _, _, _, _, _, _, _, _, _, _, _, _, _, _, _, _, _, _, _, _, _, rfl, newB B15 fun g3 w16 g30 sg16 n16 z16 b16 B16 => boxB B16 g30 fun w17 x17 B17 z17 => drewB B17 fun w18 b18 B18 _ => ?_⟩
    have hin18 := ((hin14.below b15).newbox b16 sg16 x17).below b18
    have hin18' := (hin15.newbox b16 sg16 x17).below b18
    have r18 := ((r14.below b15 (Nat.le_refl _)).newbox b16 sg16 x17).below b18 (Nat.le_refl _)
    refine ⟨_, rfl, r18, br_y rfl (br_y rfl (br_t rfl ((from_new (rdReq (askB q1)) a3 w18 hin18.items hin18.il).mono ?_)))⟩
    rintro e w19 ⟨v, rfl, hT2⟩
    obtain ⟨a5, rfl, hin19, b19⟩ := hT2.to hin18
    have B19 := B18.to b19
    exact ⟨keepG_below b19, _, _, _, _, _, _, _, _, _, _, _, _, _, _, _, _, _, _, _, _, _, _, _, _, _, _, _, _, _, _, _, _, _, rfl, callB B19 (rsame22_ret (rdReq (askB q1)) a5 a4 w19 hin19 (hin18'.below b19)) fun w20 b20 B20 => ⟨_, rfl, rfl, B20⟩⟩
  · refine ⟨keepG_below b6, none, 0, 0, 2, rfl, hdo.mono ?_⟩
    rintro e w7 ⟨v, rfl, s, ok, rfl, h7, h7b, b7⟩
    have hokf : ok = false := by
      cases ok
      · rfl
      · exact absurd (h7.1 rfl) hno
    subst hokf
    have B7 := B6.to b7
    refine ⟨keepG_below b7, _, _, rfl, drewB B7 fun w8 b8 B8 _ => callB B8 (wires_ret w8) fun w9 b9 B9 => ⟨_, rfl, br_f rfl (br_n (by simp) (br_y (by decide) (br_n (fun h => h rfl) (br_n (fun h => h rfl) (callB B9 (ichanges_ret q1.k w9) fun w10 b10 B10 => ⟨_, rfl, callB B10 (qchanges_ret q1.k w10) fun w11 b11 B11 => ⟨_, rfl, ?_⟩⟩)))))⟩⟩
    rw [decide_eq_false (fun h => h rfl)]
    unfold GWiR.lasks_k2
    refine br_f rfl ?_
    unfold GWiR.lasks_k1
    exact br_y (by decide) ⟨rfl, B11⟩
set_option maxHeartbeats 3200000 in
theorem lasked_walk (a : Option Addr) (c : Nat) (bl : List UInt8) (w : World) (hla : bl.length ≤ c) (hra : RowAt w a (bl.map bV)) : Calls Try.prog 4 #[.slice a bl.length c] w (Ret (.bool true) w) := by
  refine ret_in (GWiR.lasked_calls a bl.length c w (fun u w' => u = .bool true ∧ Below w.heap.size w w') ?_)
  unfold GWiR.lasked_vc
  refine newB (Bs.refl w) fun g w2 g0 sg n2 z2 b2 B2 => ⟨by omega, by omega, ?_⟩
  have o2 : Own w2 w.heap.size 5 1 (.slice (some ⟨g, 0, none⟩) 0 0) 0 (([] : List UInt8).map bV) := (own_empty 1 n2).base_le fun q hq => by simp [Value.ownBlock] at hq; omega
  have hl : (bl.take 600).length = (min ((bl.length : Nat) : Int) 600).toNat := by rw [List.length_take]; omega
  have hl6 : (bl.take 600).length ≤ 600 := by rw [List.length_take]; omega
  have r2 : RowAt w2 a ((bl.take 600).map bV) := by rw [List.map_take]; exact (hra.below b2 (Nat.le_refl _)).take 600
  rw [← hl]
  generalize bl.take 600 = bs at *
  refine appB B2 o2 (Nat.le_refl _) B2.size (srcX r2) (by unfold maxLen; omega) (by omega) (fun q hq => by cases hq) fun a3 c3 w3 o3 _ B3 z3 => ?_
  rw [Nat.zero_add] at o3 ⊢
  have r3 : RowAt w3 a3 (bs.map bV) := o3.row
  refine ⟨bs, rfl, r3, (asked_new a3 c3 bs w3 r3 (by omega)).mono ?_⟩
  rintro e w4 ⟨v, rfl, a4, rfl, hin4, b4⟩
  have B4 := B3.to b4
  refine ⟨keepG_below b4, _, _, _, _, _, _, _, _, _, _, _, _, _, _, _, _, _, _, _, _, _, _, _, _, _, _, _, _, _, _, _, _, _, _, rfl, newB B4 fun g2 w5 g20 sg5 n5 z5 b5 B5 => boxB B5 g20 fun w6 x6 B6 z6 => ?_⟩
  have hin6 := hin4.newbox b5 sg5 x6
  have r6 := (r3.below b4 (Nat.le_refl _)).newbox b5 sg5 x6
  refine (qasked_new bs w6 (by omega)).mono ?_
  rintro e w7 ⟨v, rfl, a7, rfl, hin7, b7⟩
  have B7 := B6.to b7
  refine ⟨keepG_below b7, _, _, _, _, _, _, _, _, _, _, _, _, _, _, _, _, _, _, _, _, _, _, _, _, _, _, _, _, _, _, _, _, _, _, rfl, newB B7 fun g3 w8 g30 sg8 n8 z8 b8 B8 => boxB B8 g30 fun w9 x9 B9 z9 => drewB B9 fun w10 b10 B10 _ => callB B10 (wires_ret w10) fun w11 b11 B11 => ⟨_, rfl, br_f rfl ?_⟩⟩
  have hin11 := (((hin6.below b7).newbox b8 sg8 x9).below b10).below b11
  have hin11' := ((hin7.newbox b8 sg8 x9).below b10).below b11
  have r11 := ((((r6.below b7 (Nat.le_refl _)).newbox b8 sg8 x9).below b10 (Nat.le_refl _)).below b11 (Nat.le_refl _))
  by_cases hok : reqOk bs
  · rw [if_pos hok, decide_eq_true hok]
    refine br_n (by simp) (br_n (fun h => h rfl) ((from_new (rdReq bs) a4 w11 hin11.items hin11.il).mono ?_))
    rintro e w13 ⟨v, rfl, hT⟩
    obtain ⟨a13, rfl, hin13, b13⟩ := hT.to hin11
    have B13 := B11.to b13
    refine ⟨keepG_below b13, _, _, _, _, _, _, _, _, _, _, _, _, _, _, _, _, _, _, _, _, _, _, _, _, _, _, _, _, _, _, _, _, _, rfl, callB B13 (rsame22_ret (rdReq bs) a13 a7 w13 hin13 (hin11'.below b13)) fun w14 b14 B14 => ⟨_, rfl, br_f rfl ?_⟩⟩
    have r14 := (r11.below b13 (Nat.le_refl _)).below b14 (Nat.le_refl _)
    refine ⟨bs, rfl, r14, ?_⟩
    rw [decide_eq_false (fun h => h rfl)]
    unfold GWiR.lasked_k2
    refine br_f rfl ?_
    unfold GWiR.lasked_k1
    have hin14 := (hin11.below b13).below b14
    obtain ⟨u1, u2⟩ := un_req hok
    have hRq : rdReq bs = reqOf bs := by unfold rdReq; rw [if_pos hok]
    rw [hRq] at hin14 ⊢
    refine br_n (fun h => h rfl) ((ask_new (reqOf bs) a4 w14 hin14).mono ?_)
    rintro e w15 ⟨ab, cb, hA, b15⟩
    rcases hA with ⟨_, rfl, o15⟩ | ⟨hno, _⟩
    · exact ⟨keepG_below b15, _, _, _, _, rfl, br_y rfl ⟨askB (reqOf bs), rfl, o15.row, by rw [u2, decide_eq_true rfl], B14.to b15⟩⟩
    · exact absurd u1 hno
  · rw [if_neg hok, decide_eq_false hok]
    refine br_n (by decide) (br_y (by decide) (br_n (fun h => h rfl) ((from_new (rdReq bs) a4 w11 hin11.items hin11.il).mono ?_)))
    rintro e w13 ⟨v, rfl, hT⟩
    obtain ⟨a13, rfl, hin13, b13⟩ := hT.to hin11
    have B13 := B11.to b13
    refine ⟨keepG_below b13, _, _, _, _, _, _, _, _, _, _, _, _, _, _, _, _, _, _, _, _, _, _, _, _, _, _, _, _, _, _, _, _, _, rfl, callB B13 (rsame22_ret (rdReq bs) a13 a7 w13 hin13 (hin11'.below b13)) fun w14 b14 B14 => ⟨_, rfl, br_f rfl ?_⟩⟩
    have r14 := (r11.below b13 (Nat.le_refl _)).below b14 (Nat.le_refl _)
    refine ⟨bs, rfl, r14, ?_⟩
    rw [decide_eq_false (fun h => h rfl)]
    unfold GWiR.lasked_k2
    refine br_f rfl ?_
    unfold GWiR.lasked_k1
    exact br_y (by decide) ⟨rfl, B14⟩
end Go.Proofs.Ytkggnbabnfhcpaa
end
section
/- Conditions of functions, printed by a program of this claim's own (vcgen.py) out of the loaded code; each is proved to be enough. -/
set_option maxRecDepth 100000
namespace Go.Proofs.Ytkggnbabnfhcpaa
open Go.RowKit
namespace GWiL
def env : Env := ⟨[(3, ⟨.int .i64, 1, .int .i64 0, 8, [.int .i64]⟩), (5, ⟨.int .u8, 1, .int .u8 0, 1, [.int .u8]⟩), (9, ⟨.str, 1, .string ByteArray.empty, 16, [.str]⟩), (32, ⟨.slice 5, 1, .slice none 0 0, 24, [.slice]⟩), (33, ⟨.int .i64, 1, .int .i64 0, 8, [.int .i64]⟩), (58, ⟨.slice 111, 1, .slice none 0 0, 24, [.slice]⟩), (60, ⟨.struct [(0, 3), (1, 3), (2, 3), (3, 3), (4, 3)], 5, .agg #[.int .i64 0, .int .i64 0, .int .i64 0, .int .i64 0, .int .i64 0], 40, [.int .i64, .int .i64, .int .i64, .int .i64, .int .i64]⟩), (62, ⟨.struct [(0, 3), (1, 33), (2, 58), (3, 3), (4, 3), (5, 3), (6, 3), (7, 60), (12, 32)], 13, .agg #[.int .i64 0, .int .i64 0, .slice none 0 0, .int .i64 0, .int .i64 0, .int .i64 0, .int .i64 0, .int .i64 0, .int .i64 0, .int .i64 0, .int .i64 0, .int .i64 0, .slice none 0 0], 136, [.int .i64, .int .i64, .slice, .int .i64, .int .i64, .int .i64, .int .i64, .int .i64, .int .i64, .int .i64, .int .i64, .int .i64, .slice]⟩)], [(11, [.lf (.bool)]), (18, [.lf (.slice), .lf (.int .i64)]), (21, [.agg [.int .i64, .int .i64, .slice, .int .i64, .int .i64, .int .i64, .int .i64, .int .i64, .int .i64, .int .i64, .int .i64, .int .i64, .slice], .lf (.int .i64)])], []⟩
theorem ty3 : TyOk Try.prog 3 ⟨.int .i64, 1, .int .i64 0, 8, [.int .i64]⟩ := tyok (by kernel_rfl) (by kernel_rfl)
theorem ty5 : TyOk Try.prog 5 ⟨.int .u8, 1, .int .u8 0, 1, [.int .u8]⟩ := tyok (by kernel_rfl) (by kernel_rfl)
theorem ty9 : TyOk Try.prog 9 ⟨.str, 1, .string ByteArray.empty, 16, [.str]⟩ := tyok (by kernel_rfl) (by kernel_rfl)
theorem ty32 : TyOk Try.prog 32 ⟨.slice 5, 1, .slice none 0 0, 24, [.slice]⟩ := tyok (by kernel_rfl) (by kernel_rfl)
theorem ty33 : TyOk Try.prog 33 ⟨.int .i64, 1, .int .i64 0, 8, [.int .i64]⟩ := tyok (by kernel_rfl) (by kernel_rfl)
theorem ty58 : TyOk Try.prog 58 ⟨.slice 111, 1, .slice none 0 0, 24, [.slice]⟩ := tyok (by kernel_rfl) (by kernel_rfl)
theorem ty60 : TyOk Try.prog 60 ⟨.struct [(0, 3), (1, 3), (2, 3), (3, 3), (4, 3)], 5, .agg #[.int .i64 0, .int .i64 0, .int .i64 0, .int .i64 0, .int .i64 0], 40, [.int .i64, .int .i64, .int .i64, .int .i64, .int .i64]⟩ := tyok (by kernel_rfl) (by kernel_rfl)
theorem ty62 : TyOk Try.prog 62 ⟨.struct [(0, 3), (1, 33), (2, 58), (3, 3), (4, 3), (5, 3), (6, 3), (7, 60), (12, 32)], 13, .agg #[.int .i64 0, .int .i64 0, .slice none 0 0, .int .i64 0, .int .i64 0, .int .i64 0, .int .i64 0, .int .i64 0, .int .i64 0, .int .i64 0, .int .i64 0, .int .i64 0, .slice none 0 0], 136, [.int .i64, .int .i64, .slice, .int .i64, .int .i64, .int .i64, .int .i64, .int .i64, .int .i64, .int .i64, .int .i64, .int .i64, .slice]⟩ := tyok (by kernel_rfl) (by kernel_rfl)
theorem fn11 : FnOk Try.prog 11 := fnok Try.func11 (by kernel_rfl) (by kernel_rfl)
theorem fn18 : FnOk Try.prog 18 := fnok Try.func18 (by kernel_rfl) (by kernel_rfl)
theorem fn21 : FnOk Try.prog 21 := fnok Try.func21 (by kernel_rfl) (by kernel_rfl)
theorem envOk : EOk Try.prog env := ⟨(by simp only [env, List.forall_mem_cons, List.not_mem_nil, false_implies, implies_true, and_true]; exact ⟨ty3, ty5, ty9, ty32, ty33, ty58, ty60, ty62⟩), (by simp only [env, List.forall_mem_cons, List.not_mem_nil, false_implies, implies_true, and_true]; exact ⟨fn11, fn18, fn21⟩), by kernel_rfl, (fun _ h => by cases h)⟩
/-- purser/purserlaw22.WireTold -/
def ltold_vc (a0 : Option Addr) (n0 : Nat) (c0 : Nat) (w : World) (K : Value → World → Prop) : Prop :=
  (0 : Int) ≤ min ((n0 : Nat) : Int) 600 ∧ min ((n0 : Nat) : Int) 600 ≤ (((c0 : Nat) : Int) : Int) ∧
  Calls Try.prog 21 #[.slice a0 ((min ((n0 : Nat) : Int) 600).toNat) c0] w fun e w_2 => KeepG [] w w_2 ∧
  ∃ (x14_0_0 : Int) (x14_0_1 : Int) (a14_0_2 : Option Addr) (n14_0_2 : Nat) (c14_0_2 : Nat) (x14_0_3 : Int) (x14_0_4 : Int) (x14_0_5 : Int) (x14_0_6 : Int) (x14_0_7 : Int) (x14_0_8 : Int) (x14_0_9 : Int) (x14_0_10 : Int) (x14_0_11 : Int) (a14_0_12 : Option Addr) (n14_0_12 : Nat) (c14_0_12 : Nat) (x14_1 : Int),
  e = .returned (.tuple #[.agg #[.int .i64 x14_0_0, .int .i64 x14_0_1, .slice a14_0_2 n14_0_2 c14_0_2, .int .i64 x14_0_3, .int .i64 x14_0_4, .int .i64 x14_0_5, .int .i64 x14_0_6, .int .i64 x14_0_7, .int .i64 x14_0_8, .int .i64 x14_0_9, .int .i64 x14_0_10, .int .i64 x14_0_11, .slice a14_0_12 n14_0_12 c14_0_12], .int .i64 x14_1]) ∧
  newO w_2 (.cells #[.int .i64 0, .int .i64 0, .slice none 0 0, .int .i64 0, .int .i64 0, .int .i64 0, .int .i64 0, .int .i64 0, .int .i64 0, .int .i64 0, .int .i64 0, .int .i64 0, .slice none 0 0] 62) fun g w_3 =>
  ∀ w_4 : World, BoxSt g w_3 w_4 →
  Calls Try.prog 11 #[] w_4 fun e_2 w_5 => KeepG [g] w_4 w_5 ∧
  ∃ (b17 : Bool),
  e_2 = .returned (.bool b17) ∧
  br (!b17) (
    Calls Try.prog 11 #[] w_5 fun e_3 w_6 => KeepG [g] w_5 w_6 ∧
    ∃ (b23 : Bool),
    e_3 = .returned (.bool b23) ∧
    br b23 (
      br (decide (x14_1 = 2)) (
        br (decide (x14_0_0 = 0)) (
          K (.bool (decide (x14_0_1 = 0))) w_6
        ) (
          K (.bool false) w_6
        )
      ) (
        K (.bool false) w_6
      )
    ) (
      K (.bool false) w_6
    )
  ) (
    br (decide (x14_1 ≠ 0)) (
      Calls Try.prog 11 #[] w_5 fun e_4 w_7 => KeepG [g] w_5 w_7 ∧
      ∃ (b23_2 : Bool),
      e_4 = .returned (.bool b23_2) ∧
      br b23_2 (
        br (decide (x14_1 = 2)) (
          br (decide (x14_0_0 = 0)) (
            K (.bool (decide (x14_0_1 = 0))) w_7
          ) (
            K (.bool false) w_7
          )
        ) (
          K (.bool false) w_7
        )
      ) (
        K (.bool false) w_7
      )
    ) (
      Calls Try.prog 18 #[.agg #[.int .i64 x14_0_0, .int .i64 x14_0_1, .slice a14_0_2 n14_0_2 c14_0_2, .int .i64 x14_0_3, .int .i64 x14_0_4, .int .i64 x14_0_5, .int .i64 x14_0_6, .int .i64 x14_0_7, .int .i64 x14_0_8, .int .i64 x14_0_9, .int .i64 x14_0_10, .int .i64 x14_0_11, .slice a14_0_12 n14_0_12 c14_0_12]] w_5 fun e_5 w_8 => KeepG [g] w_5 w_8 ∧
      ∃ (a40_0 : Option Addr) (n40_0 : Nat) (c40_0 : Nat) (x40_1 : Int),
      e_5 = .returned (.tuple #[.slice a40_0 n40_0 c40_0, .int .i64 x40_1]) ∧
      br (decide (x40_1 = 0)) (
        ∃ bs47 : List UInt8, bs47.length = n40_0 ∧ RowAt w_8 a40_0 (bs47.map bV) ∧
        ∃ bs49 : List UInt8, bs49.length = (min ((n0 : Nat) : Int) 600).toNat ∧ RowAt w_8 a0 (bs49.map bV) ∧
        K (.bool (decide ((strOf bs47) = (strOf bs49)))) w_8
      ) (
        K (.bool false) w_8
      )
    )
  )
def ltold_notes : Notes := ⟨[], [], [], []⟩
set_option maxHeartbeats 4000000 in
theorem ltold_calls (a0 : Option Addr) (n0 : Nat) (c0 : Nat) (w : World) (K : Value → World → Prop) (h : ltold_vc a0 n0 c0 w K) : Calls Try.prog 6 #[.slice a0 n0 c0] w fun e w' => ∃ v, e = .returned v ∧ K v w' :=
  calls_of_eq envOk Try.func6 ltold_notes [3] [.slice a0 n0 c0] w K h (by as_aux_lemma => kernel_rfl)
end GWiL
end Go.Proofs.Ytkggnbabnfhcpaa
end
section
/- Bytes told as an answer: the law; walked. -/
namespace Go.Proofs.Ytkggnbabnfhcpaa
open Go.RowKit
theorem AnIn.newbox {w w1 w2 : World} {x : An} {a : AnA} {g : Nat} (h : AnIn w x a) (b : Below w.heap.size w w1) (sg : w.heap.size = g) (k : BoxSt g w1 w2) : AnIn w2 x a := ⟨h.gs.newbox b sg k, h.inv.newbox b sg k, h.gl, h.il⟩
theorem told_not {bs : List UInt8} (h : ¬ ansOk bs) : rdTold bs = zeroAn := by unfold rdTold; rw [if_neg h]
theorem told_is {bs : List UInt8} (h : ansOk bs) : rdTold bs = ansOf bs := by unfold rdTold; rw [if_pos h]
theorem ltold_walk (a : Option Addr) (c : Nat) (bl : List UInt8) (w : World) (hla : bl.length ≤ c) (hra : RowAt w a (bl.map bV)) : Calls Try.prog 6 #[.slice a bl.length c] w (Ret (.bool true) w) := by
  refine ret_in (GWiL.ltold_calls a bl.length c w (fun u w' => u = .bool true ∧ Below w.heap.size w w') ?_)
  unfold GWiL.ltold_vc
  refine ⟨by omega, by omega, ?_⟩
  have hl : (bl.take 600).length = (min ((bl.length : Nat) : Int) 600).toNat := by rw [List.length_take]; omega
  have hl6 : (bl.take 600).length ≤ 600 := by rw [List.length_take]; omega
  have r1 : RowAt w a ((bl.take 600).map bV) := by rw [List.map_take]; exact hra.take 600
  rw [← hl]
  generalize bl.take 600 = bs at *
  refine (told_new a c bs w r1 (by omega)).mono ?_
  rintro e w2 ⟨v, rfl, a2, rfl, hin2, b2⟩
  refine ⟨keepG_nil _ _, _, _, _, _, _, _, _, _, _, _, _, _, _, _, _, _, _, _, rfl, newB b2 fun g w3 g0 sg3 n3 z3 b3 B3 => boxB B3 g0 fun w4 x4 B4 z4 => callB B4 (wires_ret w4) fun w5 b5 B5 => ⟨_, rfl, br_f rfl ?_⟩⟩
  have hin5 := (hin2.newbox b3 sg3 x4).below b5
  have r5 := ((r1.below b2 (Nat.le_refl _)).newbox b3 sg3 x4).below b5 (Nat.le_refl _)
  by_cases hok : ansOk bs
  · rw [if_pos hok]
    rw [told_is hok] at hin5 ⊢
    obtain ⟨u1, u2⟩ := un_ans hok
    refine br_n (fun h => h rfl) ((tell_new (ansOf bs) a2 w5 hin5).mono ?_)
    rintro e w6 ⟨v, rfl, ab, cb, hA, b6⟩
    have B6 := B5.to b6
    rcases hA with ⟨_, rfl, o6⟩ | ⟨hno, _⟩
    · exact ⟨keepG_below b6, _, _, _, _, rfl, br_y rfl ⟨tellB (ansOf bs), rfl, o6.row, bs, rfl, r5.below b6 (Nat.le_refl _), by rw [u2, decide_eq_true rfl], B6⟩⟩
    · exact absurd u1 hno
  · rw [if_neg hok, told_not hok]
    exact br_y (by decide) (callB B5 (wires_ret w5) fun w7 b7 B7 => ⟨_, rfl, br_t rfl (br_y rfl (br_y rfl ⟨rfl, B7⟩))⟩)
end Go.Proofs.Ytkggnbabnfhcpaa
end
section
/- Answers of the law, told and told again; walked. -/
namespace Go.Proofs.Ytkggnbabnfhcpaa
open Go.RowKit
theorem byt_row {w1 : World} {g : Nat} {bs : List UInt8} {zs : Array Value} {e : TypeId} {f : Nat × Nat} (h : w1.heap[g]? = some (.cells (((strOf bs).data.map fun b => Value.int .u8 b.toNat) ++ zs) e f)) : RowAt w1 (some ⟨g, 0, none⟩) (bs.map bV) := by
  refine .ofBlock h ?_
  have e1 : (((strOf bs).data.map fun b => Value.int .u8 b.toNat) ++ zs).toList = bs.map bV ++ zs.toList := by
    rw [Array.toList_append]
    congr 1
    unfold strOf
    simp [bV]
  rw [e1, List.drop_zero, List.length_map, List.take_append_of_le_length (by simp)]
  rw [← List.length_map (f := bV), List.take_length]
/-- An element more behind a row of one's own, beside boxes, some of them newer. -/
theorem app_gn {w0 w9 : World} {n1 n c : Nat} {t : TypeId} {tx : TypeId} {a : Option Addr} {xs : List Gn} {x : Gn} {gs : List Nat} {K : Nat → Option Addr → Nat → World → Prop} (hT : Try.prog.underlying tx = some (.slice t)) (B : Bs w0 w9) (o : Own w9 n1 t 4 (.slice a n c) n (xs.flatMap gnC)) (hn : n ≤ 1000) (h0 : w0.heap.size ≤ n1) (h1 : n1 ≤ w9.heap.size) (hg : ∀ g ∈ gs, (Value.slice a n c).ownBlock ≠ some g)
    (k : ∀ a' c' w1, Own w1 n1 t 4 (.slice a' (n + 1) c') (n + 1) ((xs ++ [x]).flatMap gnC) → Bs w0 w1 → w9.heap.size ≤ w1.heap.size → K 1 a' c' w1) :
    newO w9 (.cells #[.int .i64 x.g, .int .i64 x.u, .int .i64 x.a, .bool x.f] t) fun g_4 w_16 => appO Try.prog gs w_16 t 4 32 tx a n c (.slice (some ⟨g_4, 0, none⟩) 1 1) K := by
  refine newB B fun g4 w10 g40 sg10 n10 z10 b10 B10 => ?_
  have o10 := o.below b10 (Nat.le_refl _)
  refine appB B10 o10 h0 (Nat.le_trans h1 b10.size) (src_block (cs := gnC x) hT n10 rfl rfl) (by unfold maxLen; omega) (by omega) hg fun a' c' w1 o1 g1 B1 z1 => k a' c' w1 ?_ B1 (by have := b10.size; omega)
  rw [List.flatMap_append, List.flatMap_cons, List.flatMap_nil, List.append_nil]
  exact o1
def AnsV (x : An) (w : World) (v : Value) (w' : World) : Prop := ∃ a, v = anV x a ∧ AnIn w' x a ∧ Below w.heap.size w w'
set_option maxHeartbeats 1600000 in
theorem answer_new (x : An) (ga : Option Addr) (gc : Nat) (w : World) (hgs : GnsAt 0 w ga x.gs) (hgl : x.gs.length ≤ 100) (hil : x.inv.length ≤ 100000) : Calls Try.prog 19 #[dnV x ga gc] w fun e w' => ∃ v, e = .returned v ∧ AnsV x w v w' := by
  refine GWiR.lanswer_calls x.k x.e ga x.gs.length gc (x.ns 3) (x.ns 4) (x.ns 5) (x.ns 6) (x.ns 7) (x.ns 8) (x.ns 9) (x.ns 10) (x.ns 11) (strOf x.inv) w (AnsV x w) ?_
  unfold GWiR.lanswer_vc
  refine newB (Bs.refl w) fun g w2 g0 sg n2 z2 b2 B2 => newB B2 fun g2 w3 g20 sg2 n3 z3 b3 B3 => ?_
  rintro g3 c24 w4 sg3 ⟨zs, f, n4⟩ hc24 b4 z4
  have r4 : RowAt w4 (some ⟨g3, 0, none⟩) (x.inv.map bV) := byt_row n4
  have B4 : Bs w w4 := B3.to b4
  refine newB (Bs.refl w4) fun g4 w5 g40 sg4 n5 z5 b5 B5 => boxB B5 g40 fun w6 x6 B6 z6 => boxB B6 g40 fun w7 x7 B7 z7 => ?_
  refine ⟨fun y v0 v1 a2 n2 c2 v3 v4 v5 v6 v7 v8 v9 v10 v11 a12 n12 c12 wx => ∃ i : Nat, y = i ∧ i ≤ x.gs.length ∧ n2 = i ∧ Own wx w7.heap.size 111 4 (.slice a2 i c2) i ((x.gs.take i).flatMap gnC) ∧ Bs w4 wx ∧ w7.heap.size ≤ wx.heap.size ∧ v0 = x.k ∧ v1 = x.e ∧ v3 = x.ns 3 ∧ v4 = x.ns 4 ∧ v5 = x.ns 5 ∧ v6 = x.ns 6 ∧ v7 = x.ns 7 ∧ v8 = x.ns 8 ∧ v9 = x.ns 9 ∧ v10 = x.ns 10 ∧ v11 = x.ns 11 ∧ a12 = some ⟨g3, 0, none⟩ ∧ n12 = x.inv.length ∧ c12 = c24, fun y _ _ _ _ _ _ _ _ _ _ _ _ _ _ _ _ _ _ => (x.gs.length - y).toNat,
    ⟨0, rfl, Nat.zero_le _, rfl, Own.nil _ _ _ _, B7, Nat.le_refl _, rfl, rfl, rfl, rfl, rfl, rfl, rfl, rfl, rfl, rfl, rfl, rfl, strOf_size _, rfl⟩, ?_⟩
  rintro y v0 v1 a2 n2 c2 v3 v4 v5 v6 v7 v8 v9 v10 v11 a12 n12 c12 wx ⟨i, rfl, hi, rfl, hO, Bx, zx, rfl, rfl, rfl, rfl, rfl, rfl, rfl, rfl, rfl, rfl, rfl, rfl, rfl, rfl⟩
  refine br_dec (fun h1 => ?_) fun h1 => ?_
  · have hi2 : n2 < x.gs.length := by omega
    obtain ⟨b, off, ha, hc⟩ := ((hgs.below B4).below Bx).get hi2
    have hi1 : IntKind.i64.wrap ((n2 : Int) + 1) = ((n2 + 1 : Nat) : Int) := by rw [wr64 (by omega) (by omega)]; omega
    rw [hi1]
    have et : x.gs.take (n2 + 1) = x.gs.take n2 ++ [x.gs[n2]] := by rw [List.take_add_one, List.getElem?_eq_getElem hi2]; rfl
    refine withP_mk b off ha ⟨by omega, by omega, _, _, _, _, by rw [Int.toNat_natCast]; exact hc, newB Bx fun g5 w9 g50 sg5 n9 z9 b9 B9 => boxB B9 g50 fun w10 x10 B10 z10 => ?_⟩
    have hO10 : Own w10 w7.heap.size 111 4 (.slice a2 n2 c2) n2 ((x.gs.take n2).flatMap gnC) := (hO.below b9 (Nat.le_refl _)).keep fun q hq => x10.1.block q ((hO.below b9 (Nat.le_refl _)).lt q hq).2 (by rw [List.mem_singleton]; have := (hO.lt q hq).2; omega)
    refine app_gn (x := x.gs[n2]) Try.underlying58 B10 hO10 (by omega) (by omega) (by omega) (fun g' hg' e => ?_) fun a10 c10 w12 o12 B12 z12 => boxB B12 g40 fun w13 x13 B13 z13 => ⟨⟨n2 + 1, rfl, hi2, rfl, ?_, B13, by omega, rfl, rfl, rfl, rfl, rfl, rfl, rfl, rfl, rfl, rfl, rfl, rfl, rfl, rfl⟩, by dsimp only; omega⟩
    · have h3 := hO.lt g' e
      simp only [List.mem_cons, List.not_mem_nil, or_false] at hg'
      have := b5.size
      have := b4.size
      have := b3.size
      omega
    · rw [et]
      exact o12.keep fun q' hq' => x13.1.block q' (o12.lt q' hq').2 (by rw [List.mem_singleton]; have := (o12.lt q' hq').1; omega)
  · have e : n2 = x.gs.length := by omega
    subst e
    rw [List.take_length] at hO
    refine boxB (B4.to Bx) g20 fun w14 x14 B14 z14 => ⟨⟨a2, c2, some ⟨g3, 0, none⟩, c12⟩, rfl, ⟨((Rws.ofOwn (by omega) gnC_len hO).box x14 (by have := b5.size; have := b4.size; omega)).low (Nat.zero_le _), (r4.below Bx (Nat.le_refl _)).boxed x14 (fun k hk => by injection hk with hk; subst hk; show g3 ≠ g2; omega), hgl, hil⟩, B14⟩
end Go.Proofs.Ytkggnbabnfhcpaa
end
