import Derived.Test.YtkggnbabnfhcpaaMWire35
import Derived.Test.YtkggnbabnfhcpaaMWire34
set_option linter.unusedVariables false
section
/- A request is written, wholly; walked. -/
namespace Go.Proofs.Ytkggnbabnfhcpaa
open Go.RowKit
/-- A box that was made and filled leaves a writer and all else alone. -/
theorem XFr.filled {pr : Nat → Prop} {wx w5 w6 : World} {g2 : Nat} (b5 : Below wx.heap.size wx w5) (sg5 : wx.heap.size = g2) (f6 : Fr [g2] w5 w6) : XFr pr wx w6 :=
  ⟨f6.os.trans b5.os, f6.tape.trans b5.tape, f6.output.trans b5.output, Nat.le_trans b5.size f6.size, fun k h1 h2 => (f6.block k (by have := b5.size; omega) (by rw [List.mem_singleton]; omega)).trans (b5.block k h1), fun k cs t f h1 _ _ => (f6.block k (by have := b5.size; have := heap_lt h1; omega) (by rw [List.mem_singleton]; have := heap_lt h1; omega)).trans (b5.block k (heap_lt h1))⟩
section
variable {pr : Nat → Prop} {g x L : Nat} {w0 w : World} {bs : List UInt8} {P : Prop} {q : Rq} {a : RqA}
/-- Numbers that are put each from a box of its own. -/
theorem carry_step {wx : World} {z : Int} {I : World → Prop} (hX : XS wx pr g bs P L) (B : Bs w0 wx) (hl : L ≤ 100000)
    (k : ∀ w', XS w' pr g (bs ++ uintB z) (P ∧ inFar z) (L + 10) → XFr pr wx w' → I w') :
    newO wx (.cells #[.int .i64 0] 3) fun g3 w40 => stO [] w40 g3 0 [.int .i64 z] fun w41 => newO w41 (.cells #[.pointer (some ⟨g3, 0, none⟩)] 112) fun g4 w42 =>
      Calls Try.prog 23 #[.pointer (some ⟨g, 0, none⟩), .slice (some ⟨g4, 0, none⟩) 1 1] w42 fun e w43 => KeepG [] w42 w43 ∧ e = .returned (.tuple #[]) ∧ I w43 := by
  refine newB B fun g2 w5 g20 sg5 n5 z5 b5 B5 => stB B5 g20 (show Bk w5 g2 _ _ from n5) rfl (fun q hq => by cases hq) fun w6 n6 f6 B6 z6 => newB B6 fun g4 w7 g40 sg7 n7 z7 b7 B7 => ?_
  have hX6 := (hX.below b5).other (show Bk w5 g2 _ _ from n5) (by decide) (by decide) f6
  have hx6 : XFr pr wx w6 := XFr.filled b5 sg5 f6
  refine (xputs_any (os := [0]) (f := fun _ => z) (hX6.below b7) (.inr ⟨g4, rfl, n7⟩) (Bk.below n6 b7) (by decide) (by decide) (fun o ho => by rw [List.mem_singleton] at ho; subst ho; rfl) (by omega) (by decide)).mono ?_
  rintro e w8 ⟨rfl, h8, f8⟩
  exact ⟨keepG_nil _ _, rfl, k w8 (h8.to (by simp) (by simp) (by simp)) (hx6.trans ((XFr.ofBelow b7).trans f8))⟩
theorem xrest_any (h : XS w pr g bs P L) (hb : Bk w x (rqCells q a) 39) (hx : RqIn w0 q a) (B : Bs w0 w) (hp : ∀ k, k < w0.heap.size → pr k) (hl : L ≤ 10000) (hk : 1 ≤ q.k) :
    Calls Try.prog 25 #[.pointer (some ⟨g, 0, none⟩), .pointer (some ⟨x, 0, none⟩)] w (XSd w pr g (bs ++ restB q) (P ∧ RestOk q) (L + 4000)) := by
  refine (GWi.irest_calls (some ⟨g, 0, none⟩) (some ⟨x, 0, none⟩) w (fun v w' => v = .tuple #[] ∧ XS w' pr g (bs ++ restB q) (P ∧ RestOk q) (L + 4000) ∧ XFr pr w w') ?_).mono (by rintro e w' ⟨v, rfl, rfl, h1, h2⟩; exact ⟨rfl, h1, h2⟩)
  unfold GWi.irest_vc
  have hK : ∀ w', XS w' pr g (bs ++ restB q) (P ∧ RestOk q) (L + 4000) → XFr pr w w' → (fun (v : Value) (w' : World) => v = .tuple #[] ∧ XS w' pr g (bs ++ restB q) (P ∧ RestOk q) (L + 4000) ∧ XFr pr w w') (.tuple #[]) w' := fun w' h1 h2 => ⟨rfl, h1, h2⟩
  generalize (fun (v : Value) (w' : World) => v = .tuple #[] ∧ XS w' pr g (bs ++ restB q) (P ∧ RestOk q) (L + 4000) ∧ XFr pr w w') = K at hK ⊢
  have hit : q.k ≤ 3 → GWi.irest_k1 K (some ⟨g, 0, none⟩) (some ⟨x, 0, none⟩) w := fun h1 =>
    rest_items h hb hx B hp hl fun w' h2 f2 => hK w' (h2.to (by rw [restB_items h1]) (by
      constructor
      · rintro ⟨p, k⟩; exact ⟨p, fun _ => k, fun c => by unfold hasLim at c; omega, fun c => by omega, fun c => by omega⟩
      · rintro ⟨p, k⟩; exact ⟨p, k.items h1⟩) (Nat.le_refl _)) f2
  refine withP_mk x 0 rfl ⟨q.k, by rw [hb.cell]; rfl, ?_⟩
  refine br_dec (fun e => hit (by omega)) fun n1 => br_dec (fun e => hit (by omega)) fun n2 => br_dec (fun e => hit (by omega)) fun n3 => ?_
  -- the limit
  have hlim : hasLim q.k → ∀ w5, (∃ bs' bad r, XAt w5 pr g (bs' ++ ib (q.ns 9)) bad r ∧ ((bad = false ∧ r = false) ↔ (P ∧ limOk (q.ns 9))) ∧ (P → bs' = bs) ∧ bs'.length ≤ L) → XS w5 pr g (bs ++ restB q) (P ∧ RestOk q) (L + 4000) := fun hl9 w5 ⟨bs', bad, r, k1, k2, k3, k4⟩ => by
    have hib := ib_len (q.ns 9)
    have hiff : (P ∧ RestOk q) ↔ (P ∧ limOk (q.ns 9)) := by
      constructor
      · rintro ⟨p, k⟩; exact ⟨p, k.lim hl9⟩
      · rintro ⟨p, k⟩; exact ⟨p, fun c => by unfold hasLim at hl9; omega, fun _ => k, fun c => by unfold hasLim at hl9; omega, fun c => by unfold hasLim at hl9; omega⟩
    refine ⟨⟨_, _, _, k1, k2.trans hiff.symm, fun p => ?_, by rw [List.length_append]; omega⟩⟩
    have p2 := hiff.1 p
    rw [k3 p.1, restB_lim hl9, ib_eq (by have := p2.2.1; omega) (Int.le_trans p2.2.2 (by decide))]
  have lim : hasLim q.k →
      withP (some ⟨g, 0, none⟩) fun g47 o47 => ∃ (b49 : Bool), w.cell? ⟨g47, o47 + 2, none⟩ = some (.bool b49) ∧ br b49
        (withP (some ⟨g, 0, none⟩) fun g64 o64 => stO [] w g64 (o64 + 2) [.bool true] fun w_15 => drewO w_15 fun w_16 => withP (some ⟨g, 0, none⟩) fun g67 o67 => withP (some ⟨x, 0, none⟩) fun g70 o70 => ∃ (x72 : Int), w_16.cell? ⟨g70, o70 + 9, none⟩ = some (.int .i64 x72) ∧ Calls Try.prog 55 #[.pointer (some ⟨g67, o67, none⟩), .int .i64 x72] w_16 fun e_7 w_17 => KeepG [] w_16 w_17 ∧ e_7 = .returned (.tuple #[]) ∧ K (.tuple #[]) w_17)
        (withP (some ⟨x, 0, none⟩) fun g52 o52 => ∃ (x54 : Int), w.cell? ⟨g52, o52 + 9, none⟩ = some (.int .i64 x54) ∧ br (decide (x54 < (-1)))
          (withP (some ⟨g, 0, none⟩) fun g64 o64 => stO [] w g64 (o64 + 2) [.bool true] fun w_18 => drewO w_18 fun w_19 => withP (some ⟨g, 0, none⟩) fun g67 o67 => withP (some ⟨x, 0, none⟩) fun g70 o70 => ∃ (x72 : Int), w_19.cell? ⟨g70, o70 + 9, none⟩ = some (.int .i64 x72) ∧ Calls Try.prog 55 #[.pointer (some ⟨g67, o67, none⟩), .int .i64 x72] w_19 fun e_8 w_20 => KeepG [] w_19 w_20 ∧ e_8 = .returned (.tuple #[]) ∧ K (.tuple #[]) w_20)
          (withP (some ⟨x, 0, none⟩) fun g59 o59 => ∃ (x61 : Int), w.cell? ⟨g59, o59 + 9, none⟩ = some (.int .i64 x61) ∧ withP (some ⟨g, 0, none⟩) fun g64 o64 => stO [] w g64 (o64 + 2) [.bool (decide (x61 > 4611686018427387904))] fun w_21 => drewO w_21 fun w_22 => withP (some ⟨g, 0, none⟩) fun g67 o67 => withP (some ⟨x, 0, none⟩) fun g70 o70 => ∃ (x72 : Int), w_22.cell? ⟨g70, o70 + 9, none⟩ = some (.int .i64 x72) ∧ Calls Try.prog 55 #[.pointer (some ⟨g67, o67, none⟩), .int .i64 x72] w_22 fun e_9 w_23 => KeepG [] w_22 w_23 ∧ e_9 = .returned (.tuple #[]) ∧ K (.tuple #[]) w_23)) := fun hl9 => by
    obtain ⟨⟨bs', bad, r, k1, k2, k3, k4⟩⟩ := h
    have c9 : ∀ wy, XFr pr w wy → wy.cell? ⟨x, 0 + 9, none⟩ = some (.int .i64 (q.ns 9)) := fun wy f => by rw [(hb.xfr f (by decide) (by decide)).cell]; rfl
    have go : ∀ (b : Bool), ((bad = false ∧ b = false) ↔ (P ∧ limOk (q.ns 9))) → ∀ w2, XAt w2 pr g bs' bad b → XFr pr w w2 → drewO w2 fun w_16 => withP (some ⟨g, 0, none⟩) fun g67 o67 => withP (some ⟨x, 0, none⟩) fun g70 o70 => ∃ (x72 : Int), w_16.cell? ⟨g70, o70 + 9, none⟩ = some (.int .i64 x72) ∧ Calls Try.prog 55 #[.pointer (some ⟨g67, o67, none⟩), .int .i64 x72] w_16 fun e_7 w_17 => KeepG [] w_16 w_17 ∧ e_7 = .returned (.tuple #[]) ∧ K (.tuple #[]) w_17 := fun b hbb w2 h2 f2 => by
      refine drewB (Bs.refl w2) fun w4 b4 _ _ => ?_
      have f4 := f2.trans (XFr.ofBelow b4)
      refine withP_mk g 0 rfl (withP_mk x 0 rfl ⟨q.ns 9, c9 w4 f4, (xint_any (q.ns 9) (h2.below b4) (by omega)).mono ?_⟩)
      rintro e w5 ⟨rfl, h5, f5⟩
      exact ⟨keepG_nil _ _, rfl, hK w5 (hlim hl9 w5 ⟨_, _, _, h5, hbb, k3, k4⟩) (f4.trans f5)⟩
    refine withP_mk g 0 rfl ⟨r, k1.c2, ?_⟩
    cases r
    · refine br_f rfl (withP_mk x 0 rfl ⟨q.ns 9, c9 w (XFr.refl _ _), br_dec (fun e => ?_) fun e => ?_⟩)
      · exact withP_mk g 0 rfl (x_flag k1 fun w2 h2 f2 _ => go true (by
          constructor
          · rintro ⟨_, h⟩; cases h
          · rintro ⟨_, h⟩; have := h.1; omega) w2 h2 f2)
      · refine withP_mk x 0 rfl ⟨q.ns 9, c9 w (XFr.refl _ _), withP_mk g 0 rfl (x_flag k1 fun w2 h2 f2 _ => go _ ?_ w2 h2 f2)⟩
        constructor
        · rintro ⟨h3, h4⟩
          have := of_decide_eq_false h4
          exact ⟨k2.1 ⟨h3, rfl⟩, by omega, by unfold wfar; omega⟩
        · rintro ⟨p, h4⟩
          have h5 := h4.2
          unfold wfar at h5
          exact ⟨(k2.2 p).1, decide_eq_false (by omega)⟩
    · exact br_t rfl (withP_mk g 0 rfl (x_flag k1 fun w2 h2 f2 _ => go true (by
        constructor
        · rintro ⟨_, h⟩; cases h
        · rintro ⟨p, _⟩; have := (k2.2 p).2; cases this) w2 h2 f2))
  refine br_dec (fun e => lim (.inl e)) fun n6 => br_dec (fun e => lim (.inr e)) fun n9 => ?_
  have hnl : ¬ hasLim q.k := by unfold hasLim; omega
  have hn3 : ¬ q.k ≤ 3 := by omega
  refine br_dec (fun e11 => ?_) fun n11 => br_dec (fun e12 => ?_) fun n12 => ?_
  · have hiff : (P ∧ RestOk q) ↔ (P ∧ planE q.plan = 0) := by
      constructor
      · rintro ⟨p, k⟩; exact ⟨p, k.plan e11⟩
      · rintro ⟨p, k⟩; exact ⟨p, fun c => absurd c hn3, fun c => absurd c hnl, fun _ => k, fun c => by omega⟩
    refine withP_mk x 0 rfl ⟨_, _, _, _, _, _, _, _, _, _, _, _, _, _, _, Bk.cells hb 13 rfl, (write_new q.plan a.pa a.qa a.pc a.qc w (hx.plan.to B) hx.day).mono ?_⟩
    rintro e w2 ⟨⟨v, rfl, hv⟩, b2⟩
    have fin : ∀ (a81 : Option Addr) (n81 c81 : Nat) (e81 : Int) (ts : List UInt8), n81 = ts.length → RowAt w2 a81 (ts.map bV) → (∀ k, a81 = some k → w.heap.size ≤ k.block ∧ k.block < w2.heap.size) → ts.length ≤ 1000 → (e81 = 0 ↔ planE q.plan = 0) → (planE q.plan = 0 → ts = planB q.plan) →
        withP (some ⟨g, 0, none⟩) fun g86 o86 => ∃ (b88 : Bool), w2.cell? ⟨g86, o86 + 2, none⟩ = some (.bool b88) ∧ br b88
          (withP (some ⟨g, 0, none⟩) fun g93 o93 => stO [] w2 g93 (o93 + 2) [.bool true] fun w_34 => withP (some ⟨g, 0, none⟩) fun g96 o96 => Calls Try.prog 49 #[.pointer (some ⟨g96, o96, none⟩), .slice a81 n81 c81] w_34 fun e_14 w_35 => KeepG [] w_34 w_35 ∧ e_14 = .returned (.tuple #[]) ∧ K (.tuple #[]) w_35)
          (withP (some ⟨g, 0, none⟩) fun g93 o93 => stO [] w2 g93 (o93 + 2) [.bool (decide (e81 ≠ 0))] fun w_36 => withP (some ⟨g, 0, none⟩) fun g96 o96 => Calls Try.prog 49 #[.pointer (some ⟨g96, o96, none⟩), .slice a81 n81 c81] w_36 fun e_15 w_37 => KeepG [] w_36 w_37 ∧ e_15 = .returned (.tuple #[]) ∧ K (.tuple #[]) w_37) := by
      rintro a81 n81 c81 e81 ts rfl hr hra hts he8 htp
      obtain ⟨⟨bs', bad, r, k1, k2, k3, k4⟩⟩ := h
      -- the text's block is not the writer's
      obtain ⟨pr2, hpr, k5, hrp⟩ : ∃ pr2 : Nat → Prop, (∀ k, pr k → pr2 k) ∧ XAt w2 pr2 g bs' bad r ∧ ∀ k, a81 = some k → pr2 k.block := by
        cases a81 with
        | none => exact ⟨pr, fun _ h => h, k1.below b2, fun k hk => by cases hk⟩
        | some k0 => exact ⟨fun k => pr k ∨ k = k0.block, fun _ h => .inl h, k1.more b2 (hra k0 rfl).1 (hra k0 rfl).2, fun k hk => by injection hk with hk; subst hk; exact .inr rfl⟩
      have go : ∀ (b : Bool), ((bad = false ∧ b = false) ↔ (P ∧ planE q.plan = 0)) → ∀ w3, XAt w3 pr2 g bs' bad b → XFr pr2 w2 w3 → withP (some ⟨g, 0, none⟩) fun g96 o96 => Calls Try.prog 49 #[.pointer (some ⟨g96, o96, none⟩), .slice a81 ts.length c81] w3 fun e_14 w_35 => KeepG [] w3 w_35 ∧ e_14 = .returned (.tuple #[]) ∧ K (.tuple #[]) w_35 := fun b hbb w3 h3 f3 => by
        refine withP_mk g 0 rfl ((xtext_any (c := c81) h3 (f3.row hr hrp) (fun _ => hrp) (by omega) (by omega)).mono ?_)
        rintro e w5 ⟨rfl, h5, f5⟩
        have htl := textB_len (ts := ts) (by omega)
        refine ⟨keepG_nil _ _, rfl, hK w5 ⟨⟨_, _, _, h5.mono hpr, hbb.trans hiff.symm, fun p => ?_, by rw [List.length_append]; omega⟩⟩ ((XFr.ofBelow b2).trans ((f3.trans f5).mono hpr))⟩
        have p2 := hiff.1 p
        rw [k3 p.1, restB_plan e11, htp p2.2]
      refine withP_mk g 0 rfl ⟨r, k5.c2, ?_⟩
      cases r
      · refine br_f rfl (withP_mk g 0 rfl (x_flag k5 fun w3 h3 f3 _ => go _ ?_ w3 h3 f3))
        constructor
        · rintro ⟨h3, h4⟩
          exact ⟨k2.1 ⟨h3, rfl⟩, he8.1 (Decidable.not_not.1 (of_decide_eq_false h4))⟩
        · rintro ⟨p, h4⟩
          exact ⟨(k2.2 p).1, decide_eq_false (not_not_intro (he8.2 h4))⟩
      · refine br_t rfl (withP_mk g 0 rfl (x_flag k5 fun w3 h3 f3 _ => go _ ?_ w3 h3 f3))
        constructor
        · rintro ⟨_, h⟩; cases h
        · rintro ⟨p, _⟩; have := (k2.2 p).2; cases this
    by_cases hpe : planE q.plan = 0
    · obtain ⟨a2, c2, rfl, o2⟩ := hv.1 hpe
      have hpl := planB_len hpe
      exact ⟨keepG_nil _ _, a2, _, c2, 0, rfl, fin a2 _ c2 0 (planB q.plan) rfl o2.row (fun k hk => by subst hk; exact o2.lt k.block rfl) (by omega) (by simp [hpe]) fun _ => rfl⟩
    · have := hv.2 hpe
      subst this
      exact ⟨keepG_nil _ _, none, 0, 0, _, rfl, fin none 0 0 _ [] rfl (.inl rfl) (fun k hk => by cases hk) (by decide) Iff.rfl fun c => absurd c hpe⟩
  · have hcl := hx.cl
    have hiff : (P ∧ RestOk q) ↔ (P ∧ pCarry.ok q.carry) := by
      constructor
      · rintro ⟨p, k⟩; exact ⟨p, k.carry e12⟩
      · rintro ⟨p, k⟩; exact ⟨p, fun c => absurd c hn3, fun c => absurd c hnl, fun c => absurd c n11, fun _ => k⟩
    refine withP_mk x 0 rfl ⟨a.ca, _, a.cc, by rw [hb.cell]; rfl, (xlist_any h q.carry.length 32 (by omega) (by omega)).mono ?_⟩
    rintro e w3 ⟨rfl, h3, f3⟩
    have hb3 := hb.xfr f3 (by decide) (by decide)
    refine ⟨keepG_nil _ _, rfl, withP_mk x 0 rfl ⟨a.ca, _, a.cc, by rw [hb3.cell]; rfl, ?_⟩⟩
    refine ⟨fun y wx => ∃ i : Nat, y = i ∧ i ≤ q.carry.length ∧ XS wx pr g (bs ++ (uintB q.carry.length ++ (q.carry.take i).flatMap uintB)) (P ∧ (q.carry.length : Int) ≤ 32 ∧ ∀ z ∈ q.carry.take i, inFar z) (L + 10 + 10 * i) ∧ XFr pr w wx, fun y _ => (q.carry.length - y).toNat,
      ⟨0, rfl, Nat.zero_le _, h3.to (by simp) (by simp) (by omega), f3⟩, ?_⟩
    rintro y wx ⟨i, rfl, hi, hX, hF⟩
    refine br_dec (fun h1 => ?_) fun h1 => by
      have e : i = q.carry.length := by omega
      subst e
      rw [List.take_length] at hX
      exact hK wx (hX.to (by rw [restB_carry e12]; rfl) (hiff.symm) (by omega)) hF
    have hi2 : i < q.carry.length := by omega
    have Bx := hF.old0 B hp
    obtain ⟨b, off, ha, hc⟩ := (hx.carry.below Bx (Nat.le_refl _)).int hi2
    have hi1 : IntKind.i64.wrap ((i : Int) + 1) = ((i + 1 : Nat) : Int) := by rw [wr64 (by omega) (by omega)]; omega
    rw [hi1]
    refine withP_mk b off ha ⟨by omega, by omega, _, by rw [Int.toNat_natCast, Nat.mul_one]; exact hc, carry_step (I := fun w43 => (∃ j : Nat, ((i + 1 : Nat) : Int) = j ∧ j ≤ q.carry.length ∧ XS w43 pr g (bs ++ (uintB q.carry.length ++ (q.carry.take j).flatMap uintB)) (P ∧ (q.carry.length : Int) ≤ 32 ∧ ∀ z ∈ q.carry.take j, inFar z) (L + 10 + 10 * j) ∧ XFr pr w w43) ∧ ((q.carry.length : Int) - ((i + 1 : Nat) : Int)).toNat < ((q.carry.length : Int) - (i : Int)).toNat) hX Bx (by omega) fun w8 h8 f8 => ?_⟩
    have et : q.carry.take (i + 1) = q.carry.take i ++ [q.carry[i]] := by rw [List.take_add_one, List.getElem?_eq_getElem hi2]; rfl
    refine ⟨⟨i + 1, rfl, hi2, h8.to (by rw [et]; simp only [List.flatMap_append, List.flatMap_cons, List.flatMap_nil, List.append_nil, List.append_assoc]) ?_ (by omega), hF.trans f8⟩, by omega⟩
    rw [et]
    constructor
    · rintro ⟨⟨q1, q2, q3⟩, q4⟩
      exact ⟨q1, q2, fun z hz => by
        rcases List.mem_append.1 hz with hz | hz
        · exact q3 z hz
        · rw [List.mem_singleton.1 hz]; exact q4⟩
    · rintro ⟨q1, q2, q3⟩
      exact ⟨⟨q1, q2, fun z hz => q3 z (List.mem_append_left _ hz)⟩, q3 q.carry[i] (List.mem_append_right _ List.mem_cons_self)⟩
  · exact hK w (h.to (by rw [restB_none hn3 hnl n11 n12, List.append_nil]) (by
      constructor
      · intro p; exact ⟨p, fun c => absurd c hn3, fun c => absurd c hnl, fun c => absurd c n11, fun c => absurd c n12⟩
      · rintro ⟨p, _⟩; exact p) (by omega)) (XFr.refl _ _)
end
theorem nums_few (k : Int) : (numsO k).length ≤ 4 := by
  unfold numsO
  repeat' split
  all_goals simp
theorem nums_mem {k : Int} {o : Nat} (ho : o ∈ numsO k) : o = 1 ∨ o = 2 ∨ o = 3 ∨ o = 4 ∨ o = 5 ∨ o = 6 ∨ o = 7 ∨ o = 8 ∨ o = 10 ∨ o = 11 := by
  unfold numsO at ho
  repeat' split at ho
  all_goals (simp only [List.mem_cons, List.not_mem_nil, or_false] at ho <;> omega)
theorem rq_num {q : Rq} {a : RqA} {o : Nat} (ho : o ∈ numsO q.k) : (rqCells q a)[o]? = some (.int .i64 (q.ns o)) := by
  rcases nums_mem ho with rfl | rfl | rfl | rfl | rfl | rfl | rfl | rfl | rfl | rfl <;> rfl
set_option maxHeartbeats 800000 in
/-- A request's bytes. -/
theorem ask_new (q : Rq) (a : RqA) (w : World) (hx : RqIn w q a) : Calls Try.prog 8 #[rqV q a] w fun e w' => ∃ b c, ((AskOk q ∧ e = .returned (.tuple #[.slice b (askB q).length c, .int .i64 0]) ∧ Own w' w.heap.size 5 1 (.slice b (askB q).length c) (askB q).length ((askB q).map bV)) ∨ (¬ AskOk q ∧ e = .returned (.tuple #[.slice none 0 0, .int .i64 2]))) ∧ Below w.heap.size w w' := by
  refine (GWi.iask_calls q.k (q.ns 1) (q.ns 2) (q.ns 3) (q.ns 4) (q.ns 5) (q.ns 6) (q.ns 7) (q.ns 8) (q.ns 9) (q.ns 10) (q.ns 11) a.ia q.items.length a.ic q.plan.day q.plan.frm q.plan.til q.plan.base.grp q.plan.base.mode q.plan.base.block a.pa q.plan.base.ts.length a.pc q.plan.other.grp q.plan.other.mode q.plan.other.block a.qa q.plan.other.ts.length a.qc a.ca q.carry.length a.cc w
    (fun v w' => ∃ b c, ((AskOk q ∧ v = .tuple #[.slice b (askB q).length c, .int .i64 0] ∧ Own w' w.heap.size 5 1 (.slice b (askB q).length c) (askB q).length ((askB q).map bV)) ∨ (¬ AskOk q ∧ v = .tuple #[.slice none 0 0, .int .i64 2])) ∧ Below w.heap.size w w') ?_).mono (by rintro e w' ⟨v, rfl, b, c, ⟨h1, rfl, h2⟩ | ⟨h1, rfl⟩, h3⟩; exact ⟨b, c, .inl ⟨h1, rfl, h2⟩, h3⟩; exact ⟨b, c, .inr ⟨h1, rfl⟩, h3⟩)
  unfold GWi.iask_vc
  refine newB (Bs.refl w) fun g w2 g0 sg n2 z2 b2 B2 => ?_
  have hb2 : Bk w2 g (rqCells q a) 39 := n2
  refine ⟨q.k, by rw [hb2.cell]; rfl, br_dec (fun h1 => ⟨none, 0, .inr ⟨fun c => by have := c.kind; omega, rfl⟩, B2⟩) fun h1 => ⟨q.k, by rw [hb2.cell]; rfl, br_dec (fun h2 => ⟨none, 0, .inr ⟨fun c => by have := c.kind; omega, rfl⟩, B2⟩) fun h2 => ?_⟩⟩
  refine newB B2 fun gw w3 gw0 sgw n3 z3 b3 B3 => drewB B3 fun w4 b4 B4 e4 => ?_
  have hb4 := (hb2.below b3).below b4
  have hX : XS w4 (fun k => k < w.heap.size) gw [] True 0 := XS.below (XS.start n3 (by omega) fun k hk => by have := B3.size; omega) b4
  refine ⟨q.k, by rw [hb4.cell]; rfl, (hX.uint q.k (by omega) (by omega)).mono ?_⟩
  rintro e w5 ⟨rfl, h5, f5⟩
  have hb5 := hb4.xfr f5 (by decide) (by decide)
  refine ⟨keepG_nil _ _, rfl, (numr_any (x := g) (k := q.k) (by rw [hb5.cell]; rfl)).mono ?_⟩
  rintro e w6 ⟨a6, c6, rfl, p6, _, b6⟩
  have hb6 := hb5.below b6
  have hno := nums_few q.k
  refine ⟨keepG_nil _ _, a6, _, c6, rfl, (xputs_any (f := q.ns) (h5.below b6) p6 hb6 (by decide) (by decide) (fun o ho => ?_) (by omega) (by omega)).mono ?_⟩
  · exact rq_num ho
  rintro e w7 ⟨rfl, h7, f7⟩
  have hb7 := hb6.xfr f7 (by decide) (by decide)
  have F7 : XFr (fun k => k < w.heap.size) w4 w7 := f5.trans ((XFr.ofBelow b6).trans f7)
  have B7 := F7.old0 B4 fun _ h => h
  refine ⟨keepG_nil _ _, rfl, (xrest_any h7 hb7 hx B7 (fun _ h => h) (by omega) (by omega)).mono ?_⟩
  rintro e w8 ⟨rfl, h8, f8⟩
  have B8 := f8.old0 B7 fun _ h => h
  refine ⟨keepG_nil _ _, rfl, (xdone_any h8 (by omega)).mono ?_⟩
  have hbs : [] ++ uintB q.k ++ (numsO q.k).flatMap (fun o => uintB (q.ns o)) ++ restB q = askB q := by
    unfold askB rqHeadB
    rw [List.nil_append, List.append_assoc]
  have hok : ((((True ∧ 0 ≤ q.k) ∧ ∀ o ∈ numsO q.k, inFar (q.ns o)) ∧ RestOk q) ↔ AskOk q) := by
    constructor
    · rintro ⟨⟨_, k2⟩, k3⟩; exact ⟨⟨by omega, by omega⟩, k2, k3⟩
    · rintro ⟨k1, k2, k3⟩; exact ⟨⟨⟨trivial, by omega⟩, k2⟩, k3⟩
  rw [hbs]
  rintro e w9 ⟨b9, c9, h9, bw9⟩
  rcases h9 with ⟨p, rfl, o⟩ | ⟨p, rfl⟩
  · exact ⟨keepG_nil _ _, b9, _, c9, 0, rfl, b9, c9, .inl ⟨hok.1 p, rfl, o.base_le fun k hk => Nat.le_trans B8.size (o.lt k hk).1⟩, B8.to bw9⟩
  · exact ⟨keepG_nil _ _, none, 0, 0, 2, rfl, none, 0, .inr ⟨fun c => p (hok.2 c), rfl⟩, B8.to bw9⟩
end Go.Proofs.Ytkggnbabnfhcpaa
end
section
/- An answer is written; walked. -/
namespace Go.Proofs.Ytkggnbabnfhcpaa
open Go.RowKit
def gnC (x : Gn) : List Value := [.int .i64 x.g, .int .i64 x.u, .int .i64 x.a, .bool x.f]
theorem gnC_len (x : Gn) : (gnC x).length = 4 := rfl
theorem gnC_one (x : Gn) : ∀ v ∈ gnC x, v.oneCell' = true := by
  intro v hv
  simp only [gnC, List.mem_cons, List.not_mem_nil, or_false] at hv
  rcases hv with rfl | rfl | rfl | rfl <;> rfl
abbrev GnsAt (n0 : Nat) (w : World) (a : Option Addr) (xs : List Gn) : Prop := Rws gnC 4 n0 w a xs
structure AnA where
  ga : Option Addr
  gc : Nat
  ia : Option Addr
  ic : Nat
def anCells (x : An) (a : AnA) : Array Value := #[.int .i64 x.k, .int .i64 x.e, .slice a.ga x.gs.length a.gc, .int .i64 (x.ns 3), .int .i64 (x.ns 4), .int .i64 (x.ns 5), .int .i64 (x.ns 6), .int .i64 (x.ns 7), .int .i64 (x.ns 8), .int .i64 (x.ns 9), .int .i64 (x.ns 10), .int .i64 (x.ns 11), .slice a.ia x.inv.length a.ic]
def anV (x : An) (a : AnA) : Value := .agg (anCells x a)
structure AnIn (w : World) (x : An) (a : AnA) : Prop where
  gs : GnsAt 0 w a.ga x.gs
  inv : RowAt w a.ia (x.inv.map bV)
  gl : x.gs.length ≤ 100
  il : x.inv.length ≤ 100000
theorem AnIn.below {w w1 : World} {x : An} {a : AnA} (h : AnIn w x a) (b : Below w.heap.size w w1) : AnIn w1 x a := ⟨h.gs.below b, h.inv.below b (Nat.le_refl _), h.gl, h.il⟩
theorem igrants_ret (k : Int) (w : World) : Calls Try.prog 45 #[.int .i64 k] w (Ret (.bool (decide (hasGr k))) w) := by
  refine ret_in (GWi.igrants_calls k w (fun u w' => u = .bool (decide (hasGr k)) ∧ Below w.heap.size w w') ?_)
  unfold GWi.igrants_vc
  refine br_dec (fun h => ⟨by rw [decide_eq_true (show hasGr k from .inl h)], Below.refl _ _⟩) fun h => ⟨?_, Below.refl _ _⟩
  have : (k = 2) ↔ hasGr k := by unfold hasGr; omega
  rw [decide_eq_decide.2 this]
theorem numa_any {w : World} {x : Nat} {k : Int} (h : w.cell? ⟨x, 0, none⟩ = some (.int .i64 k)) : Calls Try.prog 48 #[.pointer (some ⟨x, 0, none⟩)] w fun e w' => ∃ a c, e = .returned (.slice a (ansO k).length c) ∧ Ptrs w' a x (ansO k) ∧ (∀ q, a = some q → w.heap.size ≤ q.block) ∧ Below w.heap.size w w' := by
  refine (GWi.inuma_calls (some ⟨x, 0, none⟩) w (fun v w' => ∃ a c, v = .slice a (ansO k).length c ∧ Ptrs w' a x (ansO k) ∧ (∀ q, a = some q → w.heap.size ≤ q.block) ∧ Below w.heap.size w w') ?_).mono (by rintro e w' ⟨v, rfl, a, c, rfl, h⟩; exact ⟨a, c, rfl, h⟩)
  unfold GWi.inuma_vc
  have dr : ∀ {K : World → Prop}, (∀ w2, Below w.heap.size w w2 → K w2) → drewO w K := fun hk => drewB (Bs.refl w) fun w2 b2 _ _ => hk w2 b2
  refine withP_mk x 0 rfl ⟨k, h, ?_⟩
  refine br_dec (fun e => ?_) fun n1 => br_dec (fun e => ?_) fun n2 => br_dec (fun e => ?_) fun n3 => br_dec (fun e => ?_) fun n4 => br_dec (fun e => ?_) fun n5 => br_dec (fun e => ?_) fun n12 => br_dec (fun e => ?_) fun n13 => ?_
  · subst e; exact dr fun w2 b2 => ptr_leaf (os := [3, 4]) rfl b2
  · subst e; exact dr fun w2 b2 => ptr_leaf (os := [3, 4]) rfl b2
  · subst e; exact ptr_leaf (os := [4]) rfl (Below.refl _ _)
  · subst e; exact ptr_leaf (os := [4]) rfl (Below.refl _ _)
  · subst e; exact ptr_leaf (os := [4]) rfl (Below.refl _ _)
  · subst e; exact ptr_leaf (os := [5]) rfl (Below.refl _ _)
  · subst e; exact dr fun w2 b2 => ptr_leaf (os := [7, 8, 9, 10, 11, 6]) rfl b2
  · have e : ansO k = [] := by
      unfold ansO
      rw [if_neg (by unfold hasGr; omega), if_neg (by omega), if_neg n12, if_neg n13]
    rw [e]
    exact ⟨none, 0, rfl, .inl rfl, (fun q hq => by cases hq), Below.refl _ _⟩
theorem ans_mem {k : Int} {o : Nat} (ho : o ∈ ansO k) : 3 ≤ o ∧ o ≤ 11 := by
  unfold ansO at ho
  repeat' split at ho
  all_goals (simp only [List.mem_cons, List.not_mem_nil, or_false] at ho <;> omega)
theorem ans_few (k : Int) : (ansO k).length ≤ 6 := by
  unfold ansO
  repeat' split
  all_goals simp
theorem an_num {x : An} {a : AnA} {o : Nat} (ho : o ∈ ansO x.k) : (anCells x a)[o]? = some (.int .i64 (x.ns o)) := by
  obtain ⟨h1, h2⟩ := ans_mem ho
  have : o = 3 ∨ o = 4 ∨ o = 5 ∨ o = 6 ∨ o = 7 ∨ o = 8 ∨ o = 9 ∨ o = 10 ∨ o = 11 := by omega
  rcases this with rfl | rfl | rfl | rfl | rfl | rfl | rfl | rfl | rfl <;> rfl
theorem XS.flag {pr : Nat → Prop} {g L : Nat} {w : World} {bs : List UInt8} {P : Prop} (h : XS w pr g bs P L) (b : Bool) (hl : L ≤ 1000000) : Calls Try.prog 47 #[.pointer (some ⟨g, 0, none⟩), .bool b] w (XSd w pr g (bs ++ flagB b) P (L + 1)) := by
  obtain ⟨⟨bs', bad, r, h1, h2, h4, h5⟩⟩ := h
  refine (xflag_any b h1 (by omega)).mono ?_
  rintro e w' ⟨rfl, k1, k2⟩
  exact ⟨rfl, ⟨⟨_, _, _, k1, h2, fun p => by rw [h4 p], by rw [List.length_append]; show bs'.length + 1 ≤ _; omega⟩⟩, k2⟩
def gnF (x : Gn) (o : Nat) : Int := if o = 0 then x.g else if o = 1 then x.u else x.a
section
variable {pr : Nat → Prop} {g gw L : Nat} {w0 w : World} {bs : List UInt8} {P : Prop} {x : An} {a : AnA}
def TellV (x : An) (w : World) (v : Value) (w' : World) : Prop := ∃ b c, ((TellOk x ∧ v = .tuple #[.slice b (tellB x).length c, .int .i64 0] ∧ Own w' w.heap.size 5 1 (.slice b (tellB x).length c) (tellB x).length ((tellB x).map bV)) ∨ (¬ TellOk x ∧ v = .tuple #[.slice none 0 0, .int .i64 2])) ∧ Below w.heap.size w w'
theorem tell_done (h : XS w pr gw bs P L) (B : Bs w0 w) (hl : L ≤ 1000000) (hP : P ↔ TellOk x) (hb : P → bs = tellB x) {gs : List Nat} :
    Calls Try.prog 26 #[.pointer (some ⟨gw, 0, none⟩)] w fun e_11 w_25 => KeepG gs w w_25 ∧ ∃ (a100_0 : Option Addr) (n100_0 : Nat) (c100_0 : Nat) (x100_1 : Int), e_11 = .returned (.tuple #[.slice a100_0 n100_0 c100_0, .int .i64 x100_1]) ∧ TellV x w0 (.tuple #[.slice a100_0 n100_0 c100_0, .int .i64 x100_1]) w_25 := by
  refine (xdone_any h hl).mono ?_
  rintro e w9 ⟨b9, c9, h9, bw9⟩
  rcases h9 with ⟨p, rfl, o⟩ | ⟨p, rfl⟩
  · have e := hb p
    subst e
    exact ⟨keepG_below bw9, b9, _, c9, 0, rfl, b9, c9, .inl ⟨hP.1 p, rfl, o.base_le fun k hk => Nat.le_trans B.size (o.lt k hk).1⟩, B.to bw9⟩
  · exact ⟨keepG_below bw9, none, 0, 0, 2, rfl, none, 0, .inr ⟨fun c => p (hP.2 c), rfl⟩, B.to bw9⟩
theorem tell_k2 (h : XS w pr gw bs P L) (hb : Bk w g (anCells x a) 62) (hx : AnIn w0 x a) (B : Bs w0 w) (hp : ∀ k, k < w0.heap.size → pr k) (hl : L ≤ 10000)
    (hok : ((P ∧ ∀ o ∈ ansO x.k, inFar (x.ns o)) ∧ (x.k = 14 → x.inv.length ≤ 65536)) ↔ TellOk x) (hbs : TellOk x → bs ++ (numB x ++ invB x.k x.inv) = tellB x) (hia : ∀ q, a.ia = some q → x.inv ≠ [] → q.block < w0.heap.size) : GWi.itell_k2 (TellV x w0) g gw w := by
  unfold GWi.itell_k2
  refine (numa_any (x := g) (k := x.k) (by rw [hb.cell]; rfl)).mono ?_
  rintro e w6 ⟨a6, c6, rfl, p6, _, b6⟩
  have hb6 := hb.below b6
  have hno := ans_few x.k
  refine ⟨keepG_nil _ _, a6, _, c6, rfl, (xputs_any (f := x.ns) (h.below b6) p6 hb6 (by decide) (by decide) (fun o ho => an_num ho) (by omega) (by omega)).mono ?_⟩
  rintro e w7 ⟨rfl, h7, f7⟩
  have hb7 := hb6.xfr f7 (by decide) (by decide)
  have F7 : XFr pr w w7 := (XFr.ofBelow b6).trans f7
  have B7 := F7.old0 B hp
  have hil := hx.il
  refine ⟨keepG_nil _ _, rfl, x.k, by rw [hb7.cell]; rfl, br_dec (fun e14 => ?_) fun n14 => ?_⟩
  · obtain ⟨⟨bs', bad, r, k1, k2, k3, k4⟩⟩ := h7
    have go : ∀ (b : Bool), ((bad = false ∧ b = false) ↔ TellOk x) → ∀ w2, XAt w2 pr gw bs' bad b → XFr pr w7 w2 → drewO w2 fun w_22 => ∃ (a97 : Option Addr) (n97 : Nat) (c97 : Nat), w_22.cell? ⟨g, 12, none⟩ = some (.slice a97 n97 c97) ∧ Calls Try.prog 49 #[.pointer (some ⟨gw, 0, none⟩), .slice a97 n97 c97] w_22 fun e_10 w_23 => KeepG [] w_22 w_23 ∧ e_10 = .returned (.tuple #[]) ∧ GWi.itell_k1 (TellV x w0) gw w_23 := fun b hbb w2 h2 f2 => by
      refine drewB (Bs.refl w2) fun w3 b3 _ _ => ?_
      have f3 := f2.trans (XFr.ofBelow b3)
      have B3 := f3.old0 B7 hp
      refine ⟨a.ia, _, a.ic, by rw [(hb7.xfr f3 (by decide) (by decide)).cell]; rfl, ?_⟩
      have fin : ∀ e w4, XDo w3 pr gw (bs' ++ textB x.inv) bad b e w4 → KeepG [] w3 w4 ∧ e = .returned (.tuple #[]) ∧ GWi.itell_k1 (TellV x w0) gw w4 := by
        rintro e w4 ⟨rfl, h4, f4⟩
        refine ⟨keepG_nil _ _, rfl, ?_⟩
        unfold GWi.itell_k1
        have htl := textB_len (ts := x.inv) (by omega)
        refine tell_done (P := TellOk x) (bs := tellB x) (L := L + 101000) ⟨⟨_, _, _, h4, hbb, fun p => ?_, by rw [List.length_append]; omega⟩⟩ (f4.old0 B3 hp) (by omega) Iff.rfl (fun _ => rfl)
        have p1 := (hok.2 p).1
        rw [k3 p1, ← hbs p]
        unfold numB invB
        rw [if_pos e14]
        simp [List.append_assoc]
      exact (xtext_any (c := a.ic) (h2.below b3) (hx.inv.below B3 (Nat.le_refl _)) (fun hne q hq => hp _ (hia q hq hne)) (by omega) (by omega)).mono fin
    refine ⟨r, k1.c2, ?_⟩
    cases r
    · refine br_f rfl ⟨a.ia, _, a.ic, by rw [hb7.cell]; rfl, x_flag k1 fun w2 h2 f2 _ => go _ ?_ w2 h2 f2⟩
      rw [← hok]
      constructor
      · rintro ⟨q1, q2⟩
        have := of_decide_eq_false q2
        exact ⟨k2.1 ⟨q1, rfl⟩, fun _ => by omega⟩
      · rintro ⟨q1, q2⟩
        exact ⟨(k2.2 q1).1, decide_eq_false (by have := q2 e14; omega)⟩
    · refine br_t rfl (x_flag k1 fun w2 h2 f2 _ => go _ ?_ w2 h2 f2)
      rw [← hok]
      constructor
      · rintro ⟨_, c⟩; cases c
      · rintro ⟨q1, _⟩; have := (k2.2 q1).2; cases this
  · unfold GWi.itell_k1
    refine tell_done (h7.to rfl ?_ (Nat.le_refl _)) B7 (by omega) Iff.rfl fun p => ?_
    · rw [← hok]
      exact ⟨fun c => ⟨c, fun e => absurd e n14⟩, fun c => c.1⟩
    · rw [← hbs p]
      unfold numB invB
      rw [if_neg n14, List.append_nil]
theorem rowblk_lt {w : World} {b : Option Addr} {vs : List Value} (h : RowAt w b vs) (hne : vs ≠ []) : ∀ q, b = some q → q.block < w.heap.size := fun q hq => by
  rcases h with h | ⟨b', off, ha, h⟩
  · exact absurd h hne
  · rw [hq] at ha
    injection ha with ha
    subst ha
    match vs, hne with
    | v :: r, _ => exact block_lt_of_cell (h 0 v rfl)
set_option maxHeartbeats 1600000 in
theorem tell_new (x : An) (a : AnA) (w : World) (hx : AnIn w x a) : Calls Try.prog 18 #[anV x a] w fun e w' => ∃ v, e = .returned v ∧ TellV x w v w' := by
  refine GWi.itell_calls x.k x.e a.ga x.gs.length a.gc (x.ns 3) (x.ns 4) (x.ns 5) (x.ns 6) (x.ns 7) (x.ns 8) (x.ns 9) (x.ns 10) (x.ns 11) a.ia x.inv.length a.ic w (TellV x w) ?_
  unfold GWi.itell_vc
  have hgl := hx.gl
  refine newB (Bs.refl w) fun g w2 g0 sg n2 z2 b2 B2 => ?_
  have hb2 : Bk w2 g (anCells x a) 62 := n2
  have no : ∀ {wx : World}, ¬ TellOk x → Bs w wx → TellV x w (.tuple #[.slice none 0 0, .int .i64 2]) wx := fun h B => ⟨none, 0, .inr ⟨h, rfl⟩, B⟩
  refine ⟨x.k, by rw [hb2.cell]; rfl, br_dec (fun h1 => no (fun c => by have := c.kind; omega) B2) fun h1 => ⟨x.k, by rw [hb2.cell]; rfl, br_dec (fun h2 => no (fun c => by have := c.kind; omega) B2) fun h2 => ⟨x.e, by rw [hb2.cell]; rfl, br_dec (fun h3 => no (fun c => by have := c.err; omega) B2) fun h3 => ⟨x.e, by rw [hb2.cell]; rfl, br_dec (fun h4 => no (fun c => by have := c.err; omega) B2) fun h4 => ?_⟩⟩⟩⟩
  refine newB B2 fun gw w3 gw0 sgw n3 z3 b3 B3 => drewB B3 fun w4 b4 B4 e4 => ?_
  have hb4 := (hb2.below b3).below b4
  have hX : XS w4 (fun k => k < w.heap.size) gw [] True 0 := XS.below (XS.start n3 (by omega) fun k hk => by have := B3.size; omega) b4
  refine ⟨x.k, by rw [hb4.cell]; rfl, (hX.uint x.k (by omega) (by omega)).mono ?_⟩
  rintro e w5 ⟨rfl, h5, f5⟩
  have hb5 := hb4.xfr f5 (by decide) (by decide)
  have B5 := f5.old0 B4 fun _ h => h
  refine ⟨keepG_nil _ _, rfl, drewB B5 fun w6 b6 B6 e6 => ?_⟩
  have hb6 := hb5.below b6
  refine ⟨x.e, by rw [hb6.cell]; rfl, ((h5.below b6).uint x.e (by omega) (by omega)).mono ?_⟩
  rintro e w7 ⟨rfl, h7, f7⟩
  have hb7 := hb6.xfr f7 (by decide) (by decide)
  have B7 := f7.old0 B6 fun _ h => h
  have h7 : XS w7 (fun k => k < w.heap.size) gw (uintB x.k ++ uintB x.e) True 20 := h7.to (by simp) (by constructor; intro _; trivial; intro _; exact ⟨⟨trivial, by omega⟩, by omega⟩) (by omega)
  refine ⟨keepG_nil _ _, rfl, x.e, by rw [hb7.cell]; rfl, br_dec (fun he => ?_) fun he => ?_⟩
  · have hok : TellOk x := ⟨by omega, by omega, fun c => absurd c he⟩
    refine tell_done h7 B7 (by omega) ⟨fun _ => hok, fun _ => trivial⟩ fun _ => ?_
    unfold tellB
    rw [if_neg he, List.append_nil]
  have he : x.e = 0 := Decidable.not_not.1 he
  have hia : ∀ q, a.ia = some q → x.inv ≠ [] → q.block < w.heap.size := fun q hq hne => rowblk_lt hx.inv (by simpa using hne) q hq
  refine ⟨x.k, by rw [hb7.cell]; rfl, callB B7 (igrants_ret x.k w7) fun w8 b8 B8 => ⟨_, rfl, ?_⟩⟩
  have hb8 := hb7.below b8
  have h8 := h7.below b8
  by_cases hg : hasGr x.k
  · rw [decide_eq_true hg]
    refine br_t rfl ⟨a.ga, _, a.gc, by rw [hb8.cell]; rfl, (xlist_any h8 x.gs.length 4 (by omega) (by omega)).mono ?_⟩
    rintro e w9 ⟨rfl, h9, f9⟩
    have hb9 := hb8.xfr f9 (by decide) (by decide)
    have B9 := f9.old0 B8 fun _ h => h
    refine ⟨keepG_nil _ _, rfl, a.ga, _, a.gc, by rw [hb9.cell]; rfl, ?_⟩
    refine ⟨fun y wx => ∃ i : Nat, y = i ∧ i ≤ x.gs.length ∧ XS wx (fun k => k < w.heap.size) gw (uintB x.k ++ uintB x.e ++ (uintB x.gs.length ++ (x.gs.take i).flatMap pGn.enc)) (True ∧ (x.gs.length : Int) ≤ 4 ∧ ∀ z ∈ x.gs.take i, pGn.ok z) (30 + 31 * i) ∧ XFr (fun k => k < w.heap.size) w9 wx, fun y _ => (x.gs.length - y).toNat,
      ⟨0, rfl, Nat.zero_le _, h9.to (by simp) (by simp) (by omega), XFr.refl _ _⟩, ?_⟩
    rintro y wx ⟨i, rfl, hi, hX, hF⟩
    have Bx := hF.old0 B9 fun _ h => h
    have hbx := hb9.xfr hF (by decide) (by decide)
    refine br_dec (fun h1 => ?_) fun h1 => by
      have e : i = x.gs.length := by omega
      subst e
      rw [List.take_length] at hX
      refine tell_k2 hX hbx hx Bx (fun _ h => h) (by omega) ?_ (fun _ => ?_) hia
      · constructor
        · rintro ⟨⟨⟨_, q1⟩, q2⟩, q3⟩
          exact ⟨by omega, by omega, fun _ => ⟨fun _ => q1, q2, q3⟩⟩
        · intro c
          have := c.body he
          exact ⟨⟨⟨trivial, this.grants hg⟩, this.nums⟩, this.inv⟩
      · unfold tellB bodyA grB
        rw [if_pos he, if_pos hg]
        show _ = uintB x.k ++ (uintB x.e ++ ((uintB (x.gs.length : Int) ++ x.gs.flatMap pGn.enc) ++ _))
        simp only [List.append_assoc]
    have hi2 : i < x.gs.length := by omega
    obtain ⟨b, off, ha, hc⟩ := (hx.gs.below Bx).get hi2
    have hi1 : IntKind.i64.wrap ((i : Int) + 1) = ((i + 1 : Nat) : Int) := by rw [wr64 (by omega) (by omega)]; omega
    rw [hi1]
    refine withP_mk b off ha ⟨by omega, by omega, _, _, _, _, by rw [Int.toNat_natCast]; exact hc, newB Bx fun g3 w12 g30 sg3 n12 z12 b12 B12 => ?_⟩
    refine stB B12 g30 (show Bk w12 g3 _ _ from n12) rfl (fun q hq => by cases hq) fun w13 n13 f13 B13 z13 => newB B13 fun g4 w14 g40 sg4 n14 z14 b14 B14 => ?_
    have hX13 := (hX.below b12).other (show Bk w12 g3 _ _ from n12) (by decide) (by decide) f13
    have hx13 : XFr (fun k => k < w.heap.size) wx w13 := XFr.filled b12 sg3 f13
    refine (xputs_any (os := [0, 1, 2]) (f := gnF x.gs[i]) (hX13.below b14) (.inr ⟨g4, rfl, n14⟩) (Bk.below n13 b14) (by decide) (by decide) (fun o ho => ?_) (by omega) (by simp)).mono ?_
    · simp only [List.mem_cons, List.not_mem_nil, or_false] at ho
      rcases ho with rfl | rfl | rfl <;> rfl
    rintro e w15 ⟨rfl, h15, f15⟩
    have hg15 := (Bk.below n13 b14).xfr f15 (by decide) (by decide)
    refine ⟨keepG_nil _ _, rfl, drewB (Bs.refl w15) fun w16 b16 B16 _ => ⟨x.gs[i].f, by rw [(hg15.below b16).cell]; rfl, ((h15.below b16).flag x.gs[i].f (by simp; omega)).mono ?_⟩⟩
    rintro e w17 ⟨rfl, h17, f17⟩
    have et : x.gs.take (i + 1) = x.gs.take i ++ [x.gs[i]] := by rw [List.take_add_one, List.getElem?_eq_getElem hi2]; rfl
    refine ⟨keepG_nil _ _, rfl, ⟨i + 1, rfl, hi2, h17.to ?_ ?_ (by simp; omega), hF.trans (hx13.trans ((XFr.ofBelow b14).trans (f15.trans ((XFr.ofBelow b16).trans f17))))⟩, by dsimp only; omega⟩
    · rw [et]
      simp only [List.flatMap_append, List.flatMap_cons, List.flatMap_nil, List.append_nil, List.append_assoc]
      simp [pGn, pI2, gnF]
    · rw [et]
      have hgo : (∀ o ∈ [0, 1, 2], inFar (gnF x.gs[i] o)) ↔ pGn.ok x.gs[i] := by
        simp [gnF, pGn]
      rw [hgo]
      constructor
      · rintro ⟨⟨q1, q2, q3⟩, q4⟩
        exact ⟨q1, q2, fun z hz => by
          rcases List.mem_append.1 hz with hz | hz
          · exact q3 z hz
          · rw [List.mem_singleton.1 hz]; exact q4⟩
      · rintro ⟨q1, q2, q3⟩
        exact ⟨⟨q1, q2, fun z hz => q3 z (List.mem_append_left _ hz)⟩, q3 x.gs[i] (List.mem_append_right _ List.mem_cons_self)⟩
  · rw [decide_eq_false hg]
    refine br_f rfl (tell_k2 h8 hb8 hx B8 (fun _ h => h) (by omega) ?_ (fun _ => ?_) hia)
    · constructor
      · rintro ⟨⟨_, q2⟩, q3⟩
        exact ⟨by omega, by omega, fun _ => ⟨fun c => absurd c hg, q2, q3⟩⟩
      · intro c
        have := c.body he
        exact ⟨⟨trivial, this.nums⟩, this.inv⟩
    · unfold tellB bodyA grB
      rw [if_pos he, if_neg hg]
      simp only [List.append_assoc, List.nil_append]
end
end Go.Proofs.Ytkggnbabnfhcpaa
end
section
/- A plan is read; walked. -/
namespace Go.Proofs.Ytkggnbabnfhcpaa
open Go.RowKit
/-- Cells of a block that are written over. -/
theorem stO_bks {w : World} {g off : Nat} {t : TypeId} {cs : Array Value} {vs : List Value} {gs : List Nat} {K : World → Prop} (h : Bk w g cs t) (hl : off + vs.length ≤ cs.size) (hg : ∀ x ∈ gs, x ≠ g)
    (k : ∀ w1, Bk w1 g (setL cs.toList off vs).toArray t → Fr [g] w w1 → w1.heap.size = w.heap.size → K w1) : stO gs w g off vs K := by
  have key : ∀ (vs : List Value) (w : World) (cs : Array Value) (off : Nat), Bk w g cs t → off + vs.length ≤ cs.size → Bk (w.setCells g off vs) g (setL cs.toList off vs).toArray t ∧ Fr [g] w (w.setCells g off vs) ∧ (w.setCells g off vs).heap.size = w.heap.size := by
    intro vs
    induction vs with
    | nil => intro w cs off h _; exact ⟨by simpa [World.setCells, setL] using h, Fr.refl _ _, rfl⟩
    | cons v r ih =>
      intro w cs off h hl
      rw [List.length_cons] at hl
      obtain ⟨k1, k2, k3⟩ := ih (w.setCell ⟨g, off, none⟩ v) (cs.setIfInBounds off v) (off + 1) (h.setCell off v) (by simp; omega)
      refine ⟨?_, ((Fr.refl [g] w).setCell (p := ⟨g, off, none⟩) (.inl (by simp)) v).trans k2 (Gr.refl _ _), by rw [show w.setCells g off (v :: r) = (w.setCell ⟨g, off, none⟩ v).setCells g (off + 1) r from rfl, k3]; simp [World.setCell]⟩
      rw [Array.toList_setIfInBounds] at k1
      exact k1
  obtain ⟨k1, k2, k3⟩ := key vs w cs off h hl
  exact ⟨hg, h.there hl, fun w1 e => by subst e; exact k _ k1 k2 k3⟩
/-- Three numbers, one behind the other. -/
def rd3 (bs : List UInt8) (e : Int) : Nat → List UInt8 × Int
  | 0 => (bs, e)
  | i + 1 => (rdUint 1099511627776 (rd3 bs e i).1 (rd3 bs e i).2).2
def rd3v (bs : List UInt8) (e : Int) (i : Nat) : Int := (rdUint 1099511627776 (rd3 bs e i).1 (rd3 bs e i).2).1
theorem rd3_len (bs : List UInt8) (e : Int) : ∀ i, (rd3 bs e i).1.length ≤ bs.length
  | 0 => Nat.le_refl _
  | i + 1 => Nat.le_trans (rdLenU _ _ _) (rd3_len bs e i)
def up3 (bs : List UInt8) (e : Int) (i j : Nat) : Value := .int .i64 (if j < i then rd3v bs e j else 0)
theorem rdTar_eq (bs : List UInt8) (e : Int) : rdTar bs e = (⟨rd3v bs e 0, rd3v bs e 1, rd3v bs e 2, (rdTs ⟨[], (rdUint 6 (rd3 bs e 3).1 (rd3 bs e 3).2).2.1, (rdUint 6 (rd3 bs e 3).1 (rd3 bs e 3).2).2.2⟩ (rdUint 6 (rd3 bs e 3).1 (rd3 bs e 3).2).1.toNat).ts⟩, (rdTs ⟨[], (rdUint 6 (rd3 bs e 3).1 (rd3 bs e 3).2).2.1, (rdUint 6 (rd3 bs e 3).1 (rd3 bs e 3).2).2.2⟩ (rdUint 6 (rd3 bs e 3).1 (rd3 bs e 3).2).1.toNat).bs, (rdTs ⟨[], (rdUint 6 (rd3 bs e 3).1 (rd3 bs e 3).2).2.1, (rdUint 6 (rd3 bs e 3).1 (rd3 bs e 3).2).2.2⟩ (rdUint 6 (rd3 bs e 3).1 (rd3 bs e 3).2).1.toNat).e) := rfl
theorem lt3 {i : Nat} (h : i < 3) : i = 0 ∨ i = 1 ∨ i = 2 := by omega
theorem own_fr {w w1 : World} {n1 size n : Nat} {e : TypeId} {v : Value} {xs : List Value} {L : List Nat} (h : Own w n1 e size v n xs) (f : Fr L w w1) (hn : ∀ k ∈ L, k < n1) : Own w1 n1 e size v n xs := h.keep fun k hk => f.block k (h.lt k hk).2 fun hm => by have := (h.lt k hk).1; have := hn k hm; omega
def TakeR (w : World) (L : List Nat) (gr : Nat) (bs : List UInt8) (e : Int) (v : Value) (w' : World) : Prop :=
  ∃ a c, v = tarV (rdTar bs e).1 a c ∧ TsAt w.heap.size w' a (rdTar bs e).1.ts ∧ RdAt w' L gr (rdTar bs e).2.1 (rdTar bs e).2.2 ∧ Fr L w w' ∧ (rdTar bs e).1.ts.length ≤ 6
set_option maxRecDepth 10000 in
theorem take_new (gr : Nat) (L : List Nat) (bs : List UInt8) (e : Int) (w : World) (h : RdAt w L gr bs e) (hl : bs.length ≤ 100000000) :
    Calls Try.prog 75 #[.pointer (some ⟨gr, 0, none⟩)] w fun r w' => ∃ v, r = .returned v ∧ TakeR w L gr bs e v w' := by
  refine GTarB.take_calls (some ⟨gr, 0, none⟩) w (TakeR w L gr bs e) ?_
  unfold GTarB.take_vc
  have hu := h.under
  have hT : TakeR w L gr bs e = fun v w' => TakeR w L gr bs e v w' := rfl
  refine newB (Bs.refl w) fun g w2 g0 sg n2 z2 b2 B2 => newB B2 fun g2 w3 g02 sg2 n3 z3 b3 B3 => newB B3 fun g3 w4 g03 sg3 n4 z4 b4 B4 => ?_
  have nL : ∀ x, w.heap.size ≤ x → x ∉ L := fun x hx hm => by have := hu x hm; omega
  have R4 : RP w L w4 gr bs e := (RP.start h).below B4
  have B24 : Bk w4 g2 #[up3 bs e 0 0, up3 bs e 0 1, up3 bs e 0 2, .slice none 0 0] 25 := by
    have : Bk w3 g2 #[.int .i64 0, .int .i64 0, .int .i64 0, .slice none 0 0] 25 := n3
    exact this.keep (b4.block g2 (by omega))
  refine ⟨fun x wx => ∃ i : Nat, x = i ∧ i ≤ 3 ∧ RP w L wx gr (rd3 bs e i).1 (rd3 bs e i).2 ∧ Bk wx g2 #[up3 bs e i 0, up3 bs e i 1, up3 bs e i 2, .slice none 0 0] 25 ∧ wx.heap[g3]? = w4.heap[g3]? ∧ w4.heap.size ≤ wx.heap.size, fun x _ => 3 - x.toNat, ⟨0, rfl, by omega, R4, B24, rfl, by omega⟩, ?_⟩
  rintro x wx ⟨i, rfl, hi, hR, hB, h3, hsz⟩
  have hlen := rd3_len bs e i
  refine br_dec (fun hlt => ?_) fun hge => ?_
  · have hi3 : i < 3 := by omega
    refine ⟨by omega, by omega, some ⟨g2, i, none⟩, ?_, hR.uint 1099511627776 (by decide) (by decide) (by omega) (fun x hx => by rw [List.mem_singleton] at hx; subst hx; exact nL _ (by omega)) fun w6 R6 f6 z6 => ⟨_, rfl, ?_⟩⟩
    · rw [Int.toNat_natCast, Nat.zero_add, Nat.mul_one, cell_of_row _ _ _ _ _ _ (h3.trans n4)]
      rcases lt3 hi3 with rfl | rfl | rfl <;> rfl
    have hB6 := hB.keep (f6.block g2 (by omega) (nL g2 (by omega)))
    refine stO_bk hB6 (by simp; omega) (fun x hx => by rw [List.mem_singleton] at hx; omega) fun w7 B7 f7 z7 => ?_
    rw [wr64 (by omega) (by omega)]
    refine ⟨⟨i + 1, by omega, by omega, ⟨R6.at'.fr f7 (fun k h1 h2 => by rw [List.mem_singleton] at h2; subst h2; exact nL _ (by omega) h1), R6.fr.trans f7 (fun k hk => by rw [List.mem_singleton] at hk; exact .inr (by omega)), R6.un⟩, ?_, ?_, by omega⟩, by dsimp only; omega⟩
    · have : (#[up3 bs e i 0, up3 bs e i 1, up3 bs e i 2, .slice none 0 0] : Array Value).setIfInBounds i (.int .i64 (rdUint 1099511627776 (rd3 bs e i).1 (rd3 bs e i).2).1) = #[up3 bs e (i + 1) 0, up3 bs e (i + 1) 1, up3 bs e (i + 1) 2, .slice none 0 0] := by
        rcases lt3 hi3 with rfl | rfl | rfl <;> rfl
      rw [← this]; exact B7
    · exact ((f7.block g3 (by omega) (by rw [List.mem_singleton]; omega)).trans (f6.block g3 (by omega) (nL g3 (by omega)))).trans h3
  obtain rfl : i = 3 := by omega
  have hE := rdTar_eq bs e
  refine hR.uint 6 (by decide) (by decide) (by omega) (fun x hx => by rw [List.mem_singleton] at hx; subst hx; exact nL _ (by omega)) fun w8 R8 f8 z8 => ⟨_, rfl, ?_⟩
  have hn := rdUint_range 6 (rd3 bs e 3).1 (rd3 bs e 3).2
  have hn6 := uint_le (most := 6) (bs := (rd3 bs e 3).1) (e := (rd3 bs e 3).2) (by decide)
  have hnl := rdLenU 6 (rd3 bs e 3).1 (rd3 bs e 3).2
  have hB8 := hB.keep (f8.block g2 (by omega) (nL g2 (by omega)))
  generalize rdUint 6 (rd3 bs e 3).1 (rd3 bs e 3).2 = q at *
  obtain ⟨n, qb, qe⟩ := q
  dsimp only at *
  have hts := rdTs_len ⟨[], qb, qe⟩
  have htb := rdTs_bs ⟨[], qb, qe⟩
  have hbs0 : (⟨[], qb, qe⟩ : RdT).bs.length = qb.length := rfl
  have hs0 : (⟨[], qb, qe⟩ : RdT).ts.length = 0 := rfl
  have R8 : RP w L w8 gr (⟨[], qb, qe⟩ : RdT).bs (⟨[], qb, qe⟩ : RdT).e := R8
  generalize (⟨[], qb, qe⟩ : RdT) = s0 at *
  refine ⟨fun x wx => ∃ (i : Nat) (a : Option Addr) (c : Nat), x = i ∧ (i : Int) ≤ n ∧ RP w L wx gr (rdTs s0 i).bs (rdTs s0 i).e ∧ Bk wx g2 #[up3 bs e 3 0, up3 bs e 3 1, up3 bs e 3 2, .slice a i c] 25 ∧ Own wx w8.heap.size 142 2 (.slice a i c) i ((rdTs s0 i).ts.flatMap trCells) ∧ w8.heap.size ≤ wx.heap.size, fun x _ => n.toNat - x.toNat, ?_, ?_⟩
  · refine ⟨0, none, 0, rfl, by omega, R8, hB8, ?_, by omega⟩
    rw [show (rdTs s0 0).ts = [] from List.length_eq_zero_iff.1 (by rw [hts 0, hs0])]
    exact Own.nil _ _ _ _
  rintro x wx ⟨i, a, c, rfl, hi, hR, hB, hO, hsz⟩
  have hti : (rdTs s0 i).ts.length = i := by rw [hts i, hs0]; omega
  refine br_dec (fun hlt => ?_) fun hge => ?_
  · have hbl := htb i
    have nLO : ∀ k ∈ L, k < w8.heap.size := fun k hk => by have := hu k hk; omega
    have st : rdTs s0 (i + 1) = rdTr (rdTs s0 i) := rfl
    have hR1 := rdLenU 1099511627776 (rdTs s0 i).bs (rdTs s0 i).e
    refine hR.uint 1099511627776 (by decide) (by decide) (by omega) (fun x hx => by rw [List.mem_singleton] at hx; subst hx; exact nL _ (by omega)) fun w10 R10 f10 z10 => ⟨_, rfl, newO_in fun w11 n11 b11 s11 w12 h12 => ?_⟩
    have R12 := R10.newbox b11 rfl h12
    have z12 := h12.2
    have B12 : Bk w12 g2 #[up3 bs e 3 0, up3 bs e 3 1, up3 bs e 3 2, .slice a i c] 25 := hB.keep (((h12.1.block g2 (by omega) (by rw [List.mem_singleton]; omega)).trans (b11.block g2 (by omega))).trans (f10.block g2 (by omega) (nL g2 (by omega))))
    have O12 := (own_fr hO f10 nLO).newbox b11 rfl h12
    refine R12.uint 1099511627776 (by decide) (by decide) (by omega) (fun x hx => by simp only [List.mem_cons, List.not_mem_nil, or_false] at hx; rcases hx with rfl | rfl <;> exact nL _ (by omega)) fun w13 R13 f13 z13 => ⟨_, rfl, fun w14 h14 => ?_⟩
    have R14 := R13.box h14 (nL _ (by omega)) (by omega)
    have z14 := h14.2
    have B14 : Bk w14 g2 #[up3 bs e 3 0, up3 bs e 3 1, up3 bs e 3 2, .slice a i c] 25 := B12.keep ((h14.1.block g2 (by omega) (by rw [List.mem_singleton]; omega)).trans (f13.block g2 (by omega) (nL g2 (by omega))))
    have klt := fun k hk => hO.lt k hk
    have O14 : Own w14 w8.heap.size 142 2 (.slice a i c) i ((rdTs s0 i).ts.flatMap trCells) := (own_fr O12 f13 nLO).box h14 fun k hk => by have := (klt k hk).2; omega
    refine ⟨a, i, c, by rw [B14.cell]; rfl, newO_in fun w15 n15 b15 s15 => ?_⟩
    have B15 := B14.keep (b15.block g2 (by omega))
    have O15 := O14.below b15 (Nat.le_refl _)
    have R15 := R14.below b15
    have hg2O : ∀ k, (Value.slice a i c).ownBlock = some k → w8.heap.size ≤ k ∧ k < wx.heap.size := klt
    refine ⟨1, _, _, O15.base_le fun _ _ => Nat.zero_le _, src_block (n := 1) (size := 2) Try.underlying23 n15 rfl rfl, by unfold maxLen; omega, by omega, fun x hx e => ?_, fun a' c' w16 o16 g16 or16 _ => ?_⟩
    · have := hg2O _ e
      simp only [List.mem_cons, List.not_mem_nil, or_false] at hx
      omega
    have z16 := g16.size
    have o16' : Own w16 w8.heap.size 142 2 (.slice a' (i + 1) c') (i + 1) ((rdTs s0 i).ts.flatMap trCells ++ trCells ⟨(rdUint 1099511627776 (rdTs s0 i).bs (rdTs s0 i).e).1, (rdUint 1099511627776 (rdUint 1099511627776 (rdTs s0 i).bs (rdTs s0 i).e).2.1 (rdUint 1099511627776 (rdTs s0 i).bs (rdTs s0 i).e).2.2).1⟩) := o16.base_le fun k hk => by
      rcases or16 with q | ⟨y, q, hy⟩
      · rw [q] at hk; exact (hg2O k hk).1
      · rw [q] at hk; injection hk with hk; omega
    have B16 := B15.keep (g16.block g2 (by omega) fun h => by have := hg2O g2 h.symm; omega)
    have R16 : RP w L w16 gr (rdTs s0 (i + 1)).bs (rdTs s0 (i + 1)).e := ⟨R15.at'.keep (fun k hk => g16.block k (by have := hu k hk; omega) fun h => by have := hg2O k h.symm; have := hu k hk; omega) g16.size, R15.fr.grown g16 fun k hk => .inr (by have := hg2O k hk; omega), hu⟩
    refine stO_bk B16 (by simp) (fun x hx => by simp only [List.mem_cons, List.not_mem_nil, or_false] at hx; omega) fun w17 B17 f17 z17 => ?_
    rw [wr64 (by omega) (by omega)]
    refine ⟨⟨i + 1, a', c', by omega, by omega, ⟨R16.at'.fr f17 (fun k h1 h2 => by rw [List.mem_singleton] at h2; subst h2; exact nL _ (by omega) h1), R16.fr.trans f17 (fun k hk => by rw [List.mem_singleton] at hk; exact .inr (by omega)), hu⟩, B17, ?_, by omega⟩, by dsimp only; omega⟩
    have ho := o16'.keep (w' := w17) fun k hk => f17.block k (o16'.lt k hk).2 (by rw [List.mem_singleton]; have := (o16'.lt k hk).1; omega)
    have : (rdTs s0 (i + 1)).ts = (rdTs s0 i).ts ++ [⟨(rdUint 1099511627776 (rdTs s0 i).bs (rdTs s0 i).e).1, (rdUint 1099511627776 (rdUint 1099511627776 (rdTs s0 i).bs (rdTs s0 i).e).2.1 (rdUint 1099511627776 (rdTs s0 i).bs (rdTs s0 i).e).2.2).1⟩] := rfl
    rw [this, List.flatMap_append]
    simpa using ho
  · have hin : (i : Int) = n := by omega
    have hni : n.toNat = i := by omega
    rw [hni] at hE
    refine ⟨_, _, _, a, i, c, ⟨by rw [hB.cell]; rfl, by rw [hB.cell]; rfl, by rw [hB.cell]; rfl, by rw [hB.cell]; rfl, trivial⟩, fun w18 h18 => ?_⟩
    have z18 := h18.2
    have R18 := hR.box h18 (nL _ (by omega)) (by omega)
    have O18 := hO.box h18 fun k hk => by have := (hO.lt k hk).1; omega
    refine ⟨a, c, ?_, ?_, ?_, R18.fr, ?_⟩
    · rw [hE]
      unfold tarV
      dsimp only
      rw [hti]
      rfl
    · rw [hE]
      exact (Rws.ofOwn (by decide) tr_len O18).low (by omega)
    · rw [hE]; exact R18.at'
    · rw [hE]; show (rdTs s0 i).ts.length ≤ 6; omega
end Go.Proofs.Ytkggnbabnfhcpaa
end
section
/- A plan is read, whole; walked. -/
namespace Go.Proofs.Ytkggnbabnfhcpaa
open Go.RowKit
theorem Rws.fr {α : Type} {enc : α → List Value} {k n0 : Nat} {w w' : World} {a : Option Addr} {xs : List α} {L : List Nat} (h : Rws enc k n0 w a xs) (f : Fr L w w') (hn : ∀ k ∈ L, k < n0) : Rws enc k n0 w' a xs := h.keep fun b h1 h2 => f.block b h2 fun hm => by have := hn b hm; omega
theorem rdPl_eq (bs : List UInt8) : rdPl bs = (⟨rd3v bs 0 0, rd3v bs 0 1, rd3v bs 0 2, (rdTar (rd3 bs 0 3).1 (rd3 bs 0 3).2).1, (if rd3v bs 0 0 ≠ 0 then rdTar (rdTar (rd3 bs 0 3).1 (rd3 bs 0 3).2).2.1 (rdTar (rd3 bs 0 3).1 (rd3 bs 0 3).2).2.2 else (⟨0, 0, 0, []⟩, (rdTar (rd3 bs 0 3).1 (rd3 bs 0 3).2).2.1, (rdTar (rd3 bs 0 3).1 (rd3 bs 0 3).2).2.2)).1⟩,
    (if rd3v bs 0 0 ≠ 0 then rdTar (rdTar (rd3 bs 0 3).1 (rd3 bs 0 3).2).2.1 (rdTar (rd3 bs 0 3).1 (rd3 bs 0 3).2).2.2 else (⟨0, 0, 0, []⟩, (rdTar (rd3 bs 0 3).1 (rd3 bs 0 3).2).2.1, (rdTar (rd3 bs 0 3).1 (rd3 bs 0 3).2).2.2)).2.1,
    (if rd3v bs 0 0 ≠ 0 then rdTar (rdTar (rd3 bs 0 3).1 (rd3 bs 0 3).2).2.1 (rdTar (rd3 bs 0 3).1 (rd3 bs 0 3).2).2.2 else (⟨0, 0, 0, []⟩, (rdTar (rd3 bs 0 3).1 (rd3 bs 0 3).2).2.1, (rdTar (rd3 bs 0 3).1 (rd3 bs 0 3).2).2.2)).2.2) := rfl
theorem rdTar_bs (bs : List UInt8) (e : Int) : (rdTar bs e).2.1.length ≤ bs.length := by
  rw [rdTar_eq]
  dsimp only
  refine Nat.le_trans (rdTs_bs _ _) ?_
  dsimp only
  exact Nat.le_trans (rdLenU _ _ _) (rd3_len bs e 3)
theorem rd3v_range (bs : List UInt8) (e : Int) (i : Nat) : 0 ≤ rd3v bs e i ∧ rd3v bs e i ≤ 9223372036854775807 := rdUint_range _ _ _
def plCellsV (p : Pl) (a a2 : Option Addr) (c c2 : Nat) : Array Value := #[.int .i64 p.day, .int .i64 p.frm, .int .i64 p.til, .int .i64 p.base.grp, .int .i64 p.base.mode, .int .i64 p.base.block, .slice a p.base.ts.length c, .int .i64 p.other.grp, .int .i64 p.other.mode, .int .i64 p.other.block, .slice a2 p.other.ts.length c2]
/-- What is told of bytes. -/
def PlanRd (w : World) (bs : List UInt8) (v : Value) (w' : World) : Prop :=
  (∃ a a2 c c2, v = .tuple #[planV (rdPlan bs) a c a2 c2, .int .i64 (rdPlE bs)] ∧ TsAt w.heap.size w' a (rdPlan bs).base.ts ∧ TsAt w.heap.size w' a2 (rdPlan bs).other.ts ∧ (rdPlan bs).base.ts.length ≤ 6 ∧ (rdPlan bs).other.ts.length ≤ 6 ∧ (0 ≤ (rdPlan bs).day ∧ (rdPlan bs).day ≤ 9223372036854775807)) ∧ Below w.heap.size w w'
theorem planRd_bad {w w' : World} {bs : List UInt8} (z : Int) (hz : z ≠ 0) (h : rdPlE bs = z) (B : Bs w w') : PlanRd w bs (.tuple #[.agg #[.int .i64 0, .int .i64 0, .int .i64 0, .int .i64 0, .int .i64 0, .int .i64 0, .slice none 0 0, .int .i64 0, .int .i64 0, .int .i64 0, .slice none 0 0], .int .i64 z]) w' := by
  have e : rdPlan bs = zeroPl := by unfold rdPlan; rw [if_neg (by rw [h]; exact hz)]
  unfold PlanRd
  rw [e, h]
  exact ⟨⟨none, none, 0, 0, rfl, Rws.nil, Rws.nil, by decide, by decide, by decide, by decide⟩, B⟩
theorem keepG_nil' (gs : List Nat) (w : World) : KeepG gs w w := fun _ _ _ => rfl
set_option maxRecDepth 20000 in
theorem read_new (a : Option Addr) (c : Nat) (bs : List UInt8) (w : World) (h : RowAt w a (bs.map bV)) (hl : bs.length ≤ 100000000) :
    Calls Try.prog 66 #[.slice a bs.length c] w fun r w' => ∃ v, r = .returned v ∧ PlanRd w bs v w' := by
  refine GTarB.read_calls a bs.length c w (PlanRd w bs) ?_
  unfold GTarB.read_vc
  refine newB (Bs.refl w) fun g w2 g0 sg n2 z2 b2 B2 => (cRead_any a c bs w2 (h.below B2 (Nat.le_refl _)) hl).mono ?_
  rintro r w3 ⟨gr, L, rfl, hR3, hF, b3⟩
  have B3 := B2.to b3
  have b3s := b3.size
  have hu := hR3.under
  refine ⟨keepG_below b3, _, rfl, newB B3 fun g2 w4 g02 sg2 n4 z4 b4 B4 => newB B4 fun g3 w5 g03 sg3 n5 z5 b5 B5 => ?_⟩
  have nL : ∀ x, w3.heap.size ≤ x → x ∉ L := fun x hx hm => by have := hu x hm; omega
  have gL : g ∉ L := fun hm => by have := hF g hm; omega
  have hFw : From w.heap.size L := fun k hk => by have := hF k hk; omega
  have R5 : RP w3 L w5 gr bs 0 := ((RP.start hR3).below b4).below b5
  have kg : ∀ x ∈ [g], x ∉ L := fun x hx => by rw [List.mem_singleton] at hx; subst hx; exact gL
  refine ⟨fun x wx => ∃ i : Nat, x = i ∧ i ≤ 3 ∧ RP w3 L wx gr (rd3 bs 0 i).1 (rd3 bs 0 i).2 ∧ Bk wx g2 #[up3 bs 0 i 0, up3 bs 0 i 1, up3 bs 0 i 2, .int .i64 0, .int .i64 0, .int .i64 0, .slice none 0 0, .int .i64 0, .int .i64 0, .int .i64 0, .slice none 0 0] 37 ∧ wx.heap[g3]? = w5.heap[g3]? ∧ w5.heap.size ≤ wx.heap.size, fun x _ => 3 - x.toNat, ⟨0, rfl, by omega, R5, Bk.keep (show Bk w4 g2 _ 37 from n4) (b5.block g2 (by omega)), rfl, by omega⟩, ?_⟩
  rintro x wx ⟨i, rfl, hi, hR, hB, h3, hsz⟩
  have hlen := rd3_len bs 0 i
  refine br_dec (fun hlt => ?_) fun hge => ?_
  · have hi3 : i < 3 := by omega
    refine ⟨by omega, by omega, some ⟨g2, i, none⟩, ?_, hR.uint 1099511627776 (by decide) (by decide) (by omega) kg fun w6 R6 f6 z6 => ⟨_, rfl, ?_⟩⟩
    · rw [Int.toNat_natCast, Nat.zero_add, Nat.mul_one, cell_of_row _ _ _ _ _ _ (h3.trans n5)]
      rcases lt3 hi3 with rfl | rfl | rfl <;> rfl
    have hB6 := hB.keep (f6.block g2 (by omega) (nL g2 (by omega)))
    refine stO_bk hB6 (by simp; omega) (fun x hx => by rw [List.mem_singleton] at hx; omega) fun w7 B7 f7 z7 => ?_
    rw [wr64 (by omega) (by omega)]
    refine ⟨⟨i + 1, by omega, by omega, ⟨R6.at'.fr f7 (fun k h1 h2 => by rw [List.mem_singleton] at h2; subst h2; exact nL _ (by omega) h1), R6.fr.trans f7 (fun k hk => by rw [List.mem_singleton] at hk; exact .inr (by omega)), R6.un⟩, ?_, ?_, by omega⟩, by dsimp only; omega⟩
    · have : (#[up3 bs 0 i 0, up3 bs 0 i 1, up3 bs 0 i 2, .int .i64 0, .int .i64 0, .int .i64 0, .slice none 0 0, .int .i64 0, .int .i64 0, .int .i64 0, .slice none 0 0] : Array Value).setIfInBounds i (.int .i64 (rdUint 1099511627776 (rd3 bs 0 i).1 (rd3 bs 0 i).2).1) = #[up3 bs 0 (i + 1) 0, up3 bs 0 (i + 1) 1, up3 bs 0 (i + 1) 2, .int .i64 0, .int .i64 0, .int .i64 0, .slice none 0 0, .int .i64 0, .int .i64 0, .int .i64 0, .slice none 0 0] := by
        rcases lt3 hi3 with rfl | rfl | rfl <;> rfl
      rw [← this]; exact B7
    · exact ((f7.block g3 (by omega) (by rw [List.mem_singleton]; omega)).trans (f6.block g3 (by omega) (nL g3 (by omega)))).trans h3
  obtain rfl : i = 3 := by omega
  have hE := rdPl_eq bs
  have v0 := rd3v_range bs 0 0
  have hup : ∀ j, j < 3 → up3 bs 0 3 j = .int .i64 (rd3v bs 0 j) := fun j hj => by unfold up3; rw [if_pos hj]
  rw [hup 0 (by omega), hup 1 (by omega), hup 2 (by omega)] at hB
  have hb1 := rdTar_bs (rd3 bs 0 3).1 (rd3 bs 0 3).2
  refine (take_new gr L _ _ wx hR.at' (by omega)).mono ?_
  rintro r w9 ⟨v, rfl, a1, c1, rfl, t1, R9, f9, l1⟩
  have z9 := f9.size
  have hb2 := rdTar_bs (rdTar (rd3 bs 0 3).1 (rd3 bs 0 3).2).2.1 (rdTar (rd3 bs 0 3).1 (rd3 bs 0 3).2).2.2
  generalize rdTar (rd3 bs 0 3).1 (rd3 bs 0 3).2 = q1 at *
  obtain ⟨T1, bs1, e1⟩ := q1
  dsimp only at *
  generalize rd3v bs 0 0 = d0 at *
  generalize rd3v bs 0 1 = d1 at *
  generalize rd3v bs 0 2 = d2 at *
  have R9' : RP w3 L w9 gr bs1 e1 := ⟨R9, hR.fr.trans f9 (Gr.refl _ _), hu⟩
  have hB9 := hB.keep (f9.block g2 (by omega) (nL g2 (by omega)))
  refine ⟨keepG_fr f9 kg, _, _, _, _, _, _, rfl, stO_bks hB9 (by simp) (fun x hx => by rw [List.mem_singleton] at hx; omega) fun w10 B10 f10 z10 => ?_⟩
  have R10 : RP w3 L w10 gr bs1 e1 := ⟨R9'.at'.fr f10 (fun k h1 h2 => by rw [List.mem_singleton] at h2; subst h2; exact nL _ (by omega) h1), R9'.fr.trans f10 (fun k hk => by rw [List.mem_singleton] at hk; exact .inr (by omega)), hu⟩
  have t10 : TsAt wx.heap.size w10 a1 T1.ts := t1.fr f10 (fun k hk => by rw [List.mem_singleton] at hk; omega)
  have fin : ∀ (wy : World) (P : Pl) (a2 : Option Addr) (c2 : Nat) (bs' : List UInt8) (e' : Int), RP w3 L wy gr bs' e' → bs'.length ≤ 100000000 → Bk wy g2 (plCellsV P a1 a2 c1 c2) 37 → TsAt wx.heap.size wy a1 P.base.ts → TsAt wx.heap.size wy a2 P.other.ts → P.base.ts.length ≤ 6 → P.other.ts.length ≤ 6 → (0 ≤ P.day ∧ P.day ≤ 9223372036854775807) → w5.heap.size ≤ wy.heap.size → rdPl bs = (P, bs', e') →
      Calls Try.prog 67 #[.pointer (some ⟨gr, 0, none⟩)] wy fun e_5 w_13 => KeepG [g] wy w_13 ∧
      ∃ (x35 : Int),
      e_5 = .returned (.int .i64 x35) ∧
      br (decide (x35 ≠ 0)) (
        ∀ w_14 : World, BoxSt g w_13 w_14 →
        PlanRd w bs (.tuple #[.agg #[.int .i64 0, .int .i64 0, .int .i64 0, .int .i64 0, .int .i64 0, .int .i64 0, .slice none 0 0, .int .i64 0, .int .i64 0, .int .i64 0, .slice none 0 0], .int .i64 2]) w_14
      ) (
        ∃ (x38_0 : Int) (x38_1 : Int) (x38_2 : Int) (x38_3 : Int) (x38_4 : Int) (x38_5 : Int) (a38_6 : Option Addr) (n38_6 : Nat) (c38_6 : Nat) (x38_7 : Int) (x38_8 : Int) (x38_9 : Int) (a38_10 : Option Addr) (n38_10 : Nat) (c38_10 : Nat),
        cellsAt w_13 g2 0 [.int .i64 x38_0, .int .i64 x38_1, .int .i64 x38_2, .int .i64 x38_3, .int .i64 x38_4, .int .i64 x38_5, .slice a38_6 n38_6 c38_6, .int .i64 x38_7, .int .i64 x38_8, .int .i64 x38_9, .slice a38_10 n38_10 c38_10] ∧
        Calls Try.prog 72 #[.agg #[.int .i64 x38_0, .int .i64 x38_1, .int .i64 x38_2, .int .i64 x38_3, .int .i64 x38_4, .int .i64 x38_5, .slice a38_6 n38_6 c38_6, .int .i64 x38_7, .int .i64 x38_8, .int .i64 x38_9, .slice a38_10 n38_10 c38_10]] w_13 fun e_6 w_15 => KeepG [g] w_13 w_15 ∧
        ∃ (x39 : Int),
        e_6 = .returned (.int .i64 x39) ∧
        br (decide (x39 ≠ 0)) (
          ∀ w_16 : World, BoxSt g w_15 w_16 →
          PlanRd w bs (.tuple #[.agg #[.int .i64 0, .int .i64 0, .int .i64 0, .int .i64 0, .int .i64 0, .int .i64 0, .slice none 0 0, .int .i64 0, .int .i64 0, .int .i64 0, .slice none 0 0], .int .i64 x39]) w_16
        ) (
          ∃ (x44_0 : Int) (x44_1 : Int) (x44_2 : Int) (x44_3 : Int) (x44_4 : Int) (x44_5 : Int) (a44_6 : Option Addr) (n44_6 : Nat) (c44_6 : Nat) (x44_7 : Int) (x44_8 : Int) (x44_9 : Int) (a44_10 : Option Addr) (n44_10 : Nat) (c44_10 : Nat),
          cellsAt w_15 g2 0 [.int .i64 x44_0, .int .i64 x44_1, .int .i64 x44_2, .int .i64 x44_3, .int .i64 x44_4, .int .i64 x44_5, .slice a44_6 n44_6 c44_6, .int .i64 x44_7, .int .i64 x44_8, .int .i64 x44_9, .slice a44_10 n44_10 c44_10] ∧
          ∀ w_17 : World, BoxSt g w_15 w_17 →
          PlanRd w bs (.tuple #[.agg #[.int .i64 x44_0, .int .i64 x44_1, .int .i64 x44_2, .int .i64 x44_3, .int .i64 x44_4, .int .i64 x44_5, .slice a44_6 n44_6 c44_6, .int .i64 x44_7, .int .i64 x44_8, .int .i64 x44_9, .slice a44_10 n44_10 c44_10], .int .i64 0]) w_17
        )
      ) := by
    intro wy P a2 c2 bs' e' Ry hly By ta tb la lb hd hsy hq
    have BB := Ry.old B3 hFw
    refine (rEnd_any gr bs' e' L wy Ry.at' hly).mono ?_
    rintro r w13 ⟨rfl, rfl⟩
    have hcc : ∀ {wz : World}, Bk wz g2 (plCellsV P a1 a2 c1 c2) 37 → cellsAt wz g2 0 [.int .i64 P.day, .int .i64 P.frm, .int .i64 P.til, .int .i64 P.base.grp, .int .i64 P.base.mode, .int .i64 P.base.block, .slice a1 P.base.ts.length c1, .int .i64 P.other.grp, .int .i64 P.other.mode, .int .i64 P.other.block, .slice a2 P.other.ts.length c2] := fun hz => cellsAt_row hz (by simp [plCellsV])
    have hEE : rdPlE bs = if rdEnd bs' e' ≠ 0 then 2 else planE P := by unfold rdPlE; rw [hq]
    refine ⟨keepG_nil' _ _, _, rfl, br_dec (fun k => boxB BB g0 fun w14 h14 B14 _ => planRd_bad 2 (by decide) (by rw [hEE, if_pos k]) B14) fun k => ⟨_, _, _, _, _, _, _, _, _, _, _, _, _, _, _, hcc By, ?_⟩⟩
    rw [if_neg k] at hEE
    have hpA : PlAt w13 P a1 a2 := ⟨ta.low (Nat.zero_le _), tb.low (Nat.zero_le _), by omega, by omega⟩
    refine callB BB (cplan_ret P a1 a2 c1 c2 w13 hpA (by omega) (by omega)) fun w15 b15 B15 => ⟨_, rfl, br_dec (fun k1 => boxB B15 g0 fun w16 h16 B16 _ => planRd_bad (planE P) k1 hEE B16) fun k1 => ⟨_, _, _, _, _, _, _, _, _, _, _, _, _, _, _, hcc (By.keep (b15.block g2 (by omega))), boxB B15 g0 fun w17 h17 B17 _ => ?_⟩⟩
    have hp0 : rdPlE bs = 0 := by rw [hEE]; exact Decidable.not_not.1 k1
    have hP : rdPlan bs = P := by unfold rdPlan; rw [if_pos hp0, hq]
    unfold PlanRd
    rw [hP, hp0]
    exact ⟨⟨a1, a2, c1, c2, rfl, ((ta.below b15).box h17 (by omega)).low (by omega), ((tb.below b15).box h17 (by omega)).low (by omega), la, lb, hd⟩, B17⟩
  have hset : (setL #[Value.int .i64 d0, .int .i64 d1, .int .i64 d2, .int .i64 0, .int .i64 0, .int .i64 0, .slice none 0 0, .int .i64 0, .int .i64 0, .int .i64 0, .slice none 0 0].toList 3 [.int .i64 T1.grp, .int .i64 T1.mode, .int .i64 T1.block, .slice a1 T1.ts.length c1]).toArray = #[Value.int .i64 d0, .int .i64 d1, .int .i64 d2, .int .i64 T1.grp, .int .i64 T1.mode, .int .i64 T1.block, .slice a1 T1.ts.length c1, .int .i64 0, .int .i64 0, .int .i64 0, .slice none 0 0] := rfl
  rw [hset] at B10
  refine ⟨d0, by rw [B10.cell]; rfl, br_dec (fun hd => ?_) fun hd => ?_⟩
  · rw [if_pos hd] at hE
    refine (take_new gr L _ _ w10 R10.at' (by omega)).mono ?_
    rintro r w11 ⟨v, rfl, a2, c2, rfl, t2, R11, f11, l2⟩
    have z11 := f11.size
    generalize rdTar bs1 e1 = q2 at *
    obtain ⟨T2, bs2, e2⟩ := q2
    dsimp only at *
    have B11 := B10.keep (f11.block g2 (by omega) (nL g2 (by omega)))
    have t11 := t10.fr f11 fun k hk => by have := hu k hk; omega
    refine ⟨keepG_fr f11 kg, _, _, _, _, _, _, rfl, stO_bks B11 (by simp) (fun x hx => by rw [List.mem_singleton] at hx; omega) fun w12 B12 f12 z12 => ?_⟩
    refine fin w12 ⟨d0, d1, d2, T1, T2⟩ a2 c2 bs2 e2 ⟨R11.fr f12 (fun k h1 h2 => by rw [List.mem_singleton] at h2; subst h2; exact nL _ (by omega) h1), (R10.fr.trans f11 (Gr.refl _ _)).trans f12 (fun k hk => by rw [List.mem_singleton] at hk; exact .inr (by omega)), hu⟩ (by omega) B12 (t11.fr f12 fun k hk => by rw [List.mem_singleton] at hk; omega) ((t2.fr f12 fun k hk => by rw [List.mem_singleton] at hk; omega).low (by omega)) l1 l2 v0 (by omega) hE
  · rw [if_neg hd] at hE
    exact fin w10 ⟨d0, d1, d2, T1, ⟨0, 0, 0, []⟩⟩ none 0 bs1 e1 R10 (by omega) B10 t10 Rws.nil l1 (by simp) v0 (by omega) hE
end Go.Proofs.Ytkggnbabnfhcpaa
end
section
/- A request is read: numbers; walked. -/
namespace Go.Proofs.Ytkggnbabnfhcpaa
open Go.RowKit
theorem RP.away {w0 w w1 : World} {L : List Nat} {g : Nat} {bs : List UInt8} {e : Int} (h : RP w0 L w g bs e) {M : List Nat} (f : Fr M w w1) (hn : ∀ k ∈ M, k ∉ L ∧ w0.heap.size ≤ k) : RP w0 L w1 g bs e :=
  ⟨h.at'.fr f (fun k h1 h2 => (hn k h2).1 h1), h.fr.trans f (fun k hk => .inr (hn k hk).2), h.un⟩
/-- Numbers that are stored in cells. -/
def setO : Array Value → List Nat → List Int → Array Value
  | cs, o :: os, v :: xs => setO (cs.setIfInBounds o (.int .i64 v)) os xs
  | cs, _, _ => cs
theorem setO_snoc : ∀ (os : List Nat) (xs : List Int) (cs : Array Value) (o : Nat) (v : Int), xs.length = os.length → setO cs (os ++ [o]) (xs ++ [v]) = (setO cs os xs).setIfInBounds o (.int .i64 v)
  | [], [], _, _, _, _ => rfl
  | [], x :: xs, _, _, _, h => by cases h
  | o' :: os, [], _, _, _, h => by cases h
  | o' :: os, x :: xs, cs, o, v, h => setO_snoc os xs (cs.setIfInBounds o' (.int .i64 x)) o v (by simpa using h)
theorem setO_size : ∀ (os : List Nat) (xs : List Int) (cs : Array Value), (setO cs os xs).size = cs.size
  | [], _, _ => rfl
  | o :: os, [], _ => rfl
  | o :: os, x :: xs, cs => by
    show (setO (cs.setIfInBounds o (.int .i64 x)) os xs).size = _
    rw [setO_size os xs, Array.size_setIfInBounds]
/-- A reader of requests and answers. -/
structure IRd (wB w : World) (L : List Nat) (gr gc : Nat) (bad : Bool) (bs : List UInt8) (e : Int) : Prop where
  rp : RP wB L w gc bs e
  r : Bk w gr #[.pointer (some ⟨gc, 0, none⟩), .bool bad] 96
  r0 : wB.heap.size ≤ gr
section
variable {wB w w1 : World} {L : List Nat} {gr gc x : Nat} {bad : Bool} {bs : List UInt8} {e : Int}
theorem IRd.low (h : IRd wB w L gr gc bad bs e) {k : Nat} (hk : wB.heap.size ≤ k) : k ∉ L := fun hm => by have := h.rp.un k hm; omega
theorem IRd.below (h : IRd wB w L gr gc bad bs e) (b : Below w.heap.size w w1) : IRd wB w1 L gr gc bad bs e := ⟨h.rp.below b, h.r.below b, h.r0⟩
theorem IRd.away (h : IRd wB w L gr gc bad bs e) {M : List Nat} (f : Fr M w w1) (hn : ∀ k ∈ M, wB.heap.size ≤ k ∧ k ≠ gr) : IRd wB w1 L gr gc bad bs e :=
  ⟨h.rp.away f fun k hk => ⟨h.low (hn k hk).1, (hn k hk).1⟩, h.r.fr f fun hm => (hn gr hm).2 rfl, h.r0⟩
theorem IRd.old {wb : World} (h : IRd wB w L gr gc bad bs e) (B : Bs wb wB) (hf : From wb.heap.size L) : Bs wb w := h.rp.old B hf
/-- Something was read. -/
theorem IRd.to {bs2 : List UInt8} {e2 : Int} (h : IRd wB w L gr gc bad bs e) (r : RdAt w1 L gc bs2 e2) (f : Fr L w w1) : IRd wB w1 L gr gc bad bs2 e2 :=
  ⟨⟨r, h.rp.fr.trans f (Gr.refl _ _), h.rp.un⟩, h.r.fr f (h.low h.r0), h.r0⟩
theorem IRd.uint (h : IRd wB w L gr gc bad bs e) {gs : List Nat} {R : Ending → World → Prop} (most : Int) (hm : most ≤ 9223372036854775807) (hm2 : 0 ≤ most) (hl : bs.length ≤ 100000000) (hg : ∀ k ∈ gs, k ∉ L)
    (k : ∀ w1, IRd wB w1 L gr gc bad (rdUint most bs e).2.1 (rdUint most bs e).2.2 → Fr L w w1 → R (.returned (.int .i64 (rdUint most bs e).1)) w1) :
    Calls Try.prog 34 #[.pointer (some ⟨gc, 0, none⟩), .int .i64 most] w fun r w1 => KeepG gs w w1 ∧ R r w1 :=
  (rUint_any gc most hm (by omega) bs e L w h.rp.at' hl).mono (by
    rintro r w1 ⟨rfl, h1, f1, _⟩
    exact ⟨keepG_fr f1 hg, k w1 (h.to h1 f1) f1⟩)
theorem IRd.flag {h0 : Bool} (h : IRd wB w L gr gc bad bs e) {gs : List Nat} (hg : ∀ k ∈ gs, k ≠ gr) (hgw : wB.heap.size ≤ gr) {K : World → Prop} (k : ∀ w1, IRd wB w1 L gr gc h0 bs e → Fr [gr] w w1 → w1.heap.size = w.heap.size → K w1) : stO gs w gr 1 [.bool h0] K :=
  stO_bk h.r (by simp) hg fun w1 b1 f1 z1 => k w1 ⟨h.rp.away f1 fun q hq => by rw [List.mem_singleton] at hq; subst hq; exact ⟨h.low hgw, hgw⟩, b1, h.r0⟩ f1 z1
end
theorem far_some : wfar ≤ 9223372036854775807 := by decide
set_option maxHeartbeats 400000 in
theorem take_any {wB w : World} {L : List Nat} {gr gc x : Nat} {bad : Bool} {bs : List UInt8} {e : Int} {a : Option Addr} {c : Nat} {os : List Nat} {cs : Array Value} {t : TypeId} (h : IRd wB w L gr gc bad bs e) (hp : Ptrs w a x os) (hpa : ∀ q, a = some q → wB.heap.size ≤ q.block) (hb : Bk w x cs t) (hx0 : wB.heap.size ≤ x) (hxr : x ≠ gr) (ht : t ≠ 112) (hos : ∀ o ∈ os, o < cs.size) (hl : bs.length ≤ 100000000) (hol : os.length ≤ 100) :
    Calls Try.prog 35 #[.pointer (some ⟨gr, 0, none⟩), .slice a os.length c] w fun r w' => r = .returned (.tuple #[]) ∧ IRd wB w' L gr gc bad (rdM pFar ⟨[], bs, e⟩ os.length).bs (rdM pFar ⟨[], bs, e⟩ os.length).e ∧ Bk w' x (setO cs os (rdM pFar ⟨[], bs, e⟩ os.length).xs) t ∧ Fr (x :: L) w w' := by
  refine (GWi.itake_calls (some ⟨gr, 0, none⟩) a os.length c w (fun v w' => v = .tuple #[] ∧ IRd wB w' L gr gc bad (rdM pFar ⟨[], bs, e⟩ os.length).bs (rdM pFar ⟨[], bs, e⟩ os.length).e ∧ Bk w' x (setO cs os (rdM pFar ⟨[], bs, e⟩ os.length).xs) t ∧ Fr (x :: L) w w') ?_).mono (by rintro r w' ⟨v, rfl, rfl, h⟩; exact ⟨rfl, h⟩)
  unfold GWi.itake_vc
  generalize hs0 : (⟨[], bs, e⟩ : RdM Int) = s0
  have hs0x : s0.xs = [] := by rw [← hs0]
  have hs0b : s0.bs.length ≤ 100000000 := by rw [← hs0]; exact hl
  refine ⟨fun y wx => ∃ i : Nat, y = i ∧ i ≤ os.length ∧ IRd wB wx L gr gc bad (rdM pFar s0 i).bs (rdM pFar s0 i).e ∧ Bk wx x (setO cs (os.take i) (rdM pFar s0 i).xs) t ∧ Fr (x :: L) w wx, fun y _ => (os.length - y).toNat,
    ⟨0, rfl, Nat.zero_le _, by rw [← hs0]; exact h, by rw [← hs0]; exact hb, Fr.refl _ _⟩, ?_⟩
  rintro y wx ⟨i, rfl, hi, hR, hB, hF⟩
  refine br_dec (fun h1 => ?_) fun h1 => by
    have e1 : i = os.length := by omega
    subst e1
    rw [List.take_length] at hB
    exact ⟨rfl, hR, hB, hF⟩
  have hi2 : i < os.length := by omega
  obtain ⟨p, rfl, hpb⟩ : ∃ p, a = some ⟨p, 0, none⟩ ∧ Bk w p (os.map fun o => Value.pointer (some ⟨x, o, none⟩)).toArray 112 := by
    rcases hp with e1 | h1
    · rw [e1] at hi2; simp at hi2
    · exact h1
  have hp0 : wB.heap.size ≤ p := hpa _ rfl
  have hpx : Bk wx p (os.map fun o => Value.pointer (some ⟨x, o, none⟩)).toArray 112 := hpb.fr hF fun hm => by
    rcases List.mem_cons.1 hm with e1 | hm
    · subst e1; exact (hb.ne hpb ht) rfl
    · exact h.low hp0 hm
  have hbl : (rdM pFar s0 i).bs.length ≤ 100000000 := Nat.le_trans (rdM_bs pFar s0 i) hs0b
  have hi1 : IntKind.i64.wrap ((i : Int) + 1) = ((i + 1 : Nat) : Int) := by rw [wr64 (by omega) (by omega)]; omega
  rw [hi1]
  refine withP_mk p 0 rfl ⟨by omega, by omega, some ⟨x, os[i], none⟩, by rw [hpx.cell]; simp [List.getElem?_eq_getElem hi2], withP_mk gr 0 rfl ⟨some ⟨gc, 0, none⟩, by rw [hR.r.cell]; rfl, hR.uint 4611686018427387904 (by decide) (by decide) hbl (fun k hk => by cases hk) fun w3 h3 f3 => ⟨_, rfl, withP_mk x os[i] rfl ?_⟩⟩⟩
  have hB3 := hB.fr f3 (h.low hx0)
  have hsz : os[i] < (setO cs (os.take i) (rdM pFar s0 i).xs).size := by rw [setO_size]; exact hos _ (List.getElem_mem hi2)
  refine stO_bk hB3 hsz (fun q hq => by cases hq) fun w4 b4 f4 z4 => ⟨⟨i + 1, rfl, hi2, h3.away f4 (fun k hk => by rw [List.mem_singleton] at hk; subst hk; exact ⟨hx0, hxr⟩), ?_, ?_⟩, by dsimp only; omega⟩
  · rw [List.take_add_one, List.getElem?_eq_getElem hi2]
    show Bk w4 x (setO cs (os.take i ++ [os[i]]) ((rdM pFar s0 i).xs ++ [_])) t
    rw [setO_snoc _ _ _ _ _ (by rw [rdM_len, hs0x, List.length_take, List.length_nil]; omega)]
    exact b4
  · exact (hF.trans (f3.mono fun k hk => .inl (List.mem_cons_of_mem _ hk)) (Gr.refl _ _)).trans (f4.mono fun k hk => by rw [List.mem_singleton] at hk; subst hk; exact .inl List.mem_cons_self) (Gr.refl _ _)
theorem right_any {wB w : World} {L : List Nat} {gr gc : Nat} {bad : Bool} {bs : List UInt8} {e : Int} (h : IRd wB w L gr gc bad bs e) (hl : bs.length ≤ 100000000) : Calls Try.prog 37 #[.pointer (some ⟨gr, 0, none⟩)] w (Ret (.bool (decide (bad = false ∧ rdEnd bs e = 0))) w) := by
  refine ret_in (GWi.iright_calls (some ⟨gr, 0, none⟩) w (fun u w' => u = .bool (decide (bad = false ∧ rdEnd bs e = 0)) ∧ Below w.heap.size w w') ?_)
  unfold GWi.iright_vc
  refine withP_mk gr 0 rfl ⟨bad, by rw [h.r.cell]; rfl, ?_⟩
  cases bad
  · refine br_t rfl (withP_mk gr 0 rfl ⟨some ⟨gc, 0, none⟩, by rw [h.r.cell]; rfl, (rEnd_any gc bs e L w h.rp.at' hl).mono ?_⟩)
    rintro r w2 ⟨rfl, rfl⟩
    exact ⟨keepG_nil _ _, _, rfl, by simp, Below.refl _ _⟩
  · exact br_f rfl ⟨by simp, Below.refl _ _⟩
end Go.Proofs.Ytkggnbabnfhcpaa
end
section
/- A request is read: what its kind has behind its numbers; walked. -/
namespace Go.Proofs.Ytkggnbabnfhcpaa
open Go.RowKit
def updL (ns : Nat → Int) : List Nat → List Int → Nat → Int
  | o :: os, v :: xs => updL (fun j => if j = o then v else ns j) os xs
  | _, _ => ns
theorem updL_eq : ∀ (os : List Nat) (xs : List Int) (ns : Nat → Int) (j : Nat), os.Nodup → xs.length = os.length → updL ns os xs j = if j ∈ os then nsOf os xs j else ns j
  | [], [], ns, j, _, _ => by simp [updL]
  | [], x :: xs, _, _, _, h => by cases h
  | o :: os, [], _, _, _, h => by cases h
  | o :: os, x :: xs, ns, j, hn, h => by
    rw [List.nodup_cons] at hn
    show updL (fun j => if j = o then x else ns j) os xs j = if j ∈ o :: os then (if j = o then x else nsOf os xs j) else ns j
    rw [updL_eq os xs _ j hn.2 (by simpa using h)]
    by_cases h1 : j ∈ os
    · rw [if_pos h1, if_pos (List.mem_cons_of_mem _ h1), if_neg (fun e : j = o => hn.1 (e ▸ h1))]
    · rw [if_neg h1]
      by_cases h2 : j = o
      · rw [if_pos h2, if_pos (by rw [h2]; exact List.mem_cons_self), if_pos h2]
      · rw [if_neg h2, if_neg (fun e => (List.mem_cons.1 e).elim h2 h1)]
theorem nsOf_out : ∀ (os : List Nat) (xs : List Int) (j : Nat), j ∉ os → nsOf os xs j = 0
  | [], _, _, _ => rfl
  | o :: os, [], _, _ => rfl
  | o :: os, x :: xs, j, h => by
    show (if j = o then x else nsOf os xs j) = 0
    rw [if_neg (fun e => h (by rw [e]; exact List.mem_cons_self)), nsOf_out os xs j (fun e => h (List.mem_cons_of_mem _ e))]
theorem updL_zero (os : List Nat) (xs : List Int) (hn : os.Nodup) (h : xs.length = os.length) : updL (fun _ => 0) os xs = nsOf os xs := by
  funext j
  rw [updL_eq os xs _ j hn h]
  by_cases hj : j ∈ os
  · rw [if_pos hj]
  · rw [if_neg hj, nsOf_out os xs j hj]
theorem rq_set1 (q : Rq) (a : RqA) {o : Nat} (v : Int) (ho : 1 ≤ o ∧ o ≤ 11) : (rqCells q a).setIfInBounds o (.int .i64 v) = rqCells { q with ns := fun j => if j = o then v else q.ns j } a := by
  have : o = 1 ∨ o = 2 ∨ o = 3 ∨ o = 4 ∨ o = 5 ∨ o = 6 ∨ o = 7 ∨ o = 8 ∨ o = 9 ∨ o = 10 ∨ o = 11 := by omega
  rcases this with rfl | rfl | rfl | rfl | rfl | rfl | rfl | rfl | rfl | rfl | rfl <;> rfl
theorem rq_setO : ∀ (os : List Nat) (xs : List Int) (q : Rq) (a : RqA), (∀ o ∈ os, 1 ≤ o ∧ o ≤ 11) → setO (rqCells q a) os xs = rqCells { q with ns := updL q.ns os xs } a
  | [], xs, q, a, _ => by cases xs <;> rfl
  | o :: os, [], q, a, _ => rfl
  | o :: os, x :: xs, q, a, h => by
    show setO ((rqCells q a).setIfInBounds o (.int .i64 x)) os xs = _
    rw [rq_set1 q a x (h o List.mem_cons_self), rq_setO os xs _ a fun o' ho' => h o' (List.mem_cons_of_mem _ ho')]
    rfl
/-- What a kind takes of an item. -/
theorem it_take (k : Int) (bs : List UInt8) (e : Int) : setO #[.int .i64 0, .int .i64 0, .int .i64 0] (itO k) (rdM pFar ⟨[], bs, e⟩ (itO k).length).xs = (itC ((pIt k).rd bs e).1).toArray ∧ (rdM pFar ⟨[], bs, e⟩ (itO k).length).bs = ((pIt k).rd bs e).2.1 ∧ (rdM pFar ⟨[], bs, e⟩ (itO k).length).e = ((pIt k).rd bs e).2.2 := by
  unfold itO pIt
  by_cases h1 : k = 1
  · rw [if_pos h1, if_pos h1]; exact ⟨rfl, rfl, rfl⟩
  · rw [if_neg h1, if_neg h1]
    by_cases h2 : k = 2
    · rw [if_pos h2, if_pos h2]; exact ⟨rfl, rfl, rfl⟩
    · rw [if_neg h2, if_neg h2]; exact ⟨rfl, rfl, rfl⟩
section
variable {wB w : World} {L : List Nat} {gr gc x : Nat} {bs : List UInt8} {e : Int} {q : Rq} {a : RqA}
theorem uint_upto {most : Int} (h : 0 ≤ most) : 0 ≤ (rdUint most bs e).1 ∧ (rdUint most bs e).1 ≤ most := ⟨(rdUint_range most bs e).1, uint_le h⟩
theorem rrest_items (h : IRd wB w L gr gc false bs e) (hb : Bk w x (rqCells q a) 39) (hx0 : wB.heap.size ≤ x) (hqi : q.items = []) (ha : a.ia = none ∧ a.ic = 0) (hl : bs.length ≤ 100000) {K : Value → World → Prop}
    (k : ∀ w' ia ic, IRd wB w' L gr gc false ((pItems q.k).rd bs e).2.1 ((pItems q.k).rd bs e).2.2 → Bk w' x (rqCells { q with items := ((pItems q.k).rd bs e).1 } { a with ia := ia, ic := ic }) 39 → ItsAt w.heap.size w' ia ((pItems q.k).rd bs e).1 → ((pItems q.k).rd bs e).1.length ≤ 4 → Fr (x :: L) w w' → K (.tuple #[]) w') :
    GWi.irrest_k1 K (some ⟨gr, 0, none⟩) (some ⟨x, 0, none⟩) w := by
  unfold GWi.irrest_k1
  have hxr : x ≠ gr := hb.ne h.r (by decide)
  refine withP_mk gr 0 rfl ⟨some ⟨gc, 0, none⟩, by rw [h.r.cell]; rfl, h.uint 4 (by decide) (by decide) (by omega) (fun k hk => by cases hk) fun w3 h3 f3 => ⟨_, rfl, ?_⟩⟩
  have hn := uint_upto (bs := bs) (e := e) (most := 4) (by decide)
  have hb3 := hb.fr f3 (h.low hx0)
  have hlen := rdLenU 4 bs e
  have e1 : (pItems q.k).rd bs e = ((rdM (pIt q.k) ⟨[], (rdUint 4 bs e).2.1, (rdUint 4 bs e).2.2⟩ (rdUint 4 bs e).1.toNat).xs, (rdM (pIt q.k) ⟨[], (rdUint 4 bs e).2.1, (rdUint 4 bs e).2.2⟩ (rdUint 4 bs e).1.toNat).bs, (rdM (pIt q.k) ⟨[], (rdUint 4 bs e).2.1, (rdUint 4 bs e).2.2⟩ (rdUint 4 bs e).1.toNat).e) := rfl
  rw [e1] at k
  have h3 : IRd wB w3 L gr gc false (⟨[], (rdUint 4 bs e).2.1, (rdUint 4 bs e).2.2⟩ : RdM It).bs (⟨[], (rdUint 4 bs e).2.1, (rdUint 4 bs e).2.2⟩ : RdM It).e := h3
  have hs0x : (⟨[], (rdUint 4 bs e).2.1, (rdUint 4 bs e).2.2⟩ : RdM It).xs = [] := rfl
  have hs0b : (⟨[], (rdUint 4 bs e).2.1, (rdUint 4 bs e).2.2⟩ : RdM It).bs.length ≤ 100000 := Nat.le_trans hlen hl
  generalize (⟨[], (rdUint 4 bs e).2.1, (rdUint 4 bs e).2.2⟩ : RdM It) = s0 at *
  generalize hnn : (rdUint 4 bs e).1 = n at *
  dsimp only at k
  have xsl : ∀ i, (rdM (pIt q.k) s0 i).xs.length = i := fun i => by rw [rdM_len, hs0x]; simp
  refine ⟨fun y wx => ∃ (i : Nat) (ia : Option Addr) (ic : Nat), y = i ∧ (i : Int) ≤ n ∧ IRd wB wx L gr gc false (rdM (pIt q.k) s0 i).bs (rdM (pIt q.k) s0 i).e ∧ Bk wx x (rqCells { q with items := (rdM (pIt q.k) s0 i).xs } { a with ia := ia, ic := ic }) 39 ∧ Own wx w.heap.size 83 3 (.slice ia i ic) i ((rdM (pIt q.k) s0 i).xs.flatMap itC) ∧ Fr (x :: L) w wx, fun y _ => (n - y).toNat,
    ⟨0, none, 0, rfl, by omega, h3, ?_, ?_, f3.mono fun k hk => .inl (List.mem_cons_of_mem _ hk)⟩, ?_⟩
  · have : rqCells q a = rqCells { q with items := (rdM (pIt q.k) s0 0).xs } { a with ia := none, ic := 0 } := by
      unfold rqCells
      dsimp only
      rw [hqi, ha.1, ha.2, xsl]
      rfl
    rw [← this]
    exact hb3
  · rw [List.length_eq_zero_iff.1 (xsl 0)]
    exact Own.nil _ _ _ _
  rintro y wx ⟨i, ia, ic, rfl, hi, hR, hB, hO, hF⟩
  refine br_dec (fun h1 => ?_) fun h1 => by
    have : i = n.toNat := by omega
    subst this
    exact k wx ia ic hR hB (Rws.ofOwn (by omega) itC_len hO) (by rw [xsl]; omega) hF
  have hwB := h.rp.fr.size
  have hRl := hR.rp.fr.size
  have Bx : Bs wx wx := Bs.refl _
  have hi1 : IntKind.i64.wrap ((i : Int) + 1) = ((i + 1 : Nat) : Int) := by rw [wr64 (by omega) (by omega)]; omega
  rw [hi1]
  refine newB Bx fun g3 w5 g30 sg5 n5 z5 b5 B5 => ?_
  have hR5 := hR.below b5
  have hB5 := hB.below b5
  have hO5 := hO.below b5 (Nat.le_refl _)
  refine withP_mk x 0 rfl ⟨q.k, by rw [hB5.cell]; rfl, (numi_any (x := g3) (k := q.k)).mono ?_⟩
  rintro r w6 ⟨a6, c6, rfl, p6, pn6, b6⟩
  have g3n : (show Bk w5 g3 #[.int .i64 0, .int .i64 0, .int .i64 0] 83 from n5) = n5 := rfl
  have k5 : Bk w5 g3 #[.int .i64 0, .int .i64 0, .int .i64 0] 83 := n5
  have k6 := k5.below b6
  have hR6 := hR5.below b6
  have hB6 := hB5.below b6
  have hO6 := hO5.below b6 (Nat.le_refl _)
  have hg3r : g3 ≠ gr := fun e => by have := hR.r.lt; omega
  have hg3x : g3 ≠ x := fun e => by have := hB.lt; omega
  have hp6 : ∀ q', a6 = some q' → wB.heap.size ≤ q'.block := fun q' hq' => by have := pn6 q' hq'; have := b5.size; omega
  have hbl : (rdM (pIt q.k) s0 i).bs.length ≤ 100000 := Nat.le_trans (rdM_bs _ _ _) hs0b
  refine ⟨keepG_nil _ _, a6, _, c6, rfl, (take_any hR6 p6 hp6 k6 (by omega) hg3r (by decide) (fun o ho => ?_) (by omega) (by have := itO_len q.k; omega)).mono ?_⟩
  · have : o = 0 ∨ o = 1 ∨ o = 2 := by
      unfold itO at ho
      repeat' split at ho
      all_goals (simp only [List.mem_cons, List.not_mem_nil, or_false] at ho; omega)
    show o < 3
    omega
  rintro r w7 ⟨rfl, hR7, k7, f7⟩
  obtain ⟨t1, t2, t3⟩ := it_take q.k (rdM (pIt q.k) s0 i).bs (rdM (pIt q.k) s0 i).e
  rw [t2, t3] at hR7
  rw [t1] at k7
  have hB7 := hB6.fr f7 fun hm => by
    rcases List.mem_cons.1 hm with e0 | hm
    · exact hg3x e0.symm
    · exact h.low hx0 hm
  have hO7 : Own w7 w.heap.size 83 3 (.slice ia i ic) i ((rdM (pIt q.k) s0 i).xs.flatMap itC) := hO6.keep fun k hk => f7.block k (hO6.lt k hk).2 fun hm => by
    rcases List.mem_cons.1 hm with e0 | hm
    · have := (hO.lt k hk).2; omega
    · exact h.low (Nat.le_trans hwB (hO6.lt k hk).1) hm
  refine ⟨keepG_nil _ _, rfl, drewB (Bs.refl w7) fun w8 b8 B8 e8 => withP_mk x 0 rfl ⟨ia, i, ic, by rw [(hB7.below b8).cell]; exact congrArg (fun n => some (Value.slice ia n ic)) (xsl i), _, _, _, Bk.cells (k7.below b8) 0 rfl, ?_⟩⟩
  refine newB (Bs.to (Bs.refl w7) b8) fun g4 w9 g40 sg9 n9 z9 b9 B9 => ?_
  have hB9 := (hB7.below b8).below b9
  have hO9 := (hO7.below b8 (Nat.le_refl _)).below b9 (Nat.le_refl _)
  have hR9 := (hR7.below b8).below b9
  have z7 := f7.size
  have z6 := b6.size
  have zb := b5.size
  have z8 := b8.size
  have z90 := b9.size
  refine ⟨by rw [hB9.cell]; exact congrArg (fun n => some (Value.slice ia n ic)) (xsl i), ?_⟩
  refine ⟨1, _, itC ((pIt q.k).rd (rdM (pIt q.k) s0 i).bs (rdM (pIt q.k) s0 i).e).1, hO9.base_le fun _ _ => Nat.zero_le _, src_block (cs := itC ((pIt q.k).rd (rdM (pIt q.k) s0 i).bs (rdM (pIt q.k) s0 i).e).1) Try.underlying36 n9 rfl rfl, by unfold maxLen; omega, by omega, (fun g hg => by cases hg), fun a10 c10 w10 o10 g10 or10 _ => ?_⟩
  have hF7 : Fr (x :: L) w w7 := (hF.trans (Fr.ofBelow (L := x :: L) (b5.trans (b6.mono b5.size))) (Gr.refl _ _)).trans f7 (fun k hk => by
    rcases List.mem_cons.1 hk with rfl | hk
    · exact .inr (by have := hF.size; omega)
    · exact .inl (List.mem_cons_of_mem _ hk))
  have hF9 : Fr (x :: L) w w9 := hF7.trans (Fr.ofBelow (L := x :: L) (b8.trans (b9.mono b8.size))) (Gr.refl _ _)
  have hne : ∀ {q' : Nat} {cs : Array Value} {t : TypeId}, Bk w9 q' cs t → t ≠ 83 → (Value.slice ia i ic).ownBlock ≠ some q' := fun hq ht => own_far2 hq hO9 ht
  have hB10 : Bk w10 x _ 39 := hB9.keep (g10.block x hB9.lt fun e0 => hne hB9 (by decide) e0.symm)
  have fo : Fr (Value.slice ia i ic).ownBlock.toList w9 w10 := (Fr.refl _ w9).grown g10 fun k hk => .inl (by simp [hk])
  have hR10 := hR9.away fo fun k hk => by
    have hk : (Value.slice ia i ic).ownBlock = some k := by simpa using hk
    exact ⟨Nat.le_trans hwB (hO9.lt k hk).1, fun e0 => hne hR9.r (by decide) (e0 ▸ hk)⟩
  have o10' : Own w10 w.heap.size 83 3 (.slice a10 (i + 1) c10) (i + 1) ((rdM (pIt q.k) s0 (i + 1)).xs.flatMap itC) := by
    show Own w10 w.heap.size 83 3 (.slice a10 (i + 1) c10) (i + 1) (((rdM (pIt q.k) s0 i).xs ++ [((pIt q.k).rd (rdM (pIt q.k) s0 i).bs (rdM (pIt q.k) s0 i).e).1]).flatMap itC)
    rw [List.flatMap_append, List.flatMap_cons, List.flatMap_nil, List.append_nil]
    exact o10.base_le fun k hk => by
      rcases or10 with h' | ⟨g', h', h''⟩
      · exact (hO9.lt k (h' ▸ hk)).1
      · rw [h'] at hk; injection hk with hk; have := hF9.size; omega
  refine withP_mk x 0 rfl (stO_bk hB10 (i := 12) (by show 12 < 25; omega) (fun g hg => by cases hg) fun w11 b11 f11 z11 => ⟨⟨i + 1, a10, c10, rfl, by omega, hR10.away f11 (fun k hk => by rw [List.mem_singleton] at hk; subst hk; exact ⟨hx0, hxr⟩), ?_, o10'.keep (fun k hk => f11.block k (o10'.lt k hk).2 (by rw [List.mem_singleton]; rintro rfl; exact own_far2 hB10 o10' (by decide) hk)), ?_⟩, by dsimp only; omega⟩)
  · have : (rqCells { q with items := (rdM (pIt q.k) s0 i).xs } { a with ia := ia, ic := ic }).setIfInBounds 12 (.slice a10 (i + 1) c10) = rqCells { q with items := (rdM (pIt q.k) s0 (i + 1)).xs } { a with ia := a10, ic := c10 } := by
      have e0 : (rdM (pIt q.k) s0 (i + 1)).xs.length = i + 1 := xsl (i + 1)
      unfold rqCells
      dsimp only
      rw [e0]
      rfl
    rw [← this]
    exact b11
  · exact (hF9.grown g10 fun k hk => .inr (hO9.lt k hk).1).trans f11 fun k hk => by rw [List.mem_singleton] at hk; subst hk; exact .inl List.mem_cons_self
end
end Go.Proofs.Ytkggnbabnfhcpaa
end
section
/- A request is read, wholly; walked. -/
namespace Go.Proofs.Ytkggnbabnfhcpaa
open Go.RowKit
def rqRest (q : Rq) (r : RestR) : Rq := ⟨q.k, fun j => if j = 9 ∧ hasLim q.k then r.lim else q.ns j, r.items, r.plan, r.carry⟩
def noA : RqA := ⟨none, 0, none, 0, none, 0, none, 0⟩
theorem zeroPl_at (w : World) : PlAt w zeroPl none none := ⟨.inl rfl, .inl rfl, by decide, by decide⟩
/-- A request's rows lie from a block on. -/
structure RqN (n0 : Nat) (w : World) (q : Rq) (a : RqA) : Prop where
  items : ItsAt n0 w a.ia q.items
  pb : TsAt n0 w a.pa q.plan.base.ts
  po : TsAt n0 w a.qa q.plan.other.ts
  lb : q.plan.base.ts.length ≤ 1000
  lo : q.plan.other.ts.length ≤ 1000
  carry : RowAt w a.ca (q.carry.map iV)
  cn : ∀ k, a.ca = some k → n0 ≤ k.block
  il : q.items.length ≤ 100
  cl : q.carry.length ≤ 100
  day : -9223372036854775808 ≤ q.plan.day ∧ q.plan.day ≤ 9223372036854775807
theorem RqN.to {n0 : Nat} {w : World} {q : Rq} {a : RqA} (h : RqN n0 w q a) : RqIn w q a := ⟨h.items.low (Nat.zero_le _), ⟨h.pb.low (Nat.zero_le _), h.po.low (Nat.zero_le _), h.lb, h.lo⟩, h.carry, h.il, h.cl, h.day⟩
theorem RqN.below {n0 : Nat} {w w1 : World} {q : Rq} {a : RqA} (h : RqN n0 w q a) (b : Below w.heap.size w w1) : RqN n0 w1 q a := ⟨h.items.below b, h.pb.below b, h.po.below b, h.lb, h.lo, h.carry.below b (Nat.le_refl _), h.cn, h.il, h.cl, h.day⟩
theorem RowAt.boxed {w w1 : World} {a : Option Addr} {vs : List Value} {g : Nat} (h : RowAt w a vs) (x : BoxSt g w w1) (hn : ∀ k, a = some k → k.block ≠ g) : RowAt w1 a vs := by
  rcases h with h | ⟨b, off, ha, h⟩
  · exact .inl h
  · refine .inr ⟨b, off, ha, fun i v hv => ?_⟩
    have hc := h i v hv
    rw [cell_keep (x.1.block b (block_lt_of_cell hc) (by rw [List.mem_singleton]; exact hn _ ha))]
    exact hc
theorem RqN.box {n0 g : Nat} {w w1 : World} {q : Rq} {a : RqA} (h : RqN n0 w q a) (x : BoxSt g w w1) (hg : g < n0) : RqN n0 w1 q a :=
  ⟨h.items.box x hg, h.pb.box x hg, h.po.box x hg, h.lb, h.lo, h.carry.boxed x (fun k hk => by have := h.cn k hk; omega), h.cn, h.il, h.cl, h.day⟩
theorem RqN.none (n0 : Nat) (w : World) (q : Rq) (h : q.items = [] ∧ q.plan = zeroPl ∧ q.carry = []) : RqN n0 w q noA :=
  ⟨.inl h.1, .inl (by rw [h.2.1]; rfl), .inl (by rw [h.2.1]; rfl), by rw [h.2.1]; decide, by rw [h.2.1]; decide, .inl (by rw [h.2.2]; rfl), (fun k hk => by cases hk), by rw [h.1]; simp, by rw [h.2.2]; simp, by rw [h.2.1]; decide⟩
def RRest (wB w : World) (L : List Nat) (gr gc x : Nat) (q : Rq) (bs : List UInt8) (e : Int) (v : Value) (w' : World) : Prop :=
  ∃ a', v = .tuple #[] ∧ IRd wB w' L gr gc (rdRest q.k bs e).bad (rdRest q.k bs e).bs (rdRest q.k bs e).e ∧ Bk w' x (rqCells (rqRest q (rdRest q.k bs e)) a') 39 ∧ RqN w.heap.size w' (rqRest q (rdRest q.k bs e)) a' ∧ Fr (x :: gr :: L) w w'
theorem ns_lim {q : Rq} {z : Int} (h : hasLim q.k) : (fun j => if j = 9 ∧ hasLim q.k then z else q.ns j) = fun j => if j = 9 then z else q.ns j := by
  funext j
  by_cases hj : j = 9
  · rw [if_pos ⟨hj, h⟩, if_pos hj]
  · rw [if_neg (fun c => hj c.1), if_neg hj]
theorem ns_nolim {q : Rq} {z : Int} (h : ¬ hasLim q.k) : (fun j => if j = 9 ∧ hasLim q.k then z else q.ns j) = q.ns := by
  funext j
  rw [if_neg (fun c => h c.2)]
section
variable {wB w : World} {L : List Nat} {gr gc x : Nat} {bs : List UInt8} {e : Int} {q : Rq}
theorem rrest_lim (h : IRd wB w L gr gc false bs e) (hb : Bk w x (rqCells q noA) 39) (hx0 : wB.heap.size ≤ x) (hq : q.items = [] ∧ q.plan = zeroPl ∧ q.carry = []) (hl : bs.length ≤ 100000) (hl9 : hasLim q.k) {K : Value → World → Prop} (hK : ∀ w', RRest wB w L gr gc x q bs e (.tuple #[]) w' → K (.tuple #[]) w') :
    withP (some ⟨gr, 0, none⟩) fun g45 o45 => ∃ (p47 : Option Addr), w.cell? ⟨g45, o45, none⟩ = some (.pointer p47) ∧ Calls Try.prog 65 #[.pointer p47] w fun e_7 w_21 => KeepG [] w w_21 ∧ ∃ (x48 : Int), e_7 = .returned (.int .i64 x48) ∧
      withP (some ⟨x, 0, none⟩) fun g49 o49 => stO [] w_21 g49 (o49 + 9) [.int .i64 x48] fun w_22 => withP (some ⟨x, 0, none⟩) fun g53 o53 => ∃ (x55 : Int), w_22.cell? ⟨g53, o53 + 9, none⟩ = some (.int .i64 x55) ∧ br (decide (x55 < (-1)))
        (withP (some ⟨gr, 0, none⟩) fun g64 o64 => stO [] w_22 g64 (o64 + 1) [.bool true] fun w_23 => K (.tuple #[]) w_23)
        (withP (some ⟨x, 0, none⟩) fun g59 o59 => ∃ (x61 : Int), w_22.cell? ⟨g59, o59 + 9, none⟩ = some (.int .i64 x61) ∧ withP (some ⟨gr, 0, none⟩) fun g64 o64 => stO [] w_22 g64 (o64 + 1) [.bool (decide (x61 > 4611686018427387904))] fun w_24 => K (.tuple #[]) w_24) := by
  have hxr : x ≠ gr := hb.ne h.r (by decide)
  refine withP_mk gr 0 rfl ⟨some ⟨gc, 0, none⟩, by rw [h.r.cell]; rfl, (rInt_any2 gc bs e L w h.rp.at' (by omega)).mono ?_⟩
  rintro r w2 ⟨rfl, k2, f2, _⟩
  have h2 := h.to k2 f2
  have hb2 := hb.fr f2 (h.low hx0)
  refine ⟨keepG_nil _ _, _, rfl, withP_mk x 0 rfl (stO_bk hb2 (i := 9) (by show 9 < 25; omega) (fun q hq => by cases hq) fun w3 b3 f3 z3 => ?_)⟩
  rw [rq_set1 q noA (o := 9) _ ⟨by omega, by omega⟩] at b3
  have h3 := h2.away f3 fun k hk => by rw [List.mem_singleton] at hk; subst hk; exact ⟨hx0, hxr⟩
  have c9 : w3.cell? ⟨x, 0 + 9, none⟩ = some (.int .i64 (rdInt bs e).1) := by rw [b3.cell]; rfl
  have F3 : Fr (x :: gr :: L) w w3 := (f2.mono fun k hk => .inl (List.mem_cons_of_mem _ (List.mem_cons_of_mem _ hk))).trans f3 fun k hk => by rw [List.mem_singleton] at hk; subst hk; exact .inl List.mem_cons_self
  have fin : ∀ (b : Bool), b = decide (¬ limOk (rdInt bs e).1) → stO [] w3 gr 1 [.bool b] fun w4 => K (.tuple #[]) w4 := fun b hbb => by
    subst hbb
    refine h3.flag (fun q hq => by cases hq) h.r0 fun w4 h4 f4 z4 => hK w4 ⟨noA, rfl, ?_, ?_, ?_, F3.trans f4 fun k hk => ?_⟩
    · rw [rdRest_lim hl9]; exact h4
    · rw [rdRest_lim hl9]
      have hb4 := b3.fr1 f4 hxr
      unfold rqRest
      rw [ns_lim hl9]
      dsimp only
      rw [← hq.1, ← hq.2.1, ← hq.2.2]
      exact hb4
    · rw [rdRest_lim hl9]
      exact RqN.none _ _ _ ⟨rfl, rfl, rfl⟩
    · rw [List.mem_singleton] at hk; subst hk; exact .inl (List.mem_cons_of_mem _ List.mem_cons_self)
  refine withP_mk x 0 rfl ⟨_, c9, br_dec (fun h1 => ?_) fun h1 => ?_⟩
  · exact withP_mk gr 0 rfl (fin true (decide_eq_true (p := ¬ limOk (rdInt bs e).1) (fun c => by have := c.1; omega)).symm)
  · refine withP_mk x 0 rfl ⟨_, c9, withP_mk gr 0 rfl (fin _ ?_)⟩
    apply Bool.eq_iff_iff.2
    rw [decide_eq_true_iff, decide_eq_true_iff]
    unfold limOk wfar
    omega
set_option maxHeartbeats 400000 in
theorem rrest_plan (h : IRd wB w L gr gc false bs e) (hb : Bk w x (rqCells q noA) 39) (hx0 : wB.heap.size ≤ x) (hq : q.items = [] ∧ q.plan = zeroPl ∧ q.carry = []) (hl : bs.length ≤ 100000) (h11 : q.k = 11) {K : Value → World → Prop} (hK : ∀ w', RRest wB w L gr gc x q bs e (.tuple #[]) w' → K (.tuple #[]) w') :
    ∀ w2 ts, T1 w L gc (rdText 1024 bs e).1 (rdText 1024 bs e).2.1 (rdText 1024 bs e).2.2 (.returned ts) w2 → ∃ a n c, ts = .slice a n c ∧ ∀ (pl : Value) w3, PlanRd w2 (rdText 1024 bs e).1 pl w3 → ∃ a1 a2 c1 c2, pl = .tuple #[planV (rdPlan (rdText 1024 bs e).1) a1 c1 a2 c2, .int .i64 (rdPlE (rdText 1024 bs e).1)] ∧ RowAt w2 a ((rdText 1024 bs e).1.map bV) ∧ n = (rdText 1024 bs e).1.length ∧
      ∀ (o : Obj), newO w3 o fun g5 w31 => ∀ w32, BoxSt g5 w31 w32 → stO [g5] w32 x 13 [.int .i64 (rdPlan (rdText 1024 bs e).1).day, .int .i64 (rdPlan (rdText 1024 bs e).1).frm, .int .i64 (rdPlan (rdText 1024 bs e).1).til, .int .i64 (rdPlan (rdText 1024 bs e).1).base.grp, .int .i64 (rdPlan (rdText 1024 bs e).1).base.mode, .int .i64 (rdPlan (rdText 1024 bs e).1).base.block, .slice a1 (rdPlan (rdText 1024 bs e).1).base.ts.length c1, .int .i64 (rdPlan (rdText 1024 bs e).1).other.grp, .int .i64 (rdPlan (rdText 1024 bs e).1).other.mode, .int .i64 (rdPlan (rdText 1024 bs e).1).other.block, .slice a2 (rdPlan (rdText 1024 bs e).1).other.ts.length c2] fun w33 =>
        stO [g5] w33 gr 1 [.bool (decide (rdPlE (rdText 1024 bs e).1 ≠ 0))] fun w34 => K (.tuple #[]) w34 := by
  have hxr : x ≠ gr := hb.ne h.r (by decide)
  rintro w2 ts ⟨v, e0, ho, hr2, f2⟩
  injection e0 with e0
  subst e0
  obtain ⟨a, c, rfl⟩ := ho.isSlice
  refine ⟨a, _, c, rfl, fun pl w3 hp => ?_⟩
  obtain ⟨⟨a1, a2, c1, c2, rfl, ht1, ht2, hl1, hl2, hd⟩, b3⟩ := hp
  refine ⟨a1, a2, c1, c2, rfl, ho.row, rfl, fun o => ?_⟩
  have h2 := h.to hr2 f2
  have hb2 := hb.fr f2 (h.low hx0)
  have h3 := h2.below b3
  have hb3 := hb2.below b3
  generalize hts : (rdText 1024 bs e).1 = tx at *
  refine newB (Bs.refl w3) fun g5 w4 g50 sg4 n4 z4 b4 B4 => boxB B4 g50 fun w5 x5 B5 z5 => ?_
  have hg5r : gr ≠ g5 := fun e0 => by have := h3.r.lt; omega
  have hg5x : x ≠ g5 := fun e0 => by have := hb3.lt; omega
  have h5 := (h3.below b4).away x5.1 fun k hk => by rw [List.mem_singleton] at hk; subst hk; exact ⟨by have := h3.rp.fr.size; omega, hg5r.symm⟩
  have hb5 := (hb3.below b4).box x5 hg5x
  have T1 := ht1.newbox b4 sg4 x5
  have T2 := ht2.newbox b4 sg4 x5
  refine stO_part hb5 (by show 13 + 11 ≤ 25; omega) (fun g hg => by rw [List.mem_singleton] at hg; subst hg; exact hg5x.symm) fun w6 b6 f6 z6 => ?_
  have h6 := h5.away f6 fun k hk => by rw [List.mem_singleton] at hk; subst hk; exact ⟨hx0, hxr⟩
  refine h6.flag (fun g hg => by rw [List.mem_singleton] at hg; subst hg; exact hg5r.symm) h.r0 fun w7 h7 f7 z7 => hK w7 ⟨⟨none, 0, a1, c1, a2, c2, none, 0⟩, rfl, ?_, ?_, ?_, ?_⟩
  · rw [rdRest_plan h11, hts]; exact h7
  · rw [rdRest_plan h11, hts]
    have hb7 := Bk.fr1 b6 f7 hxr
    unfold rqRest
    rw [ns_nolim (by unfold hasLim; omega)]
    have : (setL (rqCells q noA).toList 13 [.int .i64 (rdPlan tx).day, .int .i64 (rdPlan tx).frm, .int .i64 (rdPlan tx).til, .int .i64 (rdPlan tx).base.grp, .int .i64 (rdPlan tx).base.mode, .int .i64 (rdPlan tx).base.block, .slice a1 (rdPlan tx).base.ts.length c1, .int .i64 (rdPlan tx).other.grp, .int .i64 (rdPlan tx).other.mode, .int .i64 (rdPlan tx).other.block, .slice a2 (rdPlan tx).other.ts.length c2]).toArray = rqCells ⟨q.k, q.ns, [], rdPlan tx, []⟩ ⟨none, 0, a1, c1, a2, c2, none, 0⟩ := by
      unfold rqCells
      rw [hq.1, hq.2.2]
      rfl
    rw [← this]
    exact hb7
  · rw [rdRest_plan h11, hts]
    have n1 : ∀ k ∈ [x], k < w2.heap.size := fun k hk => by rw [List.mem_singleton] at hk; subst hk; exact hb2.lt
    have n2 : ∀ k ∈ [gr], k < w2.heap.size := fun k hk => by rw [List.mem_singleton] at hk; subst hk; exact h2.r.lt
    have n0 : w.heap.size ≤ w2.heap.size := f2.size
    exact ⟨.inl rfl, ((T1.fr f6 n1).fr f7 n2).low n0, ((T2.fr f6 n1).fr f7 n2).low n0, by show (rdPlan tx).base.ts.length ≤ 1000; omega, by show (rdPlan tx).other.ts.length ≤ 1000; omega, .inl rfl, (fun k hk => by cases hk), by simp [rqRest], by simp [rqRest], by show _ ≤ (rdPlan tx).day ∧ (rdPlan tx).day ≤ _; omega⟩
  · have z3 := b3.size
    have z2 := f2.size
    have F5 : Fr (x :: gr :: L) w w5 := ((f2.mono fun k hk => .inl (List.mem_cons_of_mem _ (List.mem_cons_of_mem _ hk))).trans (Fr.ofBelow (L := x :: gr :: L) (b3.trans (b4.mono b3.size))) (Gr.refl _ _)).trans x5.1 fun k hk => by rw [List.mem_singleton] at hk; exact .inr (by omega)
    exact (F5.trans f6 fun k hk => by rw [List.mem_singleton] at hk; subst hk; exact .inl List.mem_cons_self).trans f7 fun k hk => by rw [List.mem_singleton] at hk; subst hk; exact .inl (List.mem_cons_of_mem _ List.mem_cons_self)
end
end Go.Proofs.Ytkggnbabnfhcpaa
end
section
/- A request is read, wholly; walked. -/
namespace Go.Proofs.Ytkggnbabnfhcpaa
open Go.RowKit
section
variable {wB w : World} {L : List Nat} {gr gc x : Nat} {bs : List UInt8} {e : Int} {q : Rq}
set_option maxHeartbeats 800000 in
theorem rrest_any (h : IRd wB w L gr gc false bs e) (hb : Bk w x (rqCells q noA) 39) (hx0 : wB.heap.size ≤ x) (hq : q.items = [] ∧ q.plan = zeroPl ∧ q.carry = []) (hl : bs.length ≤ 100000) (hk : 1 ≤ q.k) :
    Calls Try.prog 36 #[.pointer (some ⟨gr, 0, none⟩), .pointer (some ⟨x, 0, none⟩)] w fun r w' => ∃ v, r = .returned v ∧ RRest wB w L gr gc x q bs e v w' := by
  refine GWi.irrest_calls (some ⟨gr, 0, none⟩) (some ⟨x, 0, none⟩) w (RRest wB w L gr gc x q bs e) ?_
  unfold GWi.irrest_vc
  have hxr : x ≠ gr := hb.ne h.r (by decide)
  have hK : ∀ w', RRest wB w L gr gc x q bs e (.tuple #[]) w' → RRest wB w L gr gc x q bs e (.tuple #[]) w' := fun _ h => h
  have hit : q.k ≤ 3 → GWi.irrest_k1 (RRest wB w L gr gc x q bs e) (some ⟨gr, 0, none⟩) (some ⟨x, 0, none⟩) w := fun h3 =>
    rrest_items h hb hx0 hq.1 ⟨rfl, rfl⟩ hl fun w' ia ic k1 k2 k3 k4 k5 => ⟨⟨ia, ic, none, 0, none, 0, none, 0⟩, rfl, by rw [rdRest_items h3]; exact k1, by
      rw [rdRest_items h3]
      unfold rqRest
      rw [ns_nolim (by unfold hasLim; omega)]
      dsimp only
      rw [← hq.2.1, ← hq.2.2]
      exact k2, by
      rw [rdRest_items h3]
      exact ⟨k3, .inl rfl, .inl rfl, by show 0 ≤ 1000; omega, by show 0 ≤ 1000; omega, .inl rfl, (fun k hk => by cases hk), by show ((pItems q.k).rd bs e).1.length ≤ 100; omega, by simp [rqRest], by show _ ≤ (0 : Int) ∧ (0 : Int) ≤ _; decide⟩, k5.mono fun k hk => by
        rcases List.mem_cons.1 hk with rfl | hk
        · exact .inl List.mem_cons_self
        · exact .inl (List.mem_cons_of_mem _ (List.mem_cons_of_mem _ hk))⟩
  refine withP_mk x 0 rfl ⟨q.k, by rw [hb.cell]; rfl, ?_⟩
  refine br_dec (fun e1 => hit (by omega)) fun n1 => br_dec (fun e2 => hit (by omega)) fun n2 => br_dec (fun e3 => hit (by omega)) fun n3 => br_dec (fun e6 => rrest_lim h hb hx0 hq hl (.inl e6) hK) fun n6 => br_dec (fun e9 => rrest_lim h hb hx0 hq hl (.inr e9) hK) fun n9 => br_dec (fun e11 => ?_) fun n11 => br_dec (fun e12 => ?_) fun n12 => ?_
  · have hp := rrest_plan h hb hx0 hq hl e11 hK
    refine withP_mk gr 0 rfl ⟨some ⟨gc, 0, none⟩, by rw [h.r.cell]; rfl, (rText_any gc 1024 (by decide) (by decide) bs e L w h.rp.at' (by omega)).mono ?_⟩
    rintro r w2 hT
    obtain ⟨v, rfl, hT'⟩ := hT
    obtain ⟨a, n, c, rfl, hp2⟩ := hp w2 v ⟨v, rfl, hT'⟩
    have htl : (rdText 1024 bs e).1.length ≤ 100000 := by have := (text_len (most := 1024) (bs := bs) (e := e)).1; omega
    have hrow : RowAt w2 a ((rdText 1024 bs e).1.map bV) ∧ n = (rdText 1024 bs e).1.length := by
      obtain ⟨ho, _⟩ := hT'
      have hn : n = (rdText 1024 bs e).1.length := by
        obtain ⟨a', c', e0⟩ := ho.isSlice
        injection e0
      subst hn
      exact ⟨ho.row, rfl⟩
    obtain ⟨hrow, rfl⟩ := hrow
    refine ⟨keepG_nil _ _, a, _, c, rfl, (read_new a c _ w2 hrow (by omega)).mono ?_⟩
    rintro r w3 ⟨pl, rfl, hpl⟩
    obtain ⟨a1, a2, c1, c2, rfl, _, _, hfin⟩ := hp2 pl w3 hpl
    exact ⟨keepG_nil _ _, _, _, _, _, _, _, _, _, _, _, _, _, _, _, _, _, rfl, fun gN wN hgN hwN w32 hbx => withP_mk x 0 rfl (by
      have := hfin _ gN wN hgN hwN w32 hbx
      exact this)⟩
  · have hwB := h.rp.fr.size
    refine withP_mk gr 0 rfl ⟨some ⟨gc, 0, none⟩, by rw [h.r.cell]; rfl, h.uint 32 (by decide) (by decide) (by omega) (fun k hk => by cases hk) fun w3 h3 f3 => ⟨_, rfl, ?_⟩⟩
    have hn := uint_upto (bs := bs) (e := e) (most := 32) (by decide)
    have hb3 := hb.fr f3 (h.low hx0)
    have hlen := rdLenU 32 bs e
    have e1 : pCarry.rd bs e = ((rdM pFar ⟨[], (rdUint 32 bs e).2.1, (rdUint 32 bs e).2.2⟩ (rdUint 32 bs e).1.toNat).xs, (rdM pFar ⟨[], (rdUint 32 bs e).2.1, (rdUint 32 bs e).2.2⟩ (rdUint 32 bs e).1.toNat).bs, (rdM pFar ⟨[], (rdUint 32 bs e).2.1, (rdUint 32 bs e).2.2⟩ (rdUint 32 bs e).1.toNat).e) := rfl
    have hR0 : rdRest q.k bs e = ⟨[], 0, zeroPl, (rdM pFar ⟨[], (rdUint 32 bs e).2.1, (rdUint 32 bs e).2.2⟩ (rdUint 32 bs e).1.toNat).xs, false, (rdM pFar ⟨[], (rdUint 32 bs e).2.1, (rdUint 32 bs e).2.2⟩ (rdUint 32 bs e).1.toNat).bs, (rdM pFar ⟨[], (rdUint 32 bs e).2.1, (rdUint 32 bs e).2.2⟩ (rdUint 32 bs e).1.toNat).e⟩ := by rw [rdRest_carry e12, e1]
    unfold RRest
    rw [hR0]
    have h3 : IRd wB w3 L gr gc false (⟨[], (rdUint 32 bs e).2.1, (rdUint 32 bs e).2.2⟩ : RdM Int).bs (⟨[], (rdUint 32 bs e).2.1, (rdUint 32 bs e).2.2⟩ : RdM Int).e := h3
    have hs0x : (⟨[], (rdUint 32 bs e).2.1, (rdUint 32 bs e).2.2⟩ : RdM Int).xs = [] := rfl
    have hs0b : (⟨[], (rdUint 32 bs e).2.1, (rdUint 32 bs e).2.2⟩ : RdM Int).bs.length ≤ 100000 := Nat.le_trans hlen hl
    generalize (⟨[], (rdUint 32 bs e).2.1, (rdUint 32 bs e).2.2⟩ : RdM Int) = s0 at *
    generalize hnn : (rdUint 32 bs e).1 = n at *
    have xsl : ∀ i, (rdM pFar s0 i).xs.length = i := fun i => by rw [rdM_len, hs0x]; simp
    refine ⟨fun y wx => ∃ (i : Nat) (ca : Option Addr) (cc : Nat), y = i ∧ (i : Int) ≤ n ∧ IRd wB wx L gr gc false (rdM pFar s0 i).bs (rdM pFar s0 i).e ∧ Bk wx x (rqCells { q with carry := (rdM pFar s0 i).xs } { noA with ca := ca, cc := cc }) 39 ∧ Own wx w.heap.size 3 1 (.slice ca i cc) i ((rdM pFar s0 i).xs.map iV) ∧ Fr (x :: L) w wx, fun y _ => (n - y).toNat,
      ⟨0, none, 0, rfl, by omega, h3, ?_, ?_, f3.mono fun k hk => .inl (List.mem_cons_of_mem _ hk)⟩, ?_⟩
    · have : rqCells q noA = rqCells { q with carry := (rdM pFar s0 0).xs } { noA with ca := none, cc := 0 } := by
        unfold rqCells
        dsimp only
        rw [hq.2.2, xsl]
        rfl
      rw [← this]
      exact hb3
    · rw [List.length_eq_zero_iff.1 (xsl 0)]
      exact Own.nil _ _ _ _
    rintro y wx ⟨i, ca, cc, rfl, hi, hR, hB, hO, hF⟩
    refine br_dec (fun h1 => ?_) fun h1 => by
      have : i = n.toNat := by omega
      subst this
      refine ⟨⟨none, 0, none, 0, none, 0, ca, cc⟩, rfl, hR, ?_, ⟨.inl rfl, .inl rfl, .inl rfl, by show 0 ≤ 1000; omega, by show 0 ≤ 1000; omega, hO.row, (fun k hk => by have hk : ca = some k := hk; subst hk; exact (hO.lt k.block rfl).1), by simp [rqRest], by show (rdM pFar s0 n.toNat).xs.length ≤ 100; rw [xsl]; omega, by show _ ≤ (0 : Int) ∧ (0 : Int) ≤ _; decide⟩, hF.mono fun k hk => ?_⟩
      · unfold rqRest
        rw [ns_nolim (by unfold hasLim; omega)]
        dsimp only
        rw [← hq.1, ← hq.2.1]
        exact hB
      · rcases List.mem_cons.1 hk with rfl | hk
        · exact .inl List.mem_cons_self
        · exact .inl (List.mem_cons_of_mem _ (List.mem_cons_of_mem _ hk))
    have hi1 : IntKind.i64.wrap ((i : Int) + 1) = ((i + 1 : Nat) : Int) := by rw [wr64 (by omega) (by omega)]; omega
    rw [hi1]
    have hbl : (rdM pFar s0 i).bs.length ≤ 100000 := Nat.le_trans (rdM_bs _ _ _) hs0b
    have hc24 : ∀ {wy : World}, Bk wy x (rqCells { q with carry := (rdM pFar s0 i).xs } { noA with ca := ca, cc := cc }) 39 → wy.cell? ⟨x, 0 + 24, none⟩ = some (.slice ca i cc) := fun hy => by rw [hy.cell]; exact congrArg (fun n => some (Value.slice ca n cc)) (xsl i)
    refine drewB (Bs.refl wx) fun w5 b5 B5 e5 => ?_
    have hR5 := hR.below b5
    have hB5 := hB.below b5
    have hO5 := hO.below b5 (Nat.le_refl _)
    refine withP_mk x 0 rfl ⟨ca, i, cc, hc24 hB5, withP_mk gr 0 rfl ⟨some ⟨gc, 0, none⟩, by rw [hR5.r.cell]; rfl, hR5.uint 4611686018427387904 (by decide) (by decide) (by omega) (fun k hk => by cases hk) fun w6 hR6 f6 => ⟨_, rfl, ?_⟩⟩⟩
    have hB6 := hB5.fr f6 (h.low hx0)
    have hO6 : Own w6 w.heap.size 3 1 (.slice ca i cc) i ((rdM pFar s0 i).xs.map iV) := hO5.keep fun k hk => f6.block k (hO5.lt k hk).2 fun hm => h.low (Nat.le_trans hwB (hO5.lt k hk).1) hm
    refine ⟨hc24 hB6, newB (Bs.refl w6) fun g4 w9 g40 sg9 n9 z9 b9 B9 => ?_⟩
    have hB9 := hB6.below b9
    have hO9 := hO6.below b9 (Nat.le_refl _)
    have hR9 := hR6.below b9
    have z6 := f6.size
    have zb := b5.size
    have z90 := b9.size
    refine ⟨hc24 hB9, ?_⟩
    refine ⟨1, _, [iV (rdUint 4611686018427387904 (rdM pFar s0 i).bs (rdM pFar s0 i).e).1], hO9.base_le fun _ _ => Nat.zero_le _, src_block (cs := [iV (rdUint 4611686018427387904 (rdM pFar s0 i).bs (rdM pFar s0 i).e).1]) Try.underlying28 n9 rfl rfl, by unfold maxLen; omega, by omega, (fun g hg => by cases hg), fun a10 c10 w10 o10 g10 or10 _ => ?_⟩
    have hF9 : Fr (x :: L) w w9 := ((hF.trans (Fr.ofBelow (L := x :: L) b5) (Gr.refl _ _)).trans f6 (fun k hk => .inl (List.mem_cons_of_mem _ hk))).trans (Fr.ofBelow (L := x :: L) b9) (Gr.refl _ _)
    have hne : ∀ {q' : Nat} {cs : Array Value} {t : TypeId}, Bk w9 q' cs t → t ≠ 3 → (Value.slice ca i cc).ownBlock ≠ some q' := fun hq ht => own_far2 hq hO9 ht
    have hB10 : Bk w10 x _ 39 := hB9.keep (g10.block x hB9.lt fun e0 => hne hB9 (by decide) e0.symm)
    have fo : Fr (Value.slice ca i cc).ownBlock.toList w9 w10 := (Fr.refl _ w9).grown g10 fun k hk => .inl (by simp [hk])
    have hR10 := hR9.away fo fun k hk => by
      have hk : (Value.slice ca i cc).ownBlock = some k := by simpa using hk
      exact ⟨Nat.le_trans hwB (hO9.lt k hk).1, fun e0 => hne hR9.r (by decide) (e0 ▸ hk)⟩
    have o10' : Own w10 w.heap.size 3 1 (.slice a10 (i + 1) c10) (i + 1) ((rdM pFar s0 (i + 1)).xs.map iV) := by
      show Own w10 w.heap.size 3 1 (.slice a10 (i + 1) c10) (i + 1) (((rdM pFar s0 i).xs ++ [(rdUint 4611686018427387904 (rdM pFar s0 i).bs (rdM pFar s0 i).e).1]).map iV)
      rw [List.map_append]
      exact o10.base_le fun k hk => by
        rcases or10 with h' | ⟨g', h', h''⟩
        · exact (hO9.lt k (h' ▸ hk)).1
        · rw [h'] at hk; injection hk with hk; have := hF9.size; omega
    refine withP_mk x 0 rfl (stO_bk hB10 (i := 24) (by show 24 < 25; omega) (fun g hg => by cases hg) fun w11 b11 f11 z11 => ⟨⟨i + 1, a10, c10, rfl, by omega, hR10.away f11 (fun k hk => by rw [List.mem_singleton] at hk; subst hk; exact ⟨hx0, hxr⟩), ?_, o10'.keep (fun k hk => f11.block k (o10'.lt k hk).2 (by rw [List.mem_singleton]; rintro rfl; exact own_far2 hB10 o10' (by decide) hk)), ?_⟩, by dsimp only; omega⟩)
    · have : (rqCells { q with carry := (rdM pFar s0 i).xs } { noA with ca := ca, cc := cc }).setIfInBounds 24 (.slice a10 (i + 1) c10) = rqCells { q with carry := (rdM pFar s0 (i + 1)).xs } { noA with ca := a10, cc := c10 } := by
        have e0 : (rdM pFar s0 (i + 1)).xs.length = i + 1 := xsl (i + 1)
        unfold rqCells
        dsimp only
        rw [e0]
        rfl
      rw [← this]
      exact b11
    · exact (hF9.grown g10 fun k hk => .inr (hO9.lt k hk).1).trans f11 fun k hk => by rw [List.mem_singleton] at hk; subst hk; exact .inl List.mem_cons_self
  · have hnl : ¬ hasLim q.k := by unfold hasLim; omega
    refine ⟨noA, rfl, ?_, ?_, ?_, Fr.refl _ _⟩
    · rw [rdRest_none (by omega) hnl n11 n12]; exact h
    · rw [rdRest_none (by omega) hnl n11 n12]
      unfold rqRest
      rw [ns_nolim hnl]
      dsimp only
      rw [← hq.1, ← hq.2.1, ← hq.2.2]
      exact hb
    · rw [rdRest_none (by omega) hnl n11 n12]
      exact RqN.none _ _ _ ⟨rfl, rfl, rfl⟩
end
/-- A request's bytes, and back. -/
def AskedV (w : World) (bs : List UInt8) (v : Value) (w' : World) : Prop :=
  ∃ a, v = .tuple #[rqV (rdReq bs) a, .int .i64 (if reqOk bs then 0 else 2)] ∧ RqIn w' (rdReq bs) a ∧ Below w.heap.size w w'
theorem asked_no {w w' : World} {bs : List UInt8} (h : ¬ reqOk bs) (B : Bs w w') : AskedV w bs (.tuple #[rqV zeroRq noA, .int .i64 2]) w' := by
  refine ⟨noA, ?_, ?_, B⟩
  · unfold rdReq; rw [if_neg h, if_neg h]
  · unfold rdReq; rw [if_neg h]
    exact ⟨.inl rfl, zeroPl_at _, .inl rfl, by simp [zeroRq], by simp [zeroRq], by show _ ≤ (0 : Int) ∧ (0 : Int) ≤ _; decide⟩
set_option maxHeartbeats 1600000 in
theorem asked_new (a : Option Addr) (c : Nat) (bs : List UInt8) (w : World) (hr : RowAt w a (bs.map bV)) (hl : bs.length ≤ 100000) : Calls Try.prog 14 #[.slice a bs.length c] w fun r w' => ∃ v, r = .returned v ∧ AskedV w bs v w' := by
  refine GWi.iasked_calls a bs.length c w (AskedV w bs) ?_
  unfold GWi.iasked_vc
  refine newB (Bs.refl w) fun g w2 g0 sg n2 z2 b2 B2 => (cRead_any a c bs w2 (hr.below B2 (Nat.le_refl _)) (by omega)).mono ?_
  rintro r w3 ⟨gc, L, rfl, hR3, hF, b3⟩
  have B3 := B2.to b3
  have b3s := b3.size
  have hFw : From w.heap.size L := fun k hk => by have := hF k hk; omega
  refine ⟨keepG_below b3, _, rfl, newB B3 fun gr w4 gr0 sgr n4 z4 b4 B4 => ?_⟩
  have hR4 : IRd w3 w4 L gr gc false bs 0 := ⟨(RP.start hR3).below b4, n4, by omega⟩
  refine ⟨_, by rw [hR4.r.cell]; rfl, hR4.uint 4611686018427387904 (by decide) (by decide) (by omega) (fun k hk hm => by rw [List.mem_singleton] at hk; have := hF k hm; omega) fun w5 h5 f5 => ⟨_, rfl, ?_⟩⟩
  have B5 := h5.old B3 hFw
  refine newB B5 fun x w6 x0 sx n6 z6 b6 B6 => stB B6 x0 (show Bk w6 x _ _ from n6) rfl (fun q hq => by rw [List.mem_singleton] at hq; subst hq; have := f5.size; have := b4.size; omega) fun w7 n7 f7 B7 z7 => ?_
  have hxr : x ≠ gr := fun e0 => by have := h5.r.lt; omega
  have h7 := (h5.below b6).away f7 fun k hk => by rw [List.mem_singleton] at hk; subst hk; exact ⟨by have := f5.size; have := b4.size; omega, hxr⟩
  have hx0 : w3.heap.size ≤ x := by have := f5.size; have := b4.size; omega
  have gne : ∀ {q' : Nat}, w3.heap.size ≤ q' → g ≠ q' := fun h => by omega
  generalize hk : (rdUint 4611686018427387904 bs 0).1 = k at *
  have hk' : (rdUint wfar bs 0).1 = k := hk
  have hb7 : Bk w7 x (rqCells ⟨k, fun _ => 0, [], zeroPl, []⟩ noA) 39 := n7
  refine ⟨k, by rw [hb7.cell]; rfl, br_dec (fun h1 => ?_) fun h1 => ⟨k, by rw [hb7.cell]; rfl, br_dec (fun h2 => ?_) fun h2 => ?_⟩⟩
  · exact boxB B7 g0 fun w8 x8 B8 z8 => asked_no (fun c => by have := c.1; rw [hk'] at this; omega) B8
  · exact boxB B7 g0 fun w8 x8 B8 z8 => asked_no (fun c => by have := c.1; rw [hk'] at this; omega) B8
  refine (numr_any (x := x) (k := k) (by rw [hb7.cell]; rfl)).mono ?_
  rintro r w8 ⟨a8, c8, rfl, p8, pn8, b8⟩
  have h8 := h7.below b8
  have hb8 := hb7.below b8
  have hbl : (rdUint 4611686018427387904 bs 0).2.1.length ≤ 100000 := Nat.le_trans (rdLenU _ _ _) hl
  have z38 : w3.heap.size ≤ w7.heap.size := by omega
  refine ⟨keepG_below b8, a8, _, c8, rfl, (take_any h8 p8 (fun q' hq' => by have := pn8 q' hq'; omega) hb8 hx0 hxr (by decide) (fun o ho => by show o < 25; have := nums_mem ho; omega) (by omega) (by have := nums_few k; omega)).mono ?_⟩
  rintro r w9 ⟨rfl, h9, hb9, f9⟩
  have hHd : rdHead bs = rdM pFar ⟨[], (rdUint 4611686018427387904 bs 0).2.1, (rdUint 4611686018427387904 bs 0).2.2⟩ (numsO k).length := by unfold rdHead; rw [hk']; rfl
  rw [← hHd] at h9 hb9
  have hxl : (rdHead bs).xs.length = (numsO k).length := by rw [hHd, rdM_len]; simp
  rw [rq_setO _ _ _ _ (fun o ho => by have := nums_mem ho; omega), updL_zero _ _ (nums_nodup k) hxl] at hb9
  have gL : ∀ {M : List Nat}, (∀ q' ∈ M, q' = x ∨ q' = gr ∨ q' ∈ L) → ∀ k ∈ [g], k ∉ M := fun hM k hk hm => by
    rw [List.mem_singleton] at hk
    subst hk
    rcases hM _ hm with e0 | e0 | e0
    · omega
    · omega
    · have := hF _ e0; omega
  have hbl9 : (rdHead bs).bs.length ≤ 100000 := by rw [hHd]; exact Nat.le_trans (rdM_bs _ _ _) hbl
  refine ⟨keepG_fr f9 (gL fun q' hq' => by rcases List.mem_cons.1 hq' with h | h; exact .inl h; exact .inr (.inr h)), rfl, (rrest_any h9 hb9 hx0 ⟨rfl, rfl, rfl⟩ hbl9 (by show 1 ≤ k; omega)).mono ?_⟩
  rintro r w10 ⟨v, rfl, a', rfl, h10, hb10, hin, f10⟩
  dsimp only at h10 hb10 hin
  have hTl : rdRest k (rdHead bs).bs (rdHead bs).e = rdTail bs := by unfold rdTail; rw [hk']
  rw [hTl] at h10 hb10 hin
  have hQ : rqRest ⟨k, nsOf (numsO k) (rdHead bs).xs, [], zeroPl, []⟩ (rdTail bs) = reqOf bs := by
    unfold rqRest reqOf nsL
    rw [hk']
  rw [hQ] at hb10 hin
  have hbl10 : (rdTail bs).bs.length ≤ 100000 := by
    unfold rdTail
    refine Nat.le_trans ?_ hbl9
    unfold rdRest
    split
    · exact (pItems _).len _ _
    split
    · exact rdLen _ _
    split
    · exact text_len.2
    split
    · exact pCarry.len _ _
    · exact Nat.le_refl _
  have B10 : Bs w w10 := (h10.old B3 hFw)
  refine ⟨keepG_fr f10 (gL fun q' hq' => by simp only [List.mem_cons] at hq'; exact hq'), rfl, callB B10 (right_any h10 (by omega)) fun w11 b11 B11 => ⟨_, rfl, ?_⟩⟩
  have hok : reqOk bs ↔ ((rdTail bs).bad = false ∧ rdEnd (rdTail bs).bs (rdTail bs).e = 0) := by
    unfold reqOk
    rw [hk']
    exact ⟨fun c => c.2, fun c => ⟨by omega, c⟩⟩
  by_cases hc : reqOk bs
  · rw [decide_eq_true (hok.1 hc)]
    refine br_f rfl ⟨_, _, _, _, _, _, _, _, _, _, _, _, _, _, _, _, _, _, _, _, _, _, _, _, _, _, _, _, _, _, _, _, _, Bk.cells (hb10.below b11) 0 rfl, boxB B11 g0 fun w12 x12 B12 z12 => ?_⟩
    have hRq : rdReq bs = reqOf bs := by unfold rdReq; rw [if_pos hc]
    refine ⟨a', ?_, ?_, B12⟩
    · rw [hRq, if_pos hc]; rfl
    · rw [hRq]
      exact ((hin.below b11).box x12 (by have := f9.size; have := b8.size; omega)).to
  · rw [decide_eq_false (fun c => hc (hok.2 c))]
    exact br_t rfl (boxB B11 g0 fun w12 x12 B12 z12 => asked_no hc B12)
end Go.Proofs.Ytkggnbabnfhcpaa
end
