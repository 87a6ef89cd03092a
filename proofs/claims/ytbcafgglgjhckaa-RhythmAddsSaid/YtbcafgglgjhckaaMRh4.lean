import Derived.Test.YtbcafgglgjhckaaMRh3
import Derived.Test.YtbcafgglgjhckaaMRh2
set_option linter.unusedVariables false
section
/- RhythmVectors, walked; a turn. -/
namespace Go.Proofs.Ytbcafgglgjhckaa
open Go.RowKit
theorem strQ_out (q0 q1 q2 q3 : Int) : ∃ x o, strQ q0 q1 q2 q3 = .tuple #[.int .i64 x, .bool o] := by
  unfold strQ
  split
  · rw [str_fit]; exact ⟨_, _, rfl⟩
  · exact ⟨_, _, rfl⟩
theorem lvectors_walk (q0 q1 q2 q3 : Int) (w : World) : Calls Try.prog 4 #[qV q0 q1 q2 q3] w (Ret (.bool true) w) := by
  refine ret_in (GRh.lvectors_calls q0 q1 q2 q3 w (fun u w' => u = .bool true ∧ Below w.heap.size w w') ?_)
  unfold GRh.lvectors_vc
  obtain ⟨sx, so, hs⟩ := strQ_out q0 q1 q2 q3
  have h1 := strength_ret q0 q1 q2 q3
  have h2 := rstrength_ret q0 q1 q2 q3
  rw [hs] at h1 h2
  refine newB (Bs.refl w) fun g w2 g0 sg n2 z2 b2 B2 => newB B2 fun g2 w3 g20 sg2 n3 z3 b3 B3 => boxB B3 g20 fun w4 h4 B4 z4 => callB B4 (rvector_ret q0 q1 q2 q3 w4) fun w5 b5 B5 => ⟨_, _, rfl, callB B5 (peak_ret q0 q1 q2 q3 w5) fun w6 b6 B6 => ⟨_, _, rfl,
    callB B6 (rpeak_ret q0 q1 q2 q3 w6) fun w7 b7 B7 => ⟨_, _, rfl, callB B7 (h1 w7) fun w8 b8 B8 => ⟨_, _, rfl, callB B8 (h2 w8) fun w9 b9 B9 => ⟨_, _, rfl, callB B9 (rright_ret q0 q1 q2 q3 w9) fun w10 b10 B10 => ⟨_, rfl, ?_⟩⟩⟩⟩⟩⟩
  have hv := vec_range q0 q1 q2 q3
  have rest : ∀ t, t = totQ q0 q1 q2 q3 → GRh.lvectors_k1 (fun u w' => u = .bool true ∧ Below w.heap.size w w') q0 q1 q2 q3 g g2 (vecX q0 q1 q2 q3) (vecY q0 q1 q2 q3) (peakP (vecX q0 q1 q2 q3) (vecY q0 q1 q2 q3)).1 (peakP (vecX q0 q1 q2 q3) (vecY q0 q1 q2 q3)).2 (peakP (vecX q0 q1 q2 q3) (vecY q0 q1 q2 q3)).1 (peakP (vecX q0 q1 q2 q3) (vecY q0 q1 q2 q3)).2 sx so sx so t w10 := by
    rintro t rfl
    unfold GRh.lvectors_k1
    refine callQ B10 (vector_ret q0 q1 q2 q3 w10) ?_
    rintro e w11 ⟨re, im, rfl, hx, hy⟩ b11 B11
    refine ⟨_, _, rfl, callB B11 (beats_ret w11) fun w12 b12 B12 => ⟨_, rfl, br_t rfl ⟨_, fb_toInt hx (by omega), br_y rfl ⟨_, fb_toInt hy (by omega), br_y rfl (br_y rfl (br_y rfl (br_y rfl (br_y rfl ?_))))⟩⟩⟩⟩
    exact callB B12 (total_ret q0 q1 q2 q3 w12) fun w13 b13 B13 => ⟨_, rfl, by rw [decide_eq_true rfl], B13⟩
  refine br_dec (fun hok => rest _ ?_) fun hok => rest _ (by unfold totQ; rw [if_neg hok])
  unfold totQ
  rw [if_pos hok]
  obtain ⟨⟨a0, b0⟩, ⟨a1, b1⟩, ⟨a2, b2'⟩, ⟨a3, b3'⟩⟩ := hok
  rw [wr64 (z := q0 + q1) (by omega) (by omega), wr64 (z := q0 + q1 + q2) (by omega) (by omega), wr64 (by omega) (by omega)]
/-- A rhythm turned so often. -/
def turnQ (q : Nat → Int) (n j : Nat) : Int := q ((j + 4 - n % 4) % 4)
def qF (q0 q1 q2 q3 : Int) (i : Nat) : Int := match i with | 0 => q0 | 1 => q1 | 2 => q2 | _ => q3
theorem tmod4 (x n : Int) (hx : 0 ≤ x ∧ x < 4) : Int.tmod (IntKind.u64.wrap (IntKind.u64.wrap x + IntKind.u64.wrap n)) 4 = (((x.toNat + (n % 4).toNat) % 4 : Nat) : Int) := by
  rw [IntKind.wrap_u64, IntKind.wrap_u64, IntKind.wrap_u64, Int.tmod_eq_emod_of_nonneg (by omega)]
  omega
theorem turn_any (q0 q1 q2 q3 n : Int) (w : World) : Calls Try.prog 18 #[qV q0 q1 q2 q3, .int .i64 n] w (Ret (qV (turnQ (qF q0 q1 q2 q3) (n % 4).toNat 0) (turnQ (qF q0 q1 q2 q3) (n % 4).toNat 1) (turnQ (qF q0 q1 q2 q3) (n % 4).toNat 2) (turnQ (qF q0 q1 q2 q3) (n % 4).toNat 3)) w) := by
  have hn := Int.emod_nonneg n (show (4 : Int) ≠ 0 by omega)
  have hn4 := Int.emod_lt_of_pos n (show (0 : Int) < 4 by omega)
  have htm := fun x hx => tmod4 x n hx
  have hm4 : (n % 4).toNat < 4 := by omega
  generalize (n % 4).toNat = m at *
  refine ret_in (GRh.turn_calls q0 q1 q2 q3 n w (fun u w' => u = qV (turnQ (qF q0 q1 q2 q3) m 0) (turnQ (qF q0 q1 q2 q3) m 1) (turnQ (qF q0 q1 q2 q3) m 2) (turnQ (qF q0 q1 q2 q3) m 3) ∧ Below w.heap.size w w') ?_)
  unfold GRh.turn_vc
  refine newB (Bs.refl w) fun g w2 g0 sg n2 z2 b2 B2 => newB B2 fun g2 w3 g20 sg2 n3 z3 b3 B3 => newB B3 fun g3 w4 g30 sg3 n4 z4 b4 B4 => ⟨fun x wx => ∃ (i : Nat) (c : Nat → Int), x = i ∧ i ≤ 4 ∧ (∀ j : Nat, j < i → c ((j + m) % 4) = qF q0 q1 q2 q3 j) ∧ Bk wx g3 #[.int .i64 (c 0), .int .i64 (c 1), .int .i64 (c 2), .int .i64 (c 3)] 24 ∧ Bs w wx, fun x _ => 4 - x.toNat, ⟨0, fun _ => 0, rfl, by omega, fun j hj => absurd hj (Nat.not_lt_zero _), n4, B4⟩, ?_⟩
  rintro x wx ⟨i, c, rfl, hi, hj, hB, B⟩
  refine br_dec (fun hlt => ?_) fun hge => ?_
  · have hi4 := i4_cases (i := i) (by omega)
    have hz : ([.int .i64 q0, .int .i64 q1, .int .i64 q2, .int .i64 q3] : List Value)[i]? = some (.int .i64 (qF q0 q1 q2 q3 i)) := by rcases hi4 with rfl | rfl | rfl | rfl <;> rfl
    rw [htm i (by omega), wr64 (by omega) (by omega), Int.toNat_natCast, Int.toNat_natCast, show 0 + (i + m) % 4 * 1 = (i + m) % 4 by omega]
    have hk : (i + m) % 4 < 4 := Nat.mod_lt _ (by omega)
    have hinj : ∀ j : Nat, j < i → (j + m) % 4 ≠ (i + m) % 4 := fun j hj' => by omega
    generalize hkk : (i + m) % 4 = k at *
    refine ⟨by omega, by omega, _, hz, by decide, by omega, by omega, stO_bk hB (by simp; omega) (fun x hx => by simp at hx; omega) fun w6 hB6 f6 z6 => ⟨⟨i + 1, fun j => if j = k then qF q0 q1 q2 q3 i else c j, by omega, by omega, fun j hj' => ?_, ?_, B.trans (f6.below (fun k hk => by rw [List.mem_singleton] at hk; omega) B.size)⟩, by dsimp only; omega⟩⟩
    · by_cases h : j = i
      · subst h; rw [hkk]; simp
      · have := hinj j (by omega)
        simp only [if_neg this]
        exact hj j (by omega)
    · rcases i4_cases hk with rfl | rfl | rfl | rfl <;> exact hB6
  · obtain rfl : i = 4 := by omega
    refine ⟨c 0, c 1, c 2, c 3, cellsAt_row hB (by simp), boxB B g20 fun w7 h7 B7 z7 => ⟨?_, B7⟩⟩
    have e0 := hj 0 (by omega)
    have e1 := hj 1 (by omega)
    have e2 := hj 2 (by omega)
    have e3 := hj 3 (by omega)
    rcases i4_cases hm4 with rfl | rfl | rfl | rfl <;> (simp [qF] at e0 e1 e2 e3; simp [qV, turnQ, qF, e0, e1, e2, e3])
end Go.Proofs.Ytbcafgglgjhckaa
end
section
/- More steps of functions seen from the world that they began in: blocks that are written over. No program in sight. -/
namespace Go.Proofs.Ytbcafgglgjhckaa
open Go.RowKit
/-- Cells of a block that are written over. -/
theorem stO_part {w : World} {g off : Nat} {t : TypeId} {cs : Array Value} {vs : List Value} {gs : List Nat} {K : World → Prop} (h : Bk w g cs t) (hl : off + vs.length ≤ cs.size) (hg : ∀ x ∈ gs, x ≠ g)
    (k : ∀ w1, Bk w1 g (setL cs.toList off vs).toArray t → Fr [g] w w1 → w1.heap.size = w.heap.size → K w1) : stO gs w g off vs K := by
  have key : ∀ (vs : List Value) (w : World) (cs : Array Value) (off : Nat), Bk w g cs t → off + vs.length ≤ cs.size → Bk (w.setCells g off vs) g (setL cs.toList off vs).toArray t ∧ Fr [g] w (w.setCells g off vs) ∧ (w.setCells g off vs).heap.size = w.heap.size := by
    intro vs
    induction vs with
    | nil => intro w cs off h _; exact ⟨by simpa [World.setCells, setL] using h, Fr.refl _ _, rfl⟩
    | cons v r ih =>
      intro w cs off h hl
      rw [List.length_cons] at hl
      obtain ⟨k1, k2, k3⟩ := ih (w.setCell ⟨g, off, none⟩ v) (cs.setIfInBounds off v) (off + 1) (h.setCell off v) (by simp; omega)
      refine ⟨?_, ((Fr.refl [g] w).setCell (p := ⟨g, off, none⟩) (.inl (by simp)) v).trans k2 (Gr.refl _ _), by rw [show w.setCells g off (v :: r) = (w.setCell ⟨g, off, none⟩ v).setCells g (off + 1) r from rfl, k3]; simp [World.setCell]⟩
      rw [Array.toList_setIfInBounds] at k1
      exact k1
  obtain ⟨k1, k2, k3⟩ := key vs w cs off h hl
  exact ⟨hg, h.there hl, fun w1 e => by subst e; exact k _ k1 k2 k3⟩
theorem setL_whole {vs xs : List Value} (h : vs.length = xs.length) : setL xs 0 vs = vs := by
  apply List.ext_getElem?
  intro i
  rw [setL_get vs xs 0 i (by omega)]
  by_cases hi : i < vs.length
  · rw [if_pos ⟨Nat.zero_le _, by omega⟩]; rfl
  · rw [if_neg (by omega), List.getElem?_eq_none (by omega), List.getElem?_eq_none (by omega)]
theorem Bs.fr {w0 w w1 : World} {L : List Nat} (B : Bs w0 w) (h : Fr L w w1) (hL : ∀ k ∈ L, w0.heap.size ≤ k) : Bs w0 w1 := Below.trans B (h.below hL B.size)
theorem Bs.fr1 {w0 w w1 : World} {g : Nat} (B : Bs w0 w) (h : Fr [g] w w1) (hg : w0.heap.size ≤ g) : Bs w0 w1 := B.fr h fun k hk => by rw [List.mem_singleton] at hk; omega
/-- A block of one's own is written over, wholly. -/
theorem stB {w0 w : World} {g : Nat} {t : TypeId} {cs : Array Value} {vs : List Value} {gs : List Nat} {K : World → Prop} (B : Bs w0 w) (hg0 : w0.heap.size ≤ g) (h : Bk w g cs t) (hl : vs.length = cs.size) (hg : ∀ x ∈ gs, x ≠ g)
    (k : ∀ w1, Bk w1 g vs.toArray t → Fr [g] w w1 → Bs w0 w1 → w1.heap.size = w.heap.size → K w1) : stO gs w g 0 vs K :=
  stO_part h (by omega) hg fun w1 h1 f1 z1 => k w1 (by rw [setL_whole (by simpa using hl)] at h1; exact h1) f1 (B.fr1 f1 hg0) z1
/-- One cell of it. -/
theorem stB1 {w0 w : World} {g i : Nat} {t : TypeId} {cs : Array Value} {v : Value} {gs : List Nat} {K : World → Prop} (B : Bs w0 w) (hg0 : w0.heap.size ≤ g) (h : Bk w g cs t) (hi : i < cs.size) (hg : ∀ x ∈ gs, x ≠ g)
    (k : ∀ w1, Bk w1 g (cs.setIfInBounds i v) t → Fr [g] w w1 → Bs w0 w1 → w1.heap.size = w.heap.size → K w1) : stO gs w g i [v] K :=
  stO_bk h hi hg fun w1 h1 f1 z1 => k w1 h1 f1 (B.fr1 f1 hg0) z1
theorem Bk.below {w w1 : World} {g : Nat} {cs : Array Value} {t : TypeId} (h : Bk w g cs t) (hb : Below w.heap.size w w1) : Bk w1 g cs t := h.keep (hb.block g h.lt)
theorem Bk.box {w w1 : World} {g k : Nat} {cs : Array Value} {t : TypeId} (h : Bk w g cs t) (hb : BoxSt k w w1) (hk : g ≠ k) : Bk w1 g cs t := h.keep (hb.1.block g h.lt (by rw [List.mem_singleton]; exact hk))
theorem Bk.fr {w w1 : World} {g : Nat} {L : List Nat} {cs : Array Value} {t : TypeId} (h : Bk w g cs t) (hb : Fr L w w1) (hk : g ∉ L) : Bk w1 g cs t := h.keep (hb.block g h.lt hk)
theorem Bk.fr1 {w w1 : World} {g k : Nat} {cs : Array Value} {t : TypeId} (h : Bk w g cs t) (hb : Fr [k] w w1) (hk : g ≠ k) : Bk w1 g cs t := h.fr hb (by rw [List.mem_singleton]; exact hk)
end Go.Proofs.Ytbcafgglgjhckaa
end
section
/- RhythmTurns, walked. -/
namespace Go.Proofs.Ytbcafgglgjhckaa
open Go.RowKit
theorem turn_vec (q0 q1 q2 q3 : Int) : (QOk q3 q0 q1 q2 ↔ QOk q0 q1 q2 q3) ∧ vecX q3 q0 q1 q2 = -vecY q0 q1 q2 q3 ∧ vecY q3 q0 q1 q2 = vecX q0 q1 q2 q3 ∧ totQ q3 q0 q1 q2 = totQ q0 q1 q2 q3 ∧ strQ q3 q0 q1 q2 = strQ q0 q1 q2 q3 := by
  have h : QOk q3 q0 q1 q2 ↔ QOk q0 q1 q2 q3 := ⟨fun ⟨a, b, c, d⟩ => ⟨b, c, d, a⟩, fun ⟨a, b, c, d⟩ => ⟨d, a, b, c⟩⟩
  have hx : vecX q3 q0 q1 q2 = -vecY q0 q1 q2 q3 := by
    unfold vecX vecY
    by_cases k : QOk q0 q1 q2 q3
    · rw [if_pos k, if_pos (h.2 k)]; omega
    · rw [if_neg k, if_neg fun z => k (h.1 z)]; rfl
  have hy : vecY q3 q0 q1 q2 = vecX q0 q1 q2 q3 := by
    unfold vecX vecY
    by_cases k : QOk q0 q1 q2 q3
    · rw [if_pos k, if_pos (h.2 k)]
    · rw [if_neg k, if_neg fun z => k (h.1 z)]
  refine ⟨h, hx, hy, ?_, ?_⟩
  · unfold totQ
    by_cases k : QOk q0 q1 q2 q3
    · rw [if_pos k, if_pos (h.2 k)]; omega
    · rw [if_neg k, if_neg fun z => k (h.1 z)]
  · unfold strQ
    rw [hx, hy, str_fit, str_fit, Int.neg_mul_neg, Int.add_comm]
    by_cases k : QOk q0 q1 q2 q3
    · rw [if_pos k, if_pos (h.2 k)]
    · rw [if_neg k, if_neg fun z => k (h.1 z)]
theorem lturns_walk (q0 q1 q2 q3 n : Int) (w : World) : Calls Try.prog 5 #[qV q0 q1 q2 q3, .int .i64 n] w (Ret (.bool true) w) := by
  refine ret_in (GRh.lturns_calls q0 q1 q2 q3 n w (fun u w' => u = .bool true ∧ Below w.heap.size w w') ?_)
  unfold GRh.lturns_vc
  have hn4 := Int.emod_lt_of_pos n (show (0 : Int) < 4 by omega)
  have hn0 := Int.emod_nonneg n (show (4 : Int) ≠ 0 by omega)
  have htm := fun x hx => tmod4 x n hx
  have ht := turn_any q0 q1 q2 q3 n
  have hm4 : (n % 4).toNat < 4 := by omega
  generalize (n % 4).toNat = m at *
  have t1 : ∀ (a b c d : Int) w, Calls Try.prog 18 #[qV a b c d, .int .i64 1] w (Ret (qV d a b c) w) := fun a b c d w => turn_any a b c d 1 w
  have t2 : ∀ (a b c d : Int) w, Calls Try.prog 18 #[qV a b c d, .int .i64 2] w (Ret (qV c d a b) w) := fun a b c d w => turn_any a b c d 2 w
  refine newB (Bs.refl w) fun g w2 g0 sg n2 z2 b2 B2 => ⟨q0, q1, q2, q3, cellsAt_row n2 (by simp), newB B2 fun g2 w3 g20 sg2 n3 z3 b3 B3 => boxB B3 g20 fun w4 h4 B4 z4 => callB B4 (t1 q0 q1 q2 q3 w4) fun w5 b5 B5 => ⟨_, _, _, _, rfl, newB B5 fun g3 w6 g30 sg3 n6 z6 b6 B6 => boxB B6 g30 fun w7 h7 B7 z7 => callB B7 (ht w7) fun w8 b8 B8 => ⟨_, _, _, _, rfl, newB B8 fun g4 w9 g40 sg4 n9 z9 b9 B9 => ?_⟩⟩⟩
  have k2 : Bk w2 g #[.int .i64 q0, .int .i64 q1, .int .i64 q2, .int .i64 q3] 22 := n2
  have hl5 := b5.size
  have hl8 := b8.size
  have k9 := ((((((k2.below b3).box h4 (by omega)).below b5).below b6).box h7 (by omega)).below b8).below b9
  refine stB B9 g40 (show Bk w9 g4 _ 24 from n9) (by simp) (fun x hx => by simp at hx; omega) fun w10 k10 f10 B10 z10 => ?_
  have j10 := k9.fr1 f10 (by omega)
  refine ⟨fun x wx => ∃ i : Nat, x = i ∧ i ≤ 4 ∧ wx.heap = w10.heap ∧ Bs w wx, fun x _ => 4 - x.toNat, ⟨0, rfl, by omega, rfl, B10⟩, ?_⟩
  rintro x wx ⟨i, rfl, hi, hh, B⟩
  refine br_dec (fun hlt => drewB B fun w12 b12 B12 e12 => ?_) fun hge => drewB B fun w13 b13 B13 e13 => ?_
  · have hi4 := i4_cases (i := i) (by omega)
    rw [htm i (by omega), wr64 (by omega) (by omega), Int.toNat_natCast, Int.toNat_natCast, show 0 + (i + m) % 4 * 1 = (i + m) % 4 by omega, show 0 + i * 1 = i by omega]
    have k12 : Bk w12 g4 #[.int .i64 (turnQ (qF q0 q1 q2 q3) m 0), .int .i64 (turnQ (qF q0 q1 q2 q3) m 1), .int .i64 (turnQ (qF q0 q1 q2 q3) m 2), .int .i64 (turnQ (qF q0 q1 q2 q3) m 3)] 24 := by unfold Bk; rw [e12, hh]; exact k10
    have j12 : Bk w12 g #[.int .i64 q0, .int .i64 q1, .int .i64 q2, .int .i64 q3] 22 := by unfold Bk; rw [e12, hh]; exact j10
    refine ⟨by decide, by omega, by omega, qF q0 q1 q2 q3 i, ?_, by omega, by omega, qF q0 q1 q2 q3 i, ?_, br_n (fun h => h rfl) ⟨⟨i + 1, by omega, by omega, e12.trans hh, B12⟩, by dsimp only; omega⟩⟩
    · rw [k12.cell]
      rcases hi4 with rfl | rfl | rfl | rfl <;> rcases i4_cases hm4 with rfl | rfl | rfl | rfl <;> rfl
    · rw [j12.cell]
      rcases hi4 with rfl | rfl | rfl | rfl <;> rfl
  · obtain ⟨hq, hx, hy, htot, hstr⟩ := turn_vec q0 q1 q2 q3
    obtain ⟨sx, so, hs⟩ := strQ_out q0 q1 q2 q3
    have s1 := strength_ret q0 q1 q2 q3
    have s2 := strength_ret q3 q0 q1 q2
    have v2 := vector_ret q3 q0 q1 q2
    have tt := total_ret q3 q0 q1 q2
    rw [hstr] at s2
    rw [hs] at s1 s2
    rw [hx, hy] at v2
    rw [htot] at tt
    refine callQ B13 (vector_ret q0 q1 q2 q3 w13) ?_
    rintro e w14 ⟨re, im, rfl, fx, fy⟩ b14 B14
    refine ⟨_, _, rfl, callQ B14 (v2 w14) ?_⟩
    rintro e w15 ⟨re2, im2, rfl, fx2, fy2⟩ b15 B15
    refine ⟨_, _, rfl, callB B15 (s1 w15) fun w16 b16 B16 => ⟨_, _, rfl, callB B16 (s2 w16) fun w17 b17 B17 => ⟨_, _, rfl, drewB B17 fun w18 b18 B18 e18 => callB B18 (beats_ret w18) fun w19 b19 B19 => ⟨_, rfl, br_t rfl (br_t ?_ (br_t ?_ (br_y rfl (br_y rfl ?_))))⟩⟩⟩⟩
    · rw [ordF_eq fx2 (fl_neg fy)]; exact decide_eq_true rfl
    · rw [ordF_eq fy2 fx]; exact decide_eq_true rfl
    · exact callB B19 (t1 q3 q0 q1 q2 w19) fun w20 b20 B20 => ⟨_, _, _, _, rfl, callB B20 (t2 q2 q3 q0 q1 w20) fun w21 b21 B21 => ⟨_, _, _, _, rfl, br_t (by simp) (callB B21 (tt w21) fun w22 b22 B22 => ⟨_, rfl, callB B22 (total_ret q0 q1 q2 q3 w22) fun w23 b23 B23 => ⟨_, rfl, by rw [decide_eq_true rfl], B23⟩⟩)⟩⟩
end Go.Proofs.Ytbcafgglgjhckaa
end
section
/- Two rhythms together: the program's and the document's; walked. -/
namespace Go.Proofs.Ytbcafgglgjhckaa
open Go.RowKit
def cur (A B : Nat → Int) (i j : Nat) : Int := if j < i then A j + B j else A j
def qV4 (f : Nat → Int) : Value := qV (f 0) (f 1) (f 2) (f 3)
abbrev QOk4 (f : Nat → Int) : Prop := QOk (f 0) (f 1) (f 2) (f 3)
theorem qok4 {f : Nat → Int} : QOk4 f ↔ ∀ j, j < 4 → In50 (f j) :=
  ⟨fun ⟨a, b, c, d⟩ j hj => by rcases i4_cases hj with rfl | rfl | rfl | rfl <;> assumption, fun h => ⟨h 0 (by omega), h 1 (by omega), h 2 (by omega), h 3 (by omega)⟩⟩
def joinE (A B : Nat → Int) : Int := if ¬ QOk4 A ∨ ¬ QOk4 B then 1 else if ¬ QOk4 (cur A B 4) then 6 else 0
def joinQ (A B : Nat → Int) (j : Nat) : Int := if joinE A B = 0 then cur A B 4 j else 0
theorem cur_qAt (A B : Nat → Int) {i : Nat} (hi : i < 4) : qAt (cur A B i 0) (cur A B i 1) (cur A B i 2) (cur A B i 3) (i : Int) = A i := by
  rcases i4_cases hi with rfl | rfl | rfl | rfl <;> simp [qAt, cur]
theorem cur_add (A B : Nat → Int) {i j : Nat} : addQ (i : Int) j (B i) (cur A B i j) = cur A B (i + 1) j := by
  unfold addQ cur
  by_cases h : i = j
  · subst h; rw [if_pos rfl, if_neg (by omega), if_pos (by omega)]
  · rw [if_neg (by omega)]
    by_cases h2 : j < i
    · rw [if_pos h2, if_pos (by omega)]
    · rw [if_neg h2, if_neg (by omega)]
theorem joinE1 {A B : Nat → Int} (h : ¬ QOk4 A ∨ ¬ QOk4 B) : joinE A B = 1 := by unfold joinE; rw [if_pos h]
theorem joinQ1 {A B : Nat → Int} (h : joinE A B ≠ 0) (j : Nat) : joinQ A B j = 0 := by unfold joinQ; rw [if_neg h]
theorem join_ret (A B : Nat → Int) (w : World) : Calls Try.prog 7 #[qV4 A, qV4 B] w (Ret (.tuple #[qV4 (joinQ A B), .int .i64 (joinE A B)]) w) := by
  refine ret_in (GRh.join_calls (A 0) (A 1) (A 2) (A 3) (B 0) (B 1) (B 2) (B 3) w (fun u w' => u = .tuple #[qV4 (joinQ A B), .int .i64 (joinE A B)] ∧ Below w.heap.size w w') ?_)
  unfold GRh.join_vc
  have bad : ∀ z, z ≠ 0 → joinE A B = z → ∀ {g : Nat} {wx : World}, Bs w wx → w.heap.size ≤ g → ∀ wy, BoxSt g wx wy → Value.tuple #[.agg #[.int .i64 0, .int .i64 0, .int .i64 0, .int .i64 0], .int .i64 z] = .tuple #[qV4 (joinQ A B), .int .i64 (joinE A B)] ∧ Below w.heap.size w wy := fun z hz he g wx Bx hg => boxB Bx hg fun wy hy By _ => by
    unfold qV4
    rw [joinQ1 (he ▸ hz), joinQ1 (he ▸ hz), joinQ1 (he ▸ hz), joinQ1 (he ▸ hz), he]
    exact ⟨rfl, By⟩
  refine newB (Bs.refl w) fun g w2 g0 sg n2 z2 b2 B2 => newB B2 fun g2 w3 g20 sg2 n3 z3 b3 B3 => newB B3 fun g3 w4 g30 sg3 n4 z4 b4 B4 => callB B4 (right_ret (B 0) (B 1) (B 2) (B 3) w4) fun w5 b5 B5 => ⟨_, rfl, br_not (br_dec (fun hb => ?_) fun hb => bad 1 (by decide) (joinE1 (.inr hb)) B5 g30)⟩
  refine ⟨fun x y0 y1 y2 y3 x0 x1 x2 x3 wx => ∃ i : Nat, x = i ∧ i ≤ 4 ∧ x0 = cur A B i 0 ∧ x1 = cur A B i 1 ∧ x2 = cur A B i 2 ∧ x3 = cur A B i 3 ∧ (∀ j, j < i → A j + B j ≤ 1125899906842624) ∧ (0 < i → QOk4 A) ∧ Bs w wx, fun x _ _ _ _ _ _ _ _ _ => 4 - x.toNat, ⟨0, rfl, by omega, rfl, rfl, rfl, rfl, fun j hj => absurd hj (Nat.not_lt_zero _), fun h => absurd h (Nat.lt_irrefl _), B5⟩, ?_⟩
  rintro x y0 y1 y2 y3 x0 x1 x2 x3 wx ⟨i, rfl, hi, rfl, rfl, rfl, rfl, hs, hq, Bx⟩
  have hbj := qok4.1 hb
  refine br_dec (fun hlt => ?_) fun hge => ?_
  · have hi4 : i < 4 := by omega
    have hz : ([.int .i64 (B 0), .int .i64 (B 1), .int .i64 (B 2), .int .i64 (B 3)] : List Value)[i]? = some (.int .i64 (B i)) := by rcases i4_cases hi4 with rfl | rfl | rfl | rfl <;> rfl
    obtain ⟨s0, s1, s2, s3, es, hc⟩ := add_three (cur A B i 0) (cur A B i 1) (cur A B i 2) (cur A B i 3) (i : Int) (B i)
    have hbi := hbj i hi4
    have hadd := fun wy => add_ret (cur A B i 0) (cur A B i 1) (cur A B i 2) (cur A B i 3) (i : Int) (B i) (by have := hbi.2; omega) wy
    rw [es] at hadd
    rw [cur_qAt A B hi4] at hc
    have hcur : QOk4 A → QOk4 (cur A B i) := fun ha => qok4.2 fun j hj => by
      have h1 := qok4.1 ha j hj
      have h2 := hbj j hj
      unfold cur
      by_cases h : j < i
      · rw [if_pos h]; exact ⟨by have := h1.1; have := h2.1; omega, hs j h⟩
      · rw [if_neg h]; exact h1
    have hcur2 : QOk4 (cur A B i) → QOk4 A := fun h => by
      by_cases h0 : 0 < i
      · exact hq h0
      · obtain rfl : i = 0 := by omega
        exact h
    refine ⟨by omega, by omega, B i, by rw [Int.toNat_natCast]; exact hz, callB Bx (hadd wx) fun w8 b8 B8 => ⟨s0, s1, s2, s3, _, rfl, boxB B8 g0 fun w9 h9 B9 z9 => ?_⟩⟩
    rcases hc with ⟨e1, _, _, _, _, hbad⟩ | ⟨e1, _, _, _, _, ⟨hok, _, _, _⟩, hov⟩ | ⟨e1, a0, a1, a2, a3, ⟨hok, _, _, _⟩, hov⟩
    · rw [e1]
      refine br_y (by decide) (bad 1 (by decide) (joinE1 (.inl fun ha => ?_)) B9 g30)
      rcases hbad with h | h | h | h
      · exact h (hcur ha)
      · omega
      · omega
      · have := hbi.1; omega
    · rw [e1]
      refine br_y (by decide) (bad 6 (by decide) ?_ B9 g30)
      unfold joinE
      rw [if_neg fun h => h.elim (fun h => h (hcur2 hok)) fun h => h hb, if_pos fun h => ?_]
      have h2 := (qok4.1 h i hi4).2
      unfold cur at h2
      rw [if_pos hi4] at h2
      omega
    · rw [e1, a0, a1, a2, a3, cur_add, cur_add, cur_add, cur_add, wr64 (by omega) (by omega)]
      refine br_n (by decide) ⟨⟨i + 1, by omega, by omega, rfl, rfl, rfl, rfl, fun j hj => ?_, fun _ => hcur2 hok, B9⟩, by dsimp only; omega⟩
      by_cases h : j = i
      · subst h; omega
      · exact hs j (by omega)
  · obtain rfl : i = 4 := by omega
    have ha := hq (by omega)
    have hok : QOk4 (cur A B 4) := qok4.2 fun j hj => by
      have h1 := qok4.1 ha j hj
      have h2 := hbj j hj
      unfold cur
      rw [if_pos hj]
      exact ⟨by have := h1.1; have := h2.1; omega, hs j hj⟩
    have he : joinE A B = 0 := by unfold joinE; rw [if_neg fun h => h.elim (fun h => h ha) fun h => h hb, if_neg fun h => h hok]
    refine boxB Bx g30 fun w11 h11 B11 z11 => ⟨?_, B11⟩
    unfold qV4 joinQ
    rw [he, if_pos rfl, if_pos rfl, if_pos rfl, if_pos rfl]
    rfl
theorem rjoin_ret (A B : Nat → Int) (w : World) : Calls Try.prog 8 #[qV4 A, qV4 B] w (Ret (.tuple #[qV4 (joinQ A B), .int .i64 (joinE A B)]) w) := by
  refine ret_in (GRh.rjoin_calls (A 0) (A 1) (A 2) (A 3) (B 0) (B 1) (B 2) (B 3) w (fun u w' => u = .tuple #[qV4 (joinQ A B), .int .i64 (joinE A B)] ∧ Below w.heap.size w w') ?_)
  unfold GRh.rjoin_vc
  have bad : ∀ z, z ≠ 0 → joinE A B = z → ∀ {g : Nat} {wx : World}, Bs w wx → w.heap.size ≤ g → ∀ wy, BoxSt g wx wy → Value.tuple #[.agg #[.int .i64 0, .int .i64 0, .int .i64 0, .int .i64 0], .int .i64 z] = .tuple #[qV4 (joinQ A B), .int .i64 (joinE A B)] ∧ Below w.heap.size w wy := fun z hz he g wx Bx hg => boxB Bx hg fun wy hy By _ => by
    unfold qV4
    rw [joinQ1 (he ▸ hz), joinQ1 (he ▸ hz), joinQ1 (he ▸ hz), joinQ1 (he ▸ hz), he]
    exact ⟨rfl, By⟩
  refine newB (Bs.refl w) fun g w2 g0 sg n2 z2 b2 B2 => newB B2 fun g2 w3 g20 sg2 n3 z3 b3 B3 => newB B3 fun g3 w4 g30 sg3 n4 z4 b4 B4 => ?_
  have kA : Bk w4 g #[.int .i64 (A 0), .int .i64 (A 1), .int .i64 (A 2), .int .i64 (A 3)] 22 := (Bk.below (show Bk w2 g _ 22 from n2) b3).below b4
  have kB : Bk w4 g2 #[.int .i64 (B 0), .int .i64 (B 1), .int .i64 (B 2), .int .i64 (B 3)] 22 := Bk.below (show Bk w3 g2 _ 22 from n3) b4
  refine ⟨_, _, _, _, cellsAt_row kA (by simp), callB B4 (rright_ret (A 0) (A 1) (A 2) (A 3) w4) fun w5 b5 B5 => ⟨_, rfl, br_not (br_dec (fun ha => ?_) fun ha => bad 1 (by decide) (joinE1 (.inl ha)) B5 g30)⟩⟩
  refine ⟨_, _, _, _, cellsAt_row (kB.below b5) (by simp), callB B5 (rright_ret (B 0) (B 1) (B 2) (B 3) w5) fun w7 b7 B7 => ⟨_, rfl, br_not (br_dec (fun hb => ?_) fun hb => bad 1 (by decide) (joinE1 (.inr hb)) B7 g30)⟩⟩
  have haj := qok4.1 ha
  have hbj := qok4.1 hb
  refine ⟨fun x wx => ∃ i : Nat, x = i ∧ i ≤ 4 ∧ Bk wx g #[.int .i64 (cur A B i 0), .int .i64 (cur A B i 1), .int .i64 (cur A B i 2), .int .i64 (cur A B i 3)] 22 ∧ Bk wx g2 #[.int .i64 (B 0), .int .i64 (B 1), .int .i64 (B 2), .int .i64 (B 3)] 22 ∧ Bs w wx, fun x _ => 4 - x.toNat, ⟨0, rfl, by omega, (kA.below b5).below b7, (kB.below b5).below b7, B7⟩, ?_⟩
  rintro x wx ⟨i, rfl, hi, hA, hB, Bx⟩
  refine br_dec (fun hlt => drewB Bx fun w10 b10 B10 e10 => ?_) fun hge => ?_
  · have hi4 : i < 4 := by omega
    have a4 := haj i hi4
    have b4 := hbj i hi4
    have cA : w10.cell? ⟨g, 0 + Int.toNat (i : Int) * 1, none⟩ = some (.int .i64 (A i)) := by
      rw [(hA.below b10).cell]
      rcases i4_cases hi4 with rfl | rfl | rfl | rfl <;> simp [cur]
    have cB : w10.cell? ⟨g2, 0 + Int.toNat (i : Int) * 1, none⟩ = some (.int .i64 (B i)) := by
      rw [(hB.below b10).cell]
      rcases i4_cases hi4 with rfl | rfl | rfl | rfl <;> simp
    obtain ⟨a40, a41⟩ := a4
    obtain ⟨b40, b41⟩ := b4
    refine ⟨by omega, by omega, _, cA, by omega, by omega, _, cB, by omega, by omega, ?_⟩
    rw [wr64 (z := A i + B i) (by omega) (by omega), wr64 (z := (i : Int) + 1) (by omega) (by omega), Int.toNat_natCast, show 0 + i * 1 = i by omega]
    refine stB1 B10 g0 (hA.below b10) (by simp; omega) (fun x hx => by simp at hx; omega) fun w11 k11 f11 B11 z11 => ⟨⟨i + 1, by omega, by omega, ?_, (hB.below b10).fr1 f11 (by omega), B11⟩, by dsimp only; omega⟩
    rcases i4_cases hi4 with rfl | rfl | rfl | rfl <;> exact k11
  · obtain rfl : i = 4 := by omega
    refine ⟨_, _, _, _, cellsAt_row hA (by simp), callB Bx (rright_ret (cur A B 4 0) (cur A B 4 1) (cur A B 4 2) (cur A B 4 3) wx) fun w12 b12 B12 => ⟨_, rfl, br_not (br_dec (fun hc => ?_) fun hc => bad 6 (by decide) ?_ B12 g30)⟩⟩
    · have he : joinE A B = 0 := by unfold joinE; rw [if_neg fun h => h.elim (fun h => h ha) fun h => h hb, if_neg fun h => h hc]
      refine ⟨cur A B 4 0, cur A B 4 1, cur A B 4 2, cur A B 4 3, cellsAt_row (hA.below b12) (by simp), boxB B12 g30 fun w14 h14 B14 z14 => ⟨?_, B14⟩⟩
      unfold qV4 joinQ
      rw [he, if_pos rfl, if_pos rfl, if_pos rfl, if_pos rfl]
      rfl
    · unfold joinE; rw [if_neg fun h => h.elim (fun h => h ha) fun h => h hb, if_pos hc]
end Go.Proofs.Ytbcafgglgjhckaa
end
section
/- RhythmJoins, walked. -/
namespace Go.Proofs.Ytbcafgglgjhckaa
open Go.RowKit
theorem join_good {A B : Nat → Int} (h : joinE A B = 0) : QOk4 A ∧ QOk4 B ∧ QOk4 (joinQ A B) ∧ ∀ j, j < 4 → joinQ A B j = A j + B j := by
  have hq : ∀ j, joinQ A B j = cur A B 4 j := fun j => by unfold joinQ; rw [if_pos h]
  unfold joinE at h
  split at h
  · cases h
  · rename_i k1
    split at h
    · cases h
    · rename_i k2
      refine ⟨Decidable.byContradiction fun h => k1 (.inl h), Decidable.byContradiction fun h => k1 (.inr h), ?_, fun j hj => by rw [hq]; unfold cur; rw [if_pos hj]⟩
      have := Decidable.byContradiction k2
      unfold QOk4
      rw [hq, hq, hq, hq]
      exact this
theorem join_vec {A B : Nat → Int} (h : joinE A B = 0) : vecX (joinQ A B 0) (joinQ A B 1) (joinQ A B 2) (joinQ A B 3) = vecX (A 0) (A 1) (A 2) (A 3) + vecX (B 0) (B 1) (B 2) (B 3) ∧ vecY (joinQ A B 0) (joinQ A B 1) (joinQ A B 2) (joinQ A B 3) = vecY (A 0) (A 1) (A 2) (A 3) + vecY (B 0) (B 1) (B 2) (B 3) := by
  obtain ⟨h1, h2, h3, h4⟩ := join_good h
  unfold vecX vecY
  rw [if_pos h1, if_pos h2, if_pos h3, if_pos h1, if_pos h2, if_pos h3, h4 0 (by omega), h4 1 (by omega), h4 2 (by omega), h4 3 (by omega)]
  constructor <;> omega
theorem ljoins_k1_ok {w w9 : World} (A B : Nat → Int) (n : Int) (g g2 g5 g6 : Nat) (B9 : Bs w w9) : GRh.ljoins_k1 (fun u w' => u = .bool true ∧ Below w.heap.size w w') (A 0) (A 1) (A 2) (A 3) (B 0) (B 1) (B 2) (B 3) n g g2 g5 g6 (A 0) (A 1) (A 2) (A 3) (B 0) (B 1) (B 2) (B 3) w9 := by
  unfold GRh.ljoins_k1
  refine callB B9 (join_ret A B w9) fun w10 b10 B10 => ⟨_, _, _, _, _, rfl, newB B10 fun g7 w11 g70 sg7 n11 z11 b11 B11 => boxB B11 g70 fun w12 h12 B12 z12 => callB B12 (rjoin_ret A B w12) fun w13 b13 B13 => ⟨_, _, _, _, _, rfl, newB B13 fun g8 w14 g80 sg8 n14 z14 b14 B14 => boxB B14 g80 fun w15 h15 B15 z15 => callB B15 (beats_ret w15) fun w16 b16 B16 => ⟨_, rfl, br_f rfl (br_n (fun h => h rfl) (br_f (by simp) (br_dec (fun h => ⟨rfl, B16⟩) fun h => ⟨by decide, ?_⟩)))⟩⟩⟩
  have he : joinE A B = 0 := Decidable.byContradiction h
  generalize IntKind.i64.wrap (Int.tmod (IntKind.u64.wrap n) 1125899906842624) = ev
  refine callB B16 (join_ret A (fun _ => ev) w16) fun w17 b17 B17 => ⟨_, _, _, _, _, rfl, newB B17 fun g9 w18 g90 sg9 n18 z18 b18 B18 => boxB B18 g90 fun w19 h19 B19 z19 => drewB B19 fun w20 b20 B20 e20 => callQ B20 (vector_ret (A 0) (A 1) (A 2) (A 3) w20) ?_⟩
  rintro e w21 ⟨ra, ia, rfl, fax, fay⟩ b21 B21
  refine ⟨_, _, rfl, callQ B21 (vector_ret (B 0) (B 1) (B 2) (B 3) w21) ?_⟩
  rintro e w22 ⟨rb, ib, rfl, fbx, fby⟩ b22 B22
  refine ⟨_, _, rfl, callQ B22 (vector_ret (joinQ A B 0) (joinQ A B 1) (joinQ A B 2) (joinQ A B 3) w22) ?_⟩
  rintro e w23 ⟨rc, ic, rfl, fcx, fcy⟩ b23 B23
  obtain ⟨hx, hy⟩ := join_vec he
  rw [hx] at fcx
  rw [hy] at fcy
  have ra' := vec_range (A 0) (A 1) (A 2) (A 3)
  have rb' := vec_range (B 0) (B 1) (B 2) (B 3)
  obtain ⟨s1, e1, f1⟩ := fb_add fax fbx (by omega)
  obtain ⟨s2, e2, f2⟩ := fb_add fay fby (by omega)
  refine ⟨_, _, rfl, s1, e1, br_t (by rw [ordF_eq fcx f1]; exact decide_eq_true rfl) ⟨s2, e2, br_t (by rw [ordF_eq fcy f2]; exact decide_eq_true rfl) (br_dec (fun h => ⟨rfl, B23⟩) fun h => ?_)⟩⟩
  have he2 : joinE A (fun _ => ev) = 0 := Decidable.byContradiction h
  refine callQ B23 (vector_ret (joinQ A (fun _ => ev) 0) (joinQ A (fun _ => ev) 1) (joinQ A (fun _ => ev) 2) (joinQ A (fun _ => ev) 3) w23) ?_
  rintro e w24 ⟨rd, id', rfl, fdx, fdy⟩ b24 B24
  obtain ⟨gx, gy⟩ := join_vec he2
  rw [gx] at fdx
  rw [gy] at fdy
  refine ⟨_, _, rfl, ?_, B24⟩
  obtain ⟨_, hev, _, _⟩ := join_good he2
  have z1 : vecX ((fun _ => ev : Nat → Int) 0) ((fun _ => ev : Nat → Int) 1) ((fun _ => ev : Nat → Int) 2) ((fun _ => ev : Nat → Int) 3) = 0 := by unfold vecX; rw [if_pos hev]; exact Int.sub_self ev
  have z2 : vecY ((fun _ => ev : Nat → Int) 0) ((fun _ => ev : Nat → Int) 1) ((fun _ => ev : Nat → Int) 2) ((fun _ => ev : Nat → Int) 3) = 0 := by unfold vecY; rw [if_pos hev]; exact Int.sub_self ev
  rw [z1, Int.add_zero] at fdx
  rw [z2, Int.add_zero] at fdy
  rw [ordF_eq fdx fax, ordF_eq fdy fay, decide_eq_true rfl, decide_eq_true rfl]
  rfl
theorem ljoins_walk (a0 a1 a2 a3 c0 c1 c2 c3 n : Int) (w : World) : Calls Try.prog 3 #[qV a0 a1 a2 a3, qV c0 c1 c2 c3, .int .i64 n] w (Ret (.bool true) w) := by
  refine ret_in (GRh.ljoins_calls a0 a1 a2 a3 c0 c1 c2 c3 n w (fun u w' => u = .bool true ∧ Below w.heap.size w w') ?_)
  unfold GRh.ljoins_vc
  refine newB (Bs.refl w) fun g w2 g0 sg n2 z2 b2 B2 => newB B2 fun g2 w3 g20 sg2 n3 z3 b3 B3 => drewB B3 fun w4 b4 B4 e4 => ⟨?_, ?_⟩
  · exact newB B4 fun g3 w5 g30 sg3 n5 z5 b5 B5 => newB B5 fun g4 w6 g40 sg4 n6 z6 b6 B6 => boxB B6 g30 fun w7 h7 B7 z7 => boxB B7 g40 fun w8 h8 B8 z8 => ljoins_k1_ok (qF a0 a1 a2 a3) (qF c0 c1 c2 c3) n g g2 g4 g3 B8
  · exact newB B4 fun g3 w5 g30 sg3 n5 z5 b5 B5 => newB B5 fun g4 w6 g40 sg4 n6 z6 b6 B6 => boxB B6 g40 fun w7 h7 B7 z7 => boxB B7 g30 fun w8 h8 B8 z8 => ljoins_k1_ok (qF a0 a1 a2 a3) (qF c0 c1 c2 c3) n g g2 g4 g3 B8
end Go.Proofs.Ytbcafgglgjhckaa
end
section
/- Arrays and structs that came in as values: their numbers. -/
namespace Go.Proofs.Ytbcafgglgjhckaa
open Go.RowKit Go.WideShapes Go.ChangeShapes
theorem okWide_arr {P : Program} {W : World} {r : Reach} {base : Nat} {t : TypeId} {v : Value} {n : Nat} {e : Sh} {k : Nat} (hf : fitsB P (.arr n e k) t = true) (hv : Value.okWide P W r base t v) : ∃ cs, v = .agg cs ∧ cs.size = P.cellsOf t := by
  unfold fitsB at hf
  split at hf
  · rename_i l et hu
    unfold Value.okWide at hv
    rw [hu] at hv
    obtain ⟨cs, h1, h2, _⟩ := hv
    exact ⟨cs, h1, h2⟩
  · cases hf
theorem open_arrI {H : Type} {enc : TypeId × Value → H} {P : Program} {W : World} {r : Reach} {base : Nat} {t : TypeId} {v : Value} {d : DataW H} {p : List MemPlace} (n : Nat) (hf : fitsB P (.arr n (.int .i64) 1) t = true) (hc : P.cellsOf t = n) (hv : Value.okWide P W r base t v)
    (h : DataW.Trod enc P W 0 (fun _ => true) true t v d p) : ∃ zs : List Int, zs.length = n ∧ v = .agg (zs.map (Value.int .i64)).toArray ∧ ∀ z ∈ zs, -9223372036854775808 ≤ z ∧ z ≤ 9223372036854775807 := by
  obtain ⟨cs, rfl, hs⟩ := okWide_arr hf hv
  have hh := open_sh hf h
  obtain ⟨zs, hz, hp⟩ := exists_list (p := fun i z => cs.toList[i]? = some (Value.int .i64 z) ∧ (Lit.int .i64 z).wf = true) n (fun i hi => by
    obtain ⟨z, h1, h2⟩ := hh i hi
    refine ⟨z, ?_, h2⟩
    have := congrArg (·[0]?) h1
    simpa [Value.cells] using this)
  refine ⟨zs, hz, ?_, fun z hm => ?_⟩
  · congr 1
    apply Array.ext'
    apply List.ext_getElem?
    intro i
    rw [List.getElem?_map]
    by_cases hi : i < n
    · rw [List.getElem?_eq_getElem (show i < zs.length by omega)]
      exact (hp i _ (List.getElem?_eq_getElem (by omega))).1
    · rw [List.getElem?_eq_none (by simp; omega), List.getElem?_eq_none (by omega)]
      rfl
  · obtain ⟨i, hi⟩ := List.getElem?_of_mem hm
    exact i64_range (hp i z hi).2
theorem open_arr2 {H : Type} {enc : TypeId × Value → H} {P : Program} {W : World} {r : Reach} {base : Nat} {t : TypeId} {v : Value} {d : DataW H} {p : List MemPlace} (hf : fitsB P (.arr 2 (.int .i64) 1) t = true) (hc : P.cellsOf t = 2) (hv : Value.okWide P W r base t v)
    (h : DataW.Trod enc P W 0 (fun _ => true) true t v d p) : ∃ x y : Int, v = .agg #[.int .i64 x, .int .i64 y] ∧ (-9223372036854775808 ≤ x ∧ x ≤ 9223372036854775807) ∧ -9223372036854775808 ≤ y ∧ y ≤ 9223372036854775807 := by
  obtain ⟨zs, hz, rfl, hr⟩ := open_arrI 2 hf hc hv h
  match zs, hz with
  | [x, y], _ => exact ⟨x, y, rfl, hr x (by simp), hr y (by simp)⟩
theorem open_arr4 {H : Type} {enc : TypeId × Value → H} {P : Program} {W : World} {r : Reach} {base : Nat} {t : TypeId} {v : Value} {d : DataW H} {p : List MemPlace} (hf : fitsB P (.arr 4 (.int .i64) 1) t = true) (hc : P.cellsOf t = 4) (hv : Value.okWide P W r base t v)
    (h : DataW.Trod enc P W 0 (fun _ => true) true t v d p) : ∃ x y z u : Int, v = .agg #[.int .i64 x, .int .i64 y, .int .i64 z, .int .i64 u] ∧ (-9223372036854775808 ≤ x ∧ x ≤ 9223372036854775807) ∧ (-9223372036854775808 ≤ y ∧ y ≤ 9223372036854775807) ∧ (-9223372036854775808 ≤ z ∧ z ≤ 9223372036854775807) ∧ -9223372036854775808 ≤ u ∧ u ≤ 9223372036854775807 := by
  obtain ⟨zs, hz, rfl, hr⟩ := open_arrI 4 hf hc hv h
  match zs, hz with
  | [x, y, z, u], _ => exact ⟨x, y, z, u, rfl, hr x (by simp), hr y (by simp), hr z (by simp), hr u (by simp)⟩
end Go.Proofs.Ytbcafgglgjhckaa
end
section
/- What the rows of the rhythm need, together. -/
namespace Go.Proofs.Ytbcafgglgjhckaa
end Go.Proofs.Ytbcafgglgjhckaa
end
