import Derived.Test.YtpfmadinijofeaaMSl6
import Derived.Test.YtpfmadinijofeaaMSl5
import Derived.Test.YtpfmadinijofeaaMSl3
import Derived.Test.YtpfmadinijofeaaMSl4
import Derived.Test.YtpfmadinijofeaaMSl2
set_option linter.unusedVariables false
section
/- The program's slots: saving; walked. -/
namespace Go.Proofs.Ytpfmadinijofeaa
open Go.RowKit
theorem whole_new {a : Option Addr} {c : Nat} {im : List UInt8} (w : World) (hr : RowAt w a (im.map bV)) (hl : im.length ≤ 1000000) : Calls Try.prog 51 #[.slice a im.length c] w (NewB w w.heap.size (bodyB im)) := by
  refine (GSn.whole_calls a im.length c w (fun v w' => ∃ a c, v = .slice a (bodyB im).length c ∧ Own w' w.heap.size 5 1 (.slice a (bodyB im).length c) (bodyB im).length ((bodyB im).map bV) ∧ Bs w w') ?_).mono (by rintro e w' ⟨v, rfl, a, c, rfl, h⟩; exact ⟨a, c, rfl, h⟩)
  unfold GSn.whole_vc
  refine newB (Bs.refl w) fun g w2 g0 sg n2 z2 b2 B2 => ?_
  have o2 : Own w2 w.heap.size 5 1 (.slice (some ⟨g, 0, none⟩) 0 0) 0 (([] : List UInt8).map bV) := own_lit (bs := []) n2 g0 (Nat.zero_le _)
  refine appB B2 o2 (Nat.le_refl _) B2.size (srcB (hr.bs B2)) (by unfold maxLen; omega) (by omega) (fun q hq => by cases hq) fun a' c' w3 o3 g3 B3 z3 => ?_
  have o3 : Own w3 w.heap.size 5 1 (.slice a' (0 + im.length) c') (0 + im.length) (im.map bV) := o3
  refine ⟨fun a3 m c3 wx => ∃ j : Nat, j ≤ (64 - im.length % 64) % 64 ∧ m = (im ++ zerosB j).length ∧ Own wx w.heap.size 5 1 (.slice a3 m c3) m ((im ++ zerosB j).map bV) ∧ Bs w wx, fun _ m _ _ => im.length + 64 - m, ⟨0, Nat.zero_le _, by simp [zerosB], by simpa [zerosB] using o3, B3⟩, ?_⟩
  rintro a3 m c3 wx ⟨j, hj, rfl, ox, Bx⟩
  have hl2 : (im ++ zerosB j).length = im.length + j := by rw [List.length_append, zerosB_len]
  refine ⟨by decide, ?_⟩
  rw [tmod64]
  refine br_dec (fun h => ?_) fun h => ?_
  · refine appU Bx ox (Nat.le_refl _) Bx.size (by omega) (b := 0) rfl (fun q hq => by cases hq) fun a4 c4 w4 o4 B4 z4 => ⟨⟨j + 1, by omega, ?_, ?_, B4⟩, by dsimp only; omega⟩
    · rw [List.length_append, List.length_append, zerosB_len, zerosB_len]; omega
    · rw [zerosB_succ, ← List.append_assoc]; exact o4
  · obtain rfl : j = (64 - im.length % 64) % 64 := by omega
    exact ⟨a3, c3, rfl, ox, Bx⟩
def plV (p : Option Addr) (q size slot : Int) : Value := .agg #[.pointer p, .int .i64 q, .int .i64 size, .int .i64 slot]
theorem at_nil (first size slot : Int) (w : World) : Calls Try.prog 49 #[.pointer none, .int .i64 first, .int .i64 size, .int .i64 slot] w (Ret (.tuple #[plV none 0 0 0, .int .i64 1]) w) := by
  refine ret_in (GSn.at_calls none first size slot w (fun u w' => u = .tuple #[plV none 0 0 0, .int .i64 1] ∧ Below w.heap.size w w') ?_)
  unfold GSn.at_vc
  exact newB (Bs.refl w) fun g w2 g0 sg n2 z2 b2 B2 => br_t rfl (boxB B2 g0 fun w3 x3 B3 s3 => ⟨rfl, B3⟩)
theorem at_ret {w : World} {g gl mb : Nat} {S : DS} (h : DkAt w g gl mb S) (hW : DWf S) (first size slot : Int) (h1 : -9223372036854775808 ≤ first) (h2 : first ≤ 9223372036854775807) (h3 : -9223372036854775808 ≤ size) (h4 : size ≤ 9223372036854775807) (hs : slot = 0 ∨ slot = 1) :
    Calls Try.prog 49 #[.pointer (some ⟨g, 0, none⟩), .int .i64 first, .int .i64 size, .int .i64 slot] w (Ret (.tuple #[if atE S first size ≠ 0 then plV none 0 0 0 else plV (some ⟨g, 0, none⟩) (first + slot * size) size slot, .int .i64 (atE S first size)]) w) := by
  refine ret_in (GSn.at_calls (some ⟨g, 0, none⟩) first size slot w (fun u w' => u = .tuple #[if atE S first size ≠ 0 then plV none 0 0 0 else plV (some ⟨g, 0, none⟩) (first + slot * size) size slot, .int .i64 (atE S first size)] ∧ Below w.heap.size w w') ?_)
  unfold GSn.at_vc
  have n1 := hW.n1
  have n2' := hW.n2
  have e0 : ∀ q : first < 0 ∨ size < 1 ∨ size > (S.n : Int) / 2 ∨ first > S.n - 2 * size, Value.tuple #[plV none 0 0 0, .int .i64 1] = Value.tuple #[if atE S first size ≠ 0 then plV none 0 0 0 else plV (some ⟨g, 0, none⟩) (first + slot * size) size slot, .int .i64 (atE S first size)] := fun q => by
    have : atE S first size = 1 := by unfold atE; rw [if_pos q]
    rw [this]; rfl
  refine newB (Bs.refl w) fun g1 w2 g0 sg m2 z2 b2 B2 => br_f rfl (br_dec (fun q1 => boxB B2 g0 fun w3 x3 B3 s3 => ⟨e0 (.inl q1), B3⟩) fun q1 => br_dec (fun q2 => boxB B2 g0 fun w3 x3 B3 s3 => ⟨e0 (.inr (.inl q2)), B3⟩) fun q2 => ?_)
  refine callB B2 (dsize_ret (h.bs B2)) fun w3 b3 B3 => ⟨_, rfl, by decide, ?_⟩
  have et : Int.tdiv (S.n : Int) 2 = (S.n : Int) / 2 := Int.tdiv_eq_ediv_of_nonneg (by omega)
  rw [et, wr64 (by omega) (by omega)]
  refine br_dec (fun q3 => boxB B3 g0 fun w4 x4 B4 s4 => ⟨e0 (.inr (.inr (.inl q3))), B4⟩) fun q3 => callB B3 (dsize_ret (h.bs B3)) fun w4 b4 B4 => ⟨_, rfl, ?_⟩
  rw [wr64 (z := 2 * size) (by omega) (by omega), wr64 (z := (S.n : Int) - 2 * size) (by omega) (by omega)]
  refine br_dec (fun q4 => boxB B4 g0 fun w5 x5 B5 s5 => ⟨e0 (.inr (.inr (.inr q4))), B5⟩) fun q4 => boxB B4 g0 fun w5 x5 B5 s5 => ⟨?_, B5⟩
  have : atE S first size = 0 := by unfold atE; rw [if_neg (by omega)]
  rw [this]
  rcases hs with rfl | rfl
  · rw [wr64 (z := 0 * size) (by omega) (by omega), wr64 (by omega) (by omega)]; rfl
  · rw [wr64 (z := 1 * size) (by omega) (by omega), wr64 (by omega) (by omega)]; rfl
theorem pwrite_any {w : World} {g gl mb : Nat} {S : DS} (h : DkAt w g gl mb S) (hW : DWf S) {a : Option Addr} {c : Nat} {bs : List UInt8} (hr : RowAt w a (bs.map bV)) (hl : bs.length ≤ 60000000) (hc : bs.length ≤ c) (ha : ∀ q, a = some q → q.block ∉ [g, gl, mb])
    (q size slot ahead : Int) (h1 : -9223372036854775808 ≤ q + ahead) (h2 : q + ahead ≤ 9223372036854775807) :
    Calls Try.prog 50 #[plV (some ⟨g, 0, none⟩) q size slot, .int .i64 ahead, .slice a bs.length c] w (DDo w g gl mb (.int .i64 (pwE S (q + ahead) bs)) (pwD S (q + ahead) bs)) := by
  refine ddo_in (GSn.pwrite_calls (some ⟨g, 0, none⟩) q size slot ahead a bs.length c w (DDoV w g gl mb (.int .i64 (pwE S (q + ahead) bs)) (pwD S (q + ahead) bs)) ?_)
  unfold GSn.pwrite_vc
  refine newB (Bs.refl w) fun g1 w2 g0 sg n2 z2 b2 B2 => br_dec (fun q0 => ?_) fun q0 => ?_
  · have hn : bs = [] := List.eq_nil_of_length_eq_zero (by omega)
    exact ddo_no h B2 (by unfold pwE; rw [if_pos hn]) (by unfold pwD; rw [if_pos hn])
  have hn : bs ≠ [] := fun e => q0 (by rw [e]; rfl)
  rw [wr64 h1 h2]
  have t2 := h.bs B2
  refine (dwrite_any t2 hW (hr.bs B2) hl hc ha (q + ahead)).mono ?_
  rintro e w3 ⟨rfl, t3, f3⟩
  refine ⟨keepG_fr f3 (box_ne h g0), _, rfl, br_dec (fun q1 => ⟨?_, ?_, (Fr.ofBelow (L := [g, gl, mb]) B2).trans f3 (Gr.refl _ _)⟩) fun q1 => ?_⟩
  · unfold pwE; rw [if_neg hn, if_pos q1]
  · unfold pwD; rw [if_neg hn, if_pos q1]; exact t3
  have q1 : writeE S (q + ahead) bs = 0 := Decidable.not_not.1 q1
  refine (dsync_any t3 (hW.write _ _)).mono ?_
  rintro e w4 ⟨rfl, t4, f4⟩
  refine ⟨keepG_fr f4 (box_ne h g0), _, rfl, ?_, ?_, ((Fr.ofBelow (L := [g, gl, mb]) B2).trans f3 (Gr.refl _ _)).trans f4 (Gr.refl _ _)⟩
  · unfold pwE; rw [if_neg hn, if_neg (not_not_intro q1)]
  · unfold pwD; rw [if_neg hn, if_neg (not_not_intro q1)]; exact t4
theorem save_nil (first size gen : Int) {a : Option Addr} {n c : Nat} (w : World) : Calls Try.prog 15 #[.pointer none, .int .i64 first, .int .i64 size, .int .i64 gen, .slice a n c] w (Ret (.int .i64 1) w) := by
  refine ret_in (GSn.save_calls none first size gen a n c w (fun u w' => u = .int .i64 1 ∧ Below w.heap.size w w') ?_)
  unfold GSn.save_vc
  exact callB (Bs.refl w) (at_nil _ _ _ w) fun w2 b2 B2 => ⟨_, _, _, _, _, rfl, newB B2 fun g w3 g0 sg n3 z3 b3 B3 => boxB B3 g0 fun w4 x4 B4 s4 => br_y (by decide) ⟨rfl, B4⟩⟩
theorem save_any {w : World} {g gl mb : Nat} {S : DS} (h : DkAt w g gl mb S) (hW : DWf S) {a : Option Addr} {c : Nat} {im : List UInt8} (hr : RowAt w a (im.map bV)) (hl : im.length ≤ 1000000) (hc : im.length ≤ c) (ha : ∀ q, a = some q → q.block ∉ [g, gl, mb])
    (first size gen : Int) (h1 : -9223372036854775808 ≤ first) (h2 : first ≤ 9223372036854775807) (h3 : -9223372036854775808 ≤ size) (h4 : size ≤ 9223372036854775807) (h5 : gen ≤ 9223372036854775807) :
    Calls Try.prog 15 #[.pointer (some ⟨g, 0, none⟩), .int .i64 first, .int .i64 size, .int .i64 gen, .slice a im.length c] w (DDo w g gl mb (.int .i64 (saveE S first size gen im)) (saveD S first size gen im)) := by
  refine ddo_in (GSn.save_calls (some ⟨g, 0, none⟩) first size gen a im.length c w (DDoV w g gl mb (.int .i64 (saveE S first size gen im)) (saveD S first size gen im)) ?_)
  unfold GSn.save_vc
  rw [i64_and1]
  have hm : gen % 2 = 0 ∨ gen % 2 = 1 := by omega
  refine callB (Bs.refl w) (at_ret h hW first size (gen % 2) h1 h2 h3 h4 hm) fun w2 b2 B2 => ?_
  by_cases q0 : atE S first size = 0
  · rw [if_neg (not_not_intro q0), q0]
    have hb : 0 ≤ first ∧ 1 ≤ size ∧ 2 * size ≤ S.n ∧ first + 2 * size ≤ S.n := by
      unfold atE at q0
      split at q0
      · omega
      · rename_i hq; omega
    obtain ⟨p1, p2, p3, p4⟩ := hb
    have n2' := hW.n2
    have hq : slotAt first size gen = first + gen % 2 * size := rfl
    have hqb : 0 ≤ slotAt first size gen ∧ slotAt first size gen + size ≤ S.n := by
      rw [hq]
      rcases hm with e | e <;> rw [e] <;> omega
    refine ⟨_, _, _, _, _, rfl, newB B2 fun g1 w3 g0 sg n3 z3 b3 B3 => boxB B3 g0 fun w4 x4 B4 s4 => br_n (by omega) (br_dec (fun q1 => ?_) fun q1 => ?_)⟩
    · exact ddo_no h B4 (by unfold saveE; rw [if_neg (not_not_intro q0), if_pos q1]) (by unfold saveD; rw [if_neg (not_not_intro q0), if_pos q1])
    refine callB B4 (room_ret size w4) fun w5 b5 B5 => ⟨_, rfl, br_dec (fun q2 => ?_) fun q2 => drewB B5 fun w6 b6 B6 e6 => ?_⟩
    · exact ddo_no h B5 (by unfold saveE; rw [if_neg (not_not_intro q0), if_neg q1, if_pos q2]) (by unfold saveD; rw [if_neg (not_not_intro q0), if_neg q1, if_pos q2])
    refine (whole_new w6 (hr.bs B6) hl).mono ?_
    rintro e w7 ⟨a7, c7, rfl, o7, b7⟩
    have B7 := B6.to b7
    refine ⟨keepG_below b7, a7, _, c7, rfl, ?_⟩
    have hn7 : ∀ q, a7 = some q → q.block ∉ [g, gl, mb] := fun q hq hm => by
      subst hq
      have := (o7.lt q.block rfl).1
      have := h.lt
      have := B6.size
      simp at hm
      omega
    rw [← hq]
    refine (pwrite_any (h.bs B7) hW o7.row (by rw [bodyB_len]; omega) o7.cap.1 hn7 (slotAt first size gen) size (gen % 2) 1 (by omega) (by omega)).mono ?_
    rintro e w8 ⟨rfl, t8, f8⟩
    have F8 : Fr [g, gl, mb] w w8 := (Fr.ofBelow (L := [g, gl, mb]) B7).trans f8 (Gr.refl _ _)
    refine ⟨keepG_fr f8 (box_ne h g0), _, rfl, br_dec (fun q3 => ⟨?_, ?_, F8⟩) fun q3 => drewO_in fun w9 b9 e9 => ?_⟩
    · unfold saveE; rw [if_neg (not_not_intro q0), if_neg q1, if_neg q2, if_pos q3]
    · unfold saveD; rw [if_neg (not_not_intro q0), if_neg q1, if_neg q2, if_pos q3]; exact t8
    have hr9 : RowAt w9 a (im.map bV) := ((hr.frL F8 ha).bs b9)
    obtain ⟨k, rfl⟩ : ∃ k : Nat, gen = (k : Int) := ⟨gen.toNat, by omega⟩
    refine (head_new k (by omega) w9 hr9 hl hc).mono ?_
    rintro e w10 ⟨a10, c10, rfl, o10, b10⟩
    refine ⟨keepG_below b10, a10, _, c10, rfl, ?_⟩
    have z6 := F8.size
    have z9 := b9.size
    have hn10 : ∀ q, a10 = some q → q.block ∉ [g, gl, mb] := fun q hq hm => by
      subst hq
      have := (o10.lt q.block rfl).1
      have := h.lt
      simp at hm
      omega
    refine (pwrite_any ((t8.bs b9).bs b10) (hW.pw _ _) o10.row (by rw [headK_len]; omega) o10.cap.1 hn10 (slotAt first size k) size ((k : Int) % 2) 0 (by omega) (by omega)).mono ?_
    rintro e w11 ⟨rfl, t11, f11⟩
    rw [Int.add_zero] at t11 ⊢
    refine ⟨keepG_fr f11 (box_ne h g0), _, rfl, ?_, ?_, ((F8.b b9).b b10).trans f11 (Gr.refl _ _)⟩
    · unfold saveE; rw [if_neg (not_not_intro q0), if_neg q1, if_neg q2, if_neg q3, Int.toNat_natCast]
    · unfold saveD; rw [if_neg (not_not_intro q0), if_neg q1, if_neg q2, if_neg q3, Int.toNat_natCast]; exact t11
  · have e1 : atE S first size = 1 := by
      unfold atE at q0 ⊢
      split
      · rfl
      · rename_i hq; rw [if_neg hq] at q0; exact absurd rfl q0
    rw [if_pos q0, e1]
    exact ⟨_, _, _, _, _, rfl, newB B2 fun g1 w3 g0 sg n3 z3 b3 B3 => boxB B3 g0 fun w4 x4 B4 s4 => br_y (by decide) (ddo_no h B4 (by unfold saveE; rw [if_pos q0]) (by unfold saveD; rw [if_pos q0]))⟩
end Go.Proofs.Ytpfmadinijofeaa
end
section
/- The program's slots: reading, loading; walked. -/
namespace Go.Proofs.Ytpfmadinijofeaa
open Go.RowKit
/-- What the reading of a slot returns. -/
def RdB (w : World) (gen : Int) (im : List UInt8) (er : Int) (v : Value) (w' : World) : Prop :=
  ∃ a c, v = .tuple #[.int .i64 gen, .slice a im.length c, .int .i64 er] ∧ Own w' w.heap.size 5 1 (.slice a im.length c) im.length (im.map bV) ∧ Bs w w'
theorem rdb_in {P : Program} {f : FuncId} {av : Array Value} {w : World} {gen er : Int} {im : List UInt8} (h : Calls P f av w fun e w' => ∃ v, e = .returned v ∧ RdB w gen im er v w') :
    Calls P f av w fun e w' => ∃ a c, e = .returned (.tuple #[.int .i64 gen, .slice a im.length c, .int .i64 er]) ∧ Own w' w.heap.size 5 1 (.slice a im.length c) im.length (im.map bV) ∧ Bs w w' :=
  h.mono (by rintro e w' ⟨v, rfl, a, c, rfl, h⟩; exact ⟨a, c, rfl, h⟩)
theorem rdb_none {w wx : World} {gen er : Int} {im : List UInt8} (B : Bs w wx) (hg : gen = 0) (hi : im = []) {z : Int} (hz : z = er) : RdB w gen im er (.tuple #[.int .i64 0, .slice none 0 0, .int .i64 z]) wx := by
  subst hg; subst hi; subst hz
  exact ⟨none, 0, rfl, Own.nil _ _ _ _, B⟩
def readN (b : List UInt8) (size slot : Int) : Int := genO (slotG b size slot)
section
variable {t : List UInt8} {k : Nat} {y : UInt8}
theorem f0_lt (hk : k < 8) (hy : t[k]? = some y) : foldI 0 ((t.take (k + 1)).take 8) = stepI (foldI 0 ((t.take k).take 8)) y.toNat := by
  rw [List.take_take, List.take_take, Nat.min_eq_right (by omega), Nat.min_eq_right (by omega), List.take_add_one, hy]
  exact foldI_snoc _ _ _
theorem f1_lt (hk : k < 8) : foldI 0 ((t.take (k + 1)).drop 8) = foldI 0 ((t.take k).drop 8) := by
  rw [List.drop_eq_nil_of_le (by rw [List.length_take]; omega), List.drop_eq_nil_of_le (by rw [List.length_take]; omega)]
theorem f0_ge (hk : 8 ≤ k) : foldI 0 ((t.take (k + 1)).take 8) = foldI 0 ((t.take k).take 8) := by
  rw [List.take_take, List.take_take, Nat.min_eq_left (by omega), Nat.min_eq_left (by omega)]
theorem f1_ge (hk : 8 ≤ k) (hy : t[k]? = some y) : foldI 0 ((t.take (k + 1)).drop 8) = stepI (foldI 0 ((t.take k).drop 8)) y.toNat := by
  have hl : k < t.length := (List.getElem?_eq_some_iff.1 hy).1
  rw [List.take_add_one, hy, List.drop_append_of_le_length (by rw [List.length_take]; omega)]
  exact foldI_snoc _ _ _
end
theorem drop16 {b : List UInt8} : ((b.drop 1).take 16).take 8 = (b.drop 1).take 8 ∧ ((b.drop 1).take 16).drop 8 = (b.drop 9).take 8 := by
  refine ⟨by rw [List.take_take]; rfl, ?_⟩
  rw [List.drop_take, List.drop_drop]
set_option maxRecDepth 20000 in
set_option maxHeartbeats 800000 in
theorem pread_new {w : World} {g gl mb : Nat} {S : DS} (h : DkAt w g gl mb S) (hW : DWf S) (q size slot : Int) (h0 : 0 ≤ q) (h1 : 1 ≤ size) (h2 : q + size ≤ S.n) :
    Calls Try.prog 57 #[plV (some ⟨g, 0, none⟩) q size slot] w fun e w' => ∃ a c, e = .returned (.tuple #[.int .i64 (if S.off = true then 0 else genO (slotG (readL S q size) size slot)), .slice a (if S.off = true then [] else imO (slotG (readL S q size) size slot)).length c, .int .i64 (mayE S q size)]) ∧
      Own w' w.heap.size 5 1 (.slice a (if S.off = true then [] else imO (slotG (readL S q size) size slot)).length c) (if S.off = true then [] else imO (slotG (readL S q size) size slot)).length ((if S.off = true then [] else imO (slotG (readL S q size) size slot)).map bV) ∧ Bs w w' := by
  refine rdb_in (GSn.pread_calls (some ⟨g, 0, none⟩) q size slot w (RdB w _ _ _) ?_)
  unfold GSn.pread_vc
  have n2' := hW.n2
  refine newB (Bs.refl w) fun g1 w2 g0 sg n2 z2 b2 B2 => ?_
  refine (dread_new (h.bs B2) hW q size).mono ?_
  rintro e w3 ⟨a, m, c, rfl, rfl, o3, b3⟩
  have B3 := B2.to b3
  refine ⟨keepG_below b3, a, _, c, _, rfl, br_dec (fun hm => ?_) fun hm => ?_⟩
  · have ho : S.off = true := by
      unfold mayE at hm
      by_cases hh : S.off = true
      · exact hh
      · rw [if_neg hh, if_pos (by omega)] at hm; exact absurd rfl hm
    exact rdb_none B3 (by rw [if_pos ho]) (by rw [if_pos ho]) rfl
  have hm : mayE S q size = 0 := Decidable.not_not.1 hm
  have ho : S.off = false := (mayE_zero hm).1
  have hno : ¬ (S.off = true) := by rw [ho]; decide
  rw [if_neg hno, if_neg hno, hm]
  have hlen : (readL S q size).length = size.toNat * 64 := by
    unfold readL
    rw [if_pos hm, readS_len hW]
  generalize hb : readL S q size = b at o3 hlen ⊢
  have hb64 : 64 ≤ b.length := by omega
  have cap := o3.cap.1
  have s3 := b3.size
  refine newB B3 fun gn w4 gn0 sgn n4 z4 b4 B4 => ⟨by omega, by omega, by omega, ?_⟩
  have k4 : Bk w4 gn #[.int .i64 0, .int .i64 0] 37 := n4
  have r4 := (o3.below b4 (Nat.le_refl _)).row
  have han : ∀ p, a = some p → p.block ∉ [gn] := fun p hp hm => by
    subst hp
    have := (o3.lt p.block rfl).2
    simp at hm
    omega
  have hbl : ((b.drop 1).take 16).length = 16 := by rw [List.length_take, List.length_drop]; omega
  obtain ⟨d1, d2⟩ := drop16 (b := b)
  obtain ⟨t, ht⟩ : ∃ t, t = (b.drop 1).take 16 := ⟨_, rfl⟩
  have hget : ∀ k (hk : k < 16), t[k]? = some (b[1 + k]'(by omega)) := fun k hk => by
    rw [ht, List.getElem?_take_of_lt hk, List.getElem?_drop, List.getElem?_eq_getElem]
  rw [← ht] at hbl d1 d2
  refine ⟨fun x wx => ∃ k : Nat, x = k ∧ k ≤ 16 ∧ Bk wx gn #[.int .i64 (foldI 0 ((t.take k).take 8)), .int .i64 (foldI 0 ((t.take k).drop 8))] 37 ∧ RowAt wx a (b.map bV) ∧ Bs w wx ∧ w4.heap.size ≤ wx.heap.size, fun x _ => (16 - x).toNat, ⟨0, rfl, by omega, by simpa [foldI] using k4, r4, B4, Nat.le_refl _⟩, ?_⟩
  rintro x wx ⟨k, rfl, hk, kx, rx, Bx, zx⟩
  refine br_dec (fun hlt => ?_) fun hge => ?_
  · have hk16 : k < 16 := by omega
    obtain ⟨b', off, rfl, hcell⟩ := rx.byte (k := 1 + k) (by omega)
    obtain ⟨b2', off2, hsb, hc2⟩ := sliceBase_cell (c := c) (l := 1) (s := 1) (j := k) (by omega) (by rw [Nat.mul_one, Nat.add_assoc]; exact hcell)
    refine withP_mk b2' off2 hsb ⟨by omega, by omega, _, by rw [Int.toNat_natCast, Nat.mul_one]; exact hc2, by decide, by decide, ?_⟩
    have etd : Int.tdiv (k : Int) 8 = ((k / 8 : Nat) : Int) := by rw [Int.tdiv_eq_ediv_of_nonneg (by omega)]; omega
    rw [etd, wr64 (by omega) (by omega), Int.toNat_natCast]
    refine ⟨by omega, by omega, ?_⟩
    have hk1 : IntKind.i64.wrap ((k : Int) + 1) = ((k + 1 : Nat) : Int) := by rw [wr64 (by omega) (by omega)]; omega
    by_cases h8 : k < 8
    · rw [show k / 8 = 0 by omega]
      refine ⟨_, by rw [kx.cell]; rfl, by decide, by decide, by decide, ?_⟩
      rw [step_val, ← f0_lt h8 (hget k hk16)]
      refine stO_bk kx (by simp) (fun y hy e => by simp at hy; omega) fun w6 k6 f6 s6 => ⟨⟨k + 1, hk1, by omega, ?_, rx.frL f6 han, Bx.fr1 f6 gn0, by omega⟩, by dsimp only; rw [hk1]; omega⟩
      rw [f1_lt h8]
      exact k6
    · rw [show k / 8 = 1 by omega]
      refine ⟨_, by rw [kx.cell]; rfl, by decide, by decide, by decide, ?_⟩
      rw [step_val, ← f1_ge (by omega) (hget k hk16)]
      refine stO_bk kx (by simp) (fun y hy e => by simp at hy; omega) fun w6 k6 f6 s6 => ⟨⟨k + 1, hk1, by omega, ?_, rx.frL f6 han, Bx.fr1 f6 gn0, by omega⟩, by dsimp only; rw [hk1]; omega⟩
      rw [f0_ge (by omega)]
      exact k6
  · obtain rfl : k = 16 := by omega
    rw [List.take_of_length_le (show t.length ≤ 16 by omega), d1, d2] at kx
    obtain ⟨r1, r2⟩ := foldI_rng ((b.drop 1).take 8)
    obtain ⟨r3, r4'⟩ := foldI_rng ((b.drop 9).take 8)
    have hG : slotG b size slot = if foldI 0 ((b.drop 1).take 8) < 1 ∨ foldI 0 ((b.drop 1).take 8) % 2 ≠ slot ∨ foldI 0 ((b.drop 9).take 8) < 0 ∨ foldI 0 ((b.drop 9).take 8) > roomZ size then none
      else if b.take 64 = headK (foldI 0 ((b.drop 1).take 8)).toNat ((b.drop 64).take (foldI 0 ((b.drop 9).take 8)).toNat) then some (foldI 0 ((b.drop 1).take 8), (b.drop 64).take (foldI 0 ((b.drop 9).take 8)).toNat) else none := rfl
    generalize foldI 0 ((b.drop 1).take 8) = G at *
    generalize foldI 0 ((b.drop 9).take 8) = N at *
    have no : ∀ {wy : World}, Bs w wy → slotG b size slot = none → RdB w (genO (slotG b size slot)) (imO (slotG b size slot)) 0 (.tuple #[.int .i64 0, .slice none 0 0, .int .i64 0]) wy := fun By hs => rdb_none By (by rw [hs]; rfl) (by rw [hs]; rfl) rfl
    refine drewB Bx fun w7 b7 B7 e7 => ⟨by decide, by decide, G, by rw [(kx.below b7).cell]; rfl, br_dec (fun q1 => no B7 (by rw [hG, if_pos (.inl q1)])) fun q1 => ?_⟩
    have k7 := kx.below b7
    refine ⟨by decide, by decide, G, by rw [k7.cell]; rfl, ?_⟩
    rw [i64_and1]
    refine br_dec (fun q2 => no B7 (by rw [hG, if_pos (.inr (.inl q2))])) fun q2 => ⟨by decide, by decide, N, by rw [k7.cell]; rfl, br_dec (fun q3 => no B7 (by rw [hG, if_pos (.inr (.inr (.inl q3)))])) fun q3 => ⟨by decide, by decide, N, by rw [k7.cell]; rfl, ?_⟩⟩
    refine callB B7 (room_ret size w7) fun w8 b8 B8 => ⟨_, rfl, by rw [(k7.below b8).cell]; rfl, br_dec (fun q4 => no B8 (by rw [hG, if_pos (.inr (.inr (.inr q4)))])) fun q4 => ?_⟩
    have k8 := k7.below b8
    have r8 := (rx.bs b7).bs b8
    have hroom : roomZ size ≤ 64 * (size - 1) := by unfold roomZ; split <;> omega
    obtain ⟨n, rfl⟩ : ∃ n : Nat, N = (n : Int) := ⟨N.toNat, by omega⟩
    obtain ⟨gg, rfl⟩ : ∃ n : Nat, G = (n : Int) := ⟨G.toNat, by omega⟩
    rw [if_neg (by omega), Int.toNat_natCast, Int.toNat_natCast] at hG
    refine newB B8 fun g3 w9 g30 sg3 n9 z9 b9 B9 => ⟨by decide, by decide, (n : Int), by rw [(k8.below b9).cell]; rfl, ?_⟩
    rw [wr64 (by omega) (by omega)]
    have hil : ((b.drop 64).take n).length = n := by rw [List.length_take, List.length_drop]; omega
    have o9 : Own w9 w.heap.size 5 1 (.slice (some ⟨g3, 0, none⟩) 0 0) 0 (([] : List UInt8).map bV) := own_lit (bs := []) n9 g30 (Nat.zero_le _)
    have r9 := r8.bs b9
    have hri : RowAt w9 (sliceBase a c 64 1) (((b.drop 64).take n).map bV) := by
      rw [List.map_take]
      exact (row_base r9 cap 64).take n
    have hsrc := srcB (c := c - 64) hri
    rw [hil] at hsrc
    have en : (64 + (n : Int)).toNat - (64 : Int).toNat = n := by omega
    rw [en]
    refine ⟨by omega, by omega, by omega, appB B9 o9 (Nat.le_refl _) B9.size hsrc (by unfold maxLen; omega) (by omega) (fun y hy e => ?_) fun a' c' w10 o10 g10 B10 z10 => ?_⟩
    · simp at hy
      subst hy
      simp [Value.ownBlock] at e
      have := b7.size
      have := b8.size
      omega
    have o10 : Own w10 w.heap.size 5 1 (.slice a' (0 + n) c') (0 + n) (((b.drop 64).take n).map bV) := o10
    rw [Nat.zero_add n] at o10 ⊢
    have kg : ∀ k, k < w9.heap.size → k ≠ g3 → w10.heap[k]? = w9.heap[k]? := fun k hk hne => g10.block k hk fun e => by simp [Value.ownBlock] at e; exact hne e
    have k10 : Bk w10 gn #[.int .i64 (gg : Int), .int .i64 (n : Int)] 37 := ((k8.below b9).keep (kg gn ((k8.below b9).lt) (by have := (k8).lt; omega)))
    have r10 : RowAt w10 a (b.map bV) := by
      refine r9.keepB fun p hp => ?_
      subst hp
      have h1 := (o3.lt p.block rfl).2
      have h2 := b4.size
      have h3 := b7.size
      have h4 := b8.size
      have h5 := b9.size
      exact kg p.block (by omega) (by omega)
    refine drewB B10 fun w12 b12 B12 e12 => ⟨by decide, by omega, b.take 64, by rw [List.length_take]; exact Nat.min_eq_left hb64, by rw [List.map_take]; exact (r10.bs b12).take 64, by decide, by decide, (gg : Int), by rw [(k10.below b12).cell]; rfl, ?_⟩
    have o12 := o10.below b12 (Nat.le_refl _)
    have hh := head_new gg (by omega) (c := c') w12 o12.row (by omega) (by rw [hil]; exact o12.cap.1)
    rw [hil] at hh
    refine hh.mono ?_
    rintro e w13 ⟨a13, c13, rfl, o13, b13⟩
    have B13 := B12.to b13
    refine ⟨keepG_below b13, a13, _, c13, rfl, by rw [List.map_take]; exact (((r10.bs b12).bs b13).take 64), headK gg ((b.drop 64).take n), rfl, o13.row, br_dec (fun hd => no B13 (by rw [hG, if_neg fun e => hd (by rw [e])])) fun hd => ?_⟩
    have hd := strOf_inj (Decidable.not_not.1 hd)
    rw [if_pos hd] at hG
    refine ⟨by decide, by decide, (gg : Int), by rw [((k10.below b12).below b13).cell]; rfl, a', c', ?_, ?_, B13⟩
    · rw [hG]
      show Value.tuple #[_, .slice a' n c', _] = .tuple #[_, .slice a' ((b.drop 64).take n).length c', _]
      rw [hil]
      rfl
    · rw [hG]
      show Own w13 _ _ _ (.slice a' ((b.drop 64).take n).length c') ((b.drop 64).take n).length _
      rw [hil]
      exact o12.below b13 (Nat.le_refl _)
end Go.Proofs.Ytpfmadinijofeaa
end
section
/- The program's slots: Load and Gens; walked. -/
namespace Go.Proofs.Ytpfmadinijofeaa
open Go.RowKit
theorem atE_zero {S : DS} {first size : Int} (h : atE S first size = 0) : 0 ≤ first ∧ 1 ≤ size ∧ 2 * size ≤ S.n ∧ first + 2 * size ≤ S.n := by
  unfold atE at h
  split at h
  · omega
  · rename_i hq; omega
theorem atE_one {S : DS} {first size : Int} (h : ¬ atE S first size = 0) : atE S first size = 1 := by
  unfold atE at h ⊢
  split
  · rfl
  · rename_i hq; rw [if_neg hq] at h; exact absurd rfl h
theorem may_at {S : DS} {first size slot : Int} (h : atE S first size = 0) (hs : slot = 0 ∨ slot = 1) : mayE S (first + slot * size) size = if S.off = true then 12 else 0 := by
  obtain ⟨p1, p2, p3, p4⟩ := atE_zero h
  unfold mayE
  by_cases ho : S.off = true
  · rw [if_pos ho, if_pos ho]
  · rw [if_neg ho, if_neg ho, if_pos]
    rcases hs with rfl | rfl <;> omega
/-- A slot is read. -/
theorem slot_new {w : World} {g gl mb : Nat} {S : DS} (h : DkAt w g gl mb S) (hW : DWf S) (first size slot : Int) (h0 : atE S first size = 0) (hs : slot = 0 ∨ slot = 1) :
    Calls Try.prog 57 #[plV (some ⟨g, 0, none⟩) (first + slot * size) size slot] w fun e w' => ∃ a c, e = .returned (.tuple #[.int .i64 (if S.off = true then 0 else genO (slotR S first size slot)), .slice a (if S.off = true then [] else imO (slotR S first size slot)).length c, .int .i64 (if S.off = true then 12 else 0)]) ∧
      Own w' w.heap.size 5 1 (.slice a (if S.off = true then [] else imO (slotR S first size slot)).length c) (if S.off = true then [] else imO (slotR S first size slot)).length ((if S.off = true then [] else imO (slotR S first size slot)).map bV) ∧ Bs w w' := by
  obtain ⟨p1, p2, p3, p4⟩ := atE_zero h0
  have hq : 0 ≤ first + slot * size ∧ first + slot * size + size ≤ S.n := by rcases hs with rfl | rfl <;> omega
  have := pread_new h hW (first + slot * size) size slot hq.1 p2 hq.2
  rw [may_at h0 hs] at this
  exact this
def bestK (S : DS) (first size : Int) : Nat → Option (Int × List UInt8)
  | 0 => none
  | 1 => slotR S first size 0
  | _ => bestR S first size
theorem bestK_step {S : DS} {first size : Int} {k : Nat} (hk : k < 2) : bestK S first size (k + 1) = if genO (slotR S first size (k : Int)) > genO (bestK S first size k) then slotR S first size (k : Int) else bestK S first size k := by
  have h : k = 0 ∨ k = 1 := by omega
  rcases h with rfl | rfl
  · show slotR S first size 0 = if genO (slotR S first size 0) > 0 then slotR S first size 0 else none
    split
    · rfl
    · rename_i hq
      have := genO_pos (S := S) (first := first) (size := size) (slot := 0)
      exact this.2.2 (by omega)
  · rfl
theorem bestK_gen {S : DS} {first size : Int} : bestR S first size = none ↔ genO (bestR S first size) = 0 := by
  unfold bestR
  split
  · exact genO_pos.2
  · exact genO_pos.2
theorem load_nil (first size : Int) (w : World) : Calls Try.prog 19 #[.pointer none, .int .i64 first, .int .i64 size] w (Ret (.tuple #[.int .i64 0, .slice none 0 0, .int .i64 1]) w) := by
  refine ret_in (GSn.load_calls none first size w (fun u w' => u = .tuple #[.int .i64 0, .slice none 0 0, .int .i64 1] ∧ Below w.heap.size w w') ?_)
  unfold GSn.load_vc
  refine ⟨fun _ _ _ _ x wx => x = 0 ∧ Bs w wx, fun _ _ _ _ _ _ => 0, ⟨rfl, Bs.refl w⟩, ?_⟩
  rintro x9 a n c x wx ⟨rfl, Bx⟩
  exact br_y (by decide) (callB Bx (at_nil _ _ _ wx) fun w2 b2 B2 => ⟨_, _, _, _, _, rfl, newB B2 fun g w3 g0 sg n3 z3 b3 B3 => boxB B3 g0 fun w4 x4 B4 s4 => br_y (by decide) ⟨rfl, B4⟩⟩)
theorem load_new {w : World} {g gl mb : Nat} {S : DS} (h : DkAt w g gl mb S) (hW : DWf S) (first size : Int) (h1 : -9223372036854775808 ≤ first) (h2 : first ≤ 9223372036854775807) (h3 : -9223372036854775808 ≤ size) (h4 : size ≤ 9223372036854775807) :
    Calls Try.prog 19 #[.pointer (some ⟨g, 0, none⟩), .int .i64 first, .int .i64 size] w fun e w' => ∃ a c, e = .returned (.tuple #[.int .i64 (loadG S first size), .slice a (loadI S first size).length c, .int .i64 (loadE S first size)]) ∧
      Own w' w.heap.size 5 1 (.slice a (loadI S first size).length c) (loadI S first size).length ((loadI S first size).map bV) ∧ Bs w w' := by
  refine rdb_in (GSn.load_calls (some ⟨g, 0, none⟩) first size w (RdB w _ _ _) ?_)
  unfold GSn.load_vc
  refine ⟨fun x9 a n c x wx => ∃ k : Nat, x = k ∧ k ≤ 2 ∧ (0 < k → atE S first size = 0 ∧ S.off = false) ∧ x9 = genO (bestK S first size k) ∧ n = (imO (bestK S first size k)).length ∧ Own wx w.heap.size 5 1 (.slice a n c) n ((imO (bestK S first size k)).map bV) ∧ Bs w wx, fun _ _ _ _ x _ => (2 - x).toNat, ⟨0, rfl, by omega, fun q => absurd q (by omega), rfl, rfl, Own.nil _ _ _ _, Bs.refl w⟩, ?_⟩
  rintro x9 a n c x wx ⟨k, rfl, hk, h0, rfl, rfl, ox, Bx⟩
  refine br_dec (fun hlt => ?_) fun hge => ?_
  · have hs : (k : Int) = 0 ∨ (k : Int) = 1 := by omega
    refine callB Bx (at_ret (h.bs Bx) hW first size k h1 h2 h3 h4 hs) fun w2 b2 B2 => ?_
    by_cases q0 : atE S first size = 0
    · rw [if_neg (not_not_intro q0), q0]
      refine ⟨_, _, _, _, _, rfl, newB B2 fun g1 w3 g0 sg n3 z3 b3 B3 => boxB B3 g0 fun w4 x4 B4 s4 => br_n (by omega) ?_⟩
      refine (slot_new (h.bs B4) hW first size k q0 hs).mono ?_
      rintro e w5 ⟨a5, c5, rfl, o5, b5⟩
      have B5 := B4.to b5
      refine ⟨keepG_below b5, _, a5, _, c5, _, rfl, ?_⟩
      by_cases ho : S.off = true
      · rw [if_pos ho]
        exact br_y (by decide) (rdb_none B5 (by unfold loadG; rw [if_pos (.inr ho)]) (by unfold loadI; rw [if_pos (.inr ho)]) (by unfold loadE; rw [if_neg (not_not_intro q0), if_pos ho]))
      · have hf : S.off = false := by cases hh : S.off; rfl; exact absurd hh ho
        simp only [if_neg ho] at o5 ⊢
        have hk1 : IntKind.i64.wrap ((k : Int) + 1) = ((k + 1 : Nat) : Int) := by rw [wr64 (by omega) (by omega)]; omega
        have hst := bestK_step (S := S) (first := first) (size := size) (k := k) (by omega)
        refine br_n (by omega) (br_dec (fun hg => ?_) fun hg => ?_)
        · rw [if_pos hg] at hst
          refine ⟨⟨k + 1, hk1, by omega, fun _ => ⟨by first | exact q0 | rfl | trivial, hf⟩, by rw [hst], by rw [hst], by rw [hst]; exact o5.base_le fun p hp => Nat.le_trans B4.size (o5.lt p hp).1, B5⟩, by (try dsimp only); rw [hk1]; omega⟩
        · rw [if_neg hg] at hst
          have hB : Bs wx w5 := ((((Bs.refl wx).to b2).to b3).box (by have := b2.size; omega) x4).to b5
          have o6 := ox.below hB (Nat.le_refl _)
          exact ⟨⟨k + 1, hk1, by omega, fun _ => ⟨by first | exact q0 | rfl | trivial, hf⟩, by rw [hst], by rw [hst], by rw [hst]; exact o6, B5⟩, by (try dsimp only); rw [hk1]; omega⟩
    · rw [if_pos q0, atE_one q0]
      exact ⟨_, _, _, _, _, rfl, newB B2 fun g1 w3 g0 sg n3 z3 b3 B3 => boxB B3 g0 fun w4 x4 B4 s4 => br_y (by decide) (rdb_none B4 (by unfold loadG; rw [if_pos (.inl q0)]) (by unfold loadI; rw [if_pos (.inl q0)]) (by unfold loadE; rw [if_pos q0]))⟩
  · obtain rfl : k = 2 := by omega
    obtain ⟨q0, hf⟩ := h0 (by omega)
    have hno : ¬ (atE S first size ≠ 0 ∨ S.off = true) := by rw [q0, hf]; simp
    refine br_dec (fun hz => ?_) fun hz => ?_
    · have hn : bestR S first size = none := bestK_gen.2 hz
      refine rdb_none Bx (by unfold loadG; rw [if_neg hno]; exact hz) (by unfold loadI; rw [if_neg hno, hn]; rfl) ?_
      unfold loadE
      rw [if_neg (not_not_intro q0), hf, if_neg (by decide), if_pos hn]
    · refine ⟨a, c, ?_, ?_, Bx⟩
      · have hn : ¬ bestR S first size = none := fun e => hz (bestK_gen.1 e)
        unfold loadG loadI loadE
        rw [if_neg hno, if_neg hno, if_neg (not_not_intro q0), hf, if_neg (by decide), if_neg hn]
        rfl
      · unfold loadI
        rw [if_neg hno]
        exact ox
def gK (S : DS) (first size : Int) (k : Nat) (s : Nat) : Int := if s < k then genO (slotR S first size (s : Int)) else 0
theorem gens_nil (first size : Int) (w : World) : Calls Try.prog 20 #[.pointer none, .int .i64 first, .int .i64 size] w (Ret (.tuple #[.agg #[.int .i64 0, .int .i64 0], .agg #[.bool false, .bool false], .int .i64 1]) w) := by
  refine ret_in (GSn.gens_calls none first size w (fun u w' => u = .tuple #[.agg #[.int .i64 0, .int .i64 0], .agg #[.bool false, .bool false], .int .i64 1] ∧ Below w.heap.size w w') ?_)
  unfold GSn.gens_vc
  refine newB (Bs.refl w) fun g1 w2 g10 sg1 n2 z2 b2 B2 => newB B2 fun g2 w3 g20 sg2 n3 z3 b3 B3 => newB B3 fun g3 w4 g30 sg3 n4 z4 b4 B4 => newB B4 fun g4 w5 g40 sg4 n5 z5 b5 B5 => ?_
  refine ⟨fun x _ _ _ _ wx => x = 0 ∧ Bs w wx, fun _ _ _ _ _ _ => 0, ⟨rfl, B5⟩, ?_⟩
  rintro x _ _ _ _ wx ⟨rfl, Bx⟩
  exact br_y (by decide) (callB Bx (at_nil _ _ _ wx) fun w6 b6 B6 => ⟨_, _, _, _, _, rfl, newB B6 fun g w7 g0 sg n7 z7 b7 B7 => boxB B7 g0 fun w8 x8 B8 s8 => br_y (by decide) (boxB B8 g10 fun w9 x9 B9 s9 => boxB B9 g20 fun w10 x10 B10 s10 => ⟨rfl, B10⟩)⟩)
theorem gens_ret {w : World} {g gl mb : Nat} {S : DS} (h : DkAt w g gl mb S) (hW : DWf S) (first size : Int) (h1 : -9223372036854775808 ≤ first) (h2 : first ≤ 9223372036854775807) (h3 : -9223372036854775808 ≤ size) (h4 : size ≤ 9223372036854775807) :
    Calls Try.prog 20 #[.pointer (some ⟨g, 0, none⟩), .int .i64 first, .int .i64 size] w (Ret (.tuple #[.agg #[.int .i64 (gensG S first size 0), .int .i64 (gensG S first size 1)], .agg #[.bool (decide (gensG S first size 0 > 0)), .bool (decide (gensG S first size 1 > 0))], .int .i64 (gensE S first size)]) w) := by
  refine ret_in (GSn.gens_calls (some ⟨g, 0, none⟩) first size w (fun u w' => u = .tuple #[.agg #[.int .i64 (gensG S first size 0), .int .i64 (gensG S first size 1)], .agg #[.bool (decide (gensG S first size 0 > 0)), .bool (decide (gensG S first size 1 > 0))], .int .i64 (gensE S first size)] ∧ Below w.heap.size w w') ?_)
  unfold GSn.gens_vc
  refine newB (Bs.refl w) fun g1 w2 g10 sg1 n2 z2 b2 B2 => newB B2 fun g2 w3 g20 sg2 n3 z3 b3 B3 => newB B3 fun g3 w4 g30 sg3 n4 z4 b4 B4 => newB B4 fun g4 w5 g40 sg4 n5 z5 b5 B5 => ?_
  have k3 : Bk w5 g3 #[.int .i64 (gK S first size 0 0), .int .i64 (gK S first size 0 1)] 37 := Bk.below (show Bk w4 g3 #[.int .i64 0, .int .i64 0] 37 from n4) b5
  have k4 : Bk w5 g4 #[.bool (decide (gK S first size 0 0 > 0)), .bool (decide (gK S first size 0 1 > 0))] 38 := n5
  refine ⟨fun x _ _ _ _ wx => ∃ k : Nat, x = k ∧ k ≤ 2 ∧ (0 < k → atE S first size = 0 ∧ S.off = false) ∧ Bk wx g3 #[.int .i64 (gK S first size k 0), .int .i64 (gK S first size k 1)] 37 ∧ Bk wx g4 #[.bool (decide (gK S first size k 0 > 0)), .bool (decide (gK S first size k 1 > 0))] 38 ∧ Bs w wx ∧ w5.heap.size ≤ wx.heap.size, fun x _ _ _ _ _ => (2 - x).toNat, ⟨0, rfl, by omega, fun q => absurd q (by omega), k3, k4, B5, Nat.le_refl _⟩, ?_⟩
  rintro x b70 b71 x60 x61 wx ⟨k, rfl, hk, h0, k3, k4, Bx, zx⟩
  refine br_dec (fun hlt => ?_) fun hge => ?_
  · have hs : (k : Int) = 0 ∨ (k : Int) = 1 := by omega
    refine callB Bx (at_ret (h.bs Bx) hW first size k h1 h2 h3 h4 hs) fun w6 b6 B6 => ?_
    by_cases q0 : atE S first size = 0
    · rw [if_neg (not_not_intro q0), q0]
      refine ⟨_, _, _, _, _, rfl, newB B6 fun g5 w7 g50 sg5 n7 z7 b7 B7 => boxB B7 g50 fun w8 x8 B8 s8 => br_n (by omega) ?_⟩
      have zg5 : wx.heap.size ≤ g5 := by have := b6.size; omega
      have k3' : Bk w8 g3 _ 37 := ((k3.below b6).below b7).box x8 (by have := k3.lt; omega)
      have k4' : Bk w8 g4 _ 38 := ((k4.below b6).below b7).box x8 (by have := k4.lt; omega)
      refine (slot_new (h.bs B8) hW first size k q0 hs).mono ?_
      rintro e w9 ⟨a9, c9, rfl, o9, b9⟩
      have B9 := B8.to b9
      refine ⟨keepG_below b9, _, a9, _, c9, _, rfl, ?_⟩
      by_cases ho : S.off = true
      · rw [if_pos ho]
        refine br_y (by decide) (boxB B9 g10 fun w10 x10 B10 s10 => boxB B10 g20 fun w11 x11 B11 s11 => ⟨?_, B11⟩)
        have e1 : ∀ s, gensG S first size s = 0 := fun s => by unfold gensG; rw [if_pos (.inr ho)]
        have e2 : gensE S first size = 12 := by unfold gensE; rw [if_neg (not_not_intro q0), if_pos ho]
        rw [e1, e1, e2]
        rfl
      · have hf : S.off = false := by cases hh : S.off; rfl; exact absurd hh ho
        rw [if_neg ho, if_neg ho]
        have hk1 : IntKind.i64.wrap ((k : Int) + 1) = ((k + 1 : Nat) : Int) := by rw [wr64 (by omega) (by omega)]; omega
        refine br_n (by omega) ⟨by omega, by omega, ?_⟩
        have hne : ∀ y ∈ [g5, g2, g1], y ≠ g3 ∧ y ≠ g4 := fun y hy => by
          simp at hy
          have := k3.lt
          have := k4.lt
          omega
        rw [Int.toNat_natCast, Nat.mul_one, Nat.zero_add]
        refine stB1 B9 g30 (k3'.below b9) (by show k < 2; omega) (fun y hy => (hne y hy).1) fun w10 k10 f10 B10 z10 => ⟨by omega, by omega, ?_⟩
        have k4'' : Bk w10 g4 _ 38 := (k4'.below b9).fr1 f10 (by omega)
        refine stB1 B10 g40 k4'' (by show k < 2; omega) (fun y hy => (hne y hy).2) fun w11 k11 f11 B11 z11 => ⟨⟨k + 1, hk1, by omega, fun _ => ⟨by first | exact q0 | rfl | trivial, hf⟩, ?_, ?_, B11, ?_⟩, by (try dsimp only); rw [hk1]; omega⟩
        · have k10' : Bk w11 g3 _ 37 := k10.fr1 f11 (by omega)
          have hk2 : k = 0 ∨ k = 1 := by omega
          rcases hk2 with rfl | rfl
          · exact k10'
          · exact k10'
        · have hk2 : k = 0 ∨ k = 1 := by omega
          rcases hk2 with rfl | rfl
          · exact k11
          · exact k11
        · have := b6.size
          have := b9.size
          omega
    · rw [if_pos q0, atE_one q0]
      refine ⟨_, _, _, _, _, rfl, newB B6 fun g5 w7 g50 sg5 n7 z7 b7 B7 => boxB B7 g50 fun w8 x8 B8 s8 => br_y (by decide) (boxB B8 g10 fun w9 x9 B9 s9 => boxB B9 g20 fun w10 x10 B10 s10 => ⟨?_, B10⟩)⟩
      have e1 : ∀ s, gensG S first size s = 0 := fun s => by unfold gensG; rw [if_pos (.inl q0)]
      have e2 : gensE S first size = 1 := by unfold gensE; rw [if_pos q0]
      rw [e1, e1, e2]
      rfl
  · obtain rfl : k = 2 := by omega
    obtain ⟨q0, hf⟩ := h0 (by omega)
    have hno : ¬ (atE S first size ≠ 0 ∨ S.off = true) := by rw [q0, hf]; simp
    have e1 : ∀ s : Nat, s < 2 → gK S first size 2 s = gensG S first size s := fun s hs => by unfold gensG gK; rw [if_neg hno, if_pos hs]
    have e2 : gensE S first size = 0 := by unfold gensE; rw [if_neg (not_not_intro q0), hf]; rfl
    rw [e1 0 (by omega), e1 1 (by omega)] at k3 k4
    rw [e2]
    refine drewB Bx fun w6 b6 B6 e6 => ⟨_, _, cellsAt_row (k3.below b6) rfl, _, _, cellsAt_row (k4.below b6) rfl, boxB B6 g10 fun w7 x7 B7 s7 => ⟨cellsAt_row ((k4.below b6).box x7 (by omega)) rfl, boxB B7 g20 fun w8 x8 B8 s8 => ⟨rfl, B8⟩⟩⟩
end Go.Proofs.Ytpfmadinijofeaa
end
section
/- The reference's sum: bit by bit. -/
namespace Go.Proofs.Ytpfmadinijofeaa
open Go.RowKit
theorem rsum_snoc (n : Nat) (s : ByteArray) (k : Nat) (h : k < s.size) : crcL n (s.data.toList.take (k + 1)) = cb (crcL n (s.data.toList.take k)) s[k].toNat := by
  rw [crcL_snoc n _ k (by simpa using h)]; rfl
theorem xor_bit (a b : Nat) : (a % 2) ^^^ (b % 2) = (a % 2 + b % 2) % 2 := by
  rcases Nat.mod_two_eq_zero_or_one a with x | x <;> rcases Nat.mod_two_eq_zero_or_one b with y | y <;> rw [x, y] <;> decide
theorem bit_test (q x j : Nat) (hq : q < 4294967296) (hx : x < 256) :
    bits BinOp.xor IntKind.u32 (bits BinOp.and IntKind.u32 (q : Int) 1) (bits BinOp.and IntKind.u8 ((x : Int) / 2 ^ j) 1 % 4294967296) = (((q % 2 + x / 2 ^ j % 2) % 2 : Nat) : Int) := by
  have hd : x / 2 ^ j < 256 := Nat.lt_of_le_of_lt (Nat.div_le_self _ _) hx
  have e1 : bits BinOp.and IntKind.u32 (q : Int) 1 = ((q % 2 : Nat) : Int) := by rw [show (1 : Int) = ((1 : Nat) : Int) from rfl, u32_and_nat _ _ hq (by omega), nat_mask1]
  have e2 : bits BinOp.and IntKind.u8 ((x : Int) / 2 ^ j) 1 = ((x / 2 ^ j % 2 : Nat) : Int) := by
    rw [show (x : Int) / 2 ^ j = ((x / 2 ^ j : Nat) : Int) by simp, show (1 : Int) = ((1 : Nat) : Int) from rfl, u8_and_nat _ _ hd (by omega), nat_mask1]
  rw [e1, e2, show (((x / 2 ^ j % 2 : Nat) : Int)) % 4294967296 = ((x / 2 ^ j % 2 : Nat) : Int) by omega, u32_xor_nat _ _ (by omega) (by omega), xor_bit]
theorem rst_yes {q x j : Nat} (h : ((((q % 2 + x / 2 ^ j % 2) % 2 : Nat) : Int) == 1) = true) : rst q x j = (q / 2) ^^^ 3988292384 := by
  unfold rst
  have := beq_iff_eq.1 h
  generalize x / 2 ^ j = y at *
  rw [if_pos (by omega)]
theorem rst_no {q x j : Nat} (h : ((((q % 2 + x / 2 ^ j % 2) % 2 : Nat) : Int) == 1) = false) : rst q x j = q / 2 := by
  unfold rst
  have := beq_eq_false_iff_ne.1 h
  generalize x / 2 ^ j = y at *
  rw [if_neg (by omega)]
theorem u32_xor_half (q : Nat) (h : q < 4294967296) : bits BinOp.xor IntKind.u32 ((q : Int) / 2) 3988292384 = ((q / 2 ^^^ 3988292384 : Nat) : Int) := by
  rw [show (3988292384 : Int) = ((3988292384 : Nat) : Int) from rfl, show (q : Int) / 2 = ((q / 2 : Nat) : Int) from rfl, u32_xor_nat _ _ (by omega) (by omega)]
set_option maxHeartbeats 400000 in
theorem rsum_any (s : ByteArray) (w : World) (hs : s.size ≤ maxLen) :
    Calls Try.prog 67 #[.string s] w fun e w' => e = .returned (.int .u32 (more 0 s.data.toList)) ∧ w' = w := by
  unfold maxLen at hs
  go_enter Try.func67, Try.ntmps67
  go_wp2
  go_loop [3, 4, 5, 6, 7,8,9,10,11,12,13,14,15,16,17,18,19,20,21,22,23,24,25,26,27,28,29,30,31,32] (fun t3 t4 _ _ _ _ _ _ _ _ _ _ _ _ _ _ _ _ _ _ _ _ _ _ _ _ _ _ _ _ => ∃ k : Nat, k ≤ s.size ∧ t4 = .int .i64 k ∧ t3 = V32 (crcL 4294967295 (s.data.toList.take k))) (fun t3 t4 _ _ _ _ _ _ _ _ _ _ _ _ _ _ _ _ _ _ _ _ _ _ _ _ _ _ _ _ => s.size - (intOf t4).toNat)
  case atStart => exact ⟨0, by omega, rfl, rfl⟩
  case round =>
    obtain ⟨k, hk, rfl, rfl⟩ := hrel
    have h0 : crcL 4294967295 (s.data.toList.take k) < 4294967296 := crcL_lt _ (by omega)
    by_cases hlt : k < s.size
    · have hsn := rsum_snoc 4294967295 s k hlt
      rw [cb_rsteps] at hsn
      have Hs := hid hsn; clear hsn
      generalize crcL 4294967295 (s.data.toList.take k) = m at *
      go_wp2
      go_loop [3, 5,6,13,14,15,16,17,18,19,20,21,22,23,24,25,26,27,28,29,30,31,32] (fun t3 t5 _ _ _ _ _ _ _ _ _ _ _ _ _ _ _ _ _ _ _ _ _ => ∃ j : Nat, j ≤ 8 ∧ t5 = .int .i64 j ∧ t3 = V32 (rsteps s[k].toNat j m)) (fun t3 t5 _ _ _ _ _ _ _ _ _ _ _ _ _ _ _ _ _ _ _ _ _ => 8 - (intOf t5).toNat)
      case atStart => exact ⟨0, by omega, rfl, rfl⟩
      case round =>
        obtain ⟨j, hj, rfl, rfl⟩ := hrel
        have h1 := rsteps_lt s[k].toNat j h0
        have Hr := hid (show rsteps s[k].toNat (j + 1) m = rst (rsteps s[k].toNat j m) s[k].toNat j from rfl)
        generalize hq : rsteps s[k].toNat j m = q at *
        have Hq := hid hq; clear hq
        unfold V32
        by_cases hlj : j < 8
        · have hx : s[k].toNat < 256 := s[k].toNat_lt
          have hB := bit_test q s[k].toNat j h1 hx
          have hX := u32_xor_half q h1
          have HB := hid hB; clear hB
          have HX := hid hX; clear hX
          go_wp2
          · have ht : (bits BinOp.xor IntKind.u32 (bits BinOp.and IntKind.u32 (q : Int) 1) (bits BinOp.and IntKind.u8 (((s[k].toNat : Nat) : Int) / 2 ^ j) 1 % 4294967296) == 1) = true := by assumption
            rw [HB.out] at ht
            go_round
            case rel => exact ⟨j + 1, by omega, by go_num, by rw [Hr.out, HX.out, rst_yes ht]⟩
            case measure => simp [intOf]; omega
          · have ht : (bits BinOp.xor IntKind.u32 (bits BinOp.and IntKind.u32 (q : Int) 1) (bits BinOp.and IntKind.u8 (((s[k].toNat : Nat) : Int) / 2 ^ j) 1 % 4294967296) == 1) = false := by assumption
            rw [HB.out] at ht
            go_round
            case rel => exact ⟨j + 1, by omega, by go_num, by rw [Hr.out, rst_no ht]; rfl⟩
            case measure => simp [intOf]; omega
        · obtain rfl : j = 8 := by omega
          go_wp2
          go_round
          case rel => exact ⟨k + 1, by omega, by go_num, by rw [Hs.out, Hq.out]; rfl⟩
          case measure => simp [intOf]; omega
    · obtain rfl : k = s.size := by omega
      rw [List.take_of_length_le (by simp)] at h0 ⊢
      have hfin : more 0 s.data.toList = cpl (crcL 4294967295 s.data.toList) := rfl
      generalize crcL 4294967295 s.data.toList = m at *
      have hc := u32_not m h0
      have Hf := hid hfin; clear hfin
      unfold V32
      go_wp2
      go_ret
      exact ⟨by rw [Hf.out]; rfl, rfl⟩
end Go.Proofs.Ytpfmadinijofeaa
end
section
/- Numbers and noughts as texts, as the documents have them. -/
namespace Go.Proofs.Ytpfmadinijofeaa
open Go.RowKit
theorem one_ret (n : Nat) (h : n < 256) (w : World) : Calls Try.prog 83 #[.int .i64 (n : Int)] w (Ret (.string (strOf [UInt8.ofNat n])) w) := fOne_any n h w
theorem sum_ret (bs : List UInt8) (hl : bs.length ≤ 100000000) (w : World) : Calls Try.prog 67 #[.string (strOf bs)] w (Ret (.int .u32 ((more 0 bs : Nat) : Int)) w) := by
  have := rsum_any (strOf bs) w (by rw [strOf_size]; unfold maxLen; omega)
  rw [strOf_list] at this
  exact ret_same this
theorem u64_and255 (a : Nat) (ha : a < 18446744073709551616) : bitsV .and .u64 (a : Int) 255 = ((a % 256 : Nat) : Int) := by
  show IntKind.u64.wrap (((BitVec.ofInt 64 (a : Int) &&& BitVec.ofInt 64 ((255 : Nat) : Int)).toNat : Nat) : Int) = _
  rw [BitVec.toNat_and, ofInt_u64 a ha, ofInt_u64 255 (by omega), show 255 = 2 ^ 8 - 1 from rfl, Nat.and_two_pow_sub_one_eq_mod, wru64 (by omega) (by omega)]
theorem numByte2 (n x : Nat) (hn : n < 18446744073709551616) (hx : x ≤ 7) : IntKind.i64.wrap (bitsV .and .u64 (Int.fdiv (IntKind.u64.wrap (n : Int)) (2 ^ (min (IntKind.i64.wrap (8 * (x : Int))).toNat (IntKind.bits .u64)))) 255) = ((n / 2 ^ (8 * x) % 256 : Nat) : Int) := by
  rw [wru64 (by omega) (by omega), wr64 (z := 8 * (x : Int)) (by omega) (by omega), show (8 * (x : Int)).toNat = 8 * x by omega, show min (8 * x) (IntKind.bits .u64) = 8 * x from Nat.min_eq_left (show 8 * x ≤ 64 by omega)]
  have e : ((2 : Int) ^ (8 * x)) = ((2 ^ (8 * x) : Nat) : Int) := by rw [Int.natCast_pow]; rfl
  rw [e]
  clear e
  generalize 2 ^ (8 * x) = p
  have hle : n / p ≤ n := Nat.div_le_self _ _
  rw [Int.fdiv_eq_ediv_of_nonneg _ (Int.natCast_nonneg p), ← Int.natCast_ediv, u64_and255 _ (by omega), wr64 (by omega) (by omega)]
theorem made_zeros (n : Nat) : madeCells (Value.cells (.int .u8 0)) (n * 1) = ((List.replicate n (0 : UInt8)).map bV).toArray := by
  rw [List.map_replicate]
  apply Array.ext_getElem?
  intro i
  unfold madeCells
  rw [Array.getElem?_map, Array.getElem?_range, Nat.mul_one, List.getElem?_toArray, List.getElem?_replicate]
  by_cases h : i < n
  · rw [if_pos h, if_pos h]
    show some ((#[Value.int .u8 0] : Array Value)[i % 1]!) = _
    rw [Nat.mod_one]
    rfl
  · rw [if_neg h, if_neg h]
    rfl
theorem empty_str : (⟨#[]⟩ : ByteArray) = strOf [] := rfl
theorem three_str : (⟨#[3]⟩ : ByteArray) = strOf [3] := rfl
theorem zero_str : (⟨#[0]⟩ : ByteArray) = strOf [0] := rfl
end Go.Proofs.Ytpfmadinijofeaa
end
section
/- The document's slots; walked. -/
namespace Go.Proofs.Ytpfmadinijofeaa
open Go.RowKit
theorem rnum_ret (n k : Nat) (hn : n < 9223372036854775808) (hk : k ≤ 8) (w : World) : Calls Try.prog 66 #[.int .i64 (n : Int), .int .i64 (k : Int)] w (Ret (.string (strOf (beB n k))) w) := by
  refine ret_in (GSn.rnumber_calls n k w (fun u w' => u = .string (strOf (beB n k)) ∧ Below w.heap.size w w') ?_)
  unfold GSn.rnumber_vc
  refine ⟨fun s x wx => ∃ j : Nat, j ≤ k ∧ x = (k : Int) - 1 - j ∧ s = strOf (beJ n k j) ∧ Bs w wx, fun _ x _ => (x + 1).toNat, ⟨0, by omega, by rw [wr64 (by omega) (by omega)]; omega, rfl, Bs.refl w⟩, ?_⟩
  rintro s x wx ⟨j, hj, rfl, rfl, Bx⟩
  refine br_dec (fun h => ?_) fun h => ?_
  · obtain ⟨x, hx⟩ : ∃ x : Nat, (k : Int) - 1 - j = (x : Int) := ⟨k - 1 - j, by omega⟩
    rw [hx, numByte2 n x (by omega) (by omega)]
    refine ⟨by rw [wr64 (by omega) (by omega)]; omega, callB Bx (one_ret _ (Nat.mod_lt _ (by omega)) wx) fun w2 b2 B2 => ⟨_, rfl, ?_, ⟨j + 1, by omega, by rw [wr64 (by omega) (by omega)]; omega, ?_, B2⟩, by dsimp only; rw [wr64 (by omega) (by omega)]; omega⟩⟩
    · rw [strOf_size, strOf_size, beJ_len]; simp; omega
    · rw [strOf_cat, beJ_succ, show k - 1 - j = x by omega]
  · obtain rfl : j = k := by omega
    exact ⟨rfl, Bx⟩
theorem rroom_ret (z : Int) (w : World) : Calls Try.prog 33 #[.int .i64 z] w (Ret (.int .i64 (roomZ z)) w) := by
  refine ret_in (GSn.rroom_calls z w (fun u w' => u = .int .i64 (roomZ z) ∧ Below w.heap.size w w') ?_)
  unfold GSn.rroom_vc roomZ
  refine br_dec (fun h => ⟨by rw [if_pos (.inl h)], Bs.refl _⟩) fun h => br_dec (fun h2 => ⟨by rw [if_pos (.inr h2)], Bs.refl _⟩) fun h2 => ⟨?_, Bs.refl _⟩
  rw [if_neg (by omega), wr64 (z := z - 1) (by omega) (by omega), wr64 (by omega) (by omega)]
theorem rbody_ret (im : List UInt8) (hl : im.length ≤ 1000000) (w : World) : Calls Try.prog 34 #[.string (strOf im)] w (Ret (.string (strOf (bodyB im))) w) := by
  refine ret_in (GSn.rbody_calls (strOf im) w (fun u w' => u = .string (strOf (bodyB im)) ∧ Below w.heap.size w w') ?_)
  unfold GSn.rbody_vc
  refine ⟨fun s wx => ∃ j : Nat, j ≤ (64 - im.length % 64) % 64 ∧ s = strOf (im ++ zerosB j) ∧ Bs w wx, fun s _ => im.length + 64 - s.size, ⟨0, Nat.zero_le _, by simp [zerosB], Bs.refl w⟩, ?_⟩
  rintro s wx ⟨j, hj, rfl, Bx⟩
  have hl2 : (strOf (im ++ zerosB j)).size = im.length + j := by rw [strOf_size, List.length_append, zerosB_len]
  refine ⟨by decide, ?_⟩
  rw [hl2, tmod64, zero_str, strOf_cat]
  refine br_dec (fun h => ⟨?_, ⟨j + 1, by omega, by rw [zerosB_succ, List.append_assoc], Bx⟩, ?_⟩) fun h => ?_
  · rw [strOf_size]; simp; omega
  · dsimp only
    rw [hl2, strOf_size, List.length_append, List.length_append, zerosB_len]; simp; omega
  · obtain rfl : j = (64 - im.length % 64) % 64 := by omega
    exact ⟨rfl, Bx⟩
theorem rhead_ret (gen : Nat) (hg : gen < 9223372036854775808) (im : List UInt8) (hl : im.length ≤ 1000000) (w : World) : Calls Try.prog 35 #[.int .i64 (gen : Int), .string (strOf im)] w (Ret (.string (strOf (headK gen im))) w) := by
  refine ret_in (GSn.rhead_calls gen (strOf im) w (fun u w' => u = .string (strOf (headK gen im)) ∧ Below w.heap.size w w') ?_)
  unfold GSn.rhead_vc
  rw [strOf_size]
  refine callB (Bs.refl w) (rnum_ret gen 8 hg (by omega) w) fun w2 b2 B2 => ⟨_, rfl, callB B2 (rnum_ret im.length 8 (by omega) (by omega) w2) fun w3 b3 B3 => ⟨_, rfl, ?_⟩⟩
  rw [three_str, strOf_cat, strOf_cat, strOf_cat]
  have hh : beB gen 8 ++ beB im.length 8 = headH gen im.length := rfl
  have hl1 := headH_len gen im.length
  rw [hh]
  have hlt : more 0 (headH gen im.length ++ im) < 4294967296 := more_lt _ (by omega)
  refine ⟨by rw [strOf_size, strOf_size, beB_len, beB_len]; omega, by rw [strOf_size, strOf_size, hl1]; decide, by rw [strOf_size, hl1]; omega, callB B3 (sum_ret _ (by rw [List.length_append, hl1]; omega) w3) fun w4 b4 B4 => ⟨_, rfl, ?_⟩⟩
  rw [wr64 (by omega) (by omega)]
  refine callB B4 (rnum_ret _ 4 (by omega) (by omega) w4) fun w5 b5 B5 => ⟨_, rfl, ?_⟩
  rw [strOf_cat]
  have hl8 : (strOf ([3] ++ headH gen im.length ++ beB (more 0 (headH gen im.length ++ im)) 4)).size = 21 := by rw [strOf_size]; simp [hl1, beB_len]
  rw [hl8, show IntKind.i64.wrap (64 - ((21 : Nat) : Int)) = 43 by decide]
  refine ⟨by rw [strOf_size, strOf_size, beB_len, List.length_append, hl1]; decide, by decide, by decide, by decide, by decide, newB B5 fun g w6 g0 sg n6 z6 b6 B6 => ⟨zerosB 43, rfl, ?_, by rw [strOf_size]; decide, ?_, B6⟩⟩
  · rw [show ((43 : Int).toNat * 1) = 43 * 1 from rfl, made_zeros] at n6
    exact RowAt.ofWhole n6
  · rw [strOf_cat]
    rfl
/-- What the document reads of a slot. -/
def HasB (bs : List UInt8) (size slot : Int) (v : Value) : Prop := ∃ (p : Int) (u : List UInt8), v = .tuple #[.int .i64 p, .string (strOf u), .bool (slotG bs size slot).isSome] ∧ ∀ q, slotG bs size slot = some q → q = (p, u)
theorem rhas_any (bs : List UInt8) (size : Nat) (hs : 1 ≤ size) (hs2 : size ≤ 8192) (hl : bs.length = size * 64) (slot : Int) (w : World) :
    Calls Try.prog 21 #[.string (strOf bs), .int .i64 slot] w fun e w' => (∃ v, e = .returned v ∧ HasB bs size slot v) ∧ Below w.heap.size w w' := by
  refine (GSn.rhas_calls (strOf bs) slot w (fun v w' => HasB bs size slot v ∧ Below w.heap.size w w') ?_).mono (by rintro e w' ⟨v, rfl, h, b⟩; exact ⟨⟨v, rfl, h⟩, b⟩)
  unfold GSn.rhas_vc
  rw [strOf_size, empty_str]
  have st : ∀ (x : Int) (k d : Nat), d + k < bs.length → bitsV .or .i64 (IntKind.i64.wrap (x * 2 ^ (min (8 : Int).toNat (IntKind.bits .i64)))) (IntKind.i64.wrap (byteAt (strOf bs) ((d + k : Nat) : Int))) = stepI x (bs.getD (d + k) 0).toNat := fun x k d _ => by rw [byteAt_strOf]; rfl
  have tk : ∀ (k d : Nat), d + k < bs.length → foldI 0 ((bs.drop d).take (k + 1)) = stepI (foldI 0 ((bs.drop d).take k)) (bs.getD (d + k) 0).toNat := fun k d hk => by
    rw [List.take_add_one, List.getElem?_drop, List.getElem?_eq_getElem hk, List.getD_eq_getElem?_getD, List.getElem?_eq_getElem hk]
    exact foldI_snoc _ _ _
  refine ⟨fun x y wx => ∃ k : Nat, k ≤ 8 ∧ y = ((1 + k : Nat) : Int) ∧ x = foldI 0 ((bs.drop 1).take k) ∧ Bs w wx, fun _ y _ => (9 - y).toNat, ⟨0, by omega, rfl, rfl, Bs.refl w⟩, ?_⟩
  rintro x y wx ⟨k, hk, rfl, rfl, Bx⟩
  have ad : ∀ d : Nat, d ≤ 100 → IntKind.i64.wrap ((d : Int) + 1) = ((d + 1 : Nat) : Int) := fun d hd => by rw [wr64 (by omega) (by omega)]; omega
  refine br_dec (fun hlt => ⟨by decide, by omega, by omega, ⟨k + 1, by omega, by rw [ad _ (by omega)]; rfl, by rw [st _ _ _ (by omega), tk _ _ (by omega)], Bx⟩, by dsimp only; rw [ad _ (by omega)]; omega⟩) fun hge => ?_
  obtain rfl : k = 8 := by omega
  refine ⟨fun x y wx => ∃ k : Nat, k ≤ 8 ∧ y = ((9 + k : Nat) : Int) ∧ x = foldI 0 ((bs.drop 9).take k) ∧ Bs w wx, fun _ y _ => (17 - y).toNat, ⟨0, by omega, rfl, rfl, Bx⟩, ?_⟩
  rintro x y wx ⟨k, hk, rfl, rfl, Bx⟩
  refine br_dec (fun hlt => ⟨by decide, by omega, by omega, ⟨k + 1, by omega, by rw [ad _ (by omega)]; rfl, by rw [st _ _ _ (by omega), tk _ _ (by omega)], Bx⟩, by dsimp only; rw [ad _ (by omega)]; omega⟩) fun hge => ?_
  obtain rfl : k = 8 := by omega
  clear st tk
  obtain ⟨r1, r2⟩ := foldI_rng ((bs.drop 1).take 8)
  obtain ⟨r3, r4⟩ := foldI_rng ((bs.drop 9).take 8)
  have hG : slotG bs size slot = if foldI 0 ((bs.drop 1).take 8) < 1 ∨ foldI 0 ((bs.drop 1).take 8) % 2 ≠ slot ∨ foldI 0 ((bs.drop 9).take 8) < 0 ∨ foldI 0 ((bs.drop 9).take 8) > roomZ size then none
    else if bs.take 64 = headK (foldI 0 ((bs.drop 1).take 8)).toNat ((bs.drop 64).take (foldI 0 ((bs.drop 9).take 8)).toNat) then some (foldI 0 ((bs.drop 1).take 8), (bs.drop 64).take (foldI 0 ((bs.drop 9).take 8)).toNat) else none := rfl
  have hroom : roomZ size = 64 * ((size : Int) - 1) := by unfold roomZ; rw [if_neg (by omega)]
  generalize foldI 0 ((bs.drop 1).take 8) = G at *
  generalize foldI 0 ((bs.drop 9).take 8) = N at *
  have no : ∀ {wy : World}, Bs w wy → slotG bs size slot = none → HasB bs size slot (.tuple #[.int .i64 0, .string (strOf []), .bool false]) ∧ Below w.heap.size w wy := fun By hn => ⟨⟨0, [], by rw [hn]; rfl, fun q hq => by rw [hn] at hq; cases hq⟩, By⟩
  refine br_dec (fun q1 => no Bx (by rw [hG, if_pos (.inl q1)])) fun q1 => ⟨by decide, ?_⟩
  rw [Int.tmod_eq_emod_of_nonneg (by omega)]
  refine br_dec (fun q2 => no Bx (by rw [hG, if_pos (.inr (.inl q2))])) fun q2 => br_dec (fun q3 => no Bx (by rw [hG, if_pos (.inr (.inr (.inl q3)))])) fun q3 => ?_
  rw [wr64 (z := ((bs.length : Nat) : Int) - 64) (by omega) (by omega)]
  refine br_dec (fun q4 => no Bx (by rw [hG, if_pos (.inr (.inr (.inr (by omega))))])) fun q4 => ?_
  obtain ⟨n, rfl⟩ : ∃ n : Nat, N = (n : Int) := ⟨N.toNat, by omega⟩
  obtain ⟨gg, rfl⟩ : ∃ n : Nat, G = (n : Int) := ⟨G.toNat, by omega⟩
  rw [if_neg (by omega), Int.toNat_natCast, Int.toNat_natCast] at hG
  rw [wr64 (by omega) (by omega), strOf_extract, strOf_extract, show (64 + (n : Int)).toNat - (64 : Int).toNat = n by omega]
  refine ⟨by omega, by omega, by omega, drewB Bx fun w4 b4 B4 e4 => ⟨by omega, by omega, callB B4 (rhead_ret gg (by omega) _ (by rw [List.length_take]; omega) w4) fun w5 b5 B5 => ⟨_, rfl, ⟨gg, (bs.drop 64).take n, ?_, fun q hq => ?_⟩, B5⟩⟩⟩
  · have e0 : (bs.drop 0).take ((64 : Int).toNat - 0) = bs.take 64 := rfl
    rw [e0, hG]
    show Value.tuple #[_, .string (strOf ((bs.drop 64).take n)), .bool (decide (strOf (bs.take 64) = strOf (headK gg ((bs.drop 64).take n))))] = _
    by_cases hd : bs.take 64 = headK gg ((bs.drop 64).take n)
    · rw [if_pos hd, decide_eq_true (congrArg strOf hd)]; rfl
    · rw [if_neg hd, decide_eq_false (fun e => hd (strOf_inj e))]; rfl
  · rw [hG] at hq
    split at hq
    · injection hq with hq; exact hq.symm
    · cases hq
end Go.Proofs.Ytpfmadinijofeaa
end
section
/- SnapTurns and SnapFalls; walked. -/
namespace Go.Proofs.Ytpfmadinijofeaa
open Go.RowKit
theorem tame_new {a : Option Addr} {c : Nat} {bs : List UInt8} (w : World) (hr : RowAt w a (bs.map bV)) (hc : bs.length ≤ c) : Calls Try.prog 16 #[.slice a bs.length c] w (NewB w w.heap.size (bs.take 500)) := by
  refine (GSn.tame_calls a bs.length c w (fun v w' => ∃ a c, v = .slice a (bs.take 500).length c ∧ Own w' w.heap.size 5 1 (.slice a (bs.take 500).length c) (bs.take 500).length ((bs.take 500).map bV) ∧ Bs w w') ?_).mono (by rintro e w' ⟨v, rfl, a, c, rfl, h⟩; exact ⟨a, c, rfl, h⟩)
  unfold GSn.tame_vc
  refine newB (Bs.refl w) fun g w2 g0 sg n2 z2 b2 B2 => ⟨by omega, by omega, ?_⟩
  have o2 : Own w2 w.heap.size 5 1 (.slice (some ⟨g, 0, none⟩) 0 0) 0 (([] : List UInt8).map bV) := own_lit (bs := []) n2 g0 (Nat.zero_le _)
  have hl : (bs.take 500).length = (min ((bs.length : Nat) : Int) 500).toNat := by rw [List.length_take]; omega
  have r2 : RowAt w2 a ((bs.take 500).map bV) := by rw [List.map_take]; exact (hr.bs B2).take 500
  rw [← hl]
  refine appB B2 o2 (Nat.le_refl _) B2.size (srcB r2) (by unfold maxLen; rw [hl]; omega) (by rw [hl]; omega) (fun q hq => by cases hq) fun a' c' w3 o3 g3 B3 z3 => ⟨a', c', ?_, ?_, B3⟩
  · rw [Nat.zero_add]
  · rw [Nat.zero_add] at o3; exact o3
theorem tame_len (bs : List UInt8) : (bs.take 500).length ≤ 500 := by rw [List.length_take]; omega
/-! An image is there again. -/
def S8 : DS := saveD (newS 8) 1 3 1 [97, 98, 99]
theorem s8_two : saveE (newS 8) 1 3 1 [97, 98, 99] = 0 ∧ Two S8 1 3 1 [97, 98, 99] := by
  have h0 : atE (newS 8) ((1 : Nat) : Int) ((3 : Nat) : Int) = 0 := by decide
  have ht := two_new (n := 8) (first := 1) (size := 3) (by omega) (by omega) h0
  rcases save_cases ht.wf ht.calm ht.off h0 (gen := 1) (im := [97, 98, 99]) (by omega) (by omega) (by decide) with ⟨e, hs⟩ | ⟨_, hl, _⟩
  · exact ⟨e, ht.saved (ht.wf.save _ _ _ _) hs⟩
  · exact absurd hl (by decide)
theorem snaps_ret (w : World) : Calls Try.prog 14 #[] w (Ret (.bool true) w) := by
  refine ret_in (GSn.snaps_calls w (fun u w' => u = .bool true ∧ Below w.heap.size w w') ?_)
  unfold GSn.snaps_vc
  refine d1_new 8 (by omega) (by omega) w fun g gl mb w2 h2 => ⟨_, _, rfl, newB h2.bs fun g1 w3 g10 sg1 n3 z3 b3 B3 => ⟨fun _ h => (by cases h), _, _, _, n3, fun w4 fr4 n4 f4 z4 => ?_⟩⟩
  have h3 := h2.below b3
  have B4 : Bs w w4 := B3.fr1 f4 g10
  have hne : ∀ k ∈ [g, gl, mb], k ≠ g1 := fun k hk e => by have := h2.lt k hk; omega
  have h4 := h3.box hne g10 ⟨f4, z4⟩
  have r4 : RowAt w4 (some ⟨g1, 0, none⟩) (([97, 98, 99] : List UInt8).map bV) := RowAt.ofWhole n4
  refine (save_any h4.t h4.wf (im := [97, 98, 99]) (c := 3) r4 (by decide) (by decide) (fun q hq hm => by injection hq with hq; subst hq; exact hne _ hm rfl) 1 3 1 (by decide) (by decide) (by decide) (by decide) (by decide)).mono ?_
  rintro e w5 ⟨rfl, t5, f5⟩
  have h5 : D1 w w5 g gl mb S8 := h4.to t5 f5 (h4.wf.save _ _ _ _)
  obtain ⟨e1, ht⟩ := s8_two
  rw [e1]
  refine ⟨keepG_nil _ _, _, rfl, (load_new h5.t h5.wf 1 3 (by decide) (by decide) (by decide) (by decide)).mono ?_⟩
  rintro e w6 ⟨a6, c6, rfl, o6, b6⟩
  obtain ⟨l1, l2, l3⟩ := ht.load.2 (by omega)
  have l1 : loadE S8 1 3 = 0 := l1
  have l2 : loadG S8 1 3 = 1 := l2
  have l3 : loadI S8 1 3 = [97, 98, 99] := l3
  rw [l3] at o6 ⊢
  rw [l1, l2]
  have h6 := h5.below b6
  exact ⟨keepG_nil _ _, _, a6, _, c6, _, rfl, br_y rfl (br_y rfl (br_y rfl (br_y rfl ⟨[97, 98, 99], rfl, o6.row, br_y rfl (callB h6.bs (room_ret 3 w6) fun w7 b7 B7 => ⟨_, rfl, rfl, B7⟩)⟩)))⟩
/-! SnapTurns. -/
theorem gens_two {S : DS} {first size gen : Nat} {last : List UInt8} (h : Two S first size gen last) : gensE S first size = 0 ∧ (∀ s : Int, gensG S first size s = genO (slotR S first size s)) := by
  have hno : ¬ (atE S (first : Int) size ≠ 0 ∨ S.off = true) := by rw [h.at0, h.off]; simp
  refine ⟨?_, fun s => ?_⟩
  · unfold gensE; rw [if_neg (not_not_intro h.at0), h.off]; rfl
  · unfold gensG; rw [if_neg hno]
theorem gens_vals {S : DS} {first size gen : Nat} {last : List UInt8} (h : Two S first size gen last) (hp : Prev S first size gen) :
    gensG S first size 0 = (if gen % 2 = 0 then (gen : Int) else (gen : Int) - 1) ∧ gensG S first size 1 = (if gen % 2 = 1 then (gen : Int) else max 0 ((gen : Int) - 1)) := by
  obtain ⟨_, hg⟩ := gens_two h
  rw [hg, hg]
  by_cases h0 : gen = 0
  · subst h0
    obtain ⟨q1, q2⟩ := h.none0
    rw [q1, q2]
    exact ⟨rfl, rfl⟩
  have ht := h.there (by omega)
  have hl := h.low
  have hz := genO_pos (S := S) (first := first) (size := size) (slot := ((1 - gen % 2 : Nat) : Int))
  have ho : genO (slotR S (first : Int) size ((1 - gen % 2 : Nat) : Int)) = (gen : Int) - 1 := by
    by_cases h1 : gen = 1
    · subst h1; have := hz.1; simp at hl this ⊢; omega
    · obtain ⟨im, e⟩ := hp (by omega)
      rw [e]
      show ((gen - 1 : Nat) : Int) = _
      omega
  have h2 : gen % 2 = 0 ∨ gen % 2 = 1 := by omega
  rcases h2 with e | e
  · rw [e] at ht ho
    have ht : slotR S (first : Int) size 0 = _ := ht
    have ho : genO (slotR S (first : Int) size 1) = _ := ho
    rw [ht, ho, if_pos e, if_neg (by omega)]
    exact ⟨rfl, by omega⟩
  · rw [e] at ht ho
    have ht : slotR S (first : Int) size 1 = _ := ht
    have ho : genO (slotR S (first : Int) size 0) = _ := ho
    rw [ht, ho, if_neg (by omega), if_pos e]
    exact ⟨rfl, rfl⟩
theorem lturns_walk (a : Option Addr) (c : Nat) (xs : List Im) (w : World) (hx : Ims w a xs) (_hl : xs.length ≤ maxLen) : Calls Try.prog 4 #[.slice a xs.length c] w (Ret (.bool true) w) := by
  refine ret_in (GSn.lturns_calls a xs.length c w (fun u w' => u = .bool true ∧ Below w.heap.size w w') ?_)
  unfold GSn.lturns_vc
  refine d1_new 20 (by omega) (by omega) w fun g gl mb w2 h2 => ⟨_, _, rfl, callB h2.bs (snaps_ret w2) fun w3 b3 B3 => ⟨_, rfl, br_f rfl (br_n (by decide) (newB B3 fun gs w4 gs0 sgs n4 z4 b4 B4 => ?_))⟩⟩
  have h4 := (h2.below b3).below b4
  have hne : ∀ k ∈ [g, gl, mb], k ≠ gs := fun k hk e => by have := (h2.below b3).lt k hk; omega
  have h0 : atE (newS 20) ((2 : Nat) : Int) ((9 : Nat) : Int) = 0 := by decide
  have h20 := two_new (n := 20) (first := 2) (size := 9) (by omega) (by omega) h0
  refine ⟨fun x y wx => ∃ (k : Nat) (S : DS) (last : List UInt8) (s0 s1 : ByteArray), x = k ∧ y = k ∧ k ≤ 8 ∧ k ≤ xs.length ∧ D1 w wx g gl mb S ∧ Two S 2 9 k last ∧ Prev S 2 9 k ∧ S.left ≤ 0 ∧ Bk wx gs #[.string s0, .string s1] 45 ∧ (1 ≤ k → (if k % 2 = 0 then s0 else s1) = strOf last), fun _ y _ => (8 - y).toNat,
    ⟨0, newS 20, [], _, _, rfl, rfl, by omega, by omega, h4, h20, fun e => absurd e (by omega), Int.le_refl _, n4, fun e => absurd e (by omega)⟩, ?_⟩
  rintro x y wx ⟨k, S, last, s0, s1, rfl, rfl, hk8, hkl, hD, hT, hP, hL, hB, hlast⟩
  have fin : GSn.lturns_k1 (fun u w' => u = .bool true ∧ Below w.heap.size w w') (some ⟨g, 0, none⟩) gs k wx := by
    unfold GSn.lturns_k1
    obtain ⟨v0, v1⟩ := gens_vals hT hP
    have v0 : gensG S 2 9 0 = _ := v0
    have v1 : gensG S 2 9 1 = _ := v1
    have ve : gensE S 2 9 = 0 := (gens_two hT).1
    refine callB hD.bs (gens_ret hD.t hD.wf 2 9 (by decide) (by decide) (by decide) (by decide)) fun w6 b6 B6 => ⟨_, _, _, _, _, rfl, newB B6 fun g2 w7 g20 sg2 n7 z7 b7 B7 => newB B7 fun g3 w8 g30 sg3 n8 z8 b8 B8 => ?_⟩
    rw [v0, v1, ve]
    have k7 : Bk w8 g2 #[.int .i64 0, .int .i64 0] 37 := Bk.below (show Bk w7 g2 #[.int .i64 0, .int .i64 0] 37 from n7) b8
    refine stB B8 g20 k7 (vs := [.int .i64 (if k % 2 = 0 then (k : Int) else (k : Int) - 1), .int .i64 (if k % 2 = 1 then (k : Int) else max 0 ((k : Int) - 1))]) rfl (fun y hy e => by rw [List.mem_singleton] at hy; omega) fun w9 k9 f9 B9 z9 => boxB B9 g30 fun w10 x10 B10 z10 => br_n (by decide) ?_
    have hB10 : Bk w10 gs _ 45 := ((((hB.below b6).below b7).below b8).fr1 f9 (by have := hB.lt; have := b6.size; omega)).box x10 (by have := hB.lt; have := b6.size; omega)
    have k10 := k9.box x10 (by omega)
    have hD10 : D1 w w10 g gl mb S := by
      have hq := ((hD.below b6).below b7).below b8
      have q1 := hq.box (fun k hk e => by have := hD.lt k hk; have := b6.size; omega) g20 ⟨f9, z9⟩
      exact q1.box (fun k hk e => by have := hD.lt k hk; have := b6.size; omega) g30 x10
    refine br_n (fun e => e ?_) (br_n (fun e => e ?_) ?_)
    · refine decide_eq_decide.2 ?_
      split <;> omega
    · refine decide_eq_decide.2 ?_
      split <;> omega
    refine br_dec (fun q0 => ?_) fun q0 => ?_
    · have : k = 0 := by omega
      subst this
      exact ⟨_, _, cellsAt_row k10 rfl, rfl, B10⟩
    refine (load_new hD10.t hD10.wf 2 9 (by decide) (by decide) (by decide) (by decide)).mono ?_
    rintro e w11 ⟨a11, c11, rfl, o11, b11⟩
    obtain ⟨l1, l2, l3⟩ := hT.load.2 (by omega)
    have l1 : loadE S 2 9 = 0 := l1
    have l2 : loadG S 2 9 = k := l2
    have l3 : loadI S 2 9 = last := l3
    rw [l3] at o11 ⊢
    rw [l1, l2]
    have B11 := B10.to b11
    refine ⟨keepG_below b11, _, a11, _, c11, _, rfl, drewB B11 fun w12 b12 B12 e12 => br_y rfl (br_y rfl ⟨last, rfl, (o11.below b12 (Nat.le_refl _)).row, by decide, ?_⟩)⟩
    have hm : Int.tmod (k : Int) 2 = ((k % 2 : Nat) : Int) := by rw [Int.tmod_eq_emod_of_nonneg (by omega)]; omega
    have hm1 : IntKind.i64.wrap ((k : Int) + 1) = ((k + 1 : Nat) : Int) := by rw [wr64 (by omega) (by omega)]; omega
    have hm2 : Int.tmod ((k + 1 : Nat) : Int) 2 = (((k + 1) % 2 : Nat) : Int) := by rw [Int.tmod_eq_emod_of_nonneg (by omega)]; omega
    have hB12 := (hB10.below b11).below b12
    have k12 := (k10.below b11).below b12
    rw [hm, hm1, hm2, wr64 (z := (k : Int) - 1) (by omega) (by omega)]
    have h2 : k % 2 = 0 ∨ k % 2 = 1 := by omega
    rcases h2 with e | e
    · have e' : (k + 1) % 2 = 1 := by omega
      have hs := hlast (by omega)
      rw [if_pos e] at hs
      rw [e, e']
      refine ⟨by decide, by decide, s0, by rw [hB12.cell]; rfl, br_y hs.symm ⟨by decide, by decide, by decide, (k : Int), by rw [k12.cell]; simp [e], br_y rfl (br_n (by omega) ⟨by decide, by decide, by decide, (k : Int) - 1, by rw [k12.cell]; simp [e]; omega, by rw [decide_eq_true rfl], B12⟩)⟩⟩
    · have e' : (k + 1) % 2 = 0 := by omega
      have hs := hlast (by omega)
      rw [if_neg (by omega)] at hs
      rw [e, e']
      refine ⟨by decide, by decide, s1, by rw [hB12.cell]; rfl, br_y hs.symm ⟨by decide, by decide, by decide, (k : Int), by rw [k12.cell]; simp [e], br_y rfl (br_dec (fun _ => ⟨rfl, B12⟩) fun _ => ⟨by decide, by decide, by decide, (k : Int) - 1, by rw [k12.cell]; simp [e], by rw [decide_eq_true rfl], B12⟩)⟩⟩
  refine br_dec (fun hlt => br_dec (fun h8 => ?_) fun _ => fin) fun _ => fin
  obtain ⟨b, off, ha, hi⟩ := ims_get hx k (by omega) hD.bs
  refine withP_mk b off ha ⟨by omega, by omega, _, _, _, by rw [Int.toNat_natCast]; exact cellsAt_get hi.cell 0 _ rfl, ?_⟩
  refine (tame_new wx hi.row hi.cap).mono ?_
  rintro e w5 ⟨a5, c5, rfl, o5, b5⟩
  have h5 := hD.below b5
  have hk1 : IntKind.i64.wrap ((k : Int) + 1) = ((k + 1 : Nat) : Int) := by rw [wr64 (by omega) (by omega)]; omega
  refine ⟨keepG_nil _ _, a5, _, c5, rfl, ?_⟩
  rw [hk1]
  have hlen := tame_len xs[k].bs
  refine (save_any h5.t h5.wf o5.row (by omega) o5.cap.1 (own_ap hD o5 (Nat.le_refl _)) 2 9 ((k + 1 : Nat) : Int) (by decide) (by decide) (by decide) (by decide) (by omega)).mono ?_
  rintro e w6 ⟨rfl, t6, f6⟩
  have h6 := h5.to t6 f6 (h5.wf.save _ _ _ _)
  rcases save_cases hT.wf hT.calm hT.off hT.at0 (gen := k + 1) (im := xs[k].bs.take 500) (by omega) (by omega) (by omega) with ⟨e0, hs⟩ | ⟨_, hl, _⟩
  · have e0 : saveE S 2 9 ((k + 1 : Nat) : Int) (xs[k].bs.take 500) = 0 := e0
    rw [e0]
    refine ⟨keepG_nil _ _, _, rfl, br_n (by decide) ⟨by decide, _, rfl, o5.row.frL f6 (own_ap hD o5 (Nat.le_refl _)), ?_⟩⟩
    have hm2 : Int.tmod ((k + 1 : Nat) : Int) 2 = (((k + 1) % 2 : Nat) : Int) := by rw [Int.tmod_eq_emod_of_nonneg (by omega)]; omega
    rw [hm2, Int.toNat_natCast, Nat.mul_one, Nat.zero_add]
    refine ⟨by omega, by omega, ?_⟩
    have hB6 : Bk w6 gs _ 45 := (hB.below b5).fr f6 (fun hm => hne gs hm rfl)
    refine stB1 h6.bs gs0 hB6 (by show (k + 1) % 2 < 2; omega) (fun y hy => by cases hy) fun w7 k7 f7 B7 z7 => ?_
    have h7 := h6.box hne gs0 ⟨f7, z7⟩
    have hT' := hT.saved (hT.wf.save _ _ _ _) hs
    refine ⟨?_, by dsimp only; try rw [hk1]
                   omega⟩
    have h2 : (k + 1) % 2 = 0 ∨ (k + 1) % 2 = 1 := by omega
    rcases h2 with e | e
    · refine ⟨k + 1, _, xs[k].bs.take 500, strOf (xs[k].bs.take 500), s1, rfl, (by first | rfl | exact hk1), by omega, by omega, h7, hT', hT.prev hs, hs.left0 hL, ?_, fun _ => by rw [if_pos e]⟩
      rw [e] at k7
      exact k7
    · refine ⟨k + 1, _, xs[k].bs.take 500, s0, strOf (xs[k].bs.take 500), rfl, (by first | rfl | exact hk1), by omega, by omega, h7, hT', hT.prev hs, hs.left0 hL, ?_, fun _ => by rw [if_neg (by omega)]⟩
      rw [e] at k7
      exact k7
  · omega
end Go.Proofs.Ytpfmadinijofeaa
end
section
/- SnapFalls; walked. -/
namespace Go.Proofs.Ytpfmadinijofeaa
open Go.RowKit
theorem loads_two {w wx : World} {g gl mb : Nat} {S : DS} (h : D1 w wx g gl mb S) {first size gen : Nat} {last : List UInt8} (hT : Two S first size gen last) (hf : first ≤ 10000) (hs : size ≤ 10000) :
    Calls Try.prog 19 #[.pointer (some ⟨g, 0, none⟩), .int .i64 (first : Int), .int .i64 (size : Int)] wx fun e w' => ∃ a c, e = .returned (.tuple #[.int .i64 (gen : Int), .slice a (if gen = 0 then [] else last).length c, .int .i64 (if gen = 0 then 7 else 0)]) ∧ RowAt w' a ((if gen = 0 then [] else last).map bV) ∧ Below wx.heap.size wx w' := by
  refine (load_new h.t h.wf first size (by omega) (by omega) (by omega) (by omega)).mono ?_
  rintro e w' ⟨a, c, rfl, o, b⟩
  by_cases hg : gen = 0
  · obtain ⟨l1, l2, l3⟩ := hT.load.1 hg
    rw [l3] at o ⊢
    rw [l1, l2, if_pos hg, if_pos hg, hg]
    exact ⟨a, c, rfl, o.row, b⟩
  · obtain ⟨l1, l2, l3⟩ := hT.load.2 (by omega)
    rw [l3] at o ⊢
    rw [l1, l2, if_neg hg, if_neg hg]
    exact ⟨a, c, rfl, o.row, b⟩
theorem lfalls_k3_ok {w wi wx : World} {g gl mb : Nat} {S : DS} {I : Int → ByteArray → Int → World → Prop} {μ : Int → ByteArray → Int → World → Nat} {x5 : Int} {s6 : ByteArray} {k g1 gen : Nat} {last under : List UInt8} {hang : Bool} {ka : Option Addr} {kc : Nat} {kept : List Bool} {s9 : ByteArray}
    (h : D1 w wx g gl mb S) (hk : k ≤ 4) (hgen : gen ≤ 100) (hr : RowAt w ka (kept.map Value.bool)) (hg1 : ∀ k ∈ [g, gl, mb], k ≠ g1) (hs9 : s9 = strOf under)
    (hT : Two (crashD S kept) 2 9 gen last ∨ (hang = true ∧ Two (crashD S kept) 2 9 (gen + 1) under))
    (hI : ∀ (wy : World) (gen' : Nat) (last' : List UInt8) (S' : DS), D1 w wy g gl mb S' → Two S' 2 9 gen' last' → gen' ≤ gen + 1 → I gen' (strOf last') ((k + 1 : Nat) : Int) wy ∧ μ gen' (strOf last') ((k + 1 : Nat) : Int) wy < μ x5 s6 (k : Int) wi) :
    GSn.lfalls_k3 (fun u w' => u = .bool true ∧ Below w.heap.size w w') I μ (some ⟨g, 0, none⟩) x5 s6 k wi ka kept.length kc g1 gen (strOf last) s9 hang wx := by
  unfold GSn.lfalls_k3
  have hk1 : IntKind.i64.wrap ((k : Int) + 1) = ((k + 1 : Nat) : Int) := by rw [wr64 (by omega) (by omega)]; omega
  rw [hk1]
  refine (dcrash_g h.t h.wf (fun w1 f => hr.bs (h.bs.fr f h.g0))).mono ?_
  rintro e w2 ⟨rfl, t2, f2⟩
  have h2 := h.to t2 f2 (h.wf.crash kept)
  have kg : ∀ {wa wb : World}, Fr [g, gl, mb] wa wb → KeepG [g1] wa wb := fun f => keepG_fr f fun q hq hm => by rw [List.mem_singleton] at hq; exact hg1 q hm hq
  refine ⟨kg f2, rfl, ?_⟩
  rcases hT with hT | ⟨hh, hT⟩
  · refine (loads_two h2 hT (by omega) (by omega)).mono ?_
    rintro e w3 ⟨a, c, rfl, r3, b3⟩
    refine ⟨keepG_below b3, _, a, _, c, _, rfl, ?_⟩
    have h3 := h2.below b3
    by_cases hg : gen = 0
    · subst hg
      exact br_y rfl (br_y rfl (br_y rfl (br_y rfl (hI w3 0 last _ h3 hT (by omega)))))
    · rw [if_neg hg] at r3 ⊢
      rw [if_neg hg]
      refine br_n (by omega) ?_
      unfold GSn.lfalls_k2
      rw [hk1]
      exact br_n (by decide) (br_y rfl ⟨last, rfl, r3, br_y rfl (hI w3 gen last _ h3 hT (by omega))⟩)
  · refine (loads_two h2 hT (by omega) (by omega)).mono ?_
    rintro e w3 ⟨a, c, rfl, r3, b3⟩
    rw [if_neg (by omega)] at r3 ⊢
    rw [if_neg (by omega)]
    refine ⟨keepG_below b3, _, a, _, c, _, rfl, ?_⟩
    have h3 := h2.below b3
    have k2 : GSn.lfalls_k2 (fun u w' => u = .bool true ∧ Below w.heap.size w w') I μ x5 s6 k wi gen (strOf last) s9 hang ((gen + 1 : Nat) : Int) a under.length 0 w3 := by
      unfold GSn.lfalls_k2
      rw [hk1]
      refine br_n (by decide) (br_n (by omega) ?_)
      unfold GSn.lfalls_k1
      rw [hh, hk1]
      subst hs9
      exact br_f rfl (br_n (by rw [wr64 (by omega) (by omega)]; omega) ⟨under, rfl, r3, br_n (by simp) (hI w3 (gen + 1) under _ h3 hT (by omega))⟩)
    exact br_dec (fun _ => br_n (by decide) k2) fun _ => k2
theorem lfalls_walk (a : Option Addr) (c : Nat) (xs : List (Fl Im)) (w : World) (_hl : xs.length ≤ maxLen) (hx : RowsAt FlI 3 w a xs) : Calls Try.prog 7 #[.slice a xs.length c] w (Ret (.bool true) w) := by
  refine ret_in (GSn.lfalls_calls a xs.length c w (fun u w' => u = .bool true ∧ Below w.heap.size w w') ?_)
  unfold GSn.lfalls_vc
  refine d1_new 20 (by omega) (by omega) w fun g gl mb w2 h2 => ⟨_, _, rfl, callB h2.bs (snaps_ret w2) fun w3 b3 B3 => ⟨_, rfl, br_f rfl (br_n (by decide) ?_)⟩⟩
  have h3 := h2.below b3
  have h0 : atE (newS 20) ((2 : Nat) : Int) ((9 : Nat) : Int) = 0 := by decide
  have h20 := two_new (n := 20) (first := 2) (size := 9) (by omega) (by omega) h0
  rw [empty_str]
  refine ⟨fun x s y wx => ∃ (k gen : Nat) (S : DS) (last : List UInt8), x = gen ∧ s = strOf last ∧ y = k ∧ k ≤ 4 ∧ gen ≤ 5 * k ∧ D1 w wx g gl mb S ∧ Two S 2 9 gen last, fun _ _ y _ => (4 - y).toNat, ⟨0, 0, newS 20, [], rfl, rfl, rfl, by omega, by omega, h3, h20⟩, ?_⟩
  rintro x s y wx ⟨k, gen, S, last, rfl, rfl, rfl, hk, hgk, hD, hT⟩
  refine br_dec (fun hlt => br_dec (fun h4 => ?_) fun _ => ⟨rfl, hD.bs⟩) fun _ => ⟨rfl, hD.bs⟩
  obtain ⟨b, off, ha, hi⟩ := fli_get hx k (by omega) hD.bs
  refine withP_mk b off ha ⟨by omega, by omega, _, _, _, _, _, _, _, by rw [Int.toNat_natCast]; exact hi.cell, newB hD.bs fun g1 w5 g10 sg5 n5 z5 b5 B5 => boxB B5 g10 fun w6 x6 B6 z6 => ⟨by decide, ?_⟩⟩
  have hne : ∀ k ∈ [g, gl, mb], k ≠ g1 := fun k hk e => by have := hD.lt k hk; omega
  have h6 := (hD.below b5).box hne g10 x6
  have kg : ∀ {wa wb : World}, Fr [g, gl, mb] wa wb → KeepG [g1] wa wb := fun f => keepG_fr f fun q hq hm => by rw [List.mem_singleton] at hq; exact hne q hm hq
  obtain ⟨m, hm, em⟩ := u64_mod xs[k].off 14 (by omega)
  have em : Int.tmod (IntKind.u64.wrap xs[k].off) 14 = (m : Int) := em
  rw [em, wr64 (by omega) (by omega)]
  refine (dcut_any h6.t (m : Int)).mono ?_
  rintro e w7 ⟨rfl, t7, f7⟩
  have hT7 := hT.cut (n := (m : Int)) (by omega)
  have h7 := h6.to t7 f7 hT7.wf
  have hrow : Ims w xs[k].a xs[k].xs := by
    obtain ⟨b', off', _, hi'⟩ := fli_get hx k (by omega) (Bs.refl w)
    exact hi'.row
  have hkept : RowAt w xs[k].ka (xs[k].kept.map Value.bool) := by
    obtain ⟨b', off', _, hi'⟩ := fli_get hx k (by omega) (Bs.refl w)
    exact hi'.kept
  refine ⟨kg f7, rfl, ?_⟩
  refine ⟨fun x s s9 b10 y wx => ∃ (j gen' : Nat) (S' : DS) (last' under : List UInt8), x = gen' ∧ s = strOf last' ∧ s9 = strOf under ∧ y = j ∧ j ≤ 4 ∧ gen' ≤ gen + j ∧ D1 w wx g gl mb S' ∧ w7.heap.size ≤ wx.heap.size ∧
    ((b10 = false ∧ Two S' 2 9 gen' last') ∨ (b10 = true ∧ ∀ kept, Two (crashD S' kept) 2 9 gen' last' ∨ Two (crashD S' kept) 2 9 (gen' + 1) under)), fun _ _ _ _ y _ => (4 - y).toNat,
    ⟨0, gen, _, last, [], rfl, rfl, rfl, rfl, by omega, by omega, h7, Nat.le_refl _, .inl ⟨rfl, hT7⟩⟩, ?_⟩
  rintro x s s9 b10 y wx2 ⟨j, gen', S', last', under, rfl, rfl, rfl, rfl, hj, hgj, hD2, hz2, hc⟩
  have fin : GSn.lfalls_k3 (fun u w' => u = .bool true ∧ Below w.heap.size w w') (fun x s y wx => ∃ (k gen : Nat) (S : DS) (last : List UInt8), x = gen ∧ s = strOf last ∧ y = k ∧ k ≤ 4 ∧ gen ≤ 5 * k ∧ D1 w wx g gl mb S ∧ Two S 2 9 gen last) (fun _ _ y _ => (4 - y).toNat) (some ⟨g, 0, none⟩) (gen : Int) (strOf last) (k : Int) wx xs[k].ka xs[k].kept.length xs[k].kc g1 gen' (strOf last') (strOf under) b10 wx2 := by
    refine lfalls_k3_ok hD2 hk (by omega) hkept hne rfl ?_ fun wy g' l' S2 q1 q2 q3 => ⟨⟨k + 1, g', S2, l', rfl, rfl, rfl, by omega, by omega, q1, q2⟩, by omega⟩
    rcases hc with ⟨_, hT2⟩ | ⟨hb, hT2⟩
    · exact .inl (hT2.crash _)
    · exact (hT2 _).imp id fun q => ⟨hb, q⟩
  refine br_dec (fun hlt2 => br_dec (fun h42 => br_not ?_) fun _ => fin) fun _ => fin
  rcases hc with ⟨rfl, hT2⟩ | ⟨rfl, _⟩
  · refine br_f rfl ?_
    obtain ⟨b', off', ha', hi'⟩ := ims_get hrow j (by omega) hD2.bs
    refine withP_mk b' off' ha' ⟨by omega, by omega, _, _, _, by rw [Int.toNat_natCast]; exact cellsAt_get hi'.cell 0 _ rfl, ?_⟩
    refine (tame_new wx2 hi'.row hi'.cap).mono ?_
    rintro e w9 ⟨a9, c9, rfl, o9, b9⟩
    have h9 := hD2.below b9
    have hj1 : IntKind.i64.wrap ((j : Int) + 1) = ((j + 1 : Nat) : Int) := by rw [wr64 (by omega) (by omega)]; omega
    have hg1 : IntKind.i64.wrap ((gen' : Int) + 1) = ((gen' + 1 : Nat) : Int) := by rw [wr64 (by omega) (by omega)]; omega
    refine ⟨keepG_below b9, a9, _, c9, rfl, ?_⟩
    rw [hj1, hg1]
    have hlen := tame_len xs[k].xs[j].bs
    have hap := own_ap hD2 o9 (Nat.le_refl _)
    refine (save_any h9.t h9.wf o9.row (by omega) o9.cap.1 hap 2 9 ((gen' + 1 : Nat) : Int) (by decide) (by decide) (by decide) (by decide) (by omega)).mono ?_
    rintro e w10 ⟨rfl, t10, f10⟩
    have h10 := h9.to t10 f10 (h9.wf.save _ _ _ _)
    have hr10 := o9.row.frL f10 hap
    have z10 := f10.size
    have z9 := b9.size
    refine ⟨kg f10, _, rfl, callB h10.bs (doff_ret h10.t) fun w11 b11 B11 => ⟨_, rfl, ?_⟩⟩
    have z11 := b11.size
    rcases save_cases hT2.wf hT2.calm hT2.off hT2.at0 (gen := gen' + 1) (im := xs[k].xs[j].bs.take 500) (by omega) (by omega) (by omega) with ⟨e0, hs⟩ | ⟨e0, hl, hs⟩
    · have e0 : saveE S' 2 9 ((gen' + 1 : Nat) : Int) (xs[k].xs[j].bs.take 500) = 0 := e0
      have eo : (saveD S' 2 9 ((gen' + 1 : Nat) : Int) (xs[k].xs[j].bs.take 500)).off = false := hs.off
      rw [eo, e0]
      refine br_f rfl (br_y rfl (drewO_in fun w12 b12 e12 => ⟨_, rfl, (hr10.bs b11).bs b12, ⟨j + 1, gen' + 1, _, _, under, rfl, rfl, rfl, rfl, by omega, by omega, (h10.below b11).below b12, by have := b12.size; omega, .inl ⟨rfl, hT2.saved (hT2.wf.save _ _ _ _) hs⟩⟩, by dsimp only; omega⟩))
    · have eo : (saveD S' 2 9 ((gen' + 1 : Nat) : Int) (xs[k].xs[j].bs.take 500)).off = true := hs.off
      rw [eo]
      refine br_t rfl ⟨_, rfl, hr10.bs b11, ⟨j + 1, gen', _, last', _, rfl, rfl, rfl, rfl, by omega, by omega, h10.below b11, by omega, .inr ⟨rfl, fun kept => hT2.half (hT2.wf.save _ _ _ _) hs kept⟩⟩, by dsimp only; omega⟩
  · exact br_t rfl fin
end Go.Proofs.Ytpfmadinijofeaa
end
section
/- PurserSlots: small functions; walked. -/
namespace Go.Proofs.Ytpfmadinijofeaa
open Go.RowKit
theorem fewT_new {a : Option Addr} {c : Nat} {xs : List Im} (w : World) (hx : Ims w a xs) :
    Calls Try.prog 48 #[.slice a xs.length c] w fun e w' => ∃ a' c' ys, e = .returned (.slice a' (ys : List Im).length c') ∧ recs ys = fewG (recs xs) 3 100 ∧ OwnR w' w.heap.size a' c' ys ∧ Bs w w' := by
  refine (GTs.few_calls a xs.length c w (fun v w' => ∃ a' c' ys, v = .slice a' (ys : List Im).length c' ∧ recs ys = fewG (recs xs) 3 100 ∧ OwnR w' w.heap.size a' c' ys ∧ Bs w w') ?_).mono (by rintro e w' ⟨v, rfl, a', c', ys, rfl, h⟩; exact ⟨a', c', ys, rfl, h⟩)
  unfold GTs.few_vc
  have hrl : (recs xs).length = xs.length := by simp [recs]
  refine ⟨fun a7 n7 c7 x wx => ∃ (k : Nat) (ys : List Im), x = k ∧ k ≤ 3 ∧ k ≤ xs.length ∧ n7 = ys.length ∧ recs ys = fewG ((recs xs).take k) 3 100 ∧ OwnR wx w.heap.size a7 c7 ys ∧ Bs w wx, fun _ _ _ x _ => (3 - x).toNat, ⟨0, [], rfl, Nat.zero_le _, Nat.zero_le _, rfl, by simp [recs, fewG], OwnR.nil _ _, Bs.refl w⟩, ?_⟩
  rintro a7 n7 c7 x wx ⟨k, ys, rfl, hkm, hkl, rfl, hys, hO, Bx⟩
  have hyl : ys.length = k := by
    have := congrArg List.length hys
    simp [recs, fewG] at this
    omega
  have fin : ¬ (k < xs.length ∧ k < 3) → recs ys = fewG (recs xs) 3 100 := fun hc => by
    rw [hys]
    unfold fewG
    by_cases h : k < xs.length
    · have : k = 3 := by omega
      subst this
      rw [List.take_take, Nat.min_self]
    · rw [List.take_of_length_le (l := recs xs) (i := k) (by omega)]
  refine br_dec (fun h1 => br_dec (fun h2 => ?_) fun h2 => ⟨a7, c7, ys, rfl, fin (by omega), hO, Bx⟩) fun h1 => ⟨a7, c7, ys, rfl, fin (by omega), hO, Bx⟩
  have hk : k < xs.length := by omega
  refine drewB Bx fun w3 b3 B3 e3 => ?_
  obtain ⟨b, off, ha, hi⟩ := ims_get hx k hk B3
  have hcell : w3.cell? ⟨b, off + (k : Int).toNat * 1, none⟩ = some (.slice xs[k].a xs[k].bs.length xs[k].c) := by rw [Int.toNat_natCast]; exact cellsAt_get hi.cell 0 _ rfl
  have hcap := hi.cap
  refine withP_mk b off ha ⟨by omega, by omega, _, _, _, hcell, withP_mk b off ha ⟨by omega, by omega, _, _, _, hcell, by omega, by omega, ?_⟩⟩
  refine newB B3 fun g w4 g0 sg n4 z4 b4 B4 => ?_
  obtain ⟨b', off', ha', hi4⟩ := ims_get hx k hk B4
  rw [ha] at ha'
  injection ha' with ha'
  injection ha' with e1 e2
  subst e1; subst e2
  have hcell4 : w4.cell? ⟨b, off + (k : Int).toNat * 1, none⟩ = some (.slice xs[k].a xs[k].bs.length xs[k].c) := by rw [Int.toNat_natCast]; exact cellsAt_get hi4.cell 0 _ rfl
  have o4 : Own w4 w.heap.size 5 1 (.slice (some ⟨g, 0, none⟩) 0 0) 0 (([] : List UInt8).map bV) := own_lit (bs := []) n4 g0 (Nat.zero_le _)
  have hl : (xs[k].bs.take 100).length = (min ((xs[k].bs.length : Nat) : Int) 100).toNat := by rw [List.length_take]; omega
  have r4 : RowAt w4 xs[k].a ((xs[k].bs.take 100).map bV) := by rw [List.map_take]; exact hi4.row.take 100
  have hls : (xs[k].bs.take 100).length ≤ 100 := by rw [List.length_take]; omega
  refine ⟨hcell4, hcell4, ?_⟩
  rw [← hl]
  refine appF B4 o4 (Nat.le_refl _) B4.size (srcB r4) (by unfold maxLen; omega) (by omega) fun a5 c5 w5 o5 B5 z5 f5 or5 => ?_
  have hO5 : OwnR w5 w.heap.size a7 c7 ys := ⟨((hO.below b3).below b4).own.keep fun q hq => f5 q (((hO.below b3).below b4).own.lt q hq).2 fun e => by injection e with e; subst e; have := (hO.own.lt g hq).2; have := b3.size; omega,
    fun y hy => (((hO.below b3).below b4).rows y hy).keep fun q hq => f5 q ((((hO.below b3).below b4).rows y hy).lt q hq).2 fun e => by injection e with e; subst e; have := ((hO.rows y hy).lt g hq).2; have := b3.size; omega⟩
  rw [Nat.zero_add (xs[k].bs.take 100).length] at o5 ⊢
  have hk1 : IntKind.i64.wrap ((k : Int) + 1) = ((k + 1 : Nat) : Int) := by rw [wr64 (by omega) (by omega)]; omega
  refine appR (x := ⟨a5, c5, xs[k].bs.take 100⟩) B5 hO5 o5 (Nat.le_refl _) B5.size (by omega) rfl (fun q hq => by cases hq) fun a6 c6 w6 O6 B6 z6 k6 => ⟨⟨k + 1, ys ++ [⟨a5, c5, xs[k].bs.take 100⟩], hk1, by omega, by omega, by simp, ?_, O6, B6⟩, by dsimp only; rw [hk1]; omega⟩
  have hgk : (recs xs)[k]'(by omega) = xs[k].bs := by simp [recs]
  show (ys ++ [_]).map _ = _
  rw [List.map_append, show ys.map (·.bs) = fewG ((recs xs).take k) 3 100 from hys]
  unfold fewG
  rw [List.take_of_length_le (l := (recs xs).take k) (by rw [List.length_take]; omega), List.take_of_length_le (l := (recs xs).take (k + 1)) (by rw [List.length_take]; omega), List.take_add_one (l := recs xs) (i := k), List.getElem?_eq_getElem (l := recs xs) (i := k) (by rw [hrl]; omega), hgk, List.map_append]
  rfl
theorem nine_sum : crcP 0 [[49, 50, 51, 52, 53, 54, 55, 56, 57]] = 3421780262 := by decide +kernel
theorem stands_ret (w : World) : Calls Try.prog 47 #[] w (Ret (.bool true) w) := by
  refine ret_in (GTs.stands_calls w (fun u w' => u = .bool true ∧ Below w.heap.size w w') ?_)
  unfold GTs.stands_vc
  refine newB (Bs.refl w) fun g1 w3 g10 sg1 n3 z3 b3 B3 => ⟨fun _ h => (by cases h), _, _, _, n3, fun w4 fr4 n4 f4 z4 => ?_⟩
  have B4 : Bs w w4 := B3.fr1 f4 g10
  refine newB B4 fun g2 w5 g20 sg2 n5 z5 b5 B5 => ?_
  have n4' : w5.heap[g1]? = some (.cells (([49, 50, 51, 52, 53, 54, 55, 56, 57] : List UInt8).map bV).toArray 5 fr4) := (b5.block g1 (by omega)).trans n4
  have hp : PartsAt w5 (some ⟨g2, 0, none⟩) [[49, 50, 51, 52, 53, 54, 55, 56, 57]] := by
    refine ⟨[(some ⟨g1, 0, none⟩, 9)], RowAt.ofWhole n5, rfl, fun v p hm => ?_⟩
    simp at hm
    obtain ⟨rfl, rfl⟩ := hm
    exact ⟨RowAt.ofWhole n4', (by decide : 9 ≤ 9), (by unfold maxLen; decide : 9 ≤ maxLen)⟩
  refine (csum_any (some ⟨g2, 0, none⟩) 1 [[49, 50, 51, 52, 53, 54, 55, 56, 57]] w5 (by show 1 ≤ maxLen; decide) hp).mono ?_
  rintro e w6 ⟨rfl, b6⟩
  rw [nine_sum]
  exact ⟨keepG_nil _ _, _, rfl, rfl, B5.to b6⟩
def sV (s : List UInt8) : Value := .string (strOf s)
end Go.Proofs.Ytpfmadinijofeaa
end
section
/- PurserSlots: the rests; walked. -/
namespace Go.Proofs.Ytpfmadinijofeaa
open Go.RowKit
abbrev OwnS (w : World) (n1 : Nat) (a : Option Addr) (c : Nat) (xs : List (List UInt8)) : Prop := Own w n1 9 1 (.slice a xs.length c) xs.length (xs.map sV)
section
variable {w w' : World} {n1 c : Nat} {a : Option Addr} {xs : List (List UInt8)}
theorem OwnS.fr (h : OwnS w n1 a c xs) {L : List Nat} (f : Fr L w w') (hL : ∀ k ∈ L, k < n1) : OwnS w' n1 a c xs := h.keep fun k hk => f.block k (h.lt k hk).2 fun hm => by have := hL k hm; have := (h.lt k hk).1; omega
theorem OwnS.bs (h : OwnS w n1 a c xs) (b : Below w.heap.size w w') : OwnS w' n1 a c xs := h.below b (Nat.le_refl _)
theorem OwnR.apartS {ys : List Im} {a2 : Option Addr} {c2 n2 : Nat} (h : OwnR w n2 a2 c2 ys) {v : Value} {n m : Nat} {vs : List Value} (o : Own w m 9 1 v n vs) (f : ∀ q, q < w.heap.size → v.ownBlock ≠ some q → w'.heap[q]? = w.heap[q]?) : OwnR w' n2 a2 c2 ys :=
  ⟨h.own.keep fun q hq => f q (h.own.lt q hq).2 fun e => own_kinds o h.own (by decide) e hq, fun x hx => (h.rows x hx).keep fun q hq => f q ((h.rows x hx).lt q hq).2 fun e => own_kinds o (h.rows x hx) (by decide) e hq⟩
end
theorem appS {w0 w : World} {n1 c c2 : Nat} {a a2 : Option Addr} {xs ys : List (List UInt8)} {gs : List Nat} {K : Nat → Option Addr → Nat → World → Prop} (B : Bs w0 w) (h : OwnS w n1 a c xs) (h2 : RowAt w a2 (ys.map sV)) (h1 : w0.heap.size ≤ n1) (hn : n1 ≤ w.heap.size) (hl : xs.length + ys.length ≤ 1000000000) (hg : ∀ g ∈ gs, (Value.slice a xs.length c).ownBlock ≠ some g)
    (k : ∀ a' c' w2, OwnS w2 n1 a' c' (xs ++ ys) → Bs w0 w2 → w.heap.size ≤ w2.heap.size → (∀ q, q < w.heap.size → (Value.slice a xs.length c).ownBlock ≠ some q → w2.heap[q]? = w.heap[q]?) → K ys.length a' c' w2) :
    appO Try.prog gs w 9 1 16 76 a xs.length c (.slice a2 ys.length c2) K := by
  have hs := Src.ofRow (P := Try.prog) (tx := 76) (w := w) Try.underlying76 a2 c2 (ys.map sV) h2 (fun u hu => by obtain ⟨x, _, rfl⟩ := List.mem_map.1 hu; rfl)
  rw [List.length_map] at hs
  refine ⟨ys.length, xs.map sV, ys.map sV, h.base_le fun _ _ => Nat.zero_le _, hs, by unfold maxLen; omega, by omega, hg, fun a' c' w1 o1 g1 or1 _ => ?_⟩
  have hlt : ∀ q, (Value.slice a' (xs.length + ys.length) c').ownBlock = some q → n1 ≤ q := fun q hq => by
    rcases or1 with h' | ⟨g, h', h3⟩
    · exact (h.lt q (h' ▸ hq)).1
    · rw [h'] at hq; injection hq with hq; subst hq; exact Nat.le_trans hn h3
  refine k a' c' w1 ?_ ⟨g1.os.trans B.os, g1.tape.trans B.tape, g1.output.trans B.output, Nat.le_trans B.size g1.size, fun q hq => (g1.block q (by have := B.size; omega) fun e => by have := (h.lt q e.symm).1; omega).trans (B.block q hq)⟩ g1.size fun q hq hne => g1.block q hq fun e => hne e.symm
  · show Own w1 n1 9 1 (.slice a' (xs ++ ys).length c') (xs ++ ys).length ((xs ++ ys).map sV)
    rw [List.length_append, List.map_append]
    exact o1.base_le hlt
theorem slots_k1_ok {wi wx : World} {K : Value → World → Prop} {I : Int → ByteArray → Option Addr → Nat → Nat → Int → World → Prop} {μ : Int → ByteArray → Option Addr → Nat → Nat → Int → World → Nat} {x5 x5' : Int} {s6 s6' : ByteArray} {a9 a9' au : Option Addr} {n9 c9 c9' n1 k : Nat} {xs : List (List UInt8)} {us : List Im}
    (hO : OwnS wx n1 a9' c9' xs) (hU : Ims wx au us) (hus : recs us = xs) (hk : k ≤ 100) (hl : xs.length ≤ 1000000)
    (hI : ∀ wy, Below wx.heap.size wx wy → I x5' s6' a9' xs.length c9' ((k + 1 : Nat) : Int) wy ∧ μ x5' s6' a9' xs.length c9' ((k + 1 : Nat) : Int) wy < μ x5 s6 a9 n9 c9 (k : Int) wi) :
    GTs.lslots_k1 K I μ x5 s6 a9 n9 c9 (k : Int) wi x5' s6' au us.length a9' xs.length c9' wx := by
  unfold GTs.lslots_k1
  have hul : us.length = xs.length := by rw [← hus, recs_len]
  have hk1 : IntKind.i64.wrap ((k : Int) + 1) = ((k + 1 : Nat) : Int) := by rw [wr64 (by omega) (by omega)]; omega
  rw [hk1]
  refine br_n (by omega) ⟨fun x wy => ∃ j : Nat, x = j ∧ j ≤ us.length ∧ Below wx.heap.size wx wy, fun x _ => (us.length - x).toNat, ⟨0, rfl, Nat.zero_le _, Below.refl _ _⟩, ?_⟩
  rintro x wy ⟨j, rfl, hj, by1⟩
  refine br_dec (fun h => ?_) fun h => hI wy by1
  have hjl : j < us.length := by omega
  refine drewB (Bs.to (Bs.refl wx) by1) fun w3 b3 B3 e3 => ?_
  obtain ⟨b, off, ha, hi⟩ := ims_get hU j hjl B3
  have hg : xs[j]'(by omega) = us[j].bs := by simp [← hus, recs]
  obtain ⟨b', off', ha', hc'⟩ := own_cell (hO.bs B3) (i := j) (v := sV us[j].bs) (by rw [List.getElem?_map, List.getElem?_eq_getElem (by omega), hg]; rfl)
  have hj1 : IntKind.i64.wrap ((j : Int) + 1) = ((j + 1 : Nat) : Int) := by rw [wr64 (by omega) (by omega)]; omega
  exact withP_mk b off ha ⟨by omega, by omega, _, _, _, by rw [Int.toNat_natCast]; exact cellsAt_get hi.cell 0 _ rfl, _, rfl, hi.row, withP_mk b' off' ha' ⟨by omega, by omega, _, by rw [Int.toNat_natCast]; exact hc', br_n (fun h => h rfl) ⟨⟨j + 1, hj1, by omega, B3⟩, by dsimp only; rw [hj1]; omega⟩⟩⟩
theorem slots_k2_ok {w wi wx : World} {g gl mb g1 n1 gen u : Nat} {S : DS} {K : Value → World → Prop} {I : Int → ByteArray → Option Addr → Nat → Nat → Int → World → Prop} {μ : Int → ByteArray → Option Addr → Nat → Nat → Int → World → Nat} {x5 : Int} {s6 : ByteArray} {a9 a9' a14 a15 : Option Addr} {n9 c9 c9' c14 k : Nat} {xs un : List (List UInt8)} {im : List UInt8} {G : List Grp}
    (h : D1 w wx g gl mb S) (hF : Fine S gen im G u) (hG : G.flatten = xs ∨ G.flatten = xs ++ un) (hO : OwnS wx n1 a9' c9' xs) (hU : RowAt wx a14 (un.map sV)) (hI15 : RowAt wx a15 (im.map bV)) (hw : w.heap.size ≤ n1) (hn1 : n1 ≤ wx.heap.size) (hd : ∀ q ∈ [g, gl, mb], q < n1) (hg1 : un = [] ∨ (Value.slice a9' xs.length c9').ownBlock ≠ some g1) (hk : k ≤ 100) (hxl : xs.length ≤ 10000) (hunl : un.length ≤ 10000) (hg1' : ∀ q ∈ [g, gl, mb], q ≠ g1)
    (hI : ∀ wy a c, D1 w wy g gl mb S → OwnS wy n1 a c G.flatten → wx.heap.size ≤ wy.heap.size → I (gen : Int) (strOf im) a G.flatten.length c ((k + 1 : Nat) : Int) wy ∧ μ (gen : Int) (strOf im) a G.flatten.length c ((k + 1 : Nat) : Int) wy < μ x5 s6 a9 n9 c9 (k : Int) wi) :
    GTs.lslots_k2 K I μ (some ⟨g, 0, none⟩) x5 s6 a9 n9 c9 (k : Int) wi g1 a14 un.length c14 (gen : Int) a15 im.length (gen : Int) (strOf im) a9' xs.length c9' wx := by
  unfold GTs.lslots_k2
  refine (open_log h hF.log).mono ?_
  rintro e w2 ⟨gl2, a2, c2, us, rfl, hus, hO2, h2, b2, _⟩
  have hr := hF.log.chain.recs
  have hu40 := hF.log.used
  refine ⟨keepG_below b2, _, a2, _, c2, _, rfl, br_n (by decide) (br_n (fun h => h rfl) ⟨im, rfl, hI15.below b2 (Nat.le_refl _), br_n (fun h => h rfl) ?_⟩)⟩
  have hul : us.length = G.flatten.length := by rw [← hus, recs_len]
  refine br_dec (fun hne => ?_) fun heq => ?_
  · have hGx : G.flatten = xs ++ un := by
      rcases hG with e | e
      · rw [hul, e] at hne; exact absurd rfl hne
      · exact e
    have hune : un ≠ [] := fun e => by rw [hul, hGx, e, List.append_nil] at hne; exact hne rfl
    have hg1 : (Value.slice a9' xs.length c9').ownBlock ≠ some g1 := by
      rcases hg1 with e | e
      · exact absurd e hune
      · exact e
    have hO' := hO.bs b2
    refine appS h2.d.bs hO' (hU.below b2 (Nat.le_refl _)) hw (Nat.le_trans hn1 b2.size) (by omega) (fun q hq => by rw [List.mem_singleton] at hq; subst hq; exact hg1) fun a3 c3 w3 O3 B3 z3 f3 => ?_
    have hq3 : ∀ q ∈ [g, gl, mb], w3.heap[q]? = w2.heap[q]? := fun q hq => f3 q (h2.d.lt q hq) fun e => by have := (hO'.lt q e).1; have := hd q hq; omega
    have h3 : D1 w w3 g gl mb S := h2.d.keepN B3 hq3
    have hO3 := hO2.apartS hO' f3
    rw [show xs.length + un.length = (xs ++ un).length from List.length_append.symm]
    rw [← hGx] at O3 ⊢
    exact slots_k1_ok O3 hO3.ims hus hk (by omega) fun wy by1 => hI wy a3 c3 (h3.below by1) (O3.bs by1) (Nat.le_trans b2.size (Nat.le_trans z3 by1.size))
  · have hGx : G.flatten = xs := by
      rcases hG with e | e
      · exact e
      · have : un = [] := by
          rw [hul, e, List.length_append] at heq
          exact List.eq_nil_of_length_eq_zero (by omega)
        rw [e, this, List.append_nil]
    have hO' := hO.bs b2
    rw [← hGx] at hO' ⊢
    exact slots_k1_ok hO' hO2.ims hus hk (by rw [hGx]; omega) fun wy by1 => hI wy a9' c9' (h2.d.below by1) (hO'.bs by1) (Nat.le_trans b2.size by1.size)
end Go.Proofs.Ytpfmadinijofeaa
end
section
/- PurserSlots: behind a crash; walked. -/
namespace Go.Proofs.Ytpfmadinijofeaa
open Go.RowKit
theorem slots_k3_ok {w wi wx : World} {g gl mb g1 n1 gen m80 : Nat} {S : DS} {K : Value → World → Prop} {I : Int → ByteArray → Option Addr → Nat → Nat → Int → World → Prop} {μ : Int → ByteArray → Option Addr → Nat → Nat → Int → World → Nat} {x5 x85 : Int} {s6 : ByteArray} {a9 a9' a14 a80 ka : Option Addr} {n9 c9 c9' c14 kc k : Nat} {xs un : List (List UInt8)} {im next : List UInt8} {kept : List Bool}
    (h : D1 w wx g gl mb S) (hr : RowAt w ka (kept.map Value.bool)) (hO : OwnS wx n1 a9' c9' xs) (hU : RowAt wx a14 (un.map sV)) (hUa : ∀ q, a14 = some q → q.block ∉ [g, gl, mb]) (hN : RowAt wx a80 (next.map bV)) (hNa : ∀ q, a80 = some q → q.block ∉ [g, gl, mb]) (hm : m80 = next.length)
    (hT : (∃ G u, (G.flatten = xs ∨ G.flatten = xs ++ un) ∧ Fine (crashD S kept) gen im G u) ∨ (x85 ≠ 0 ∧ un = [] ∧ Fine (crashD S kept) (gen + 1) next [] 0))
    (hw : w.heap.size ≤ n1) (hn1 : n1 ≤ wx.heap.size) (hd : ∀ q ∈ [g, gl, mb], q < n1) (hg1 : un = [] ∨ (Value.slice a9' xs.length c9').ownBlock ≠ some g1) (hk : k ≤ 100) (hgen : 1 ≤ gen) (hgen2 : gen ≤ 1000) (hxl : xs.length ≤ 10000) (hunl : un.length ≤ 10000) (hg1' : ∀ q ∈ [g, gl, mb], q ≠ g1)
    (hI : ∀ wy a c S' (gen' : Nat) im' (G' : List Grp) u', D1 w wy g gl mb S' → gen' ≤ gen + 1 → 1 ≤ gen' → Fine S' gen' im' G' u' → OwnS wy n1 a c G'.flatten → wx.heap.size ≤ wy.heap.size → I (gen' : Int) (strOf im') a G'.flatten.length c ((k + 1 : Nat) : Int) wy ∧ μ (gen' : Int) (strOf im') a G'.flatten.length c ((k + 1 : Nat) : Int) wy < μ x5 s6 a9 n9 c9 (k : Int) wi) :
    GTs.lslots_k3 K I μ (some ⟨g, 0, none⟩) x5 s6 a9 n9 c9 (k : Int) wi ka kept.length kc g1 m80 a80 x85 (gen : Int) (strOf im) a9' xs.length c9' a14 un.length c14 wx := by
  unfold GTs.lslots_k3
  subst hm
  refine crash_d1 h hr (fun q hq hmm => by rw [List.mem_singleton] at hq; exact hg1' q hmm hq) fun w2 h2 f2 => ⟨rfl, ?_⟩
  have hO2 := hO.fr f2 hd
  have hU2 := hU.frL f2 hUa
  have hN2 := hN.frL f2 hNa
  have z2 := f2.size
  have hgw : IntKind.i64.wrap ((gen : Int) + 1) = ((gen + 1 : Nat) : Int) := by rw [wr64 (by omega) (by omega)]; omega
  rw [hgw]
  rcases hT with ⟨G, u, hG, hF⟩ | ⟨hx, hun, hF⟩
  · refine (loads_two h2 hF.two (by omega) (by omega)).mono ?_
    rintro e w3 ⟨a, c, rfl, r3, b3⟩
    rw [if_neg (by omega)] at r3 ⊢
    rw [if_neg (by omega)]
    have z3 := b3.size
    refine ⟨keepG_below b3, _, a, _, c, _, rfl, br_n (by decide) (br_n (by omega) ?_)⟩
    exact slots_k2_ok (h2.below b3) hF hG (hO2.bs b3) (hU2.below b3 (Nat.le_refl _)) r3 hw (by omega) hd hg1 hk hxl hunl hg1' fun wy a c hy hOy zy => hI wy a c _ gen im G u hy (by omega) hgen hF hOy (by omega)
  · refine (loads_two h2 hF.two (by omega) (by omega)).mono ?_
    rintro e w3 ⟨a, c, rfl, r3, b3⟩
    rw [if_neg (by omega)] at r3 ⊢
    rw [if_neg (by omega)]
    have z3 := b3.size
    subst hun
    refine ⟨keepG_below b3, _, a, _, c, _, rfl, br_n (by decide) (br_y rfl (br_y hx ⟨next, rfl, r3, next, (Nat.zero_add _).symm, hN2.below b3 (Nat.le_refl _), br_y rfl (drewB (Bs.refl w3) fun w4 b4 B4 e4 => ⟨next, rfl, r3.below b4 (Nat.le_refl _), ?_⟩)⟩))⟩
    have z4 := b4.size
    exact slots_k2_ok (xs := []) ((h2.below b3).below b4) hF (.inl rfl) (Own.nil _ _ _ _) ((hU2.below b3 (Nat.le_refl _)).below b4 (Nat.le_refl _)) (r3.below b4 (Nat.le_refl _)) hw (by omega) hd (.inl rfl) hk (by simp) (by simp) hg1' fun wy a c hy hOy zy => hI wy a c _ (gen + 1) next [] 0 hy (by omega) (by omega) hF hOy (by omega)
end Go.Proofs.Ytpfmadinijofeaa
end
section
/- PurserSlots; walked. -/
namespace Go.Proofs.Ytpfmadinijofeaa
open Go.RowKit
theorem few_len {xs ys : List Im} (h : recs ys = fewG (recs xs) 3 100) : ys.length ≤ 3 ∧ (grpB (recs ys)).length ≤ 1000000 := by
  have h1 := congrArg List.length h
  unfold fewG at h1
  rw [recs_len, List.length_map, List.length_take] at h1
  have := few_small (recs xs) 3 100 (by omega)
  rw [← h] at this
  exact ⟨by omega, by omega⟩
set_option maxHeartbeats 3200000 in
theorem lslots_walk (a : Option Addr) (c : Nat) (xs : List Fa) (w : World) (hx : RowsAt FaAt 4 w a xs) : Calls Try.prog 12 #[.slice a xs.length c] w (Ret (.bool true) w) := by
  refine ret_in (GTs.lslots_calls a xs.length c w (fun u w' => u = .bool true ∧ Below w.heap.size w w') ?_)
  unfold GTs.lslots_vc
  refine d1_new 60 (by omega) (by omega) w fun g gl mb w2 h2 => ⟨_, _, rfl, callB h2.bs (stands_ret w2) fun w3 b3 B3 => ⟨_, rfl, br_f rfl (br_n (by decide) ?_)⟩⟩
  have h3 := h2.below b3
  refine (save_any (im := []) h3.t h3.wf (.inl rfl) (Nat.zero_le _) (Nat.zero_le _) (fun q hq => by cases hq) 0 10 1 (by decide) (by decide) (by decide) (by decide) (by decide)).mono ?_
  rintro e w4 ⟨rfl, t4, f4⟩
  have hW4 := (newS_wf (n := 60) (by omega) (by omega)).save 0 10 1 []
  have h4 := h3.to t4 f4 hW4
  have hF4 : saveE (newS 60) 0 10 1 [] = 0 ∧ Fine (saveD (newS 60) 0 10 1 []) 1 [] [] 0 := by
    have h0 := two_new (n := 60) (first := 0) (size := 10) (by omega) (by omega) (at_sixty rfl)
    rcases save_cases h0.wf h0.calm h0.off h0.at0 (gen := 1) (im := []) (by omega) (by omega) (by simp) with ⟨e0, hs⟩ | ⟨_, hl, _⟩
    · exact ⟨e0, fine_new hW4 hs⟩
    · exact absurd hl (by decide)
  obtain ⟨e4, hF4⟩ := hF4
  rw [e4]
  refine ⟨keepG_nil _ _, _, rfl, br_n (by decide) ((open_log h4 hF4.log).mono ?_)⟩
  rintro e w5 ⟨gl0, a5, c5, us0, rfl, _, _, h5, b5, _⟩
  refine ⟨keepG_nil _ _, _, a5, _, c5, _, rfl, br_n (by decide) ?_⟩
  have hd5 : ∀ q ∈ [g, gl, mb], q < w5.heap.size := h5.d.lt
  rw [empty_str]
  refine ⟨fun x5 s6 a9 n9 c9 x10 wx => ∃ (k gen u : Nat) (S : DS) (G : List Grp) (im : List UInt8), x5 = gen ∧ s6 = strOf im ∧ n9 = G.flatten.length ∧ x10 = k ∧ k ≤ 3 ∧ 1 ≤ gen ∧ gen ≤ 2 * k + 1 ∧ OwnS wx w5.heap.size a9 c9 G.flatten ∧ D1 w wx g gl mb S ∧ Fine S gen im G u ∧ w5.heap.size ≤ wx.heap.size, fun _ _ _ _ _ x10 _ => (3 - x10).toNat,
    ⟨0, 1, 0, _, [], [], rfl, rfl, rfl, rfl, by omega, by omega, by omega, Own.nil _ _ _ _, h5.d, hF4, Nat.le_refl _⟩, ?_⟩
  rintro x5 s6 a9 n9 c9 x10 wx ⟨k, gen, u, S, G, im, rfl, rfl, rfl, rfl, hk, hgen1, hgenk, hO, hD, hF, hz⟩
  refine br_dec (fun h1 => br_dec (fun h6 => ?_) fun _ => ⟨rfl, hD.bs⟩) fun _ => ⟨rfl, hD.bs⟩
  have hGl : G.flatten.length ≤ 3000 := by
    have := hF.log.chain.recs
    have := hF.log.used
    omega
  obtain ⟨b, off, ha, hi⟩ := fas_get hx k (by omega) hD.bs
  have hi0 : Gps w xs[k].a xs[k].xs ∧ RowAt w xs[k].ka (xs[k].kept.map Value.bool) := by
    obtain ⟨b', off', _, hi'⟩ := fas_get hx k (by omega) (Bs.refl w)
    exact ⟨hi'.row, hi'.kept⟩
  have hicap := hi.icap
  refine withP_mk b off ha ⟨by omega, by omega, _, _, _, _, _, _, _, _, _, _, by rw [Int.toNat_natCast]; exact hi.cell, newB hD.bs fun g1 w6 g10 sg6 n6 z6 b6 B6 => boxB B6 g10 fun w7 x7 B7 z7 => ⟨by decide, ?_⟩⟩
  have hne : ∀ k ∈ [g, gl, mb], k ≠ g1 := fun k hk e => by have := hD.lt k hk; omega
  have h7 := (hD.below b6).box hne g10 x7
  have hO7 : OwnS w7 w5.heap.size a9 c9 G.flatten := hO.keep fun q hq => (x7.1.block q (Nat.lt_of_lt_of_le (hO.lt q hq).2 b6.size) (by rw [List.mem_singleton]; have := (hO.lt q hq).2; omega)).trans (b6.block q (hO.lt q hq).2)
  have kg : ∀ {wa wb : World}, Fr [g, gl, mb] wa wb → KeepG [g1] wa wb := fun f => keepG_fr f fun q hq hm => by rw [List.mem_singleton] at hq; exact hne q hm hq
  obtain ⟨m, hm, em⟩ := u64_mod xs[k].off 20 (by omega)
  have em : Int.tmod (IntKind.u64.wrap xs[k].off) 20 = (m : Int) := em
  rw [em, wr64 (z := (m : Int)) (by omega) (by omega)]
  refine (dcut_any h7.t (m : Int)).mono ?_
  rintro e w8 ⟨rfl, t8, f8⟩
  have hF8 := hF.cut (n := (m : Int)) (by omega)
  have h8 := h7.to t8 f8 hF8.two.wf
  have hO8 := hO7.fr f8 hd5
  have hd8 : ∀ q ∈ [g, gl, mb], q < w8.heap.size := h8.lt
  have z7' : wx.heap.size < w7.heap.size := by omega
  have z8 := f8.size
  have g1lt : g1 < w8.heap.size := by omega
  refine ⟨kg f8, rfl, newB (Bs.refl w8) fun g2 w9 g20 sg9 n9 z9 b9 B9 => ⟨by omega, by omega, ?_⟩⟩
  have o9 : Own w9 w8.heap.size 5 1 (.slice (some ⟨g2, 0, none⟩) 0 0) 0 (([] : List UInt8).map bV) := own_lit (bs := []) n9 (by omega) (Nat.zero_le _)
  have hl : (xs[k].im.take 500).length = (min ((xs[k].im.length : Nat) : Int) 500).toNat := by rw [List.length_take]; omega
  have r9 : RowAt w9 xs[k].ia ((xs[k].im.take 500).map bV) := by
    obtain ⟨b', off', _, hi'⟩ := fas_get hx k (by omega) (h8.below b9).bs
    rw [List.map_take]
    exact hi'.img.take 500
  have hl5 : (xs[k].im.take 500).length ≤ 500 := by rw [List.length_take]; omega
  generalize hnx : xs[k].im.take 500 = next at *
  rw [← hl]
  refine appB B9 o9 (Nat.le_refl _) B9.size (srcB r9) (by unfold maxLen; omega) (by omega) (fun q hq e => by rw [List.mem_singleton] at hq; subst hq; have := (o9.lt q e).1; omega) fun a10 c10 w10 o10 _ B10 z10 => ?_
  rw [Nat.zero_add] at o10
  have h10 := h8.below B10
  have hO10 := hO8.bs B10
  have z10' := B10.size
  have hap := own_ap h8 o10 (Nat.le_refl _)
  have hg1 : IntKind.i64.wrap ((gen : Int) + 1) = ((gen + 1 : Nat) : Int) := by rw [wr64 (by omega) (by omega)]; omega
  rw [hg1, Nat.zero_add]
  refine (save_any h10.t h10.wf o10.row (by omega) o10.cap.1 hap 0 10 ((gen + 1 : Nat) : Int) (by decide) (by decide) (by decide) (by decide) (by omega)).mono ?_
  rintro e w11 ⟨rfl, t11, f11⟩
  have hW11 := h10.wf.save 0 10 ((gen + 1 : Nat) : Int) next
  have h11 := h10.to t11 f11 hW11
  have hr11 : RowAt w11 a10 (next.map bV) := RowAt.frL (show RowAt w10 a10 (next.map bV) from o10.row) f11 hap
  have hO11 := hO10.fr f11 hd5
  have z11 := f11.size
  have hap8 : ∀ q, a10 = some q → w8.heap.size ≤ q.block := fun q hq => by subst hq; exact (o10.lt q.block rfl).1
  refine ⟨kg f11, _, rfl, ?_⟩
  have hap10 : ∀ q, a10 = some q → q.block < w10.heap.size := fun q hq => by subst hq; exact (o10.lt q.block rfl).2
  have back : ∀ (wz : World) (n1 : Nat), w5.heap.size ≤ n1 → w5.heap.size ≤ wz.heap.size → ∀ wy a c S' (gen' : Nat) im' (G' : List Grp) u', D1 w wy g gl mb S' → gen' ≤ gen + 2 → 1 ≤ gen' → Fine S' gen' im' G' u' → OwnS wy n1 a c G'.flatten → wz.heap.size ≤ wy.heap.size →
      (∃ (k' gen u : Nat) (S : DS) (G : List Grp) (im : List UInt8), (gen' : Int) = gen ∧ strOf im' = strOf im ∧ G'.flatten.length = G.flatten.length ∧ ((k + 1 : Nat) : Int) = (k' : Nat) ∧ k' ≤ 3 ∧ 1 ≤ gen ∧ gen ≤ 2 * k' + 1 ∧ OwnS wy w5.heap.size a c G.flatten ∧ D1 w wy g gl mb S ∧ Fine S gen im G u ∧ w5.heap.size ≤ wy.heap.size) ∧ (3 - ((k + 1 : Nat) : Int)).toNat < (3 - (k : Int)).toNat := fun wz n1 hn1 hz' wy a c S' gen' im' G' u' d1 d2 d2' d3 d4 d5 =>
    ⟨⟨k + 1, gen', u', S', G', im', rfl, rfl, rfl, rfl, by omega, d2', by omega, d4.base_le fun q hq => Nat.le_trans hn1 (d4.lt q hq).1, d1, d3, by omega⟩, by omega⟩
  rcases save_cases hF8.two.wf hF8.two.calm hF8.two.off hF8.two.at0 (gen := gen + 1) (im := next) (by omega) (by omega) (by omega) with ⟨e0, hs⟩ | ⟨e0, _, hs⟩
  · have e0 : saveE (cutD S m) 0 10 ((gen + 1 : Nat) : Int) next = 0 := e0
    rw [e0]
    have hF11 := hF8.saved hW11 (by omega) hs
    refine br_y rfl (drewB h11.bs fun w12 b12 B12 e12 => ⟨next, rfl, hr11.below b12 (Nat.le_refl _), ?_⟩)
    have h12 := h11.below b12
    refine (open_log h12 hF11.log).mono ?_
    rintro e w14 ⟨gl2, a14, c14, us, rfl, _, _, h14, b14, hgl2⟩
    have z12 := b12.size
    have z14 := b14.size
    refine ⟨keepG_below b14, _, a14, _, c14, _, rfl, br_n (by decide) ?_⟩
    have hr14 : RowAt w14 a10 (next.map bV) := (hr11.below b12 (Nat.le_refl _)).below b14 (Nat.le_refl _)
    have hd14 : ∀ q ∈ [gl2, g, gl, mb], q < w14.heap.size := h14.lt
    refine ⟨fun a9 n9 c9 a14 n14 c14 x15 wy => ∃ (j : Nat) (S' : DS) (xs' un : List (List UInt8)), x15 = j ∧ j ≤ 4 ∧ n9 = xs'.length ∧ n14 = un.length ∧ xs'.length ≤ 3 * j ∧ un.length ≤ 3 ∧ OwnS wy w14.heap.size a9 c9 xs' ∧ RowAt wy a14 (un.map sV) ∧ (∀ q, a14 = some q → w14.heap.size ≤ q.block) ∧ D1 w wy g gl mb S' ∧ w14.heap.size ≤ wy.heap.size ∧ RowAt wy a10 (next.map bV) ∧
        ((un = [] ∧ ∃ G u, G.flatten = xs' ∧ Fine S' (gen + 1) next G u ∧ LgAt wy gl2 g ⟨20, 40, gen + 1, u, G.length⟩) ∨ (S'.off = true ∧ ∀ kept, ∃ G u, (G.flatten = xs' ∨ G.flatten = xs' ++ un) ∧ Fine (crashD S' kept) (gen + 1) next G u)), fun _ _ _ _ _ _ x15 _ => (4 - x15).toNat,
      ⟨0, _, [], [], rfl, by omega, rfl, rfl, Nat.zero_le _, Nat.zero_le _, Own.nil _ _ _ _, .inl rfl, (fun q hq => by cases hq), h14.d, Nat.le_refl _, hr14, .inl ⟨rfl, [], 0, rfl, hF11, h14.lg⟩⟩, ?_⟩
    rintro a9' n9' c9' a14' n14' c14' x15 wy ⟨j, S', xs', un, rfl, hj, rfl, rfl, hxl, hul, hOy, hUy, hUa, hDy, zy, hry, hc⟩
    have hfin : ∀ kept, ∃ G u, (G.flatten = xs' ∨ G.flatten = xs' ++ un) ∧ Fine (crashD S' kept) (gen + 1) next G u := fun kept => by
      rcases hc with ⟨_, G, u, hG, hF, _⟩ | ⟨_, hh⟩
      · exact ⟨G, u, .inl hG, hF.crash kept⟩
      · exact hh kept
    have fin : ∀ wz, Below wy.heap.size wy wz → GTs.lslots_k3 (fun u w' => u = .bool true ∧ Below w.heap.size w w') (fun x5 s6 a9 n9 c9 x10 wx => ∃ (k gen u : Nat) (S : DS) (G : List Grp) (im : List UInt8), x5 = gen ∧ s6 = strOf im ∧ n9 = G.flatten.length ∧ x10 = k ∧ k ≤ 3 ∧ 1 ≤ gen ∧ gen ≤ 2 * k + 1 ∧ OwnS wx w5.heap.size a9 c9 G.flatten ∧ D1 w wx g gl mb S ∧ Fine S gen im G u ∧ w5.heap.size ≤ wx.heap.size) (fun _ _ _ _ _ x10 _ => (3 - x10).toNat) (some ⟨g, 0, none⟩) (gen : Int) (strOf im) a9 G.flatten.length c9 (k : Int) wx xs[k].ka xs[k].kept.length xs[k].kc g1 next.length a10 0 ((gen + 1 : Nat) : Int) (strOf next) a9' xs'.length c9' a14' un.length c14' wz := fun wz bz => by
      have zz := bz.size
      obtain ⟨G', u', hG', hF'⟩ := hfin xs[k].kept
      exact slots_k3_ok (hDy.below bz) hi0.2 (hOy.bs bz) (hUy.below bz (Nat.le_refl _)) (fun q hq hm => by have := hUa q hq; have := hd14 q.block (List.mem_cons_of_mem _ hm); omega) (hry.below bz (Nat.le_refl _)) (fun q hq hm => by have := hap8 q hq; have := hd8 q.block hm; omega) rfl (.inl ⟨G', u', hG', hF'⟩)
        (by have := h14.d.bs.size; omega) (by omega) (fun q hq => hd14 q (List.mem_cons_of_mem _ hq)) (.inr fun e => by have := (hOy.lt g1 e).1; omega) (by omega) (by omega) (by omega) (by omega) (by omega) hne fun wy' a c S2 gen' im' G2 u2 d1 d2 d2' d3 d4 d5 => back wz _ (by omega) (by omega) wy' a c S2 gen' im' G2 u2 d1 (by omega) d2' d3 d4 d5
    refine br_dec (fun hlt => br_dec (fun hl4 => ?_) fun _ => fin wy (Below.refl _ _)) fun _ => fin wy (Below.refl _ _)
    refine callB hDy.bs (doff_ret hDy.t) fun w16 b16 B16 => ⟨_, rfl, br_not ?_⟩
    rcases hc with ⟨hun, G1, u1, hG1, hF1, hlg⟩ | ⟨hoff, _⟩
    rotate_left
    · rw [hoff]
      exact br_t rfl (fin w16 b16)
    rw [hF1.two.off]
    refine br_f rfl ?_
    have h16 : D2 w w16 gl2 g gl mb ⟨20, 40, gen + 1, u1, G1.length⟩ S' := D2.below ⟨hDy, hlg, h14.l0⟩ b16
    have z16 := b16.size
    obtain ⟨b', off', ha', hi'⟩ := gps_get hi0.1 j (by omega) B16
    refine withP_mk b' off' ha' ⟨by omega, by omega, _, _, _, by rw [Int.toNat_natCast]; exact cellsAt_get hi'.cell 0 _ rfl, (fewT_new w16 hi'.row).mono ?_⟩
    rintro e w17 ⟨a17, c17, ys, rfl, hys, hO17, b17⟩
    have hfew := few_len hys
    have h17 := h16.below b17
    have z17 := b17.size
    refine ⟨keepG_below b17, a17, _, c17, rfl, ?_⟩
    have hL1 : LWf S' ⟨20, 40, gen + 1, u1, G1.length⟩ := hF1.log.lwf
    have hne4 : ∀ q ∈ [g1], q ∉ [gl2, g, gl, mb] := fun q hq hm => by
      rw [List.mem_singleton] at hq
      subst hq
      rcases List.mem_cons.1 hm with e | hm
      · omega
      · exact hne q hm rfl
    refine (app_d2 (gs := []) (R := fun e w' => e = .returned (.int .i64 (apE S' ⟨20, 40, gen + 1, u1, G1.length⟩ (recs ys))) ∧ D2 w w' gl2 g gl mb (apL S' ⟨20, 40, gen + 1, u1, G1.length⟩ (recs ys)) (apD S' ⟨20, 40, gen + 1, u1, G1.length⟩ (recs ys)) ∧ Fr [gl2, g, gl, mb] w17 w') h17 hL1 hO17.ims hfew.2 (fun q hq => by cases hq) fun w' h f => ⟨rfl, h, f⟩).mono ?_
    rintro e w18 ⟨_, rfl, h18, f18⟩
    have z18 := f18.size
    refine ⟨keepG_fr f18 hne4, _, rfl, ?_⟩
    have hO18 : OwnR w18 w16.heap.size a17 c17 ys := hO17.fr f18 fun q hq => by have := hd14 q hq; omega
    have hOy18 : OwnS w18 w14.heap.size a9' c9' xs' := ((hOy.bs b16).bs b17).fr f18 hd14
    have hry18 : RowAt w18 a10 (next.map bV) := ((hry.below b16 (Nat.le_refl _)).below b17 (Nat.le_refl _)).frL f18 fun q hq hm => by
      have h1 := hap8 q hq
      have h2 := hap10 q hq
      rcases List.mem_cons.1 hm with e | hm
      · omega
      · have := hd8 q.block hm; omega
    have hrl : (recs ys).length = ys.length := recs_len ys
    refine ⟨fun a18 n18 c18 x19 wz => ∃ (i : Nat) (zs : List (List UInt8)), x19 = i ∧ i ≤ ys.length ∧ zs = (recs ys).take i ∧ n18 = zs.length ∧ OwnS wz w18.heap.size a18 c18 zs ∧ Bs w18 wz, fun _ _ _ x19 _ => (ys.length - x19).toNat,
      ⟨0, [], rfl, Nat.zero_le _, rfl, rfl, Own.nil _ _ _ _, Bs.refl w18⟩, ?_⟩
    rintro a18 n18 c18 x19 wz ⟨i, zs, rfl, hil, hzs, rfl, hOz, Bz⟩
    have zz := Bz.size
    have hj1 : IntKind.i64.wrap ((j : Int) + 1) = ((j + 1 : Nat) : Int) := by rw [wr64 (by omega) (by omega)]; omega
    refine br_dec (fun hli => ?_) fun hli => ?_
    · have hi2 : i < ys.length := by omega
      obtain ⟨b2, off2, ha2, hi3⟩ := ims_get (hO18.ims) i hi2 Bz
      refine withP_mk b2 off2 ha2 ⟨by omega, by omega, _, _, _, by rw [Int.toNat_natCast]; exact cellsAt_get hi3.cell 0 _ rfl, _, rfl, hi3.row, newB Bz fun g3 w20 g30 sg20 n20 z20 b20 B20 => ?_⟩
      have hzl : zs.length ≤ 3 := by rw [hzs, List.length_take]; omega
      refine appS (ys := [ys[i].bs]) (c2 := 1) B20 (hOz.bs b20) (RowAt.ofWhole n20) (Nat.le_refl _) B20.size (by simp; omega) (fun q hq e => by rw [List.mem_singleton] at hq; subst hq; have := (hOz.lt q e).1; omega) fun a21 c21 w21 O21 B21 z21 f21 => ⟨⟨i + 1, zs ++ [ys[i].bs], by rw [wr64 (by omega) (by omega)]; omega, hi2, ?_, by simp, O21, B21⟩, by dsimp only; rw [wr64 (by omega) (by omega)]; omega⟩
      have hgi : (recs ys)[i]'(by omega) = ys[i].bs := by simp [recs]
      rw [hzs, List.take_add_one, List.getElem?_eq_getElem (by omega), hgi]
      rfl
    · have hil2 : i = ys.length := by omega
      have hzs2 : zs = recs ys := by rw [hzs, List.take_of_length_le (by omega)]
      subst hzs2
      have hz3 : (recs ys).length ≤ 3 := by omega
      have h19 := h18.below Bz
      have hOy19 := hOy18.bs Bz
      have hry19 := hry18.below Bz (Nat.le_refl _)
      have hua : ∀ q, a18 = some q → w14.heap.size ≤ q.block := fun q hq => by subst hq; have := (hOz.lt q.block rfl).1; omega
      rcases fine_step hF1 hfew.2 with ⟨e5, o5, G', u', hG', k5, l5⟩ | ⟨e5, k5, l5⟩ | ⟨e5, o5, k5⟩
      · rw [e5]
        refine br_y rfl (appS h19.d.bs hOy19 hOz.row h14.d.bs.size (by omega) (by omega) (fun q hq e => by rw [List.mem_singleton] at hq; subst hq; have := (hOy.lt q e).1; omega) fun a22 c22 w22 O22 B22 z22 f22 => ?_)
        have hlow : ∀ q, q < w14.heap.size → w22.heap[q]? = wz.heap[q]? := fun q hq => f22 q (by omega) fun e => by have := (hOy19.lt q e).1; omega
        have h22 := h19.keepN B22 fun q hq => hlow q (hd14 q hq)
        rw [l5] at h22
        rw [hj1]
        refine ⟨⟨j + 1, _, xs' ++ recs ys, un, rfl, by omega, by simp, rfl, by rw [List.length_append]; omega, hul, O22, by rw [hun]; exact .inl rfl, hUa, h22.d, by omega, ?_, .inl ⟨hun, G', u', by rw [hG', hG1], k5, h22.lg⟩⟩, by dsimp only; omega⟩
        exact RowAt.keepB hry19 fun q hq => f22 q.block (by have := hap10 q hq; omega) fun e => by have := (hOy19.lt _ e).1; have := hap10 q hq; omega
      · rw [l5] at h19
        refine br_n e5 (callB h19.d.bs (doff_ret h19.d.t) fun w22 b22 B22 => ⟨_, rfl, ?_⟩)
        have z22 := b22.size
        rw [k5.two.off, hj1]
        have h22 := h19.below b22
        exact br_f rfl ⟨⟨j + 1, _, xs', un, rfl, by omega, rfl, rfl, by omega, hul, hOy19.bs b22, by rw [hun]; exact .inl rfl, hUa, h22.d, by omega, hry19.below b22 (Nat.le_refl _), .inl ⟨hun, G1, u1, hG1, k5, h22.lg⟩⟩, by dsimp only; omega⟩
      · refine br_n e5 (callB h19.d.bs (doff_ret h19.d.t) fun w22 b22 B22 => ⟨_, rfl, ?_⟩)
        have z22 := b22.size
        rw [o5, hj1]
        have h22 := h19.d.below b22
        exact br_t rfl ⟨⟨j + 1, _, xs', recs ys, rfl, by omega, rfl, rfl, by omega, hz3, hOy19.bs b22, RowAt.below hOz.row b22 (Nat.le_refl _), hua, h22, by omega, hry19.below b22 (Nat.le_refl _), .inr ⟨o5, fun kept => by rw [← hG1]; obtain ⟨G', u', h5, h6⟩ := k5 kept; exact ⟨G', u', h5, h6⟩⟩⟩, by dsimp only; omega⟩
  · have e0 : saveE (cutD S m) 0 10 ((gen + 1 : Nat) : Int) next = 12 := e0
    rw [e0]
    have hH := hF8.halfSaved hW11 (by omega) hs xs[k].kept
    refine br_n (by decide) ?_
    refine slots_k3_ok (un := []) (next := next) h11 hi0.2 hO11 (.inl rfl) (fun q hq => by cases hq) hr11 (fun q hq hm => by have := hap8 q hq; have := hd8 q.block hm; omega) rfl (hH.imp (fun h => ⟨G, u, .inl rfl, h⟩) fun h => ⟨by decide, rfl, h⟩)
      h5.d.bs.size (by omega) hd5 (.inl rfl) (by omega) hgen1 (by omega) (by omega) (by simp) hne fun wy a c S2 gen' im' G2 u2 d1 d2 d2' d3 d4 d5 => back w11 _ (Nat.le_refl _) (by omega) wy a c S2 gen' im' G2 u2 d1 (by omega) d2' d3 d4 d5
end Go.Proofs.Ytpfmadinijofeaa
end
