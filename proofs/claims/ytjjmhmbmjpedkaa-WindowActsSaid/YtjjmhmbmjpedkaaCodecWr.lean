/- The rest of the codec's writer, walked. -/
import Derived.Test.YtjjmhmbmjpedkaaCodecPut
namespace Go.Proofs.Ytjjmhmbmjpedkaa
open Go.RowKit
def W1 (w : World) (L : List Nat) (g : Nat) (bs : List UInt8) (bad : Bool) (e : Ending) (w' : World) : Prop :=
  e = .returned (.tuple #[]) ∧ ∃ L', WAt w' L' g bs bad ∧ Fr L w w' ∧ Gr L L' w.heap.size
theorem WAt.setBad {w : World} {L : List Nat} {g : Nat} {bs : List UInt8} {bad : Bool} (h : WAt w L g bs bad) : WAt (w.setCell ⟨g, 1, none⟩ (.bool true)) L g bs true := by
  obtain ⟨⟨v, h1, h2, h3⟩, h4, h5⟩ := h
  refine ⟨⟨v, h1.setCell 1 (.bool true), h2.keep fun k hk => Below.heap_setCell _ _ _ _ fun e => ?_, h3⟩, h4, by simpa [Under] using h5⟩
  have e2 : k = g := e
  subst e2
  exact own_far h1 h2 (by decide) hk
set_option maxRecDepth 100000 in
set_option maxHeartbeats 2000000 in
theorem wUint_neg (g : Nat) (z : Int) (hz : z < 0) (bs : List UInt8) (bad : Bool) (L : List Nat) (w : World) (h : WAt w L g bs bad) :
    Calls Try.prog 62 #[.pointer (some ⟨g, 0, none⟩), .int .i64 z] w (W1 w L g bs true) := by
  have HW := Bx.mk h
  obtain ⟨⟨v, h1, h2, h3⟩, h4, h5⟩ := h
  have H4 := Bx.mk h4
  have c1 : w.frozen? ⟨g, 1, none⟩ = false := h1.frozen 1
  have c2 : w.cell? ⟨g, 1, none⟩ = some (.bool bad) := by rw [h1.cell]; rfl
  clear h1 h2 h3 h4 h5
  go_enter Try.func62, Try.ntmps62
  go_wp2
  go_end0
  exact ⟨rfl, L, HW.out.setBad, (Fr.refl _ _).setCell (p := ⟨g, 1, none⟩) (.inl H4.out) _, Gr.refl _ _⟩
set_option maxRecDepth 100000 in
set_option maxHeartbeats 2000000 in
theorem wUint_pos (g n : Nat) (hn : n < 9223372036854775808) (bs : List UInt8) (bad : Bool) (L : List Nat) (w : World) (h : WAt w L g bs bad) (hl : bs.length ≤ 100000000) :
    Calls Try.prog 62 #[.pointer (some ⟨g, 0, none⟩), .int .i64 n] w (W1 w L g (bs ++ grp n) bad) := by
  have HC := fun w h => Bx.mk (wput_any g n (by omega) bs bad L w h hl)
  have HW := Bx.mk h
  have f1 : IntKind.u64.wrap (n : Int) = (n : Int) := by rw [IntKind.wrap_u64]; omega
  have f2 : ¬ (n : Int) < 0 := by omega
  clear h hl hn
  go_enter Try.func62, Try.ntmps62
  go_wp2_with fail
  refine (HC _ HW.out).out.mono ?_
  rintro e w' ⟨rfl, hw'⟩
  go_wp2
  go_end0
  exact ⟨rfl, hw'⟩
theorem wUint_nil (z : Int) (w : World) : Calls Try.prog 62 #[.pointer none, .int .i64 z] w fun e w' => e = .returned (.tuple #[]) ∧ w' = w := by
  go_enter Try.func62, Try.ntmps62
  go_wp2
  go_end0
  exact ⟨rfl, rfl⟩
theorem wUint_any (g : Nat) (z : Int) (hz : z ≤ 9223372036854775807) (bs : List UInt8) (bad : Bool) (L : List Nat) (w : World) (h : WAt w L g bs bad) (hl : bs.length ≤ 100000000) :
    Calls Try.prog 62 #[.pointer (some ⟨g, 0, none⟩), .int .i64 z] w (W1 w L g (bs ++ uintB z) (bad || decide (z < 0))) := by
  by_cases h0 : z < 0
  · rw [show uintB z = [] by unfold uintB; rw [if_pos h0], List.append_nil, decide_eq_true h0, Bool.or_true]
    exact wUint_neg g z h0 bs bad L w h
  · obtain ⟨n, rfl⟩ := Int.eq_ofNat_of_zero_le (show 0 ≤ z by omega)
    rw [show uintB (n : Int) = grp n by unfold uintB; rw [if_neg h0]; rfl, decide_eq_false h0, Bool.or_false]
    exact wUint_pos g n (by omega) bs bad L w h hl
theorem zig_xor_pos (n : Nat) (h : n < 9223372036854775808) : zig (n : Int) = 2 * n := by unfold zig; rw [if_pos (by omega)]; omega
theorem xor_zero (a : Nat) (h : a < 18446744073709551616) : bits BinOp.xor IntKind.u64 (a : Int) 0 = (a : Int) := by
  have := bits_xor_u64_nat a 0 h (by omega)
  simpa using this
theorem nat_xor_ones (a : Nat) (h : a < 2 ^ 64) : a ^^^ (2 ^ 64 - 1) = 2 ^ 64 - 1 - a := by
  apply Nat.eq_of_testBit_eq
  intro i
  rw [Nat.testBit_xor, Nat.testBit_two_pow_sub_one, show 2 ^ 64 - 1 - a = 2 ^ 64 - (a + 1) by omega, Nat.testBit_two_pow_sub_succ h]
  by_cases hi : i < 64
  · simp [hi]
  · simp [hi]
    exact Nat.testBit_lt_two_pow (Nat.lt_of_lt_of_le h (Nat.pow_le_pow_right (by omega) (by omega)))
theorem xor_ones (a : Nat) (h : a < 18446744073709551616) : bits BinOp.xor IntKind.u64 (a : Int) 18446744073709551615 = ((18446744073709551615 - a : Nat) : Int) := by
  have h1 := bits_xor_u64_nat a 18446744073709551615 h (by omega)
  have h2 := nat_xor_ones a h
  rw [show (2 : Nat) ^ 64 - 1 = 18446744073709551615 from rfl] at h2
  rw [h2] at h1
  exact h1
set_option maxRecDepth 100000 in
set_option maxHeartbeats 2000000 in
theorem wInt_pos (g n : Nat) (hn : n < 9223372036854775808) (bs : List UInt8) (bad : Bool) (L : List Nat) (w : World) (h : WAt w L g bs bad) (hl : bs.length ≤ 100000000) :
    Calls Try.prog 38 #[.pointer (some ⟨g, 0, none⟩), .int .i64 n] w (W1 w L g (bs ++ intB n) bad) := by
  unfold intB
  rw [zig_xor_pos n hn]
  obtain ⟨m, hm⟩ : ∃ m, m = 2 * n := ⟨_, rfl⟩
  rw [← hm]
  have HC := fun w h => Bx.mk (wput_any g m (by omega) bs bad L w h hl)
  have HW := Bx.mk h
  have f1 : IntKind.u64.wrap (n : Int) = (n : Int) := by rw [IntKind.wrap_u64]; omega
  have f2 : IntKind.u64.wrap ((n : Int) * 2) = (m : Int) := by rw [IntKind.wrap_u64]; omega
  have f3 : (n : Int) / 9223372036854775808 = 0 := by omega
  have f4 := xor_zero m (by omega)
  clear h hl hn hm
  go_enter Try.func38, Try.ntmps38
  go_wp2_with fail
  refine (HC _ HW.out).out.mono ?_
  rintro e w' ⟨rfl, hw'⟩
  go_wp2
  go_end0
  exact ⟨rfl, hw'⟩
set_option maxRecDepth 100000 in
set_option maxHeartbeats 2000000 in
theorem wInt_neg (g : Nat) (z : Int) (h1 : z < 0) (h2 : -9223372036854775808 ≤ z) (bs : List UInt8) (bad : Bool) (L : List Nat) (w : World) (h : WAt w L g bs bad) (hl : bs.length ≤ 100000000) :
    Calls Try.prog 38 #[.pointer (some ⟨g, 0, none⟩), .int .i64 z] w (W1 w L g (bs ++ intB z) bad) := by
  unfold intB
  obtain ⟨m, hm⟩ : ∃ m : Nat, (m : Int) = 18446744073709551616 + z := ⟨(18446744073709551616 + z).toNat, by omega⟩
  obtain ⟨k, hk⟩ : ∃ k : Nat, k = 2 * m % 18446744073709551616 := ⟨_, rfl⟩
  have hz : zig z = 18446744073709551615 - k := by unfold zig; rw [if_neg (by omega)]; omega
  rw [hz]
  have HC := fun w h => Bx.mk (wput_any g (18446744073709551615 - k) (by omega) bs bad L w h hl)
  have HW := Bx.mk h
  have f1 : IntKind.u64.wrap z = (m : Int) := by rw [IntKind.wrap_u64]; omega
  have f2 : IntKind.u64.wrap ((m : Int) * 2) = (k : Int) := by rw [IntKind.wrap_u64]; omega
  have f3 : z / 9223372036854775808 = -1 := by omega
  have f5 : IntKind.u64.wrap (-1) = 18446744073709551615 := by rw [IntKind.wrap_u64]; rfl
  have f4 := xor_ones k (by omega)
  clear h hl hz hm hk
  generalize 18446744073709551615 - k = r at *
  go_enter Try.func38, Try.ntmps38
  go_wp2_with fail
  refine (HC _ HW.out).out.mono ?_
  rintro e w' ⟨rfl, hw'⟩
  go_wp2
  go_end0
  exact ⟨rfl, hw'⟩
theorem wInt_any (g : Nat) (z : Int) (h1 : -9223372036854775808 ≤ z) (h2 : z ≤ 9223372036854775807) (bs : List UInt8) (bad : Bool) (L : List Nat) (w : World) (h : WAt w L g bs bad) (hl : bs.length ≤ 100000000) :
    Calls Try.prog 38 #[.pointer (some ⟨g, 0, none⟩), .int .i64 z] w (W1 w L g (bs ++ intB z) bad) := by
  by_cases h0 : z < 0
  · exact wInt_neg g z h0 h1 bs bad L w h hl
  · obtain ⟨n, rfl⟩ := Int.eq_ofNat_of_zero_le (show 0 ≤ z by omega)
    exact wInt_pos g n (by omega) bs bad L w h hl
set_option maxRecDepth 100000 in
set_option maxHeartbeats 2000000 in
theorem wFlag_any (g : Nat) (b : Bool) (bs : List UInt8) (bad : Bool) (L : List Nat) (w : World) (h : WAt w L g bs bad) (hl : bs.length ≤ 100000000) :
    Calls Try.prog 63 #[.pointer (some ⟨g, 0, none⟩), .bool b] w (W1 w L g (bs ++ flagB b) bad) := by
  obtain ⟨⟨v, h1, h2, h3⟩, h4, h5⟩ := h
  have H1 := Bx.mk h1; have H2 := Bx.mk h2; have H3 := Bx.mk h3; have H4 := Bx.mk h4; have HL := Bx.mk hl
  have c0 : w.cell? ⟨g, 0, none⟩ = some v := by rw [h1.cell]; rfl
  clear h1 h2 h3 h4 h5 hl
  cases b with
  | true =>
    have HS : ∀ W : World, Src Try.prog 1 30 (.slice (some ⟨W.heap.size, 0, none⟩) 1 1) 1 [bV 1] (W.alloc (.cells #[.int .u8 1] 5)) := fun W => Src.builtB 1
    go_enter Try.func63, Try.ntmps63
    go_wp2_with (refine wpList_appb rfl (.tmp 22) (.tmp 23) rfl rfl (H2.out.alloc _) _ rfl 1 [bV 1] (HS _) (by have := HL.out; omega) (by omega) ?_)
    intro v1 w1 ho1 hg1 hn1
    obtain ⟨a1, cp1, rfl⟩ := ho1.isSlice
    obtain ⟨b1, b2, b3⟩ := w_step (H1.out.alloc _) (H2.out.alloc _) hg1 ho1
    have hK2 := own_gr (fun k hk => Or.inl (H3.out k hk)) hn1 (show w.heap.size ≤ w.heap.size + 1 by omega)
    have hF2 := (((Fr.refl L w).alloc (.cells #[.int .u8 1] 5)).grown hg1 (fun k hk => Or.inl (H3.out k hk))).setCell (p := ⟨g, 0, none⟩) (.inl H4.out) (.slice a1 (bs.length + 1) cp1)
    have e1 : w1.frozen? ⟨g, 0, none⟩ = false := b1.frozen 0
    have e2 : w1.cell? ⟨g, 0, none⟩ = some v := by rw [b1.cell]; rfl
    have B2 := Bx.mk b2; have B3 := Bx.mk b3; have K2 := Bx.mk hK2; have F2 := Bx.mk hF2
    clear b1 b2 b3 hK2 hF2 ho1 hg1 hn1
    go_wp2
    go_end0
    exact ⟨rfl, _, WAt.make B2.out (by rw [List.length_append, List.map_append]; exact B3.out), F2.out, gr_make H4.out K2.out⟩
  | false =>
    have HS : ∀ W : World, Src Try.prog 1 30 (.slice (some ⟨W.heap.size, 0, none⟩) 1 1) 1 [bV 0] (W.alloc (.cells #[.int .u8 0] 5)) := fun W => Src.builtB 0
    go_enter Try.func63, Try.ntmps63
    go_wp2_with (refine wpList_appb rfl (.tmp 8) (.tmp 9) rfl rfl (H2.out.alloc _) _ rfl 1 [bV 0] (HS _) (by have := HL.out; omega) (by omega) ?_)
    intro v1 w1 ho1 hg1 hn1
    obtain ⟨a1, cp1, rfl⟩ := ho1.isSlice
    obtain ⟨b1, b2, b3⟩ := w_step (H1.out.alloc _) (H2.out.alloc _) hg1 ho1
    have hK2 := own_gr (fun k hk => Or.inl (H3.out k hk)) hn1 (show w.heap.size ≤ w.heap.size + 1 by omega)
    have hF2 := (((Fr.refl L w).alloc (.cells #[.int .u8 0] 5)).grown hg1 (fun k hk => Or.inl (H3.out k hk))).setCell (p := ⟨g, 0, none⟩) (.inl H4.out) (.slice a1 (bs.length + 1) cp1)
    have e1 : w1.frozen? ⟨g, 0, none⟩ = false := b1.frozen 0
    have e2 : w1.cell? ⟨g, 0, none⟩ = some v := by rw [b1.cell]; rfl
    have B2 := Bx.mk b2; have B3 := Bx.mk b3; have K2 := Bx.mk hK2; have F2 := Bx.mk hF2
    clear b1 b2 b3 hK2 hF2 ho1 hg1 hn1
    go_wp2
    go_end0
    exact ⟨rfl, _, WAt.make B2.out (by rw [List.length_append, List.map_append]; exact B3.out), F2.out, gr_make H4.out K2.out⟩
/-- The bytes of a slice, in blocks of M. -/
def In (w : World) (M : List Nat) (a : Option Addr) (bs : List UInt8) : Prop := RowAt w a (bs.map bV) ∧ ∀ ad, a = some ad → bs ≠ [] → ad.block ∈ M
theorem In.keep {w w' : World} {M : List Nat} {a : Option Addr} {bs : List UInt8} (h : In w M a bs) (hk : ∀ k ∈ M, w'.heap[k]? = w.heap[k]?) : In w' M a bs := by
  refine ⟨?_, h.2⟩
  rcases h.1 with h1 | ⟨b, off, rfl, h1⟩
  · exact .inl h1
  · by_cases hb : bs = []
    · exact .inl (by rw [hb]; rfl)
    · refine .inr ⟨b, off, rfl, fun i v hv => ?_⟩
      rw [← h1 i v hv]
      exact World.cell?_of_block (a := ⟨b, off + i, none⟩) (hk b (h.2 _ rfl hb))
theorem In.nil (w : World) (M : List Nat) : In w M none [] := ⟨.inl rfl, fun _ h => by cases h⟩
theorem In.src {w : World} {M : List Nat} {a : Option Addr} {bs : List UInt8} (h : In w M a bs) (c : Nat) : Src Try.prog 1 30 (.slice a bs.length c) bs.length (bs.map bV) w := by
  have := Src.ofRow (P := Try.prog) (tx := 30) (w := w) Try.underlying30 a c (bs.map bV) h.1 one_bV
  rwa [List.length_map] at this
set_option maxRecDepth 100000 in
set_option maxHeartbeats 2000000 in
theorem wText_any (g : Nat) (a : Option Addr) (c : Nat) (ts : List UInt8) (M : List Nat) (bs : List UInt8) (bad : Bool) (L : List Nat) (w : World) (h : WAt w L g bs bad) (ht : In w M a ts) (hM : Under M w.heap.size) (hap : Apart M L) (hl : bs.length ≤ 10000000) (htl : ts.length ≤ 10000000) :
    Calls Try.prog 64 #[.pointer (some ⟨g, 0, none⟩), .slice a ts.length c] w (W1 w L g (bs ++ textB ts) bad) := by
  have f1 : IntKind.u64.wrap (ts.length : Int) = (ts.length : Int) := by rw [IntKind.wrap_u64]; omega
  have HC := fun w h => Bx.mk (wput_any g ts.length (by omega) bs bad L w h (by omega))
  have HW := Bx.mk h; have HT := Bx.mk ht; have HM := Bx.mk hM; have HAP := Bx.mk hap; have HL := Bx.mk hl; have HTL := Bx.mk htl
  have H10 := Bx.mk (grp_len64 (u := ts.length) (by omega))
  clear h ht hM hap hl htl
  go_enter Try.func64, Try.ntmps64
  go_wp2_with fail
  refine (HC _ HW.out).out.mono ?_
  rintro e w' ⟨rfl, L1, hW1, hF1, hG1⟩
  have HT1 := Bx.mk (HT.out.keep (hF1.keep HAP.out HM.out))
  have HF1 := Bx.mk hF1; have HG1 := Bx.mk hG1
  obtain ⟨⟨v, h1, h2, h3⟩, h4, h5⟩ := hW1
  have H1 := Bx.mk h1; have H2 := Bx.mk h2; have H3 := Bx.mk h3; have H4 := Bx.mk h4; have H5 := Bx.mk h5
  have c0 : w'.cell? ⟨g, 0, none⟩ = some v := by rw [h1.cell]; rfl
  clear h1 h2 h3 h4 h5 hF1 hG1 HC
  go_wp2_with (refine wpList_appb rfl (.tmp 15) (.tmp 16) rfl rfl H2.out _ rfl ts.length (ts.map bV) (HT1.out.src c) (by have := HL.out; have := HTL.out; have := H10.out; simp only [List.length_append]; omega) (by omega) ?_)
  intro v1 w1 ho1 hg1 hn1
  obtain ⟨a1, cp1, rfl⟩ := ho1.isSlice
  obtain ⟨b1, b2, b3⟩ := w_step H1.out H2.out hg1 ho1
  have hK2 := own_gr (fun k hk => Or.inl (H3.out k hk)) hn1 (Nat.le_refl w'.heap.size)
  have hF2 := ((Fr.refl L1 w').grown hg1 (fun k hk => Or.inl (H3.out k hk))).setCell (p := ⟨g, 0, none⟩) (.inl H4.out) (.slice a1 (bs.length + (grp ts.length).length + ts.length) cp1)
  have e1 : w1.frozen? ⟨g, 0, none⟩ = false := b1.frozen 0
  have e2 : w1.cell? ⟨g, 0, none⟩ = some v := by rw [b1.cell]; rfl
  have B2 := Bx.mk b2; have B3 := Bx.mk b3; have K2 := Bx.mk hK2; have F2 := Bx.mk hF2
  clear b1 b2 b3 hK2 hF2 ho1 hg1 hn1
  go_wp2
  go_end0
  refine ⟨rfl, _, ?_, HF1.out.trans F2.out HG1.out, HG1.out.trans (gr_make H4.out K2.out) HF1.out.size⟩
  unfold textB
  rw [← List.append_assoc]
  exact WAt.make B2.out (by rw [List.length_append, List.length_append, List.map_append (l₂ := ts), List.map_append]; have := B3.out; rw [List.append_assoc]; exact this)
theorem In.ofOwn {w : World} {b : Nat} {a : Option Addr} {c : Nat} {xs : List UInt8} (h : Own w b 5 1 (.slice a xs.length c) xs.length (xs.map bV)) : In w (Value.ownBlock (.slice a xs.length c)).toList a xs := by
  refine ⟨h.row, fun ad had hne => ?_⟩
  rcases h.2 with ⟨he, h0⟩ | ⟨g, off, cap, cur, he, _⟩
  · exact absurd (List.eq_nil_of_length_eq_zero h0) hne
  · injection he with h1 h2 h3
    subst h1
    injection had with had
    subst had
    simp [Value.ownBlock]
end Go.Proofs.Ytjjmhmbmjpedkaa
