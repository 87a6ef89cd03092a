import Derived.Test.YtpfmadinijofeaaMSnap4
import Derived.Test.YtpfmadinijofeaaMSnap3
set_option linter.unusedVariables false
section
/- bytes.Clone, Bytes; the reference's bytes of numbers, walked. -/
namespace Go.Proofs.Ytpfmadinijofeaa
open Go.RowKit
set_option maxRecDepth 100000 in
set_option maxHeartbeats 2000000 in
theorem bClone_any (a : Option Addr) (c : Nat) (bs : List UInt8) (w : World) (h : RowAt w a (bs.map bV)) (hl : bs.length ≤ 100000000) :
    Calls Try.prog 94 #[.slice a bs.length c] w fun e w' => ∃ v, e = .returned v ∧ Own w' w.heap.size 5 1 v bs.length (bs.map bV) ∧ Below w.heap.size w w' := by
  have H := Bx.mk h; have HL := Bx.mk hl
  clear h hl
  cases a with
  | none =>
    have hb : bs = [] := by
      rcases H.out with h | ⟨b, off, h, _⟩
      · simpa using h
      · cases h
    subst hb
    have hnil := fun w => Lib.run_eql_slice_nil (P := Try.prog) w 22 5 none 0 c 0 0 Try.underlying22
    show Calls Try.prog 94 #[.slice none 0 c] w _
    go_enter Try.func94, Try.ntmps94
    go_wp2
    go_ret
    exact ⟨_, rfl, Own.nil _ _ _ _, Below.refl _ _⟩
  | some ad =>
    have hnil := fun w => Lib.run_eql_slice_nil (P := Try.prog) w 22 5 (some ad) bs.length c 0 0 Try.underlying22
    have hnn : (some ad).isNone = false := rfl
    go_enter Try.func94, Try.ntmps94
    go_wp2_with (refine wpList_appb rfl (.tmp 5) (.tmp 6) rfl rfl (Own.fresh0 (w := w) (Nat.le_refl _)) _ rfl bs.length (bs.map bV) ?hs ?hb ?hbase ?_)
    case hs =>
      have := Src.ofRow (P := Try.prog) (tx := 22) Try.underlying22 (some ad) c (bs.map bV) (H.out.alloc (.cells #[] 5)) one_bV
      rwa [List.length_map] at this
    case hb => have := HL.out; omega
    case hbase => simp
    intro v1 w1 ho1 hg1 hn1
    obtain ⟨a1, cp1, rfl⟩ := ho1.isSlice
    have hb := (Below_one (w := w) (.cells #[] 5)).grown hg1 (by simp) (fun g hg => by have h3 : w.heap.size = g := Option.some.inj hg; omega)
    have HB := Bx.mk hb; have HO := Bx.mk ho1
    clear hb ho1 hg1 hn1
    go_wp2
    go_ret
    exact ⟨_, rfl, HO.out, HB.out⟩
/-- What 'Bytes' tells of a writer. -/
def wErr (bad : Bool) : Int := if bad then 1 else 0
set_option maxRecDepth 100000 in
set_option maxHeartbeats 2000000 in
theorem wBytes_any (g : Nat) (bs : List UInt8) (bad : Bool) (L : List Nat) (w : World) (h : WAt w L g bs bad) (hl : bs.length ≤ 100000000) :
    Calls Try.prog 81 #[.pointer (some ⟨g, 0, none⟩)] w fun e w' => ∃ v, e = .returned (.tuple #[v, .int .i64 (wErr bad)]) ∧ Own w' w.heap.size 5 1 v bs.length (bs.map bV) ∧ Below w.heap.size w w' := by
  obtain ⟨⟨v, h1, h2, h3⟩, h4, h5⟩ := h
  obtain ⟨a, c, rfl⟩ := h2.isSlice
  have HR := Bx.mk h2.row
  have c0 : w.cell? ⟨g, 0, none⟩ = some (.slice a bs.length c) := by rw [h1.cell]; rfl
  have c1 : w.cell? ⟨g, 1, none⟩ = some (.bool bad) := by rw [h1.cell]; rfl
  have HL := Bx.mk hl
  clear h1 h2 h3 h4 h5 hl
  cases bad with
  | true =>
    go_enter Try.func81, Try.ntmps81
    go_wp2_with fail
    refine (bClone_any a c bs w HR.out HL.out).mono ?_
    rintro e w' ⟨v, rfl, ho, hb⟩
    have HO := Bx.mk ho; have HB := Bx.mk hb
    clear ho hb
    go_wp2
    go_ret2
    exact ⟨_, rfl, HO.out, HB.out⟩
  | false =>
    go_enter Try.func81, Try.ntmps81
    go_wp2_with fail
    refine (bClone_any a c bs w HR.out HL.out).mono ?_
    rintro e w' ⟨v, rfl, ho, hb⟩
    have HO := Bx.mk ho; have HB := Bx.mk hb
    clear ho hb
    go_wp2
    go_ret2
    exact ⟨_, rfl, HO.out, HB.out⟩
theorem wBytes_nil (w : World) : Calls Try.prog 81 #[.pointer none] w fun e w' => e = .returned (.tuple #[.slice none 0 0, .int .i64 1]) ∧ w' = w := by
  go_enter Try.func81, Try.ntmps81
  go_wp2
  go_ret2
  exact ⟨rfl, rfl⟩
theorem wText_nil (v : Value) (n c : Nat) (hv : v = .slice none n c) (w : World) : Calls Try.prog 80 #[.pointer none, v] w fun e w' => e = .returned (.tuple #[]) ∧ w' = w := by
  subst hv
  go_enter Try.func80, Try.ntmps80
  go_wp2
  go_end0
  exact ⟨rfl, rfl⟩
theorem strOf_app (a b : List UInt8) : strOf a ++ strOf b = strOf (a ++ b) := by
  apply ByteArray.ext
  rw [ByteArray.data_append]
  simp [strOf]
theorem add_str {P : Program} (W : World) (xs ys : List UInt8) (h : xs.length + ys.length ≤ 9000000000000000000) : (Op.stringOp .add (strOf xs) (strOf ys)).run P W = .ok (.string (strOf (xs ++ ys))) W := by
  rw [run_string_add_sum W _ _ (by rw [strOf_size, strOf_size]; omega), strOf_app]
set_option maxRecDepth 100000 in
set_option maxHeartbeats 2000000 in
theorem fOne_any (n : Nat) (h : n < 256) (w : World) : Calls Try.prog 83 #[.int .i64 n] w fun e w' => e = .returned (.string (strOf [UInt8.ofNat n])) ∧ Below w.heap.size w w' := by
  have hb := bV_nat n h
  have hc : ∀ w : World, (convert 22 9 (.slice (some ⟨w.heap.size, 0, none⟩) 1 1)).run Try.prog (w.alloc (.cells #[.int .u8 (n : Int)] 5)) = .ok (.string (strOf [UInt8.ofNat n])) (w.alloc (.cells #[.int .u8 (n : Int)] 5)) := fun w => by
    rw [← hb]
    exact conv_str 22 9 Try.underlying22 Try.underlying5 Try.underlying9 _ (some ⟨w.heap.size, 0, none⟩) 1 [UInt8.ofNat n] (RowAt.ofWhole (vs := [bV (UInt8.ofNat n)]) (al_new rfl))
  clear hb
  go_enter Try.func83, Try.ntmps83
  go_wp2
  go_ret
  exact ⟨rfl, Below_one _⟩
set_option maxRecDepth 100000 in
set_option maxHeartbeats 2000000 in
theorem fgroups_any (u : Nat) (hu : u < 18446744073709551616) (w : World) : Calls Try.prog 98 #[.int .u64 u] w fun e w' => e = .returned (.string (strOf (grp u))) ∧ Below w.heap.size w w' := by
  have HU := Bx.mk hu
  have H10 := Bx.mk (grp_len64 hu)
  clear hu
  go_enter Try.func98, Try.ntmps98
  go_wp2_with fail
  go_loopw [0,3,4,5,6,7,8,9,10,11,12,13,14] (fun t0 t3 _ _ _ _ _ _ _ _ _ _ _ wr => ∃ (x : Nat) (ys : List UInt8), t0 = .int .u64 x ∧ t3 = .string (strOf ys) ∧ x ≤ u ∧ Bx (ys ++ grp x = grp u) ∧ Bx (Below w.heap.size w wr)) (fun t0 _ _ _ _ _ _ _ _ _ _ _ _ _ => (intOf t0).toNat)
  case atStart => exact ⟨u, [], rfl, rfl, Nat.le_refl _, ⟨rfl⟩, ⟨Below.refl _ _⟩⟩
  case round =>
    obtain ⟨x, ys, rfl, rfl, hxu, hE, hB⟩ := hrel
    have hXU := Bx.mk hxu
    have hlen : ys.length ≤ 10 := by
      have := congrArg List.length hE.out; rw [List.length_append] at this; have := H10.out; omega
    have HLen := Bx.mk hlen
    clear hlen hxu
    by_cases hge : (127 : Int) < (x : Int)
    · have hG := grp_ge (u := x) (by omega)
      obtain ⟨y, hy⟩ : ∃ y, y = x % 128 + 128 := ⟨_, rfl⟩
      have f1 : (x : Int) % 128 + 128 = (y : Int) := by omega
      have f3 : (x : Int) / 128 = ((x / 128 : Nat) : Int) := by omega
      rw [← hy] at hG
      have HC := fun w => Bx.mk (fOne_any y (by omega) w)
      have HG := Bx.mk hG
      have hdec : x / 128 < x := by omega
      have hdec2 : x / 128 ≤ u := by have := hXU.out; omega
      have HD := Bx.mk hdec; have HD2 := Bx.mk hdec2
      clear hy hG hdec hdec2
      generalize x / 128 = x2 at *
      have f5 : wrap64 ((x : Int) % 128) = (x : Int) % 128 := by unfold wrap64; omega
      have f6 : IntKind.u64.wrap (x2 : Int) = (x2 : Int) := by rw [IntKind.wrap_u64]; have := HD2.out; have := HU.out; omega
      go_wp2_with fail
      refine (HC _).out.mono ?_
      rintro e w' ⟨rfl, hb⟩
      have HB2 := Bx.mk (hB.out.trans (hb.mono hB.out.size))
      clear hb
      have hap := fun W => add_str (P := Try.prog) W ys [UInt8.ofNat y] (by have := HLen.out; simp; omega)
      go_wp2
      go_roundw
      case rel => exact ⟨x2, ys ++ [UInt8.ofNat y], rfl, rfl, HD2.out, ⟨by rw [← hE.out, HG.out, List.append_assoc]; rfl⟩, HB2⟩
      case measure => have := HD.out; simp [intOf]; omega
    · have hG := grp_lt (u := x) (by omega)
      have HC := fun w => Bx.mk (fOne_any x (by omega) w)
      have HG := Bx.mk hG
      have f5 : wrap64 (x : Int) = (x : Int) := by unfold wrap64; omega
      clear hG
      go_wp2_with fail
      refine (HC _).out.mono ?_
      rintro e w' ⟨rfl, hb⟩
      have HB2 := Bx.mk (hB.out.trans (hb.mono hB.out.size))
      clear hb
      have hap := fun W => add_str (P := Try.prog) W ys [UInt8.ofNat x] (by have := HLen.out; simp; omega)
      go_wp2
      go_ret
      exact ⟨by rw [← hE.out, HG.out]; rfl, HB2.out⟩
theorem fUint_any (z : Int) (h2 : z ≤ 9223372036854775807) (w : World) : Calls Try.prog 87 #[.int .i64 z] w fun e w' => e = .returned (.string (strOf (uintB z))) ∧ Below w.heap.size w w' := by
  by_cases h0 : z < 0
  · rw [show uintB z = [] by unfold uintB; rw [if_pos h0]]
    clear h2
    go_enter Try.func87, Try.ntmps87
    go_wp2
    go_ret
    exact ⟨rfl, Below.refl _ _⟩
  · obtain ⟨n, rfl⟩ := Int.eq_ofNat_of_zero_le (show 0 ≤ z by omega)
    rw [show uintB (n : Int) = grp n by unfold uintB; rw [if_neg h0]; rfl]
    have f1 : IntKind.u64.wrap (n : Int) = (n : Int) := by rw [IntKind.wrap_u64]; omega
    have HC := fun w => Bx.mk (fgroups_any n (by omega) w)
    clear h2
    go_enter Try.func87, Try.ntmps87
    go_wp2_with fail
    refine (HC _).out.mono ?_
    rintro e w' ⟨rfl, hb⟩
    have HB := Bx.mk hb; clear hb
    go_wp2
    go_ret
    exact ⟨rfl, HB.out⟩
theorem fText_any (bs : List UInt8) (hl : bs.length ≤ 100000000) (w : World) : Calls Try.prog 70 #[.string (strOf bs)] w fun e w' => e = .returned (.string (strOf (textB bs))) ∧ Below w.heap.size w w' := by
  have hs := strOf_size bs
  have HC := fun w => Bx.mk (fUint_any bs.length (by omega) w)
  have hu : uintB (bs.length : Int) = grp bs.length := by unfold uintB; rw [if_neg (by omega)]; rfl
  rw [hu] at HC
  have hap := fun W => add_str (P := Try.prog) W (grp bs.length) bs (by have := grp_len64 (u := bs.length) (by omega); omega)
  clear hu hl
  go_enter Try.func70, Try.ntmps70
  go_wp2_with fail
  refine (HC _).out.mono ?_
  rintro e w' ⟨rfl, hb⟩
  have HB := Bx.mk hb; clear hb
  go_wp2
  go_ret
  exact ⟨rfl, HB.out⟩
end Go.Proofs.Ytpfmadinijofeaa
end
section
/- The document's slots; walked. -/
namespace Go.Proofs.Ytpfmadinijofeaa
open Go.RowKit
theorem one_ret (n : Nat) (h : n < 256) (w : World) : Calls Try.prog 83 #[.int .i64 (n : Int)] w (Ret (.string (strOf [UInt8.ofNat n])) w) := fOne_any n h w
theorem sum_ret (bs : List UInt8) (hl : bs.length ≤ 100000000) (w : World) : Calls Try.prog 67 #[.string (strOf bs)] w (Ret (.int .u32 ((more 0 bs : Nat) : Int)) w) := by
  have := rsum_any (strOf bs) w (by rw [strOf_size]; unfold maxLen; omega)
  rw [strOf_list] at this
  exact ret_same this
theorem u64_and255 (a : Nat) (ha : a < 18446744073709551616) : bitsV .and .u64 (a : Int) 255 = ((a % 256 : Nat) : Int) := by
  show IntKind.u64.wrap (((BitVec.ofInt 64 (a : Int) &&& BitVec.ofInt 64 ((255 : Nat) : Int)).toNat : Nat) : Int) = _
  rw [BitVec.toNat_and, ofInt_u64 a ha, ofInt_u64 255 (by omega), show 255 = 2 ^ 8 - 1 from rfl, Nat.and_two_pow_sub_one_eq_mod, wru64 (by omega) (by omega)]
theorem numByte2 (n x : Nat) (hn : n < 18446744073709551616) (hx : x ≤ 7) : IntKind.i64.wrap (bitsV .and .u64 (Int.fdiv (IntKind.u64.wrap (n : Int)) (2 ^ (min (IntKind.i64.wrap (8 * (x : Int))).toNat (IntKind.bits .u64)))) 255) = ((n / 2 ^ (8 * x) % 256 : Nat) : Int) := by
  rw [wru64 (by omega) (by omega), wr64 (z := 8 * (x : Int)) (by omega) (by omega), show (8 * (x : Int)).toNat = 8 * x by omega, show min (8 * x) (IntKind.bits .u64) = 8 * x from Nat.min_eq_left (show 8 * x ≤ 64 by omega)]
  have e : ((2 : Int) ^ (8 * x)) = ((2 ^ (8 * x) : Nat) : Int) := by rw [Int.natCast_pow]; rfl
  rw [e]
  clear e
  generalize 2 ^ (8 * x) = p
  have hle : n / p ≤ n := Nat.div_le_self _ _
  rw [Int.fdiv_eq_ediv_of_nonneg _ (Int.natCast_nonneg p), ← Int.natCast_ediv, u64_and255 _ (by omega), wr64 (by omega) (by omega)]
theorem made_zeros (n : Nat) : madeCells (Value.cells (.int .u8 0)) (n * 1) = ((List.replicate n (0 : UInt8)).map bV).toArray := by
  rw [List.map_replicate]
  apply Array.ext_getElem?
  intro i
  unfold madeCells
  rw [Array.getElem?_map, Array.getElem?_range, Nat.mul_one, List.getElem?_toArray, List.getElem?_replicate]
  by_cases h : i < n
  · rw [if_pos h, if_pos h]
    show some ((#[Value.int .u8 0] : Array Value)[i % 1]!) = _
    rw [Nat.mod_one]
    rfl
  · rw [if_neg h, if_neg h]
    rfl
theorem empty_str : (⟨#[]⟩ : ByteArray) = strOf [] := rfl
theorem three_str : (⟨#[3]⟩ : ByteArray) = strOf [3] := rfl
theorem zero_str : (⟨#[0]⟩ : ByteArray) = strOf [0] := rfl
theorem rnum_ret (n k : Nat) (hn : n < 9223372036854775808) (hk : k ≤ 8) (w : World) : Calls Try.prog 66 #[.int .i64 (n : Int), .int .i64 (k : Int)] w (Ret (.string (strOf (beB n k))) w) := by
  refine ret_in (GSn.rnumber_calls n k w (fun u w' => u = .string (strOf (beB n k)) ∧ Below w.heap.size w w') ?_)
  unfold GSn.rnumber_vc
  refine ⟨fun s x wx => ∃ j : Nat, j ≤ k ∧ x = (k : Int) - 1 - j ∧ s = strOf (beJ n k j) ∧ Bs w wx, fun _ x _ => (x + 1).toNat, ⟨0, by omega, by rw [wr64 (by omega) (by omega)]; omega, rfl, Bs.refl w⟩, ?_⟩
  rintro s x wx ⟨j, hj, rfl, rfl, Bx⟩
  refine br_dec (fun h => ?_) fun h => ?_
  · obtain ⟨x, hx⟩ : ∃ x : Nat, (k : Int) - 1 - j = (x : Int) := ⟨k - 1 - j, by omega⟩
    rw [hx, numByte2 n x (by omega) (by omega)]
    refine ⟨by rw [wr64 (by omega) (by omega)]; omega, callB Bx (one_ret _ (Nat.mod_lt _ (by omega)) wx) fun w2 b2 B2 => ⟨_, rfl, ?_, ⟨j + 1, by omega, by rw [wr64 (by omega) (by omega)]; omega, ?_, B2⟩, by dsimp only; rw [wr64 (by omega) (by omega)]; omega⟩⟩
    · rw [strOf_size, strOf_size, beJ_len]; simp; omega
    · rw [strOf_cat, beJ_succ, show k - 1 - j = x by omega]
  · obtain rfl : j = k := by omega
    exact ⟨rfl, Bx⟩
theorem rroom_ret (z : Int) (w : World) : Calls Try.prog 33 #[.int .i64 z] w (Ret (.int .i64 (roomZ z)) w) := by
  refine ret_in (GSn.rroom_calls z w (fun u w' => u = .int .i64 (roomZ z) ∧ Below w.heap.size w w') ?_)
  unfold GSn.rroom_vc roomZ
  refine br_dec (fun h => ⟨by rw [if_pos (.inl h)], Bs.refl _⟩) fun h => br_dec (fun h2 => ⟨by rw [if_pos (.inr h2)], Bs.refl _⟩) fun h2 => ⟨?_, Bs.refl _⟩
  rw [if_neg (by omega), wr64 (z := z - 1) (by omega) (by omega), wr64 (by omega) (by omega)]
theorem rbody_ret (im : List UInt8) (hl : im.length ≤ 1000000) (w : World) : Calls Try.prog 34 #[.string (strOf im)] w (Ret (.string (strOf (bodyB im))) w) := by
  refine ret_in (GSn.rbody_calls (strOf im) w (fun u w' => u = .string (strOf (bodyB im)) ∧ Below w.heap.size w w') ?_)
  unfold GSn.rbody_vc
  refine ⟨fun s wx => ∃ j : Nat, j ≤ (64 - im.length % 64) % 64 ∧ s = strOf (im ++ zerosB j) ∧ Bs w wx, fun s _ => im.length + 64 - s.size, ⟨0, Nat.zero_le _, by simp [zerosB], Bs.refl w⟩, ?_⟩
  rintro s wx ⟨j, hj, rfl, Bx⟩
  have hl2 : (strOf (im ++ zerosB j)).size = im.length + j := by rw [strOf_size, List.length_append, zerosB_len]
  refine ⟨by decide, ?_⟩
  rw [hl2, tmod64, zero_str, strOf_cat]
  refine br_dec (fun h => ⟨?_, ⟨j + 1, by omega, by rw [zerosB_succ, List.append_assoc], Bx⟩, ?_⟩) fun h => ?_
  · rw [strOf_size]; simp; omega
  · dsimp only
    rw [hl2, strOf_size, List.length_append, List.length_append, zerosB_len]; simp; omega
  · obtain rfl : j = (64 - im.length % 64) % 64 := by omega
    exact ⟨rfl, Bx⟩
theorem rhead_ret (gen : Nat) (hg : gen < 9223372036854775808) (im : List UInt8) (hl : im.length ≤ 1000000) (w : World) : Calls Try.prog 35 #[.int .i64 (gen : Int), .string (strOf im)] w (Ret (.string (strOf (headK gen im))) w) := by
  refine ret_in (GSn.rhead_calls gen (strOf im) w (fun u w' => u = .string (strOf (headK gen im)) ∧ Below w.heap.size w w') ?_)
  unfold GSn.rhead_vc
  rw [strOf_size]
  refine callB (Bs.refl w) (rnum_ret gen 8 hg (by omega) w) fun w2 b2 B2 => ⟨_, rfl, callB B2 (rnum_ret im.length 8 (by omega) (by omega) w2) fun w3 b3 B3 => ⟨_, rfl, ?_⟩⟩
  rw [three_str, strOf_cat, strOf_cat, strOf_cat]
  have hh : beB gen 8 ++ beB im.length 8 = headH gen im.length := rfl
  have hl1 := headH_len gen im.length
  rw [hh]
  have hlt : more 0 (headH gen im.length ++ im) < 4294967296 := more_lt _ (by omega)
  refine ⟨by rw [strOf_size, strOf_size, beB_len, beB_len]; omega, by rw [strOf_size, strOf_size, hl1]; decide, by rw [strOf_size, hl1]; omega, callB B3 (sum_ret _ (by rw [List.length_append, hl1]; omega) w3) fun w4 b4 B4 => ⟨_, rfl, ?_⟩⟩
  rw [wr64 (by omega) (by omega)]
  refine callB B4 (rnum_ret _ 4 (by omega) (by omega) w4) fun w5 b5 B5 => ⟨_, rfl, ?_⟩
  rw [strOf_cat]
  have hl8 : (strOf ([3] ++ headH gen im.length ++ beB (more 0 (headH gen im.length ++ im)) 4)).size = 21 := by rw [strOf_size]; simp [hl1, beB_len]
  rw [hl8, show IntKind.i64.wrap (64 - ((21 : Nat) : Int)) = 43 by decide]
  refine ⟨by rw [strOf_size, strOf_size, beB_len, List.length_append, hl1]; decide, by decide, by decide, by decide, by decide, newB B5 fun g w6 g0 sg n6 z6 b6 B6 => ⟨zerosB 43, rfl, ?_, by rw [strOf_size]; decide, ?_, B6⟩⟩
  · rw [show ((43 : Int).toNat * 1) = 43 * 1 from rfl, made_zeros] at n6
    exact RowAt.ofWhole n6
  · rw [strOf_cat]
    rfl
/-- What the document reads of a slot. -/
def HasB (bs : List UInt8) (size slot : Int) (v : Value) : Prop := ∃ (p : Int) (u : List UInt8), v = .tuple #[.int .i64 p, .string (strOf u), .bool (slotG bs size slot).isSome] ∧ ∀ q, slotG bs size slot = some q → q = (p, u)
theorem rhas_any (bs : List UInt8) (size : Nat) (hs : 1 ≤ size) (hs2 : size ≤ 8192) (hl : bs.length = size * 64) (slot : Int) (w : World) :
    Calls Try.prog 21 #[.string (strOf bs), .int .i64 slot] w fun e w' => (∃ v, e = .returned v ∧ HasB bs size slot v) ∧ Below w.heap.size w w' := by
  refine (GSn.rhas_calls (strOf bs) slot w (fun v w' => HasB bs size slot v ∧ Below w.heap.size w w') ?_).mono (by rintro e w' ⟨v, rfl, h, b⟩; exact ⟨⟨v, rfl, h⟩, b⟩)
  unfold GSn.rhas_vc
  rw [strOf_size, empty_str]
  have st : ∀ (x : Int) (k d : Nat), d + k < bs.length → bitsV .or .i64 (IntKind.i64.wrap (x * 2 ^ (min (8 : Int).toNat (IntKind.bits .i64)))) (IntKind.i64.wrap (byteAt (strOf bs) ((d + k : Nat) : Int))) = stepI x (bs.getD (d + k) 0).toNat := fun x k d _ => by rw [byteAt_strOf]; rfl
  have tk : ∀ (k d : Nat), d + k < bs.length → foldI 0 ((bs.drop d).take (k + 1)) = stepI (foldI 0 ((bs.drop d).take k)) (bs.getD (d + k) 0).toNat := fun k d hk => by
    rw [List.take_add_one, List.getElem?_drop, List.getElem?_eq_getElem hk, List.getD_eq_getElem?_getD, List.getElem?_eq_getElem hk]
    exact foldI_snoc _ _ _
  refine ⟨fun x y wx => ∃ k : Nat, k ≤ 8 ∧ y = ((1 + k : Nat) : Int) ∧ x = foldI 0 ((bs.drop 1).take k) ∧ Bs w wx, fun _ y _ => (9 - y).toNat, ⟨0, by omega, rfl, rfl, Bs.refl w⟩, ?_⟩
  rintro x y wx ⟨k, hk, rfl, rfl, Bx⟩
  have ad : ∀ d : Nat, d ≤ 100 → IntKind.i64.wrap ((d : Int) + 1) = ((d + 1 : Nat) : Int) := fun d hd => by rw [wr64 (by omega) (by omega)]; omega
  refine br_dec (fun hlt => ⟨by decide, by omega, by omega, ⟨k + 1, by omega, by rw [ad _ (by omega)]; rfl, by rw [st _ _ _ (by omega), tk _ _ (by omega)], Bx⟩, by dsimp only; rw [ad _ (by omega)]; omega⟩) fun hge => ?_
  obtain rfl : k = 8 := by omega
  refine ⟨fun x y wx => ∃ k : Nat, k ≤ 8 ∧ y = ((9 + k : Nat) : Int) ∧ x = foldI 0 ((bs.drop 9).take k) ∧ Bs w wx, fun _ y _ => (17 - y).toNat, ⟨0, by omega, rfl, rfl, Bx⟩, ?_⟩
  rintro x y wx ⟨k, hk, rfl, rfl, Bx⟩
  refine br_dec (fun hlt => ⟨by decide, by omega, by omega, ⟨k + 1, by omega, by rw [ad _ (by omega)]; rfl, by rw [st _ _ _ (by omega), tk _ _ (by omega)], Bx⟩, by dsimp only; rw [ad _ (by omega)]; omega⟩) fun hge => ?_
  obtain rfl : k = 8 := by omega
  clear st tk
  obtain ⟨r1, r2⟩ := foldI_rng ((bs.drop 1).take 8)
  obtain ⟨r3, r4⟩ := foldI_rng ((bs.drop 9).take 8)
  have hG : slotG bs size slot = if foldI 0 ((bs.drop 1).take 8) < 1 ∨ foldI 0 ((bs.drop 1).take 8) % 2 ≠ slot ∨ foldI 0 ((bs.drop 9).take 8) < 0 ∨ foldI 0 ((bs.drop 9).take 8) > roomZ size then none
    else if bs.take 64 = headK (foldI 0 ((bs.drop 1).take 8)).toNat ((bs.drop 64).take (foldI 0 ((bs.drop 9).take 8)).toNat) then some (foldI 0 ((bs.drop 1).take 8), (bs.drop 64).take (foldI 0 ((bs.drop 9).take 8)).toNat) else none := rfl
  have hroom : roomZ size = 64 * ((size : Int) - 1) := by unfold roomZ; rw [if_neg (by omega)]
  generalize foldI 0 ((bs.drop 1).take 8) = G at *
  generalize foldI 0 ((bs.drop 9).take 8) = N at *
  have no : ∀ {wy : World}, Bs w wy → slotG bs size slot = none → HasB bs size slot (.tuple #[.int .i64 0, .string (strOf []), .bool false]) ∧ Below w.heap.size w wy := fun By hn => ⟨⟨0, [], by rw [hn]; rfl, fun q hq => by rw [hn] at hq; cases hq⟩, By⟩
  refine br_dec (fun q1 => no Bx (by rw [hG, if_pos (.inl q1)])) fun q1 => ⟨by decide, ?_⟩
  rw [Int.tmod_eq_emod_of_nonneg (by omega)]
  refine br_dec (fun q2 => no Bx (by rw [hG, if_pos (.inr (.inl q2))])) fun q2 => br_dec (fun q3 => no Bx (by rw [hG, if_pos (.inr (.inr (.inl q3)))])) fun q3 => ?_
  rw [wr64 (z := ((bs.length : Nat) : Int) - 64) (by omega) (by omega)]
  refine br_dec (fun q4 => no Bx (by rw [hG, if_pos (.inr (.inr (.inr (by omega))))])) fun q4 => ?_
  obtain ⟨n, rfl⟩ : ∃ n : Nat, N = (n : Int) := ⟨N.toNat, by omega⟩
  obtain ⟨gg, rfl⟩ : ∃ n : Nat, G = (n : Int) := ⟨G.toNat, by omega⟩
  rw [if_neg (by omega), Int.toNat_natCast, Int.toNat_natCast] at hG
  rw [wr64 (by omega) (by omega), strOf_extract, strOf_extract, show (64 + (n : Int)).toNat - (64 : Int).toNat = n by omega]
  refine ⟨by omega, by omega, by omega, drewB Bx fun w4 b4 B4 e4 => ⟨by omega, by omega, callB B4 (rhead_ret gg (by omega) _ (by rw [List.length_take]; omega) w4) fun w5 b5 B5 => ⟨_, rfl, ⟨gg, (bs.drop 64).take n, ?_, fun q hq => ?_⟩, B5⟩⟩⟩
  · have e0 : (bs.drop 0).take ((64 : Int).toNat - 0) = bs.take 64 := rfl
    rw [e0, hG]
    show Value.tuple #[_, .string (strOf ((bs.drop 64).take n)), .bool (decide (strOf (bs.take 64) = strOf (headK gg ((bs.drop 64).take n))))] = _
    by_cases hd : bs.take 64 = headK gg ((bs.drop 64).take n)
    · rw [if_pos hd, decide_eq_true (congrArg strOf hd)]; rfl
    · rw [if_neg hd, decide_eq_false (fun e => hd (strOf_inj e))]; rfl
  · rw [hG] at hq
    split at hq
    · injection hq with hq; exact hq.symm
    · cases hq
end Go.Proofs.Ytpfmadinijofeaa
end
section
/- What saving does to a disk, and a crash behind it. No program in sight. -/
namespace Go.Proofs.Ytpfmadinijofeaa
open Go.RowKit
/-! Sectors that are written. -/
theorem putK_now (S : DS) (k : Nat) (s : List UInt8) (i : Nat) : nowS (putK S k s) i = if i = k then s else nowS S i := by
  unfold nowS putK
  dsimp only
  by_cases h : i = k
  · rw [if_pos h, if_pos h]; rfl
  · rw [if_neg h, if_neg h]
theorem wrS_last (S : DS) (first : Nat) (f : Nat → List UInt8) : ∀ m, (wrS S first f m).last = S.last
  | 0 => rfl
  | m + 1 => by
    rw [wrS]
    split
    · exact wrS_last S first f m
    · exact wrS_last S first f m
/-- So many sectors came into the cache. -/
theorem wrS_cch (S : DS) (first : Nat) (f : Nat → List UInt8) : ∀ m, ∃ c, c ≤ m ∧ ((wrS S first f m).off = false → c = m) ∧ ∀ i, (wrS S first f m).cch i = if first ≤ i ∧ i < first + c then some (f (i - first)) else S.cch i
  | 0 => ⟨0, Nat.le_refl _, fun _ => rfl, fun i => by rw [if_neg (by omega)]; rfl⟩
  | m + 1 => by
    obtain ⟨c, h1, h2, h3⟩ := wrS_cch S first f m
    rw [wrS]
    by_cases ho : (wrS S first f m).off = true
    · rw [if_pos ho]
      exact ⟨c, by omega, (fun e => by rw [ho] at e; cases e), h3⟩
    · rw [if_neg ho]
      have hc : c = m := h2 (by cases hh : (wrS S first f m).off; rfl; exact absurd hh ho)
      subst hc
      refine ⟨c + 1, Nat.le_refl _, fun _ => rfl, fun i => ?_⟩
      show (if i = first + c then some (f c) else (wrS S first f c).cch i) = _
      rw [h3]
      by_cases e : i = first + c
      · rw [if_pos e, if_pos (by omega), e, Nat.add_sub_cancel_left]
      · rw [if_neg e]
        by_cases e2 : first ≤ i ∧ i < first + c
        · rw [if_pos e2, if_pos (by omega)]
        · rw [if_neg e2, if_neg (by omega)]
/-- All is at rest. -/
def Calm (S : DS) : Prop := ∀ i, S.cch i = none
theorem Calm.now {S : DS} (h : Calm S) (i : Nat) : nowS S i = S.last i := by unfold nowS; rw [h i]; rfl
theorem wrS_now (S : DS) (first : Nat) (f : Nat → List UInt8) (m : Nat) (ho : (wrS S first f m).off = false) (i : Nat) : nowS (wrS S first f m) i = if first ≤ i ∧ i < first + m then f (i - first) else nowS S i := by
  obtain ⟨c, h1, h2, h3⟩ := wrS_cch S first f m
  obtain rfl := h2 ho
  unfold nowS
  rw [h3, wrS_last]
  split <;> rfl
/-- A crash behind a write: a sector is as it was, or as it was written. -/
theorem crash_wr {S : DS} (hc : Calm S) (first : Nat) (f : Nat → List UInt8) (m : Nat) (kept : List Bool) (i : Nat) :
    (crashD (wrS S first f m) kept).last i = S.last i ∨ (first ≤ i ∧ i < first + m ∧ (crashD (wrS S first f m) kept).last i = f (i - first)) := by
  obtain ⟨c, h1, h2, h3⟩ := wrS_cch S first f m
  show (if dirtyS (wrS S first f m) i = true ∧ _ then nowS (wrS S first f m) i else (wrS S first f m).last i) = _ ∨ (_ ∧ _ ∧ (if dirtyS (wrS S first f m) i = true ∧ _ then nowS (wrS S first f m) i else (wrS S first f m).last i) = _)
  split
  · rename_i hd
    have hd := hd.1
    unfold dirtyS at hd
    rw [h3] at hd
    by_cases e : first ≤ i ∧ i < first + c
    · refine .inr ⟨e.1, by omega, ?_⟩
      unfold nowS
      rw [h3, if_pos e]
      rfl
    · rw [if_neg e, hc i] at hd
      cases hd
  · exact .inl (by rw [wrS_last])
theorem Calm.crash (S : DS) (kept : List Bool) : Calm (crashD S kept) := fun _ => rfl
theorem crash_calm {S : DS} (h : Calm S) (kept : List Bool) : (crashD S kept).last = S.last := by
  funext i
  show (if dirtyS S i = true ∧ _ then nowS S i else S.last i) = S.last i
  rw [if_neg]
  rintro ⟨hd, _⟩
  unfold dirtyS at hd
  rw [h i] at hd
  cases hd
/-! Writing and making it last. -/
/-- A write that falls into place, at rest again. -/
structure Laid (S T : DS) (p : Nat) (b : List UInt8) : Prop where
  n : T.n = S.n
  off : T.off = false
  calm : Calm T
  left0 : S.left ≤ 0 → T.left ≤ 0
  last : ∀ i, T.last i = if p ≤ i ∧ i < p + b.length / 64 then pieceB b (i - p) else S.last i
/-- A write that the power went off in. -/
structure Torn (S T : DS) (p : Nat) (b : List UInt8) : Prop where
  n : T.n = S.n
  off : T.off = true
  crash : ∀ kept i, (crashD T kept).last i = S.last i ∨ (p ≤ i ∧ i < p + b.length / 64 ∧ (crashD T kept).last i = pieceB b (i - p))
theorem wrS_left (S : DS) (first : Nat) (f : Nat → List UInt8) : ∀ m, S.left ≤ 0 → (wrS S first f m).left ≤ 0 ∧ (wrS S first f m).off = S.off
  | 0, h => ⟨h, rfl⟩
  | m + 1, h => by
    obtain ⟨h1, h2⟩ := wrS_left S first f m h
    rw [wrS]
    split
    · exact ⟨h1, h2⟩
    · refine ⟨?_, ?_⟩
      · show (if 0 < (wrS S first f m).left then _ else (wrS S first f m).left) ≤ 0
        rw [if_neg (by omega)]
        exact h1
      · show (if 0 < (wrS S first f m).left then _ else (wrS S first f m).off) = _
        rw [if_neg (by omega)]
        exact h2
theorem pw_cases {S : DS} (hc : Calm S) (ho : S.off = false) {p m : Nat} {b : List UInt8} (hb : b.length = m * 64) (hp : p + m ≤ S.n) :
    (pwE S (p : Int) b = 0 ∧ Laid S (pwD S (p : Int) b) p b) ∨ (pwE S (p : Int) b = 12 ∧ 0 < S.left ∧ Torn S (pwD S (p : Int) b) p b) := by
  unfold pwE pwD
  by_cases hn : b = []
  · rw [if_pos hn, if_pos hn]
    refine .inl ⟨rfl, rfl, ho, hc, fun h => h, fun i => ?_⟩
    rw [if_neg (by rw [hn]; simp)]
  rw [if_neg hn, if_neg hn]
  have hdm : b.length / 64 = m := by omega
  have hm : mayE S (p : Int) ((b.length / 64 : Nat) : Int) = 0 := by
    unfold mayE
    rw [ho, if_neg (by decide), if_pos (by omega)]
  have hD : writeD S (p : Int) b = wrS S p (pieceB b) m := by unfold writeD; rw [if_pos ⟨hm, by omega⟩, hdm, Int.toNat_natCast]
  have hE : writeE S (p : Int) b = if (wrS S p (pieceB b) m).off = true then 12 else 0 := by unfold writeE; rw [if_neg (not_not_intro hm), if_neg (by omega), hdm, Int.toNat_natCast]
  rw [hE, hD]
  by_cases hf : (wrS S p (pieceB b) m).off = true
  · rw [if_pos hf, if_pos (by decide), if_pos (by decide)]
    refine .inr ⟨rfl, ?_, wrS_n _ _ _ _, hf, fun kept i => ?_⟩
    · rcases Int.lt_or_le 0 S.left with h | h
      · exact h
      · have := (wrS_left S p (pieceB b) m h).2
        rw [hf, ho] at this; cases this
    · rw [hdm]
      exact crash_wr hc p (pieceB b) m kept i
  · have hf' : (wrS S p (pieceB b) m).off = false := by cases hh : (wrS S p (pieceB b) m).off; rfl; exact absurd hh hf
    rw [if_neg hf, if_neg (by decide), if_neg (by decide)]
    refine .inl ⟨by unfold syncE; rw [if_neg hf], ?_, ?_, ?_, ?_, ?_⟩
    all_goals unfold syncD; rw [if_neg hf]
    · exact wrS_n _ _ _ _
    · exact hf'
    · exact fun _ => rfl
    · exact fun h => (wrS_left S p (pieceB b) m h).1
    · intro i
      show nowS (wrS S p (pieceB b) m) i = _
      rw [wrS_now _ _ _ _ hf', hdm, hc.now]
/-! A slot's bytes. -/
theorem fm_congr {α β : Type} {f g : α → List β} {l : List α} (h : ∀ x, x ∈ l → f x = g x) : l.flatMap f = l.flatMap g := by
  rw [List.flatMap_def, List.flatMap_def, List.map_congr_left h]
theorem readS_cons (S : DS) (first n : Nat) : readS S first (n + 1) = nowS S first ++ readS S (first + 1) n := by
  unfold readS
  rw [List.range_succ_eq_map, List.flatMap_cons, List.flatMap_map]
  simp only [Nat.add_zero]
  congr 1
  exact fm_congr fun i _ => by rw [Nat.add_assoc, Nat.add_comm 1 i]
theorem readS_congr {S T : DS} {first n : Nat} (h : ∀ i, first ≤ i → i < first + n → nowS S i = nowS T i) : readS S first n = readS T first n := by
  unfold readS
  exact fm_congr fun i hi => h _ (Nat.le_add_right _ _) (by have := List.mem_range.1 hi; omega)
theorem readS_take {S : DS} (hW : DWf S) {first n : Nat} (hn : 0 < n) : (readS S first n).take 64 = nowS S first := by
  obtain ⟨n, rfl⟩ : ∃ k, n = k + 1 := ⟨n - 1, by omega⟩
  rw [readS_cons, List.take_append_of_le_length (by rw [hW.now]; omega), List.take_of_length_le (by rw [hW.now]; omega)]
theorem readS_drop {S : DS} (hW : DWf S) {first n : Nat} (hn : 0 < n) : (readS S first n).drop 64 = readS S (first + 1) (n - 1) := by
  obtain ⟨n, rfl⟩ : ∃ k, n = k + 1 := ⟨n - 1, by omega⟩
  rw [readS_cons, List.drop_append_of_le_length (by rw [hW.now]; omega), List.drop_of_length_le (by rw [hW.now]; omega)]
  rfl
/-- Sectors that hold the pieces of a text hold the text. -/
theorem readS_pieces {S : DS} {first : Nat} {b : List UInt8} : ∀ {m : Nat}, (∀ i, i < m → nowS S (first + i) = pieceB b i) → m * 64 ≤ b.length → readS S first m = b.take (m * 64)
  | 0, _, _ => by simp [readS]
  | m + 1, h, hl => by
    rw [readS_succ, readS_pieces (fun i hi => h i (by omega)) (by omega), h m (by omega)]
    unfold pieceB
    rw [show (m + 1) * 64 = m * 64 + 64 by omega, List.take_add]
theorem readS_add (S : DS) (first : Nat) : ∀ (m k : Nat), readS S first (m + k) = readS S first m ++ readS S (first + m) k
  | m, 0 => by simp [readS]
  | m, k + 1 => by rw [← Nat.add_assoc, readS_succ, readS_add S first m k, readS_succ, List.append_assoc, Nat.add_assoc]
/-- A slot whose sectors hold an image. -/
theorem slot_there {S : DS} (hW : DWf S) (ho : S.off = false) {q size gen : Nat} {im : List UInt8} (hg : 1 ≤ gen) (hg2 : gen < 9223372036854775808) (hs : 1 ≤ size) (hq : q + size ≤ S.n) (hl : im.length ≤ 64 * (size - 1))
    (h1 : nowS S q = headK gen im) (h2 : ∀ i, i < (im.length + 63) / 64 → nowS S (q + 1 + i) = pieceB (bodyB im) i) :
    slotG (readL S (q : Int) (size : Int)) size ((gen : Int) % 2) = some ((gen : Int), im) := by
  have hm : mayE S (q : Int) (size : Int) = 0 := by unfold mayE; rw [ho, if_neg (by decide), if_pos (by omega)]
  have hr : readL S (q : Int) (size : Int) = readS S q size := by unfold readL; rw [if_pos hm, Int.toNat_natCast, Int.toNat_natCast]
  rw [hr]
  refine slotG_head hg hg2 hs (by have := hW.n2; omega) hl (by rw [readS_take hW (by omega), h1]) ?_
  rw [readS_drop hW (by omega), show size - 1 = (im.length + 63) / 64 + (size - 1 - (im.length + 63) / 64) by omega, readS_add, readS_pieces h2 (by rw [bodyB_len]; omega)]
  rw [List.take_of_length_le (l := bodyB im) (by rw [bodyB_len]; omega)]
  unfold bodyB
  rw [List.append_assoc, List.take_append_of_le_length (by omega), List.take_of_length_le (by omega)]
end Go.Proofs.Ytpfmadinijofeaa
end
section
/- Images that are saved one behind the other, and crashes among them. No program in sight. -/
namespace Go.Proofs.Ytpfmadinijofeaa
open Go.RowKit
structure Saved (S T : DS) (q size gen : Nat) (im : List UInt8) : Prop where
  n : T.n = S.n
  off : T.off = false
  calm : Calm T
  left0 : S.left ≤ 0 → T.left ≤ 0
  there : slotG (readL T (q : Int) (size : Int)) size ((gen : Int) % 2) = some ((gen : Int), im)
  rest : ∀ i, i < q ∨ q + size ≤ i → T.last i = S.last i
  head : T.last q = headK gen im
  body : ∀ i, i < (im.length + 63) / 64 → T.last (q + 1 + i) = pieceB (bodyB im) i
structure Half (S T : DS) (q size gen : Nat) (im : List UInt8) : Prop where
  n : T.n = S.n
  off : T.off = true
  rest : ∀ kept i, i < q ∨ q + size ≤ i → (crashD T kept).last i = S.last i
  head : ∀ kept, (crashD T kept).last q = S.last q ∨ slotG (readL (crashD T kept) (q : Int) (size : Int)) size ((gen : Int) % 2) = some ((gen : Int), im)
theorem piece_head (gen : Nat) (im : List UInt8) : pieceB (headK gen im) 0 = headK gen im := by
  unfold pieceB
  rw [Nat.zero_mul, List.drop_zero, List.take_of_length_le (by rw [headK_len]; omega)]
theorem save_cases {S : DS} (hW : DWf S) (hc : Calm S) (ho : S.off = false) {first size gen : Nat} {im : List UInt8} (h0 : atE S (first : Int) (size : Int) = 0) (hg : 1 ≤ gen) (hg2 : gen < 9223372036854775808) (hl : im.length ≤ 64 * (size - 1)) :
    (saveE S first size gen im = 0 ∧ Saved S (saveD S first size gen im) (first + gen % 2 * size) size gen im) ∨
    (saveE S first size gen im = 12 ∧ 0 < S.left ∧ Half S (saveD S first size gen im) (first + gen % 2 * size) size gen im) := by
  have n2 := hW.n2
  have hb : 1 ≤ size ∧ 2 * size ≤ S.n ∧ first + 2 * size ≤ S.n := by
    unfold atE at h0
    split at h0
    · omega
    · rename_i hq; omega
  obtain ⟨p1, p2, p3⟩ := hb
  have hq : slotAt (first : Int) size gen = ((first + gen % 2 * size : Nat) : Int) := by unfold slotAt; rw [Int.natCast_add, Int.natCast_mul]; rfl
  have hroom : roomZ size = 64 * ((size : Int) - 1) := by unfold roomZ; rw [if_neg (by omega)]
  have hqs : first + gen % 2 * size + size ≤ S.n := by
    have : gen % 2 = 0 ∨ gen % 2 = 1 := by omega
    rcases this with e | e <;> rw [e] <;> omega
  generalize first + gen % 2 * size = q at hq hqs
  have e1 : slotAt (first : Int) size gen + 1 = ((q + 1 : Nat) : Int) := by rw [hq]; omega
  have eE : saveE S first size gen im = if pwE S ((q + 1 : Nat) : Int) (bodyB im) ≠ 0 then pwE S ((q + 1 : Nat) : Int) (bodyB im) else pwE (pwD S ((q + 1 : Nat) : Int) (bodyB im)) (q : Int) (headK gen im) := by
    unfold saveE
    rw [if_neg (not_not_intro h0), if_neg (by omega), if_neg (by omega), e1, hq, Int.toNat_natCast]
  have eD : saveD S first size gen im = if pwE S ((q + 1 : Nat) : Int) (bodyB im) ≠ 0 then pwD S ((q + 1 : Nat) : Int) (bodyB im) else pwD (pwD S ((q + 1 : Nat) : Int) (bodyB im)) (q : Int) (headK gen im) := by
    unfold saveD
    rw [if_neg (not_not_intro h0), if_neg (by omega), if_neg (by omega), e1, hq, Int.toNat_natCast]
  rw [eE, eD]
  have hbl := bodyB_len im
  have hdm : (bodyB im).length / 64 = (im.length + 63) / 64 := by omega
  rcases pw_cases hc ho (p := q + 1) hbl (by omega) with ⟨w1, w2⟩ | ⟨w1, w0, w2⟩
  · rw [w1, if_neg (by decide), if_neg (by decide)]
    have hW1 := hW.pw ((q + 1 : Nat) : Int) (bodyB im)
    generalize pwD S ((q + 1 : Nat) : Int) (bodyB im) = T1 at w2 hW1
    have hh : (headK gen im).length / 64 = 1 := by rw [headK_len]
    rcases pw_cases w2.calm w2.off (p := q) (b := headK gen im) (m := 1) (by rw [headK_len]) (by rw [w2.n]; omega) with ⟨v1, v2⟩ | ⟨v1, v0, v2⟩
    · have hW2 := hW1.pw (q : Int) (headK gen im)
      generalize pwD T1 (q : Int) (headK gen im) = T2 at v2 hW2
      have h1 : T2.last q = headK gen im := by rw [v2.last, hh, if_pos (by omega), Nat.sub_self, piece_head]
      have h2 : ∀ i, i < (im.length + 63) / 64 → T2.last (q + 1 + i) = pieceB (bodyB im) i := fun i hi => by
        rw [v2.last, hh, if_neg (by omega), w2.last, hdm, if_pos (by omega), Nat.add_sub_cancel_left]
      refine .inl ⟨v1, ⟨by rw [v2.n, w2.n], v2.off, v2.calm, fun h => v2.left0 (w2.left0 h), ?_, fun i hi => ?_, h1, h2⟩⟩
      · exact slot_there hW2 v2.off hg hg2 p1 (by rw [v2.n, w2.n]; exact hqs) hl (by rw [v2.calm.now]; exact h1) fun i hi => by rw [v2.calm.now]; exact h2 i hi
      · rw [v2.last, hh, if_neg (by omega), w2.last, hdm, if_neg (by omega)]
    · refine .inr ⟨v1, ?_, ⟨by rw [v2.n, w2.n], v2.off, fun kept i hi => ?_, fun kept => ?_⟩⟩
      · rcases Int.lt_or_le 0 S.left with h | h
        · exact h
        · have := w2.left0 h; omega
      · rcases v2.crash kept i with h | ⟨h1, h2, h⟩
        · rw [h, w2.last, hdm, if_neg (by omega)]
        · rw [hh] at h2; omega
      · rcases v2.crash kept q with h | ⟨h1, h2, h⟩
        · left
          rw [h, w2.last, if_neg (by omega)]
        · right
          rw [Nat.sub_self, piece_head] at h
          have hW2 := (hW1.pw (q : Int) (headK gen im)).crash kept
          have hcm := Calm.crash (pwD T1 (q : Int) (headK gen im)) kept
          refine slot_there hW2 rfl hg hg2 p1 (by show q + size ≤ (pwD T1 (q : Int) (headK gen im)).n; rw [v2.n, w2.n]; exact hqs) hl (by rw [hcm.now]; exact h) fun i hi => ?_
          rw [hcm.now]
          rcases v2.crash kept (q + 1 + i) with h' | ⟨h1', h2', _⟩
          · rw [h', w2.last, hdm, if_pos (by omega), Nat.add_sub_cancel_left]
          · rw [hh] at h2'; omega
  · rw [w1, if_pos (by decide), if_pos (by decide)]
    refine .inr ⟨rfl, w0, ⟨w2.n, w2.off, fun kept i hi => ?_, fun kept => .inl ?_⟩⟩
    · rcases w2.crash kept i with h | ⟨h1, h2, h⟩
      · exact h
      · rw [hdm] at h2; omega
    · rcases w2.crash kept q with h | ⟨h1, h2, h⟩
      · exact h
      · omega
/-! The two slots. -/
theorem slotR_congr {S T : DS} {first size slot : Nat} (hS : Calm S) (hT : Calm T) (oS : S.off = false) (oT : T.off = false) (hn : T.n = S.n) (h : ∀ i, first + slot * size ≤ i → i < first + slot * size + size → T.last i = S.last i) :
    slotR T (first : Int) size slot = slotR S (first : Int) size slot := by
  unfold slotR
  have e : (first : Int) + (slot : Int) * size = ((first + slot * size : Nat) : Int) := by rw [Int.natCast_add, Int.natCast_mul]
  rw [e]
  generalize first + slot * size = q at h
  have hm : mayE T (q : Int) (size : Int) = mayE S (q : Int) (size : Int) := by unfold mayE; rw [oS, oT, hn]
  congr 1
  unfold readL
  rw [hm]
  split
  · rw [Int.toNat_natCast, Int.toNat_natCast]
    exact readS_congr fun i h1 h2 => by rw [hT.now, hS.now]; exact h i h1 h2
  · rfl
/-- The sector of a slot's head, where it stands. -/
theorem slotR_head {S : DS} (hW : DWf S) (hS : Calm S) {first size slot : Nat} (h0 : atE S (first : Int) (size : Int) = 0) (oS : S.off = false) (hs : slot = 0 ∨ slot = 1) :
    (readL S ((first : Int) + (slot : Int) * size) size).take 64 = S.last (first + slot * size) := by
  have hb : 1 ≤ size ∧ first + 2 * size ≤ S.n := by
    unfold atE at h0
    split at h0
    · omega
    · rename_i hq; omega
  have e : (first : Int) + (slot : Int) * size = ((first + slot * size : Nat) : Int) := by rw [Int.natCast_add, Int.natCast_mul]
  have hq : first + slot * size + size ≤ S.n := by rcases hs with rfl | rfl <;> omega
  rw [e]
  have hm : mayE S ((first + slot * size : Nat) : Int) (size : Int) = 0 := by unfold mayE; rw [oS, if_neg (by decide), if_pos (by omega)]
  unfold readL
  rw [if_pos hm, Int.toNat_natCast, Int.toNat_natCast, readS_take hW (by omega), hS.now]
structure Two (S : DS) (first size gen : Nat) (last : List UInt8) : Prop where
  wf : DWf S
  calm : Calm S
  off : S.off = false
  at0 : atE S (first : Int) (size : Int) = 0
  there : 1 ≤ gen → slotR S (first : Int) size ((gen % 2 : Nat) : Int) = some ((gen : Int), last)
  zero : gen = 0 → hgen (S.last first) < 1
  other : hgen (S.last (first + (1 - gen % 2) * size)) < max (gen : Int) 1
variable {S : DS} {first size gen : Nat} {last : List UInt8}
theorem Two.low (h : Two S first size gen last) : genO (slotR S (first : Int) size ((1 - gen % 2 : Nat) : Int)) < max (gen : Int) 1 := by
  have hh := slotR_head h.wf h.calm h.at0 h.off (slot := 1 - gen % 2) (by omega)
  have hl := h.other
  rw [← hh] at hl
  cases hs : slotR S (first : Int) size ((1 - gen % 2 : Nat) : Int) with
  | none => show (0 : Int) < _; omega
  | some x =>
    obtain ⟨g, im⟩ := x
    have := (slotG_gen hs).1
    rw [← this] at hl
    exact hl
theorem Two.none0 (h : Two S first size 0 last) : slotR S (first : Int) size 0 = none ∧ slotR S (first : Int) size 1 = none := by
  refine ⟨?_, ?_⟩
  · have hh := slotR_head h.wf h.calm h.at0 h.off (slot := 0) (by omega)
    rw [Nat.zero_mul, Nat.add_zero] at hh
    have := h.zero rfl
    rw [← hh] at this
    exact slotG_none this
  · have := h.low
    exact genO_pos.2.2 (by have := (genO_pos (S := S) (first := first) (size := size) (slot := 1)).1; simp at *; omega)
theorem Two.load (h : Two S first size gen last) : (gen = 0 → loadE S first size = 7 ∧ loadG S first size = 0 ∧ loadI S first size = []) ∧ (1 ≤ gen → loadE S first size = 0 ∧ loadG S first size = gen ∧ loadI S first size = last) := by
  have hno : ¬ (atE S (first : Int) size ≠ 0 ∨ S.off = true) := by rw [h.at0, h.off]; simp
  unfold loadE loadG loadI
  rw [if_neg hno, if_neg hno, if_neg (not_not_intro h.at0), h.off, if_neg (by decide)]
  refine ⟨fun e => ?_, fun hg => ?_⟩
  · subst e
    obtain ⟨h1, h2⟩ := h.none0
    have : bestR S (first : Int) size = none := by unfold bestR; rw [h1, h2]; rfl
    rw [this]
    exact ⟨rfl, rfl, rfl⟩
  · have ht := h.there hg
    have hl := h.low
    have : bestR S (first : Int) size = some ((gen : Int), last) := by
      have h2 : gen % 2 = 0 ∨ gen % 2 = 1 := by omega
      unfold bestR
      rcases h2 with e | e
      · rw [e] at ht hl
        simp only [Nat.sub_zero, Int.natCast_one, Int.natCast_zero] at ht hl
        rw [ht, if_neg (by show ¬ _ > (gen : Int); omega)]
      · rw [e] at ht hl
        simp only [Nat.sub_self, Int.natCast_one, Int.natCast_zero] at ht hl
        rw [ht, if_pos (by show (gen : Int) > _; omega)]
    rw [this]
    exact ⟨rfl, rfl, rfl⟩
theorem Two.genhead (h : Two S first size gen last) : hgen (S.last (first + gen % 2 * size)) < max ((gen + 1 : Nat) : Int) 1 := by
  by_cases hg : gen = 0
  · subst hg
    have := h.zero rfl
    rw [Nat.zero_mod, Nat.zero_mul, Nat.add_zero]
    omega
  · have ht := h.there (by omega)
    have := (slotG_gen ht).1
    rw [slotR_head h.wf h.calm h.at0 h.off (by omega)] at this
    omega
theorem two_next {T : DS} (h : Two S first size gen last) (hW : DWf T) (hc : Calm T) (ho : T.off = false) (hn : T.n = S.n) {im : List UInt8} (ht : slotR T (first : Int) size (((gen + 1) % 2 : Nat) : Int) = some (((gen + 1 : Nat) : Int), im))
    (hr : T.last (first + gen % 2 * size) = S.last (first + gen % 2 * size)) : Two T first size (gen + 1) im := by
  refine ⟨hW, hc, ho, ?_, fun _ => ht, fun e => by omega, ?_⟩
  · have := h.at0
    unfold atE at this ⊢
    rw [hn]
    exact this
  · rw [show 1 - (gen + 1) % 2 = gen % 2 by omega, hr]
    exact h.genhead
theorem Two.saved {T : DS} (h : Two S first size gen last) (hW : DWf T) {im : List UInt8} (hs : Saved S T (first + (gen + 1) % 2 * size) size (gen + 1) im) : Two T first size (gen + 1) im := by
  have e : (first : Int) + (((gen + 1) % 2 : Nat) : Int) * size = ((first + (gen + 1) % 2 * size : Nat) : Int) := by rw [Int.natCast_add, Int.natCast_mul]
  refine two_next h hW hs.calm hs.off hs.n (by unfold slotR; rw [e, show (((gen + 1) % 2 : Nat) : Int) = ((gen + 1 : Nat) : Int) % 2 by omega]; exact hs.there) (hs.rest _ ?_)
  have h1 : 1 ≤ size := by
    have h0 := h.at0
    unfold atE at h0
    split at h0
    · omega
    · rename_i hq; omega
  have h2 : gen % 2 = 0 ∧ (gen + 1) % 2 = 1 ∨ gen % 2 = 1 ∧ (gen + 1) % 2 = 0 := by omega
  rcases h2 with ⟨e1, e2⟩ | ⟨e1, e2⟩ <;> rw [e1, e2] <;> omega
theorem Two.calmTo {T : DS} (h : Two S first size gen last) (hW : DWf T) (hc : Calm T) (ho : T.off = false) (hn : T.n = S.n) (hl : ∀ i, i < first + gen % 2 * size + size → first + gen % 2 * size ≤ i → T.last i = S.last i) (hl2 : T.last (first + (1 - gen % 2) * size) = S.last (first + (1 - gen % 2) * size)) (hz : gen = 0 → T.last first = S.last first) : Two T first size gen last := by
  refine ⟨hW, hc, ho, ?_, fun hg => ?_, fun e => by rw [hz e]; exact h.zero e, by rw [hl2]; exact h.other⟩
  · have := h.at0
    unfold atE at this ⊢
    rw [hn]
    exact this
  · rw [slotR_congr h.calm hc h.off ho hn fun i h1 h2 => hl i h2 h1]
    exact h.there hg
theorem Two.half {T : DS} (h : Two S first size gen last) (hW : DWf T) {im : List UInt8} (hs : Half S T (first + (gen + 1) % 2 * size) size (gen + 1) im) (kept : List Bool) : Two (crashD T kept) first size gen last ∨ Two (crashD T kept) first size (gen + 1) im := by
  have h1 : 1 ≤ size := by
    have h0 := h.at0
    unfold atE at h0
    split at h0
    · omega
    · rename_i hq; omega
  have e : (first : Int) + (((gen + 1) % 2 : Nat) : Int) * size = ((first + (gen + 1) % 2 * size : Nat) : Int) := by rw [Int.natCast_add, Int.natCast_mul]
  have h2 : gen % 2 = 0 ∧ (gen + 1) % 2 = 1 ∨ gen % 2 = 1 ∧ (gen + 1) % 2 = 0 := by omega
  have hrest : ∀ i, i < first + gen % 2 * size + size → first + gen % 2 * size ≤ i → (crashD T kept).last i = S.last i := fun i a b => hs.rest kept i (by
    rcases h2 with ⟨e1, e2⟩ | ⟨e1, e2⟩ <;> rw [e1] at a b <;> rw [e2] <;> omega)
  rcases hs.head kept with hh | hh
  · left
    refine h.calmTo (hW.crash kept) (Calm.crash T kept) rfl hs.n hrest ?_ fun e => ?_
    · rw [show 1 - gen % 2 = (gen + 1) % 2 by omega]; exact hh
    · subst e; exact hrest first (by omega) (by omega)
  · right
    exact two_next h (hW.crash kept) (Calm.crash T kept) rfl hs.n (by unfold slotR; rw [e, show (((gen + 1) % 2 : Nat) : Int) = ((gen + 1 : Nat) : Int) % 2 by omega]; exact hh) (hrest _ (by omega) (by omega))
theorem Two.crash (h : Two S first size gen last) (kept : List Bool) : Two (crashD S kept) first size gen last :=
  h.calmTo (h.wf.crash kept) (Calm.crash S kept) rfl rfl (fun i _ _ => by rw [crash_calm h.calm]) (by rw [crash_calm h.calm]) fun _ => by rw [crash_calm h.calm]
theorem Two.cut (h : Two S first size gen last) {n : Int} (hn : n ≤ 9223372036854775807) : Two (cutD S n) first size gen last :=
  h.calmTo (h.wf.cut hn) h.calm h.off rfl (fun _ _ _ => rfl) rfl fun _ => rfl
theorem zero_hgen : hgen zero64 < 1 := by decide +kernel
theorem two_new {n : Nat} (h1 : 1 ≤ n) (h2 : n ≤ 8192) (h : atE (newS n) (first : Int) (size : Int) = 0) : Two (newS n) first size 0 [] :=
  ⟨newS_wf h1 h2, fun _ => rfl, rfl, h, fun e => by omega, fun _ => zero_hgen, by have := zero_hgen; show hgen zero64 < max (((0 : Nat) : Int)) 1; omega⟩
/-- The one before. -/
def Prev (S : DS) (first size gen : Nat) : Prop := 2 ≤ gen → ∃ im, slotR S (first : Int) size ((1 - gen % 2 : Nat) : Int) = some (((gen - 1 : Nat) : Int), im)
theorem Two.prev {T : DS} (h : Two S first size gen last) {im : List UInt8} (hs : Saved S T (first + (gen + 1) % 2 * size) size (gen + 1) im) : Prev T first size (gen + 1) := fun hg => by
  refine ⟨last, ?_⟩
  rw [show 1 - (gen + 1) % 2 = gen % 2 by omega, Nat.add_sub_cancel, slotR_congr h.calm hs.calm h.off hs.off hs.n fun i a b => hs.rest i ?_]
  · exact h.there (by omega)
  · have h2 : gen % 2 = 0 ∧ (gen + 1) % 2 = 1 ∨ gen % 2 = 1 ∧ (gen + 1) % 2 = 0 := by omega
    rcases h2 with ⟨e1, e2⟩ | ⟨e1, e2⟩ <;> rw [e1] at a b <;> rw [e2] <;> omega
end Go.Proofs.Ytpfmadinijofeaa
end
section
/- Texts, rows of texts, rows of rows of texts that came in. No program in sight. -/
namespace Go.Proofs.Ytpfmadinijofeaa
open Go.RowKit Go.WideShapes
structure Im where
  a : Option Addr
  c : Nat
  bs : List UInt8
structure ImAt (w : World) (b off : Nat) (x : Im) : Prop where
  cell : cellsAt w b off [.slice x.a x.bs.length x.c]
  row : RowAt w x.a (x.bs.map bV)
  cap : x.bs.length ≤ x.c
  small : x.c ≤ maxLen
theorem ImAt.below {w w' : World} {b off : Nat} {x : Im} (h : ImAt w b off x) (hb : Below w.heap.size w w') : ImAt w' b off x := ⟨cellsAt_below h.cell hb (Nat.le_refl _), h.row.below hb (Nat.le_refl _), h.cap, h.small⟩
theorem im_elem {w : World} (cs' : List Value) (b off : Nat) (hl : cs'.length = 1) (hc : cellsAt w b off cs') (h : shBytes.Has w cs') : ∃ x, ImAt w b off x := by
  obtain ⟨bs, a, c, rfl, h1, h2, h3⟩ := has_bytes h
  exact ⟨⟨a, c, bs⟩, hc, h3, h1, h2⟩
theorem open_imgs {H : Type} {enc : TypeId × Value → H} {P : Program} {W : World} {t : TypeId} {v : Value} {d : DataW H} {p : List MemPlace} (hf : fitsB P (.slice shBytes 1) t = true) (hv : ∃ a l c, v = .slice a l c) (h : DataW.Trod enc P W 0 (fun _ => true) true t v d p) :
    ∃ (xs : List Im) (a : Option Addr) (c : Nat), v = .slice a xs.length c ∧ RowsAt ImAt 1 W a xs ∧ xs.length ≤ c ∧ c ≤ maxLen := open_rows (by decide) im_elem hf hv h
abbrev Ims (w : World) (a : Option Addr) (xs : List Im) : Prop := RowsAt ImAt 1 w a xs
theorem Ims.below {w w' : World} {a : Option Addr} {xs : List Im} (h : Ims w a xs) (hb : Below w.heap.size w w') : Ims w' a xs := RowsAt.mono h fun _ _ _ q => q.below hb
theorem ims_get {w : World} {a : Option Addr} {xs : List Im} (hx : Ims w a xs) (i : Nat) (hi : i < xs.length) {wx : World} (B : Below w.heap.size w wx) : ∃ b off, a = some ⟨b, off, none⟩ ∧ ImAt wx b (off + i * 1) xs[i] := by
  obtain ⟨b, off, ha, hc⟩ := RowsAt.get (Ims.below hx B) hi
  exact ⟨b, off, ha, hc⟩
/-- A row of texts. -/
structure Gp where
  a : Option Addr
  c : Nat
  ims : List Im
structure GpAt (w : World) (b off : Nat) (x : Gp) : Prop where
  cell : cellsAt w b off [.slice x.a x.ims.length x.c]
  row : Ims w x.a x.ims
  cap : x.ims.length ≤ x.c
  small : x.c ≤ maxLen
theorem GpAt.below {w w' : World} {b off : Nat} {x : Gp} (h : GpAt w b off x) (hb : Below w.heap.size w w') : GpAt w' b off x := ⟨cellsAt_below h.cell hb (Nat.le_refl _), h.row.below hb, h.cap, h.small⟩
def shIms : Sh := .slice shBytes 1
theorem gp_elem {w : World} (cs' : List Value) (b off : Nat) (hl : cs'.length = 1) (hc : cellsAt w b off cs') (h : shIms.Has w cs') : ∃ x, GpAt w b off x := by
  obtain ⟨xs, a, c, rfl, h1, h2, h3⟩ := has_rows (R := ImAt) (by decide) im_elem h
  exact ⟨⟨a, c, xs⟩, hc, h3, h1, h2⟩
theorem open_gps {H : Type} {enc : TypeId × Value → H} {P : Program} {W : World} {t : TypeId} {v : Value} {d : DataW H} {p : List MemPlace} (hf : fitsB P (.slice shIms 1) t = true) (hv : ∃ a l c, v = .slice a l c) (h : DataW.Trod enc P W 0 (fun _ => true) true t v d p) :
    ∃ (xs : List Gp) (a : Option Addr) (c : Nat), v = .slice a xs.length c ∧ RowsAt GpAt 1 W a xs ∧ xs.length ≤ c ∧ c ≤ maxLen := open_rows (by decide) gp_elem hf hv h
abbrev Gps (w : World) (a : Option Addr) (xs : List Gp) : Prop := RowsAt GpAt 1 w a xs
theorem Gps.below {w w' : World} {a : Option Addr} {xs : List Gp} (h : Gps w a xs) (hb : Below w.heap.size w w') : Gps w' a xs := RowsAt.mono h fun _ _ _ q => q.below hb
theorem gps_get {w : World} {a : Option Addr} {xs : List Gp} (hx : Gps w a xs) (i : Nat) (hi : i < xs.length) {wx : World} (B : Below w.heap.size w wx) : ∃ b off, a = some ⟨b, off, none⟩ ∧ GpAt wx b (off + i * 1) xs[i] := by
  obtain ⟨b, off, ha, hc⟩ := RowsAt.get (Gps.below hx B) hi
  exact ⟨b, off, ha, hc⟩
/-! Bools. -/
theorem bool_el {w : World} (cs' : List Value) (b off : Nat) (hl : cs'.length = 1) (hc : cellsAt w b off cs') (h : Sh.bool.Has w cs') : ∃ z : Bool, cellsAt w b off [.bool z] := by
  obtain ⟨x, hx⟩ := h
  match cs', hl with
  | [v0], _ =>
    simp at hx
    subst hx
    exact ⟨x, hc⟩
theorem rows_bl {w : World} {a : Option Addr} {zs : List Bool} (h : RowsAt (fun w b off (z : Bool) => cellsAt w b off [.bool z]) 1 w a zs) : RowAt w a (zs.map Value.bool) := by
  rcases h with h | ⟨b, off, ha, h⟩
  · subst h; exact .inl rfl
  · refine .inr ⟨b, off, ha, fun i v hv => ?_⟩
    rw [List.getElem?_map, Option.map_eq_some_iff] at hv
    obtain ⟨z, hz, rfl⟩ := hv
    have := cellsAt_get (h i z hz) 0 _ rfl
    rwa [Nat.mul_one, Nat.add_zero] at this
theorem open_bls {H : Type} {enc : TypeId × Value → H} {P : Program} {W : World} {t : TypeId} {v : Value} {d : DataW H} {p : List MemPlace} (hf : fitsB P (.slice .bool 1) t = true) (hv : ∃ a l c, v = .slice a l c) (h : DataW.Trod enc P W 0 (fun _ => true) true t v d p) :
    ∃ (xs : List Bool) (a : Option Addr) (c : Nat), v = .slice a xs.length c ∧ RowsAt (fun w b off (z : Bool) => cellsAt w b off [.bool z]) 1 W a xs ∧ xs.length ≤ c ∧ c ≤ maxLen := open_rows (by decide) bool_el hf hv h
/-- Texts or rows of texts, a number, what is kept. -/
structure Fl (α : Type) where
  a : Option Addr
  c : Nat
  xs : List α
  off : Int
  ka : Option Addr
  kc : Nat
  kept : List Bool
structure FlAt {α : Type} (R : World → Option Addr → List α → Prop) (w : World) (b off : Nat) (x : Fl α) : Prop where
  cell : cellsAt w b off [.slice x.a x.xs.length x.c, .int .i64 x.off, .slice x.ka x.kept.length x.kc]
  row : R w x.a x.xs
  kept : RowAt w x.ka (x.kept.map Value.bool)
  cap : x.xs.length ≤ x.c
  small : x.c ≤ maxLen
def shFl (e : Sh) : Sh := .agg (.fcons 0 1 e (.fcons 1 1 (.int .i64) (.fcons 2 1 (.slice .bool 1) .fnil)))
theorem fl_elem {α : Type} {R : World → Nat → Nat → α → Prop} {e : Sh} (el : ∀ {w : World} (cs' : List Value) (b off : Nat), cs'.length = 1 → cellsAt w b off cs' → e.Has w cs' → ∃ x, R w b off x) {w : World} (cs' : List Value) (b off : Nat) (hl : cs'.length = 3) (hc : cellsAt w b off cs') (h : (shFl (.slice e 1)).Has w cs') :
    ∃ x, FlAt (fun w a xs => RowsAt R 1 w a xs) w b off x := by
  obtain ⟨h0, ⟨x1, h1, _⟩, h2, _⟩ := h
  obtain ⟨xs, a, c, p1, p2, p3, p4⟩ := has_rows (R := R) (by decide) el h0
  obtain ⟨ks, ka, kc, q1, q2, q3, q4⟩ := has_rows (R := fun w b off (z : Bool) => cellsAt w b off [.bool z]) (by decide) bool_el h2
  match cs', hl with
  | [v0, v1, v2], _ =>
    simp at p1 h1 q1
    subst p1; subst h1; subst q1
    exact ⟨⟨a, c, xs, x1, ka, kc, ks⟩, hc, p4, rows_bl q4, p2, p3⟩
abbrev FlI := FlAt (fun w a xs => RowsAt ImAt 1 w a xs)
abbrev FlG := FlAt (fun w a xs => RowsAt GpAt 1 w a xs)
theorem open_fli {H : Type} {enc : TypeId × Value → H} {P : Program} {W : World} {t : TypeId} {v : Value} {d : DataW H} {p : List MemPlace} (hf : fitsB P (.slice (shFl (.slice shBytes 1)) 3) t = true) (hv : ∃ a l c, v = .slice a l c) (h : DataW.Trod enc P W 0 (fun _ => true) true t v d p) :
    ∃ (xs : List (Fl Im)) (a : Option Addr) (c : Nat), v = .slice a xs.length c ∧ RowsAt FlI 3 W a xs ∧ xs.length ≤ c ∧ c ≤ maxLen := open_rows (by decide) (fl_elem im_elem) hf hv h
theorem open_flg {H : Type} {enc : TypeId × Value → H} {P : Program} {W : World} {t : TypeId} {v : Value} {d : DataW H} {p : List MemPlace} (hf : fitsB P (.slice (shFl (.slice shIms 1)) 3) t = true) (hv : ∃ a l c, v = .slice a l c) (h : DataW.Trod enc P W 0 (fun _ => true) true t v d p) :
    ∃ (xs : List (Fl Gp)) (a : Option Addr) (c : Nat), v = .slice a xs.length c ∧ RowsAt FlG 3 W a xs ∧ xs.length ≤ c ∧ c ≤ maxLen := open_rows (by decide) (fl_elem gp_elem) hf hv h
theorem FlI.below {w w' : World} {b off : Nat} {x : Fl Im} (h : FlI w b off x) (hb : Below w.heap.size w w') : FlI w' b off x := ⟨cellsAt_below h.cell hb (Nat.le_refl _), Ims.below h.row hb, h.kept.below hb (Nat.le_refl _), h.cap, h.small⟩
theorem FlG.below {w w' : World} {b off : Nat} {x : Fl Gp} (h : FlG w b off x) (hb : Below w.heap.size w w') : FlG w' b off x := ⟨cellsAt_below h.cell hb (Nat.le_refl _), Gps.below h.row hb, h.kept.below hb (Nat.le_refl _), h.cap, h.small⟩
theorem fli_get {w : World} {a : Option Addr} {xs : List (Fl Im)} (hx : RowsAt FlI 3 w a xs) (i : Nat) (hi : i < xs.length) {wx : World} (B : Below w.heap.size w wx) : ∃ b off, a = some ⟨b, off, none⟩ ∧ FlI wx b (off + i * 3) xs[i] := by
  obtain ⟨b, off, ha, hc⟩ := RowsAt.get (RowsAt.mono hx fun _ _ _ q => FlI.below q B) hi
  exact ⟨b, off, ha, hc⟩
theorem flg_get {w : World} {a : Option Addr} {xs : List (Fl Gp)} (hx : RowsAt FlG 3 w a xs) (i : Nat) (hi : i < xs.length) {wx : World} (B : Below w.heap.size w wx) : ∃ b off, a = some ⟨b, off, none⟩ ∧ FlG wx b (off + i * 3) xs[i] := by
  obtain ⟨b, off, ha, hc⟩ := RowsAt.get (RowsAt.mono hx fun _ _ _ q => FlG.below q B) hi
  exact ⟨b, off, ha, hc⟩
end Go.Proofs.Ytpfmadinijofeaa
end
section
/- SnapTurns and SnapFalls; walked. -/
namespace Go.Proofs.Ytpfmadinijofeaa
open Go.RowKit
/-- A disk of one's own. -/
structure D1 (w wx : World) (g gl mb : Nat) (S : DS) : Prop where
  t : DkAt wx g gl mb S
  wf : DWf S
  bs : Bs w wx
  g0 : ∀ k ∈ [g, gl, mb], w.heap.size ≤ k
section
variable {w wx wy : World} {g gl mb : Nat} {S S' : DS}
theorem D1.below (h : D1 w wx g gl mb S) (b : Below wx.heap.size wx wy) : D1 w wy g gl mb S := ⟨h.t.below b, h.wf, h.bs.to b, h.g0⟩
theorem D1.to (h : D1 w wx g gl mb S) (t : DkAt wy g gl mb S') (f : Fr [g, gl, mb] wx wy) (hW : DWf S') : D1 w wy g gl mb S' := ⟨t, hW, h.bs.fr f h.g0, h.g0⟩
theorem D1.lt (h : D1 w wx g gl mb S) : ∀ k ∈ [g, gl, mb], k < wx.heap.size := fun k hk => by
  have := h.t.lt
  simp at hk
  omega
theorem D1.box (h : D1 w wx g gl mb S) {g1 : Nat} (hg : ∀ k ∈ [g, gl, mb], k ≠ g1) (hg0 : w.heap.size ≤ g1) (x : BoxSt g1 wx wy) : D1 w wy g gl mb S :=
  ⟨h.t.fr x.1 (fun e => hg g (by simp) (List.mem_singleton.1 e)) (fun e => hg gl (by simp) (List.mem_singleton.1 e)) (fun e => hg mb (by simp) (List.mem_singleton.1 e)), h.wf, h.bs.box hg0 x, h.g0⟩
/-- A block that is not the disk's is left as it was. -/
theorem D1.k1 (h : D1 w wx g gl mb S) {gs : List Nat} (hg : ∀ k ∈ gs, k < w.heap.size ∨ wx.heap.size ≤ k) {wz wy : World} (f : Fr [g, gl, mb] wz wy) : KeepG gs wz wy := keepG_fr f fun k hk hm => by
  have h1 := h.lt k hm
  have h2 := h.g0 k hm
  have := hg k hk
  omega
theorem own_ap {n1 n c : Nat} {a : Option Addr} {xs : List Value} {e : TypeId} (h : D1 w wx g gl mb S) (o : Own wy n1 e 1 (.slice a n c) n xs) (hn : wx.heap.size ≤ n1) : ∀ q, a = some q → q.block ∉ [g, gl, mb] := fun q hq hm => by
  subst hq
  have := (o.lt q.block rfl).1
  have := h.lt q.block hm
  omega
end
theorem d1_new (n : Nat) (h1 : 1 ≤ n) (h2 : n ≤ 8192) (w : World) {R : Ending → World → Prop} (k : ∀ g gl mb w', D1 w w' g gl mb (newS n) → R (.returned (.tuple #[.pointer (some ⟨g, 0, none⟩), .int .i64 0])) w') : Calls Try.prog 13 #[.int .i64 n] w fun e w' => KeepG [] w w' ∧ R e w' := by
  refine (dnew_new n h1 h2 w).mono ?_
  rintro e w' ⟨g, gl, mb, rfl, t, g0, gl0, mb0, b⟩
  exact ⟨keepG_nil _ _, k g gl mb w' ⟨t, newS_wf h1 h2, b, fun k hk => by simp at hk; omega⟩⟩
theorem tame_new {a : Option Addr} {c : Nat} {bs : List UInt8} (w : World) (hr : RowAt w a (bs.map bV)) (hc : bs.length ≤ c) : Calls Try.prog 16 #[.slice a bs.length c] w (NewB w w.heap.size (bs.take 500)) := by
  refine (GSn.tame_calls a bs.length c w (fun v w' => ∃ a c, v = .slice a (bs.take 500).length c ∧ Own w' w.heap.size 5 1 (.slice a (bs.take 500).length c) (bs.take 500).length ((bs.take 500).map bV) ∧ Bs w w') ?_).mono (by rintro e w' ⟨v, rfl, a, c, rfl, h⟩; exact ⟨a, c, rfl, h⟩)
  unfold GSn.tame_vc
  refine newB (Bs.refl w) fun g w2 g0 sg n2 z2 b2 B2 => ⟨by omega, by omega, ?_⟩
  have o2 : Own w2 w.heap.size 5 1 (.slice (some ⟨g, 0, none⟩) 0 0) 0 (([] : List UInt8).map bV) := own_lit (bs := []) n2 g0 (Nat.zero_le _)
  have hl : (bs.take 500).length = (min ((bs.length : Nat) : Int) 500).toNat := by rw [List.length_take]; omega
  have r2 : RowAt w2 a ((bs.take 500).map bV) := by rw [List.map_take]; exact (hr.bs B2).take 500
  rw [← hl]
  refine appB B2 o2 (Nat.le_refl _) B2.size (srcB r2) (by unfold maxLen; rw [hl]; omega) (by rw [hl]; omega) (fun q hq => by cases hq) fun a' c' w3 o3 g3 B3 z3 => ⟨a', c', ?_, ?_, B3⟩
  · rw [Nat.zero_add]
  · rw [Nat.zero_add] at o3; exact o3
theorem tame_len (bs : List UInt8) : (bs.take 500).length ≤ 500 := by rw [List.length_take]; omega
/-! An image is there again. -/
def S8 : DS := saveD (newS 8) 1 3 1 [97, 98, 99]
theorem s8_two : saveE (newS 8) 1 3 1 [97, 98, 99] = 0 ∧ Two S8 1 3 1 [97, 98, 99] := by
  have h0 : atE (newS 8) ((1 : Nat) : Int) ((3 : Nat) : Int) = 0 := by decide
  have ht := two_new (n := 8) (first := 1) (size := 3) (by omega) (by omega) h0
  rcases save_cases ht.wf ht.calm ht.off h0 (gen := 1) (im := [97, 98, 99]) (by omega) (by omega) (by decide) with ⟨e, hs⟩ | ⟨_, hl, _⟩
  · exact ⟨e, ht.saved (ht.wf.save _ _ _ _) hs⟩
  · exact absurd hl (by decide)
theorem snaps_ret (w : World) : Calls Try.prog 14 #[] w (Ret (.bool true) w) := by
  refine ret_in (GSn.snaps_calls w (fun u w' => u = .bool true ∧ Below w.heap.size w w') ?_)
  unfold GSn.snaps_vc
  refine d1_new 8 (by omega) (by omega) w fun g gl mb w2 h2 => ⟨_, _, rfl, newB h2.bs fun g1 w3 g10 sg1 n3 z3 b3 B3 => ⟨fun _ h => (by cases h), _, _, _, n3, fun w4 fr4 n4 f4 z4 => ?_⟩⟩
  have h3 := h2.below b3
  have B4 : Bs w w4 := B3.fr1 f4 g10
  have hne : ∀ k ∈ [g, gl, mb], k ≠ g1 := fun k hk e => by have := h2.lt k hk; omega
  have h4 := h3.box hne g10 ⟨f4, z4⟩
  have r4 : RowAt w4 (some ⟨g1, 0, none⟩) (([97, 98, 99] : List UInt8).map bV) := RowAt.ofWhole n4
  refine (save_any h4.t h4.wf (im := [97, 98, 99]) (c := 3) r4 (by decide) (by decide) (fun q hq hm => by injection hq with hq; subst hq; exact hne _ hm rfl) 1 3 1 (by decide) (by decide) (by decide) (by decide) (by decide)).mono ?_
  rintro e w5 ⟨rfl, t5, f5⟩
  have h5 : D1 w w5 g gl mb S8 := h4.to t5 f5 (h4.wf.save _ _ _ _)
  obtain ⟨e1, ht⟩ := s8_two
  rw [e1]
  refine ⟨keepG_nil _ _, _, rfl, (load_new h5.t h5.wf 1 3 (by decide) (by decide) (by decide) (by decide)).mono ?_⟩
  rintro e w6 ⟨a6, c6, rfl, o6, b6⟩
  obtain ⟨l1, l2, l3⟩ := ht.load.2 (by omega)
  have l1 : loadE S8 1 3 = 0 := l1
  have l2 : loadG S8 1 3 = 1 := l2
  have l3 : loadI S8 1 3 = [97, 98, 99] := l3
  rw [l3] at o6 ⊢
  rw [l1, l2]
  have h6 := h5.below b6
  exact ⟨keepG_nil _ _, _, a6, _, c6, _, rfl, br_y rfl (br_y rfl (br_y rfl (br_y rfl ⟨[97, 98, 99], rfl, o6.row, br_y rfl (callB h6.bs (room_ret 3 w6) fun w7 b7 B7 => ⟨_, rfl, rfl, B7⟩)⟩)))⟩
/-! SnapTurns. -/
theorem gens_two {S : DS} {first size gen : Nat} {last : List UInt8} (h : Two S first size gen last) : gensE S first size = 0 ∧ (∀ s : Int, gensG S first size s = genO (slotR S first size s)) := by
  have hno : ¬ (atE S (first : Int) size ≠ 0 ∨ S.off = true) := by rw [h.at0, h.off]; simp
  refine ⟨?_, fun s => ?_⟩
  · unfold gensE; rw [if_neg (not_not_intro h.at0), h.off]; rfl
  · unfold gensG; rw [if_neg hno]
theorem gens_vals {S : DS} {first size gen : Nat} {last : List UInt8} (h : Two S first size gen last) (hp : Prev S first size gen) :
    gensG S first size 0 = (if gen % 2 = 0 then (gen : Int) else (gen : Int) - 1) ∧ gensG S first size 1 = (if gen % 2 = 1 then (gen : Int) else max 0 ((gen : Int) - 1)) := by
  obtain ⟨_, hg⟩ := gens_two h
  rw [hg, hg]
  by_cases h0 : gen = 0
  · subst h0
    obtain ⟨q1, q2⟩ := h.none0
    rw [q1, q2]
    exact ⟨rfl, rfl⟩
  have ht := h.there (by omega)
  have hl := h.low
  have hz := genO_pos (S := S) (first := first) (size := size) (slot := ((1 - gen % 2 : Nat) : Int))
  have ho : genO (slotR S (first : Int) size ((1 - gen % 2 : Nat) : Int)) = (gen : Int) - 1 := by
    by_cases h1 : gen = 1
    · subst h1; have := hz.1; simp at hl this ⊢; omega
    · obtain ⟨im, e⟩ := hp (by omega)
      rw [e]
      show ((gen - 1 : Nat) : Int) = _
      omega
  have h2 : gen % 2 = 0 ∨ gen % 2 = 1 := by omega
  rcases h2 with e | e
  · rw [e] at ht ho
    have ht : slotR S (first : Int) size 0 = _ := ht
    have ho : genO (slotR S (first : Int) size 1) = _ := ho
    rw [ht, ho, if_pos e, if_neg (by omega)]
    exact ⟨rfl, by omega⟩
  · rw [e] at ht ho
    have ht : slotR S (first : Int) size 1 = _ := ht
    have ho : genO (slotR S (first : Int) size 0) = _ := ho
    rw [ht, ho, if_neg (by omega), if_pos e]
    exact ⟨rfl, rfl⟩
theorem lturns_walk (a : Option Addr) (c : Nat) (xs : List Im) (w : World) (hx : Ims w a xs) (_hl : xs.length ≤ maxLen) : Calls Try.prog 4 #[.slice a xs.length c] w (Ret (.bool true) w) := by
  refine ret_in (GSn.lturns_calls a xs.length c w (fun u w' => u = .bool true ∧ Below w.heap.size w w') ?_)
  unfold GSn.lturns_vc
  refine d1_new 20 (by omega) (by omega) w fun g gl mb w2 h2 => ⟨_, _, rfl, callB h2.bs (snaps_ret w2) fun w3 b3 B3 => ⟨_, rfl, br_f rfl (br_n (by decide) (newB B3 fun gs w4 gs0 sgs n4 z4 b4 B4 => ?_))⟩⟩
  have h4 := (h2.below b3).below b4
  have hne : ∀ k ∈ [g, gl, mb], k ≠ gs := fun k hk e => by have := (h2.below b3).lt k hk; omega
  have h0 : atE (newS 20) ((2 : Nat) : Int) ((9 : Nat) : Int) = 0 := by decide
  have h20 := two_new (n := 20) (first := 2) (size := 9) (by omega) (by omega) h0
  refine ⟨fun x y wx => ∃ (k : Nat) (S : DS) (last : List UInt8) (s0 s1 : ByteArray), x = k ∧ y = k ∧ k ≤ 8 ∧ k ≤ xs.length ∧ D1 w wx g gl mb S ∧ Two S 2 9 k last ∧ Prev S 2 9 k ∧ S.left ≤ 0 ∧ Bk wx gs #[.string s0, .string s1] 45 ∧ (1 ≤ k → (if k % 2 = 0 then s0 else s1) = strOf last), fun _ y _ => (8 - y).toNat,
    ⟨0, newS 20, [], _, _, rfl, rfl, by omega, by omega, h4, h20, fun e => absurd e (by omega), Int.le_refl _, n4, fun e => absurd e (by omega)⟩, ?_⟩
  rintro x y wx ⟨k, S, last, s0, s1, rfl, rfl, hk8, hkl, hD, hT, hP, hL, hB, hlast⟩
  have fin : GSn.lturns_k1 (fun u w' => u = .bool true ∧ Below w.heap.size w w') (some ⟨g, 0, none⟩) gs k wx := by
    unfold GSn.lturns_k1
    obtain ⟨v0, v1⟩ := gens_vals hT hP
    have v0 : gensG S 2 9 0 = _ := v0
    have v1 : gensG S 2 9 1 = _ := v1
    have ve : gensE S 2 9 = 0 := (gens_two hT).1
    refine callB hD.bs (gens_ret hD.t hD.wf 2 9 (by decide) (by decide) (by decide) (by decide)) fun w6 b6 B6 => ⟨_, _, _, _, _, rfl, newB B6 fun g2 w7 g20 sg2 n7 z7 b7 B7 => newB B7 fun g3 w8 g30 sg3 n8 z8 b8 B8 => ?_⟩
    rw [v0, v1, ve]
    have k7 : Bk w8 g2 #[.int .i64 0, .int .i64 0] 37 := Bk.below (show Bk w7 g2 #[.int .i64 0, .int .i64 0] 37 from n7) b8
    refine stB B8 g20 k7 (vs := [.int .i64 (if k % 2 = 0 then (k : Int) else (k : Int) - 1), .int .i64 (if k % 2 = 1 then (k : Int) else max 0 ((k : Int) - 1))]) rfl (fun y hy e => by rw [List.mem_singleton] at hy; omega) fun w9 k9 f9 B9 z9 => boxB B9 g30 fun w10 x10 B10 z10 => br_n (by decide) ?_
    have hB10 : Bk w10 gs _ 45 := ((((hB.below b6).below b7).below b8).fr1 f9 (by have := hB.lt; have := b6.size; omega)).box x10 (by have := hB.lt; have := b6.size; omega)
    have k10 := k9.box x10 (by omega)
    have hD10 : D1 w w10 g gl mb S := by
      have hq := ((hD.below b6).below b7).below b8
      have q1 := hq.box (fun k hk e => by have := hD.lt k hk; have := b6.size; omega) g20 ⟨f9, z9⟩
      exact q1.box (fun k hk e => by have := hD.lt k hk; have := b6.size; omega) g30 x10
    refine br_n (fun e => e ?_) (br_n (fun e => e ?_) ?_)
    · refine decide_eq_decide.2 ?_
      split <;> omega
    · refine decide_eq_decide.2 ?_
      split <;> omega
    refine br_dec (fun q0 => ?_) fun q0 => ?_
    · have : k = 0 := by omega
      subst this
      exact ⟨_, _, cellsAt_row k10 rfl, rfl, B10⟩
    refine (load_new hD10.t hD10.wf 2 9 (by decide) (by decide) (by decide) (by decide)).mono ?_
    rintro e w11 ⟨a11, c11, rfl, o11, b11⟩
    obtain ⟨l1, l2, l3⟩ := hT.load.2 (by omega)
    have l1 : loadE S 2 9 = 0 := l1
    have l2 : loadG S 2 9 = k := l2
    have l3 : loadI S 2 9 = last := l3
    rw [l3] at o11 ⊢
    rw [l1, l2]
    have B11 := B10.to b11
    refine ⟨keepG_below b11, _, a11, _, c11, _, rfl, drewB B11 fun w12 b12 B12 e12 => br_y rfl (br_y rfl ⟨last, rfl, (o11.below b12 (Nat.le_refl _)).row, by decide, ?_⟩)⟩
    have hm : Int.tmod (k : Int) 2 = ((k % 2 : Nat) : Int) := by rw [Int.tmod_eq_emod_of_nonneg (by omega)]; omega
    have hm1 : IntKind.i64.wrap ((k : Int) + 1) = ((k + 1 : Nat) : Int) := by rw [wr64 (by omega) (by omega)]; omega
    have hm2 : Int.tmod ((k + 1 : Nat) : Int) 2 = (((k + 1) % 2 : Nat) : Int) := by rw [Int.tmod_eq_emod_of_nonneg (by omega)]; omega
    have hB12 := (hB10.below b11).below b12
    have k12 := (k10.below b11).below b12
    rw [hm, hm1, hm2, wr64 (z := (k : Int) - 1) (by omega) (by omega)]
    have h2 : k % 2 = 0 ∨ k % 2 = 1 := by omega
    rcases h2 with e | e
    · have e' : (k + 1) % 2 = 1 := by omega
      have hs := hlast (by omega)
      rw [if_pos e] at hs
      rw [e, e']
      refine ⟨by decide, by decide, s0, by rw [hB12.cell]; rfl, br_y hs.symm ⟨by decide, by decide, by decide, (k : Int), by rw [k12.cell]; simp [e], br_y rfl (br_n (by omega) ⟨by decide, by decide, by decide, (k : Int) - 1, by rw [k12.cell]; simp [e]; omega, by rw [decide_eq_true rfl], B12⟩)⟩⟩
    · have e' : (k + 1) % 2 = 0 := by omega
      have hs := hlast (by omega)
      rw [if_neg (by omega)] at hs
      rw [e, e']
      refine ⟨by decide, by decide, s1, by rw [hB12.cell]; rfl, br_y hs.symm ⟨by decide, by decide, by decide, (k : Int), by rw [k12.cell]; simp [e], br_y rfl (br_dec (fun _ => ⟨rfl, B12⟩) fun _ => ⟨by decide, by decide, by decide, (k : Int) - 1, by rw [k12.cell]; simp [e], by rw [decide_eq_true rfl], B12⟩)⟩⟩
  refine br_dec (fun hlt => br_dec (fun h8 => ?_) fun _ => fin) fun _ => fin
  obtain ⟨b, off, ha, hi⟩ := ims_get hx k (by omega) hD.bs
  refine withP_mk b off ha ⟨by omega, by omega, _, _, _, by rw [Int.toNat_natCast]; exact cellsAt_get hi.cell 0 _ rfl, ?_⟩
  refine (tame_new wx hi.row hi.cap).mono ?_
  rintro e w5 ⟨a5, c5, rfl, o5, b5⟩
  have h5 := hD.below b5
  have hk1 : IntKind.i64.wrap ((k : Int) + 1) = ((k + 1 : Nat) : Int) := by rw [wr64 (by omega) (by omega)]; omega
  refine ⟨keepG_nil _ _, a5, _, c5, rfl, ?_⟩
  rw [hk1]
  have hlen := tame_len xs[k].bs
  refine (save_any h5.t h5.wf o5.row (by omega) o5.cap.1 (own_ap hD o5 (Nat.le_refl _)) 2 9 ((k + 1 : Nat) : Int) (by decide) (by decide) (by decide) (by decide) (by omega)).mono ?_
  rintro e w6 ⟨rfl, t6, f6⟩
  have h6 := h5.to t6 f6 (h5.wf.save _ _ _ _)
  rcases save_cases hT.wf hT.calm hT.off hT.at0 (gen := k + 1) (im := xs[k].bs.take 500) (by omega) (by omega) (by omega) with ⟨e0, hs⟩ | ⟨_, hl, _⟩
  · have e0 : saveE S 2 9 ((k + 1 : Nat) : Int) (xs[k].bs.take 500) = 0 := e0
    rw [e0]
    refine ⟨keepG_nil _ _, _, rfl, br_n (by decide) ⟨by decide, _, rfl, o5.row.frL f6 (own_ap hD o5 (Nat.le_refl _)), ?_⟩⟩
    have hm2 : Int.tmod ((k + 1 : Nat) : Int) 2 = (((k + 1) % 2 : Nat) : Int) := by rw [Int.tmod_eq_emod_of_nonneg (by omega)]; omega
    rw [hm2, Int.toNat_natCast, Nat.mul_one, Nat.zero_add]
    refine ⟨by omega, by omega, ?_⟩
    have hB6 : Bk w6 gs _ 45 := (hB.below b5).fr f6 (fun hm => hne gs hm rfl)
    refine stB1 h6.bs gs0 hB6 (by show (k + 1) % 2 < 2; omega) (fun y hy => by cases hy) fun w7 k7 f7 B7 z7 => ?_
    have h7 := h6.box hne gs0 ⟨f7, z7⟩
    have hT' := hT.saved (hT.wf.save _ _ _ _) hs
    refine ⟨?_, by dsimp only; try rw [hk1]
                   omega⟩
    have h2 : (k + 1) % 2 = 0 ∨ (k + 1) % 2 = 1 := by omega
    rcases h2 with e | e
    · refine ⟨k + 1, _, xs[k].bs.take 500, strOf (xs[k].bs.take 500), s1, rfl, (by first | rfl | exact hk1), by omega, by omega, h7, hT', hT.prev hs, hs.left0 hL, ?_, fun _ => by rw [if_pos e]⟩
      rw [e] at k7
      exact k7
    · refine ⟨k + 1, _, xs[k].bs.take 500, s0, strOf (xs[k].bs.take 500), rfl, (by first | rfl | exact hk1), by omega, by omega, h7, hT', hT.prev hs, hs.left0 hL, ?_, fun _ => by rw [if_neg (by omega)]⟩
      rw [e] at k7
      exact k7
  · omega
end Go.Proofs.Ytpfmadinijofeaa
end
section
/- SnapFalls; walked. -/
namespace Go.Proofs.Ytpfmadinijofeaa
open Go.RowKit
theorem loads_two {w wx : World} {g gl mb : Nat} {S : DS} (h : D1 w wx g gl mb S) {first size gen : Nat} {last : List UInt8} (hT : Two S first size gen last) (hf : first ≤ 10000) (hs : size ≤ 10000) :
    Calls Try.prog 19 #[.pointer (some ⟨g, 0, none⟩), .int .i64 (first : Int), .int .i64 (size : Int)] wx fun e w' => ∃ a c, e = .returned (.tuple #[.int .i64 (gen : Int), .slice a (if gen = 0 then [] else last).length c, .int .i64 (if gen = 0 then 7 else 0)]) ∧ RowAt w' a ((if gen = 0 then [] else last).map bV) ∧ Below wx.heap.size wx w' := by
  refine (load_new h.t h.wf first size (by omega) (by omega) (by omega) (by omega)).mono ?_
  rintro e w' ⟨a, c, rfl, o, b⟩
  by_cases hg : gen = 0
  · obtain ⟨l1, l2, l3⟩ := hT.load.1 hg
    rw [l3] at o ⊢
    rw [l1, l2, if_pos hg, if_pos hg, hg]
    exact ⟨a, c, rfl, o.row, b⟩
  · obtain ⟨l1, l2, l3⟩ := hT.load.2 (by omega)
    rw [l3] at o ⊢
    rw [l1, l2, if_neg hg, if_neg hg]
    exact ⟨a, c, rfl, o.row, b⟩
theorem lfalls_k3_ok {w wi wx : World} {g gl mb : Nat} {S : DS} {I : Int → ByteArray → Int → World → Prop} {μ : Int → ByteArray → Int → World → Nat} {x5 : Int} {s6 : ByteArray} {k g1 gen : Nat} {last under : List UInt8} {hang : Bool} {ka : Option Addr} {kc : Nat} {kept : List Bool} {s9 : ByteArray}
    (h : D1 w wx g gl mb S) (hk : k ≤ 4) (hgen : gen ≤ 100) (hr : RowAt w ka (kept.map Value.bool)) (hg1 : ∀ k ∈ [g, gl, mb], k ≠ g1) (hs9 : s9 = strOf under)
    (hT : Two (crashD S kept) 2 9 gen last ∨ (hang = true ∧ Two (crashD S kept) 2 9 (gen + 1) under))
    (hI : ∀ (wy : World) (gen' : Nat) (last' : List UInt8) (S' : DS), D1 w wy g gl mb S' → Two S' 2 9 gen' last' → gen' ≤ gen + 1 → I gen' (strOf last') ((k + 1 : Nat) : Int) wy ∧ μ gen' (strOf last') ((k + 1 : Nat) : Int) wy < μ x5 s6 (k : Int) wi) :
    GSn.lfalls_k3 (fun u w' => u = .bool true ∧ Below w.heap.size w w') I μ (some ⟨g, 0, none⟩) x5 s6 k wi ka kept.length kc g1 gen (strOf last) s9 hang wx := by
  unfold GSn.lfalls_k3
  have hk1 : IntKind.i64.wrap ((k : Int) + 1) = ((k + 1 : Nat) : Int) := by rw [wr64 (by omega) (by omega)]; omega
  rw [hk1]
  refine (dcrash_g h.t h.wf (fun w1 f => hr.bs (h.bs.fr f h.g0))).mono ?_
  rintro e w2 ⟨rfl, t2, f2⟩
  have h2 := h.to t2 f2 (h.wf.crash kept)
  have kg : ∀ {wa wb : World}, Fr [g, gl, mb] wa wb → KeepG [g1] wa wb := fun f => keepG_fr f fun q hq hm => by rw [List.mem_singleton] at hq; exact hg1 q hm hq
  refine ⟨kg f2, rfl, ?_⟩
  rcases hT with hT | ⟨hh, hT⟩
  · refine (loads_two h2 hT (by omega) (by omega)).mono ?_
    rintro e w3 ⟨a, c, rfl, r3, b3⟩
    refine ⟨keepG_below b3, _, a, _, c, _, rfl, ?_⟩
    have h3 := h2.below b3
    by_cases hg : gen = 0
    · subst hg
      exact br_y rfl (br_y rfl (br_y rfl (br_y rfl (hI w3 0 last _ h3 hT (by omega)))))
    · rw [if_neg hg] at r3 ⊢
      rw [if_neg hg]
      refine br_n (by omega) ?_
      unfold GSn.lfalls_k2
      rw [hk1]
      exact br_n (by decide) (br_y rfl ⟨last, rfl, r3, br_y rfl (hI w3 gen last _ h3 hT (by omega))⟩)
  · refine (loads_two h2 hT (by omega) (by omega)).mono ?_
    rintro e w3 ⟨a, c, rfl, r3, b3⟩
    rw [if_neg (by omega)] at r3 ⊢
    rw [if_neg (by omega)]
    refine ⟨keepG_below b3, _, a, _, c, _, rfl, ?_⟩
    have h3 := h2.below b3
    have k2 : GSn.lfalls_k2 (fun u w' => u = .bool true ∧ Below w.heap.size w w') I μ x5 s6 k wi gen (strOf last) s9 hang ((gen + 1 : Nat) : Int) a under.length 0 w3 := by
      unfold GSn.lfalls_k2
      rw [hk1]
      refine br_n (by decide) (br_n (by omega) ?_)
      unfold GSn.lfalls_k1
      rw [hh, hk1]
      subst hs9
      exact br_f rfl (br_n (by rw [wr64 (by omega) (by omega)]; omega) ⟨under, rfl, r3, br_n (by simp) (hI w3 (gen + 1) under _ h3 hT (by omega))⟩)
    exact br_dec (fun _ => br_n (by decide) k2) fun _ => k2
theorem lfalls_walk (a : Option Addr) (c : Nat) (xs : List (Fl Im)) (w : World) (_hl : xs.length ≤ maxLen) (hx : RowsAt FlI 3 w a xs) : Calls Try.prog 7 #[.slice a xs.length c] w (Ret (.bool true) w) := by
  refine ret_in (GSn.lfalls_calls a xs.length c w (fun u w' => u = .bool true ∧ Below w.heap.size w w') ?_)
  unfold GSn.lfalls_vc
  refine d1_new 20 (by omega) (by omega) w fun g gl mb w2 h2 => ⟨_, _, rfl, callB h2.bs (snaps_ret w2) fun w3 b3 B3 => ⟨_, rfl, br_f rfl (br_n (by decide) ?_)⟩⟩
  have h3 := h2.below b3
  have h0 : atE (newS 20) ((2 : Nat) : Int) ((9 : Nat) : Int) = 0 := by decide
  have h20 := two_new (n := 20) (first := 2) (size := 9) (by omega) (by omega) h0
  rw [empty_str]
  refine ⟨fun x s y wx => ∃ (k gen : Nat) (S : DS) (last : List UInt8), x = gen ∧ s = strOf last ∧ y = k ∧ k ≤ 4 ∧ gen ≤ 5 * k ∧ D1 w wx g gl mb S ∧ Two S 2 9 gen last, fun _ _ y _ => (4 - y).toNat, ⟨0, 0, newS 20, [], rfl, rfl, rfl, by omega, by omega, h3, h20⟩, ?_⟩
  rintro x s y wx ⟨k, gen, S, last, rfl, rfl, rfl, hk, hgk, hD, hT⟩
  refine br_dec (fun hlt => br_dec (fun h4 => ?_) fun _ => ⟨rfl, hD.bs⟩) fun _ => ⟨rfl, hD.bs⟩
  obtain ⟨b, off, ha, hi⟩ := fli_get hx k (by omega) hD.bs
  refine withP_mk b off ha ⟨by omega, by omega, _, _, _, _, _, _, _, by rw [Int.toNat_natCast]; exact hi.cell, newB hD.bs fun g1 w5 g10 sg5 n5 z5 b5 B5 => boxB B5 g10 fun w6 x6 B6 z6 => ⟨by decide, ?_⟩⟩
  have hne : ∀ k ∈ [g, gl, mb], k ≠ g1 := fun k hk e => by have := hD.lt k hk; omega
  have h6 := (hD.below b5).box hne g10 x6
  have kg : ∀ {wa wb : World}, Fr [g, gl, mb] wa wb → KeepG [g1] wa wb := fun f => keepG_fr f fun q hq hm => by rw [List.mem_singleton] at hq; exact hne q hm hq
  obtain ⟨m, hm, em⟩ := u64_mod xs[k].off 14 (by omega)
  have em : Int.tmod (IntKind.u64.wrap xs[k].off) 14 = (m : Int) := em
  rw [em, wr64 (by omega) (by omega)]
  refine (dcut_any h6.t (m : Int)).mono ?_
  rintro e w7 ⟨rfl, t7, f7⟩
  have hT7 := hT.cut (n := (m : Int)) (by omega)
  have h7 := h6.to t7 f7 hT7.wf
  have hrow : Ims w xs[k].a xs[k].xs := by
    obtain ⟨b', off', _, hi'⟩ := fli_get hx k (by omega) (Bs.refl w)
    exact hi'.row
  have hkept : RowAt w xs[k].ka (xs[k].kept.map Value.bool) := by
    obtain ⟨b', off', _, hi'⟩ := fli_get hx k (by omega) (Bs.refl w)
    exact hi'.kept
  refine ⟨kg f7, rfl, ?_⟩
  refine ⟨fun x s s9 b10 y wx => ∃ (j gen' : Nat) (S' : DS) (last' under : List UInt8), x = gen' ∧ s = strOf last' ∧ s9 = strOf under ∧ y = j ∧ j ≤ 4 ∧ gen' ≤ gen + j ∧ D1 w wx g gl mb S' ∧ w7.heap.size ≤ wx.heap.size ∧
    ((b10 = false ∧ Two S' 2 9 gen' last') ∨ (b10 = true ∧ ∀ kept, Two (crashD S' kept) 2 9 gen' last' ∨ Two (crashD S' kept) 2 9 (gen' + 1) under)), fun _ _ _ _ y _ => (4 - y).toNat,
    ⟨0, gen, _, last, [], rfl, rfl, rfl, rfl, by omega, by omega, h7, Nat.le_refl _, .inl ⟨rfl, hT7⟩⟩, ?_⟩
  rintro x s s9 b10 y wx2 ⟨j, gen', S', last', under, rfl, rfl, rfl, rfl, hj, hgj, hD2, hz2, hc⟩
  have fin : GSn.lfalls_k3 (fun u w' => u = .bool true ∧ Below w.heap.size w w') (fun x s y wx => ∃ (k gen : Nat) (S : DS) (last : List UInt8), x = gen ∧ s = strOf last ∧ y = k ∧ k ≤ 4 ∧ gen ≤ 5 * k ∧ D1 w wx g gl mb S ∧ Two S 2 9 gen last) (fun _ _ y _ => (4 - y).toNat) (some ⟨g, 0, none⟩) (gen : Int) (strOf last) (k : Int) wx xs[k].ka xs[k].kept.length xs[k].kc g1 gen' (strOf last') (strOf under) b10 wx2 := by
    refine lfalls_k3_ok hD2 hk (by omega) hkept hne rfl ?_ fun wy g' l' S2 q1 q2 q3 => ⟨⟨k + 1, g', S2, l', rfl, rfl, rfl, by omega, by omega, q1, q2⟩, by omega⟩
    rcases hc with ⟨_, hT2⟩ | ⟨hb, hT2⟩
    · exact .inl (hT2.crash _)
    · exact (hT2 _).imp id fun q => ⟨hb, q⟩
  refine br_dec (fun hlt2 => br_dec (fun h42 => br_not ?_) fun _ => fin) fun _ => fin
  rcases hc with ⟨rfl, hT2⟩ | ⟨rfl, _⟩
  · refine br_f rfl ?_
    obtain ⟨b', off', ha', hi'⟩ := ims_get hrow j (by omega) hD2.bs
    refine withP_mk b' off' ha' ⟨by omega, by omega, _, _, _, by rw [Int.toNat_natCast]; exact cellsAt_get hi'.cell 0 _ rfl, ?_⟩
    refine (tame_new wx2 hi'.row hi'.cap).mono ?_
    rintro e w9 ⟨a9, c9, rfl, o9, b9⟩
    have h9 := hD2.below b9
    have hj1 : IntKind.i64.wrap ((j : Int) + 1) = ((j + 1 : Nat) : Int) := by rw [wr64 (by omega) (by omega)]; omega
    have hg1 : IntKind.i64.wrap ((gen' : Int) + 1) = ((gen' + 1 : Nat) : Int) := by rw [wr64 (by omega) (by omega)]; omega
    refine ⟨keepG_below b9, a9, _, c9, rfl, ?_⟩
    rw [hj1, hg1]
    have hlen := tame_len xs[k].xs[j].bs
    have hap := own_ap hD2 o9 (Nat.le_refl _)
    refine (save_any h9.t h9.wf o9.row (by omega) o9.cap.1 hap 2 9 ((gen' + 1 : Nat) : Int) (by decide) (by decide) (by decide) (by decide) (by omega)).mono ?_
    rintro e w10 ⟨rfl, t10, f10⟩
    have h10 := h9.to t10 f10 (h9.wf.save _ _ _ _)
    have hr10 := o9.row.frL f10 hap
    have z10 := f10.size
    have z9 := b9.size
    refine ⟨kg f10, _, rfl, callB h10.bs (doff_ret h10.t) fun w11 b11 B11 => ⟨_, rfl, ?_⟩⟩
    have z11 := b11.size
    rcases save_cases hT2.wf hT2.calm hT2.off hT2.at0 (gen := gen' + 1) (im := xs[k].xs[j].bs.take 500) (by omega) (by omega) (by omega) with ⟨e0, hs⟩ | ⟨e0, hl, hs⟩
    · have e0 : saveE S' 2 9 ((gen' + 1 : Nat) : Int) (xs[k].xs[j].bs.take 500) = 0 := e0
      have eo : (saveD S' 2 9 ((gen' + 1 : Nat) : Int) (xs[k].xs[j].bs.take 500)).off = false := hs.off
      rw [eo, e0]
      refine br_f rfl (br_y rfl (drewO_in fun w12 b12 e12 => ⟨_, rfl, (hr10.bs b11).bs b12, ⟨j + 1, gen' + 1, _, _, under, rfl, rfl, rfl, rfl, by omega, by omega, (h10.below b11).below b12, by have := b12.size; omega, .inl ⟨rfl, hT2.saved (hT2.wf.save _ _ _ _) hs⟩⟩, by dsimp only; omega⟩))
    · have eo : (saveD S' 2 9 ((gen' + 1 : Nat) : Int) (xs[k].xs[j].bs.take 500)).off = true := hs.off
      rw [eo]
      refine br_t rfl ⟨_, rfl, hr10.bs b11, ⟨j + 1, gen', _, last', _, rfl, rfl, rfl, rfl, by omega, by omega, h10.below b11, by omega, .inr ⟨rfl, fun kept => hT2.half (hT2.wf.save _ _ _ _) hs kept⟩⟩, by dsimp only; omega⟩
  · exact br_t rfl fin
end Go.Proofs.Ytpfmadinijofeaa
end
section
/- SnapSaves; walked. -/
namespace Go.Proofs.Ytpfmadinijofeaa
open Go.RowKit
theorem read_one {S : DS} (hW : DWf S) (hc : Calm S) (ho : S.off = false) {q : Nat} (hq : q < S.n) : mayE S (q : Int) 1 = 0 ∧ readL S (q : Int) 1 = S.last q := by
  have hm : mayE S (q : Int) 1 = 0 := by unfold mayE; rw [ho, if_neg (by decide), if_pos (by omega)]
  refine ⟨hm, ?_⟩
  unfold readL
  rw [if_pos hm, Int.toNat_natCast]
  show readS S q 1 = _
  rw [← hc.now q, ← readS_take hW (first := q) (n := 1) (by omega), List.take_of_length_le (by rw [readS_len hW]; omega)]
theorem read_body {S : DS} (hc : Calm S) (ho : S.off = false) {q : Nat} {im : List UInt8} (hq : q + 1 + (im.length + 63) / 64 ≤ S.n) (hb : ∀ i, i < (im.length + 63) / 64 → S.last (q + 1 + i) = pieceB (bodyB im) i) :
    mayE S ((q : Int) + 1) (((im.length + 63) / 64 : Nat) : Int) = 0 ∧ readL S ((q : Int) + 1) (((im.length + 63) / 64 : Nat) : Int) = bodyB im := by
  have hm : mayE S ((q : Int) + 1) (((im.length + 63) / 64 : Nat) : Int) = 0 := by unfold mayE; rw [ho, if_neg (by decide), if_pos (by omega)]
  refine ⟨hm, ?_⟩
  unfold readL
  rw [if_pos hm, Int.toNat_natCast, show ((q : Int) + 1).toNat = q + 1 by omega, readS_pieces (fun i hi => by rw [hc.now]; exact hb i hi) (by rw [bodyB_len]; omega), List.take_of_length_le (by rw [bodyB_len]; omega)]
theorem dirty_calm {S : DS} (hc : Calm S) : dirtyI S = [] := by
  have : dirtyL S = [] := by
    unfold dirtyL
    rw [List.filter_eq_nil_iff]
    intro i _
    unfold dirtyS
    rw [hc i]
    decide
  unfold dirtyI
  rw [this]
  rfl
theorem load_there {S : DS} {first size : Int} {s g : Int} {im : List UInt8} (h0 : atE S first size = 0) (ho : S.off = false) (hs : s = 0 ∨ s = 1) (h : slotR S first size s = some (g, im)) : loadE S first size = 0 := by
  unfold loadE
  rw [if_neg (not_not_intro h0), ho, if_neg (by decide), if_neg]
  intro e
  have hg := (slotG_gen h).2.1
  have he := bestK_gen.1 e
  have q0 := genO_pos (S := S) (first := first) (size := size) (slot := 0)
  unfold bestR at he
  rcases hs with rfl | rfl
  · rw [h] at he
    have : genO (some (g, im)) = g := rfl
    split at he
    · rename_i hq; rw [this] at hq; omega
    · rw [this] at he; omega
  · rw [h] at he
    have : genO (some (g, im)) = g := rfl
    split at he
    · rw [this] at he; omega
    · rename_i hq; rw [this] at hq; omega
theorem lsaves_walk (x0 first size gen : Int) (a : Option Addr) (c : Nat) (bs : List UInt8) (w : World) (h1 : -9223372036854775808 ≤ first ∧ first ≤ 9223372036854775807) (h3 : -9223372036854775808 ≤ size ∧ size ≤ 9223372036854775807) (h5 : gen ≤ 9223372036854775807) (hr : RowAt w a (bs.map bV)) (hcap : bs.length ≤ c) :
    Calls Try.prog 6 #[.int .i64 x0, .agg #[.int .i64 first, .int .i64 size, .int .i64 gen], .slice a bs.length c] w (Ret (.bool true) w) := by
  refine ret_in (GSn.lsaves_calls x0 first size gen a bs.length c w (fun u w' => u = .bool true ∧ Below w.heap.size w w') ?_)
  unfold GSn.lsaves_vc
  obtain ⟨m, hm, em⟩ := u64_mod x0 24 (by omega)
  have em : Int.tmod (IntKind.u64.wrap x0) 24 = (m : Int) := em
  rw [em, wr64 (z := (m : Int)) (by omega) (by omega)]
  obtain ⟨n, hn⟩ : ∃ n : Nat, n = m + 1 := ⟨_, rfl⟩
  have hn2 : IntKind.i64.wrap (1 + (m : Int)) = (n : Int) := by rw [wr64 (by omega) (by omega)]; omega
  rw [hn2]
  have htd : Int.tdiv (n : Int) 2 = (n : Int) / 2 := Int.tdiv_eq_ediv_of_nonneg (by omega)
  rw [htd, wr64 (z := (n : Int) / 2) (by omega) (by omega)]
  refine newB (Bs.refl w) fun g0 w2 g00 sg0 n2 z2 b2 B2 => ⟨by decide, ?_⟩
  refine (dnew_new n (by omega) (by omega) w2).mono ?_
  rintro e w3 ⟨g, gl, mb, rfl, t3, gg, ggl, gmb, b3⟩
  have h3' : D1 w w3 g gl mb (newS n) := ⟨t3, newS_wf (by omega) (by omega), B2.to b3, fun k hk => by simp at hk; omega⟩
  have hk0 : ∀ k ∈ [g, gl, mb], k ≠ g0 := fun k hk e => by simp at hk; omega
  refine ⟨keepG_below b3, _, _, rfl, (tame_new w3 (hr.bs h3'.bs) hcap).mono ?_⟩
  rintro e w4 ⟨a4, c4, rfl, o4, b4⟩
  have h4 := h3'.below b4
  have hlen := tame_len bs
  generalize bs.take 500 = im at o4 hlen
  refine ⟨keepG_below b4, a4, _, c4, rfl, im, rfl, o4.row, drewO_in fun w5 b5 e5 => ?_⟩
  have h5' := h4.below b5
  have o5 := o4.below b5 (Nat.le_refl _)
  have hap := own_ap h3' o5 (Nat.le_refl _)
  refine (save_any h5'.t h5'.wf o5.row (by omega) o5.cap.1 hap first size gen h1.1 h1.2 h3.1 h3.2 h5).mono ?_
  rintro e w6 ⟨rfl, t6, f6⟩
  have hWT : DWf (saveD (newS n) first size gen im) := h5'.wf.save _ _ _ _
  have h6 := h5'.to t6 f6 hWT
  have r6 := o5.row.frL f6 hap
  refine ⟨keepG_fr f6 (fun q hq hm => by rw [List.mem_singleton] at hq; exact hk0 q hm hq), _, rfl, ?_⟩
  refine (load_new h6.t h6.wf first size h1.1 h1.2 h3.1 h3.2).mono ?_
  rintro e w7 ⟨a7, c7, rfl, o7, b7⟩
  have h7 := h6.below b7
  have r7 := r6.bs b7
  refine ⟨keepG_below b7, _, a7, _, c7, _, rfl, (gens_ret h7.t h7.wf first size h1.1 h1.2 h3.1 h3.2).mono ?_⟩
  rintro e w8 ⟨rfl, b8⟩
  have h8 := h7.below b8
  have r8 := r7.bs b8
  refine ⟨keepG_below b8, _, _, _, _, _, rfl, newB h8.bs fun g2 w9 g20 sg2 n9 z9 b9 B9 => newB B9 fun g3 w10 g30 sg3 n10 z10 b10 B10 => boxB B10 g20 fun w11 x11 B11 z11 => boxB B11 g30 fun w12 x12 B12 z12 => ?_⟩
  have hb : ∀ {wa wb : World} {gx : Nat}, D1 w wa g gl mb (saveD (newS n) first size gen im) → w8.heap.size ≤ gx → BoxSt gx wa wb → D1 w wb g gl mb (saveD (newS n) first size gen im) := fun hq hgx x => hq.box (fun k hk e => by have := h8.lt k hk; omega) (by have := h8.bs.size; omega) x
  have h12 := hb (hb ((h8.below b9).below b10) (by omega) x11) (by have := b9.size; omega) x12
  have rb : ∀ {wa wb : World} {gx : Nat}, RowAt wa a4 (im.map bV) → w8.heap.size ≤ gx → BoxSt gx wa wb → RowAt wb a4 (im.map bV) := fun hq hgx x => hq.frL x.1 fun q hq2 hm => by
    subst hq2
    have q1 := (o5.lt q.block rfl).2
    have q2 := f6.size
    have q3 := b7.size
    have q4 := b8.size
    rw [List.mem_singleton] at hm
    omega
  have r12 := rb (rb ((r8.bs b9).bs b10) (by omega) x11) (by have := b9.size; omega) x12
  refine callB B12 (load_nil 0 1 w12) fun w13 b13 B13 => ⟨_, _, _, _, _, rfl, callB B13 (gens_nil 0 1 w13) fun w14 b14 B14 => ⟨_, _, _, _, _, rfl, newB B14 fun g4 w15 g40 sg4 n15 z15 b15 B15 => newB B15 fun g5 w16 g50 sg5 n16 z16 b16 B16 => boxB B16 g40 fun w17 x17 B17 z17 => boxB B17 g50 fun w18 x18 B18 z18 => ?_⟩⟩
  have s12 : w8.heap.size ≤ w12.heap.size := by have := b9.size; have := b10.size; omega
  have s14 : w8.heap.size ≤ w14.heap.size := by have := b13.size; have := b14.size; omega
  have h18 := hb (hb ((((h12.below b13).below b14).below b15).below b16) (by omega) x17) (by have := b15.size; omega) x18
  have r18 := rb (rb ((((r12.bs b13).bs b14).bs b15).bs b16) (by omega) x17) (by have := b15.size; omega) x18
  refine callB B18 (snaps_ret w18) fun w19 b19 B19 => ⟨_, rfl, br_f rfl (br_n (by decide) ⟨im, rfl, r18.bs b19, br_n (fun e => e rfl) (br_n (by decide) (br_n (by decide) ?_))⟩)⟩
  refine callB B19 (save_nil 0 1 1 w19) fun w20 b20 B20 => ⟨_, rfl, br_n (by decide) ?_⟩
  refine callB B20 (room_ret size w20) fun w21 b21 B21 => ⟨_, rfl, callB B21 (rroom_ret size w21) fun w22 b22 B22 => ⟨_, rfl, br_n (fun e => e rfl) ?_⟩⟩
  have h22 := (((h18.below b19).below b20).below b21).below b22
  clear hb rb r18 r12 r8 r7 r6
  have hnn : (newS n).n = n := rfl
  rcases (Decidable.em (atE (newS n) first size = 0)).symm with q0 | q0
  · have q1 := atE_one q0
    have hT : saveD (newS n) first size gen im = newS n := by unfold saveD; rw [if_pos q0]
    have v1 : saveE (newS n) first size gen im = 1 := by unfold saveE; rw [if_pos q0]
    have v2 : loadE (newS n) first size = 1 := by unfold loadE; rw [if_pos q0]
    have v3 : gensE (newS n) first size = 1 := by unfold gensE; rw [if_pos q0]
    rw [hT, v1, v2, v3]
    have hbad : first < 0 ∨ size < 1 ∨ size > (n : Int) / 2 ∨ first > (n : Int) - 2 * size := by
      unfold atE at q1
      split at q1
      · assumption
      · cases q1
    have fin : br (decide ((1 : Int) = 1)) (br (decide ((1 : Int) = 1)) (Value.bool (decide ((1 : Int) = 1)) = .bool true ∧ Below w.heap.size w w22) (Value.bool false = .bool true ∧ Below w.heap.size w w22)) (Value.bool false = .bool true ∧ Below w.heap.size w w22) := br_y rfl (br_y rfl ⟨rfl, B22⟩)
    refine br_dec (fun _ => fin) fun t1 => br_dec (fun _ => fin) fun t2 => ⟨by decide, br_dec (fun _ => fin) fun t3 => ?_⟩
    rw [wr64 (z := 2 * size) (by omega) (by omega), wr64 (z := (n : Int) - 2 * size) (by omega) (by omega)]
    exact br_dec (fun _ => fin) fun t4 => absurd hbad (by omega)
  obtain ⟨p1, p2, p3, p4⟩ := atE_zero q0
  rw [hnn] at p3 p4
  refine br_n (by omega) (br_n (by omega) ⟨by decide, br_n (by omega) ?_⟩)
  rw [wr64 (z := 2 * size) (by omega) (by omega), wr64 (z := (n : Int) - 2 * size) (by omega) (by omega)]
  refine br_n (by omega) ?_
  obtain ⟨fi, rfl⟩ : ∃ k : Nat, first = (k : Int) := ⟨first.toNat, by omega⟩
  obtain ⟨si, rfl⟩ : ∃ k : Nat, size = (k : Int) := ⟨size.toNat, by omega⟩
  have h2 := two_new (n := n) (first := fi) (size := si) (by omega) (by omega) q0
  obtain ⟨l1, l2, l3⟩ := h2.load.1 rfl
  have ge0 := (gens_two h2).1
  refine br_dec (fun q1 => ?_) fun q1 => ?_
  · have hT : saveD (newS n) fi si gen im = newS n := by unfold saveD; rw [if_neg (not_not_intro q0), if_pos q1]
    have v1 : saveE (newS n) fi si gen im = 1 := by unfold saveE; rw [if_neg (not_not_intro q0), if_pos q1]
    rw [hT, v1, l1, ge0]
    exact br_y rfl (br_y rfl ⟨rfl, B22⟩)
  refine callB B22 (rroom_ret si w22) fun w23 b23 B23 => ⟨_, rfl, ?_⟩
  rw [strOf_size]
  refine br_dec (fun q2 => ?_) fun q2 => ⟨by decide, ?_⟩
  · have hT : saveD (newS n) fi si gen im = newS n := by unfold saveD; rw [if_neg (not_not_intro q0), if_neg q1, if_pos q2]
    have v1 : saveE (newS n) fi si gen im = 5 := by unfold saveE; rw [if_neg (not_not_intro q0), if_neg q1, if_pos q2]
    rw [hT, v1, l1, ge0]
    exact br_y rfl (br_y rfl ⟨rfl, B23⟩)
  obtain ⟨gn, rfl⟩ : ∃ k : Nat, gen = (k : Int) := ⟨gen.toNat, by omega⟩
  have hroom : roomZ si ≤ 64 * ((si : Int) - 1) := by unfold roomZ; split <;> omega
  rcases (save_cases h2.wf h2.calm h2.off q0 (gen := gn) (im := im) (by omega) (by omega) (by omega)).symm with ⟨_, hl, _⟩ | ⟨e0, hs⟩
  · exact absurd hl (by show ¬ (0 : Int) < 0; decide)
  have h23 := h22.below b23
  rw [e0]
  generalize saveD (newS n) fi si gn im = T at *
  have hq : fi + gn % 2 * si + si ≤ n := by
    have : gn % 2 = 0 ∨ gn % 2 = 1 := by omega
    rcases this with e | e <;> rw [e] <;> omega
  have eq : IntKind.i64.wrap ((fi : Int) + IntKind.i64.wrap (Int.tmod (gn : Int) 2 * (si : Int))) = ((fi + gn % 2 * si : Nat) : Int) := by
    rw [Int.tmod_eq_emod_of_nonneg (by omega)]
    have : gn % 2 = 0 ∨ gn % 2 = 1 := by omega
    rcases this with e | e
    · rw [show (gn : Int) % 2 = 0 by omega, e, wr64 (z := 0 * (si : Int)) (by omega) (by omega), wr64 (by omega) (by omega)]; omega
    · rw [show (gn : Int) % 2 = 1 by omega, e, wr64 (z := 1 * (si : Int)) (by omega) (by omega), wr64 (by omega) (by omega)]; omega
  rw [eq]
  have hat : atE T fi si = 0 := by
    have := q0
    unfold atE at this ⊢
    rw [hs.n]
    exact this
  have hle : loadE T fi si = 0 := by
    refine load_there (s := ((gn % 2 : Nat) : Int)) hat hs.off (by omega) (g := gn) (im := im) ?_
    unfold slotR
    rw [show (fi : Int) + ((gn % 2 : Nat) : Int) * si = ((fi + gn % 2 * si : Nat) : Int) by rw [Int.natCast_add, Int.natCast_mul], show ((gn % 2 : Nat) : Int) = (gn : Int) % 2 by omega]
    exact hs.there
  have hge : gensE T fi si = 0 := by unfold gensE; rw [if_neg (not_not_intro hat), hs.off]; rfl
  rw [hle, hge]
  generalize fi + gn % 2 * si = q at hs hq
  have hTn : T.n = n := hs.n
  have hbm : (im.length + 63) / 64 ≤ si - 1 := by omega
  obtain ⟨m1, rd1⟩ := read_one h23.wf hs.calm hs.off (q := q) (by omega)
  obtain ⟨m2, rd2⟩ := read_body hs.calm hs.off (q := q) (im := im) (by omega) hs.body
  rw [hs.head] at rd1
  refine (dread_new h23.t h23.wf (q : Int) 1).mono ?_
  rintro e w24 ⟨a24, n24, c24, rfl, rfl, o24, b24⟩
  rw [rd1] at o24 ⊢
  rw [m1]
  have h24 := h23.below b24
  refine ⟨keepG_below b24, a24, _, c24, _, rfl, callB h24.bs (rbody_ret im (by omega) w24) fun w25 b25 B25 => ⟨_, rfl, by decide, ?_⟩⟩
  have h25 := h24.below b25
  have hbl : Int.tdiv (((strOf (bodyB im)).size : Nat) : Int) 64 = (((im.length + 63) / 64 : Nat) : Int) := by rw [strOf_size, bodyB_len, tdiv64]; omega
  rw [hbl, wr64 (z := (q : Int) + 1) (by omega) (by omega), wr64 (by omega) (by omega)]
  refine (dread_new h25.t h25.wf ((q : Int) + 1) (((im.length + 63) / 64 : Nat) : Int)).mono ?_
  rintro e w26 ⟨a26, n26, c26, rfl, rfl, o26, b26⟩
  rw [rd2] at o26 ⊢
  rw [m2]
  have h26 := h25.below b26
  have o26' := o24.below (b25.trans (b26.mono b25.size)) (Nat.le_refl _)
  refine ⟨keepG_below b26, a26, _, c26, _, rfl, drewB h26.bs fun w27 b27 B27 e27 => br_y rfl (br_y rfl (br_y rfl (br_y rfl (br_y rfl ?_))))⟩
  have h27 := h26.below b27
  have ra := (o26'.below b27 (Nat.le_refl _)).row
  have rb := (o26.below b27 (Nat.le_refl _)).row
  refine ⟨headK gn im, rfl, ra, callB B27 (rhead_ret gn (by omega) im (by omega) w27) fun w28 b28 B28 => ⟨_, rfl, ra.bs b28, br_y rfl ⟨bodyB im, rfl, rb.bs b28, callB B28 (rbody_ret im (by omega) w28) fun w29 b29 B29 => ⟨_, rfl, (rb.bs b28).bs b29, br_y rfl ?_⟩⟩⟩⟩
  have h29 := (h27.below b28).below b29
  refine (ddirty_new h29.t h29.wf).mono ?_
  rintro e w30 ⟨a30, n30, c30, rfl, rfl, o30, b30⟩
  rw [dirty_calm hs.calm]
  exact ⟨keepG_below b30, a30, _, c30, rfl, rfl, B29.to b30⟩
end Go.Proofs.Ytpfmadinijofeaa
end
section
/- SnapLoads; walked. -/
namespace Go.Proofs.Ytpfmadinijofeaa
open Go.RowKit
/-- 'copy' of bytes to a block of bytes. -/
theorem cpyB {w : World} {g m : Nat} {t : TypeId} {zs bs : List UInt8} {a : Option Addr} {gs : List Nat} {K : World → Prop} (h : Bk w g (zs.map bV).toArray t) (hm : zs.length = m) (hr : RowAt w a (bs.map bV)) (hg : ∀ x ∈ gs, x ≠ g)
    (k : ∀ w1 (ys : List UInt8), ys.length = m → Bk w1 g (ys.map bV).toArray t → Fr [g] w w1 → w1.heap.size = w.heap.size → K w1) : cpyO gs w 1 (some ⟨g, 0, none⟩) m a bs.length K := by
  by_cases h0 : Nat.min bs.length m = 0
  · exact .inl ⟨h0, k w zs hm h (Fr.refl _ _) rfl⟩
  · have hb : 0 < bs.length := by
      rcases Nat.eq_zero_or_pos bs.length with e | e
      · exact absurd (by rw [e]; exact Nat.zero_min m) h0
      · exact e
    rcases hr with hr | ⟨b, off, rfl, hc⟩
    · have : bs = [] := by simpa using hr
      subst this
      exact absurd hb (by simp)
    · refine .inr ⟨(bs.take m).map bV, ⟨b, off, none⟩, g, 0, by rw [List.length_map, List.length_take, Nat.mul_one]; exact Nat.min_comm _ _, fun v hv => by obtain ⟨x, _, rfl⟩ := List.mem_map.1 hv; rfl, rfl, fun j v hv => ?_, rfl, ?_⟩
      · rw [Addr.add_lit]
        refine hc j v ?_
        rw [List.getElem?_map] at hv ⊢
        rw [List.getElem?_take] at hv
        split at hv
        · exact hv
        · cases hv
      · refine stO_part h (by simp; omega) hg fun w1 h1 f1 z1 => k w1 (bs.take m ++ zs.drop (bs.take m).length) ?_ ?_ f1 z1
        · rw [List.length_append, List.length_drop, List.length_take]; omega
        · have e : (setL ((zs.map bV).toArray).toList 0 ((bs.take m).map bV)).toArray = ((bs.take m ++ zs.drop (bs.take m).length).map bV).toArray := by
            congr 1
            apply List.ext_getElem?
            intro i
            rw [setL_get _ _ _ _ (by simp; omega), Nat.sub_zero, Nat.zero_add, List.map_append, List.length_map]
            by_cases hi : i < (bs.take m).length
            · rw [if_pos ⟨Nat.zero_le _, hi⟩, List.getElem?_append_left (by rw [List.length_map]; exact hi)]
            · rw [if_neg (by omega), List.getElem?_append_right (by rw [List.length_map]; omega), List.length_map, List.map_drop, List.getElem?_drop, Nat.add_sub_cancel' (by omega)]
          rw [e] at h1
          exact h1
theorem write_still {S : DS} (hL : S.left ≤ 0) (p : Int) (b : List UInt8) : (writeD S p b).off = S.off ∧ (writeD S p b).n = S.n := by
  unfold writeD
  split
  · exact ⟨(wrS_left S _ _ _ hL).2, wrS_n _ _ _ _⟩
  · exact ⟨rfl, rfl⟩
theorem lloads_k3_ok {w wx : World} {g gl mb g1 : Nat} {S : DS} (h : D1 w wx g gl mb S) (hn : S.n = 12) (ho : S.off = false) : GSn.lloads_k3 (fun u w' => u = .bool true ∧ Below w.heap.size w w') g1 (some ⟨g, 0, none⟩) wx := by
  unfold GSn.lloads_k3
  have hat : atE S 0 6 = 0 := by unfold atE; rw [hn]; decide
  have m0 : mayE S 0 6 = 0 := by unfold mayE; rw [ho, hn]; decide
  have m1 : mayE S 6 6 = 0 := by unfold mayE; rw [ho, hn]; decide
  have len : ∀ q, mayE S q 6 = 0 → (readL S q 6).length = 6 * 64 := fun q hq => by unfold readL; rw [if_pos hq, readS_len h.wf]; rfl
  have s0 : slotR S 0 6 0 = slotG (readL S 0 6) 6 0 := rfl
  have s1 : slotR S 0 6 1 = slotG (readL S 6 6) 6 1 := rfl
  have hno : ¬ (atE S 0 6 ≠ 0 ∨ S.off = true) := by rw [hat, ho]; simp
  have ve : gensE S 0 6 = 0 := by unfold gensE; rw [if_neg (not_not_intro hat), ho]; rfl
  have v0 : gensG S 0 6 0 = genO (slotR S 0 6 0) := by unfold gensG; rw [if_neg hno]
  have v1 : gensG S 0 6 1 = genO (slotR S 0 6 1) := by unfold gensG; rw [if_neg hno]
  have l0 : loadE S 0 6 = if bestR S 0 6 = none then 7 else 0 := by unfold loadE; rw [if_neg (not_not_intro hat), ho]; rfl
  have l1 : loadG S 0 6 = genO (bestR S 0 6) := by unfold loadG; rw [if_neg hno]
  have l2 : loadI S 0 6 = imO (bestR S 0 6) := by unfold loadI; rw [if_neg hno]
  refine (dread_new h.t h.wf 0 6).mono ?_
  rintro e w2 ⟨a2, n2, c2, rfl, rfl, o2, b2⟩
  have h2 := h.below b2
  refine ⟨keepG_below b2, a2, _, c2, _, rfl, (dread_new h2.t h2.wf 6 6).mono ?_⟩
  rintro e w3 ⟨a3, n3, c3, rfl, rfl, o3, b3⟩
  have h3 := h2.below b3
  refine ⟨keepG_below b3, a3, _, c3, _, rfl, (load_new h3.t h3.wf 0 6 (by decide) (by decide) (by decide) (by decide)).mono ?_⟩
  rintro e w4 ⟨a4, c4, rfl, o4, b4⟩
  have h4 := h3.below b4
  refine ⟨keepG_below b4, _, a4, _, c4, _, rfl, (gens_ret h4.t h4.wf 0 6 (by decide) (by decide) (by decide) (by decide)).mono ?_⟩
  rintro e w5 ⟨rfl, b5⟩
  have h5 := h4.below b5
  refine ⟨keepG_below b5, _, _, _, _, _, rfl, newB h5.bs fun g2 w6 g20 sg2 n6 z6 b6 B6 => newB B6 fun g3 w7 g30 sg3 n7 z7 b7 B7 => boxB B7 g20 fun w8 x8 B8 z8 => boxB B8 g30 fun w9 x9 B9 z9 => ?_⟩
  have s6 := b6.size
  have far : ∀ {wa : World} {ax : Option Addr} {vs : List Value}, RowAt wa ax vs → (∀ q, ax = some q → q.block < w5.heap.size) → Bs wa w7 → RowAt w9 ax vs := fun r hq B => ((r.bs B).frL x8.1 fun q e hm => by have := hq q e; rw [List.mem_singleton] at hm; omega).frL x9.1 fun q e hm => by have := hq q e; rw [List.mem_singleton] at hm; omega
  have z3 := b3.size
  have z4 := b4.size
  have z5 := b5.size
  have r2 : RowAt w9 a2 ((readL S 0 6).map bV) := far o2.row (fun q e => by subst e; have := (o2.lt q.block rfl).2; omega) (((((Bs.refl w2).to b3).to b4).to b5).to b6 |>.to b7)
  have r3 : RowAt w9 a3 ((readL S 6 6).map bV) := far o3.row (fun q e => by subst e; have := (o3.lt q.block rfl).2; omega) ((((Bs.refl w3).to b4).to b5).to b6 |>.to b7)
  have r4 : RowAt w9 a4 ((loadI S 0 6).map bV) := far o4.row (fun q e => by subst e; have := (o4.lt q.block rfl).2; omega) (((Bs.refl w4).to b5).to b6 |>.to b7)
  refine ⟨readL S 0 6, rfl, r2, (rhas_any (readL S 0 6) 6 (by omega) (by omega) (len 0 m0) 0 w9).mono ?_⟩
  rintro e w10 ⟨⟨v, rfl, p, u, rfl, hu⟩, b10⟩
  have hu : ∀ q, slotR S 0 6 0 = some q → q = (p, u) := hu
  refine ⟨keepG_below b10, _, _, _, rfl, readL S 6 6, rfl, r3.bs b10, (rhas_any (readL S 6 6) 6 (by omega) (by omega) (len 6 m1) 1 w10).mono ?_⟩
  rintro e w11 ⟨⟨v, rfl, q, y, rfl, hy⟩, b11⟩
  have hy : ∀ x, slotR S 0 6 1 = some x → x = (q, y) := hy
  have B11 := (B9.to b10).to b11
  have r4 := (r4.bs b10).bs b11
  rw [m0, m1, ve, v0, v1, l0, l1, l2]
  rw [l2] at r4
  refine ⟨keepG_below b11, _, _, _, rfl, br_n (by decide) (br_n (by decide) (br_n (by decide) ?_))⟩
  have q0 : (slotG (readL S 0 6) (6 : Nat) 0).isSome = decide (genO (slotR S 0 6 0) > 0) := by
    show (slotR S 0 6 0).isSome = _
    obtain ⟨g1, g2⟩ := genO_pos (S := S) (first := 0) (size := 6) (slot := 0)
    cases hs : slotR S 0 6 0 with
    | none => rfl
    | some x => rw [hs] at g1 g2; exact (decide_eq_true (by have : ¬ genO (some x) = 0 := fun e => (by cases g2.2 e); omega)).symm
  have q1 : (slotG (readL S 6 6) (6 : Nat) 1).isSome = decide (genO (slotR S 0 6 1) > 0) := by
    show (slotR S 0 6 1).isSome = _
    obtain ⟨g1, g2⟩ := genO_pos (S := S) (first := 0) (size := 6) (slot := 1)
    cases hs : slotR S 0 6 1 with
    | none => rfl
    | some x => rw [hs] at g1 g2; exact (decide_eq_true (by have : ¬ genO (some x) = 0 := fun e => (by cases g2.2 e); omega)).symm
  have i0 : (slotG (readL S 0 6) (6 : Nat) 0).isSome = (slotR S 0 6 0).isSome := rfl
  have i1 : (slotG (readL S 6 6) (6 : Nat) 1).isSome = (slotR S 0 6 1).isSome := rfl
  refine br_f (by rw [q0, q1]; simp) ?_
  rw [i0, i1]
  clear q0 q1 i0 i1 s0 s1
  have hbest : bestR S 0 6 = if genO (slotR S 0 6 1) > genO (slotR S 0 6 0) then slotR S 0 6 1 else slotR S 0 6 0 := rfl
  have p0 := (genO_pos (S := S) (first := 0) (size := 6) (slot := 0)).1
  have p1 := genO_pos (S := S) (first := 0) (size := 6) (slot := 1)
  have par0 : ∀ x, slotR S 0 6 0 = some x → x.1 % 2 = 0 := fun x hx => (slotG_gen (g := x.1) (im := x.2) hx).2.2.1
  have par1 : ∀ x, slotR S 0 6 1 = some x → x.1 % 2 = 1 := fun x hx => (slotG_gen (g := x.1) (im := x.2) hx).2.2.1
  generalize slotR S 0 6 0 = A at *
  generalize slotR S 0 6 1 = C at *
  have k2 : (∀ x, A = some x → x = (p, u)) → (∀ x, C = some x → x = (q, y)) → GSn.lloads_k2 (fun u w' => u = .bool true ∧ Below w.heap.size w w') (genO (bestR S 0 6)) a4 (imO (bestR S 0 6)).length (if bestR S 0 6 = none then 7 else 0) p (strOf u) A.isSome q (strOf y) C.isSome w11 := fun hu hy => by
    unfold GSn.lloads_k2 GSn.lloads_k1
    cases A with
    | none => cases C with
      | none =>
        rw [hbest]
        exact br_f rfl (br_f rfl (br_y rfl (br_y rfl ⟨rfl, B11⟩)))
      | some x =>
        obtain rfl := hy x rfl
        have hq : q > 0 := by
          have := p1.1
          have h2 : ¬ genO (some (q, y)) = 0 := fun e => (by cases p1.2.2 e)
          have h3 : genO (some (q, y)) = q := rfl
          omega
        have hb : bestR S 0 6 = some (q, y) := by rw [hbest, if_pos (by show q > 0; exact hq)]
        rw [hb] at r4 ⊢
        exact br_f rfl (br_t rfl (br_y rfl (br_y rfl ⟨y, rfl, r4, by rw [decide_eq_true rfl], B11⟩)))
    | some z =>
      obtain rfl := hu z rfl
      have e1 : genO (some (p, u)) = p := rfl
      cases C with
      | none =>
        have hb : bestR S 0 6 = some (p, u) := by rw [hbest, if_neg (by rw [e1] at p0 ⊢; show ¬ (0 : Int) > p; omega)]
        rw [hb] at r4 ⊢
        exact br_t rfl (br_t rfl (br_y rfl (br_y rfl ⟨u, rfl, r4, by rw [decide_eq_true rfl], B11⟩)))
      | some x =>
        obtain rfl := hy x rfl
        have e2 : genO (some (q, y)) = q := rfl
        refine br_t rfl (br_f rfl (br_dec (fun hpq => ?_) fun hpq => br_t rfl ?_))
        · have hb : bestR S 0 6 = some (p, u) := by rw [hbest, e1, e2, if_neg (by omega)]
          rw [hb] at r4 ⊢
          exact br_y rfl (br_y rfl ⟨u, rfl, r4, by rw [decide_eq_true rfl], B11⟩)
        · by_cases he : q > p
          · have hb : bestR S 0 6 = some (q, y) := by rw [hbest, e1, e2, if_pos he]
            rw [hb] at r4 ⊢
            exact br_y rfl (br_y rfl ⟨y, rfl, r4, by rw [decide_eq_true rfl], B11⟩)
          · have h1 : p % 2 = 0 := par0 _ rfl
            have h2 : q % 2 = 1 := par1 _ rfl
            omega
  have k2 := k2 hu hy
  clear r4
  cases A with
  | none => cases C with
    | none => exact br_f rfl (br_f rfl (br_t rfl (br_n (fun e => e rfl) (br_t rfl (br_n (fun e => e rfl) k2)))))
    | some x =>
      obtain rfl := hy x rfl
      exact br_f rfl (br_t rfl (br_n (fun e => e rfl) (br_t rfl (br_n (fun e => e rfl) (br_f rfl k2)))))
  | some z =>
    obtain rfl := hu z rfl
    cases C with
    | none => exact br_t rfl (br_n (fun e => e rfl) (br_f rfl (br_f rfl (br_t rfl (br_n (fun e => e rfl) k2)))))
    | some x =>
      obtain rfl := hy x rfl
      exact br_t rfl (br_n (fun e => e rfl) (br_t rfl (br_n (fun e => e rfl) (br_f rfl (br_f rfl k2)))))
theorem made_zero64 : (madeCells (Value.cells (.int .u8 0)) ((64 : Int).toNat * 1)) = ((zerosB 64).map bV).toArray := made_zeros 64
theorem lloads_walk (a0 : Option Addr) (c0 : Nat) (bs0 : List UInt8) (a1 : Option Addr) (c1 : Nat) (b1 : List UInt8) (a2 : Option Addr) (c2 : Nat) (b2 : List UInt8) (x2 : Int) (w : World) (h0 : RowAt w a0 (bs0.map bV)) (h1 : RowAt w a1 (b1.map bV)) (h2 : RowAt w a2 (b2.map bV)) (k1 : b1.length ≤ c1) (k2 : b2.length ≤ c2) :
    Calls Try.prog 3 #[.slice a0 bs0.length c0, .agg #[.slice a1 b1.length c1, .slice a2 b2.length c2], .int .i64 x2] w (Ret (.bool true) w) := by
  refine ret_in (GSn.lloads_calls a0 bs0.length c0 a1 b1.length c1 a2 b2.length c2 x2 w (fun u w' => u = .bool true ∧ Below w.heap.size w w') ?_)
  unfold GSn.lloads_vc
  refine newB (Bs.refl w) fun g1 w3 g10 sg1 n3 z3 b3 B3 => ?_
  refine (dnew_new 12 (by omega) (by omega) w3).mono ?_
  rintro e w4 ⟨g, gl, mb, rfl, t4, gg, ggl, gmb, b4⟩
  have h4 : D1 w w4 g gl mb (newS 12) := ⟨t4, newS_wf (by omega) (by omega), B3.to b4, fun k hk => by simp at hk; omega⟩
  have hk0 : ∀ k ∈ [g, gl, mb], k ≠ g1 := fun k hk e => by simp at hk; omega
  have kg : ∀ {wa wb : World}, Fr [g, gl, mb] wa wb → KeepG [g1] wa wb := fun f => keepG_fr f fun q hq hm => by rw [List.mem_singleton] at hq; exact hk0 q hm hq
  refine ⟨keepG_below b4, _, _, rfl, callB h4.bs (snaps_ret w4) fun w5 b5 B5 => ⟨_, rfl, br_f rfl (br_n (by decide) (drewO_in fun w6 b6 e6 => ⟨by decide, ?_⟩))⟩⟩
  have h6 := (h4.below b5).below b6
  obtain ⟨m1, hm1, em1⟩ := u64_mod x2 3 (by omega)
  have em1 : Int.tmod (IntKind.u64.wrap x2) 3 = (m1 : Int) := em1
  obtain ⟨m2, hm2, em2⟩ := u64_mod x2 2 (by omega)
  have em2 : Int.tmod (IntKind.u64.wrap x2) 2 = (m2 : Int) := em2
  rw [em1, em2, wr64 (z := (m1 : Int)) (by omega) (by omega), wr64 (z := (m2 : Int)) (by omega) (by omega), wr64 (z := 1 + (m1 : Int)) (by omega) (by omega), wr64 (z := 2 + (m2 : Int)) (by omega) (by omega)]
  have hat : atE (newS 12) ((0 : Nat) : Int) ((6 : Nat) : Int) = 0 := by decide
  -- one image
  have one : ∀ (bs : List UInt8) {wa wb : World} {a c n1}, Own wb n1 5 1 (.slice a (bs.take 500).length c) (bs.take 500).length ((bs.take 500).map bV) → (min ((bs.length : Nat) : Int) 300).toNat = ((bs.take 500).take 300).length ∧ RowAt wb a (((bs.take 500).take 300).map bV) ∧ ((bs.take 500).take 300).length ≤ c ∧ ((bs.take 500).take 300).length ≤ 300 ∧ 0 ≤ min ((bs.length : Nat) : Int) 300 ∧ min ((bs.length : Nat) : Int) 300 ≤ (c : Int) := fun bs {wa wb a c n1} o => by
    have hc := o.cap.1
    have e1 : ((bs.take 500).take 300).length = min 300 (min 500 bs.length) := by rw [List.length_take, List.length_take]
    have e2 : (bs.take 500).length = min 500 bs.length := List.length_take
    refine ⟨by omega, by rw [List.map_take]; exact o.row.take 300, by omega, by omega, by omega, by omega⟩
  refine (tame_new w6 (h1.bs h6.bs) k1).mono ?_
  rintro e w7 ⟨a7, c7, rfl, o7, b7⟩
  have h7 := h6.below b7
  obtain ⟨q1, q2, q3, q4, q5, q6⟩ := one b1 (wa := w) o7
  refine ⟨keepG_below b7, a7, _, c7, rfl, q5, q6, ?_⟩
  rw [q1]
  have e1 : (1 + (m1 : Int)) = ((1 + m1 : Nat) : Int) := by omega
  have e2 : (2 + (m2 : Int)) = ((2 + m2 : Nat) : Int) := by omega
  rw [e1, e2]
  refine (save_any h7.t h7.wf q2 (by omega) q3 (own_ap h6 o7 (Nat.le_refl _)) 0 6 ((1 + m1 : Nat) : Int) (by decide) (by decide) (by decide) (by decide) (by omega)).mono ?_
  rintro e w8 ⟨rfl, t8, f8⟩
  have h8 := h7.to t8 f8 (h7.wf.save _ _ _ _)
  have sv1 : Saved (newS 12) (saveD (newS 12) 0 6 ((1 + m1 : Nat) : Int) ((b1.take 500).take 300)) (0 + (1 + m1) % 2 * 6) 6 (1 + m1) ((b1.take 500).take 300) := by
    rcases save_cases (newS_wf (by omega) (by omega)) (fun _ => rfl) rfl hat (gen := 1 + m1) (im := (b1.take 500).take 300) (by omega) (by omega) (by omega) with ⟨_, h⟩ | ⟨_, hl, _⟩
    · exact h
    · exact absurd hl (by decide)
  generalize saveD (newS 12) 0 6 ((1 + m1 : Nat) : Int) ((b1.take 500).take 300) = T1 at *
  refine ⟨kg f8, _, rfl, drewO_in fun w9 b9 e9 => ⟨by decide, (tame_new w9 (h2.bs (h8.bs.to b9)) k2).mono ?_⟩⟩
  have h9 := h8.below b9
  rintro e w10 ⟨a10, c10, rfl, o10, b10⟩
  have h10 := h9.below b10
  obtain ⟨q1, q2, q3, q4, q5, q6⟩ := one b2 (wa := w) o10
  refine ⟨keepG_below b10, a10, _, c10, rfl, q5, q6, ?_⟩
  rw [q1]
  refine (save_any h10.t h10.wf q2 (by omega) q3 (own_ap h9 o10 (Nat.le_refl _)) 0 6 ((2 + m2 : Nat) : Int) (by decide) (by decide) (by decide) (by decide) (by omega)).mono ?_
  rintro e w11 ⟨rfl, t11, f11⟩
  have h11 := h10.to t11 f11 (h10.wf.save _ _ _ _)
  have hat1 : atE T1 ((0 : Nat) : Int) ((6 : Nat) : Int) = 0 := by unfold atE; rw [sv1.n]; decide
  have sv2 : Saved T1 (saveD T1 0 6 ((2 + m2 : Nat) : Int) ((b2.take 500).take 300)) (0 + (2 + m2) % 2 * 6) 6 (2 + m2) ((b2.take 500).take 300) := by
    rcases save_cases h8.wf sv1.calm sv1.off hat1 (gen := 2 + m2) (im := (b2.take 500).take 300) (by omega) (by omega) (by omega) with ⟨_, h⟩ | ⟨_, hl, _⟩
    · exact h
    · have := sv1.left0 (Int.le_refl _); omega
  have hL2 := sv2.left0 (sv1.left0 (Int.le_refl _))
  generalize saveD T1 0 6 ((2 + m2 : Nat) : Int) ((b2.take 500).take 300) = T2 at *
  have hn2 : T2.n = 12 := by rw [sv2.n, sv1.n]; rfl
  refine ⟨kg f11, _, rfl, by decide, by decide, by decide, by decide, newB h11.bs fun g2 w12 g20 sg2 n12 z12 b12 B12 => ?_⟩
  rw [made_zero64] at n12
  have h12 := h11.below b12
  refine cpyB (m := (64 : Int).toNat) n12 rfl (h0.bs B12) (fun x hx e => by rw [List.mem_singleton] at hx; subst hx; subst e; have := h11.bs.size; have := B3.size; have := h4.bs.size; have := b4.size; have := b5.size; have := b6.size; have := b7.size; have := f8.size; have := b9.size; have := b10.size; have := f11.size; omega) fun w13 ys hy n13 f13 z13 => ⟨by decide, ?_⟩
  have hne2 : ∀ k ∈ [g, gl, mb], k ≠ g2 := fun k hk e => by have := h11.lt k hk; omega
  have h13 := h12.box hne2 g20 ⟨f13, z13⟩
  refine br_dec (fun _ => ⟨by decide, by decide, ?_⟩) fun _ => lloads_k3_ok h13 hn2 sv2.off
  obtain ⟨m3, hm3, em3⟩ := u64_mod (Int.tdiv (IntKind.u64.wrap x2) 4) 12 (by omega)
  have em3 : Int.tmod (IntKind.u64.wrap (Int.tdiv (IntKind.u64.wrap x2) 4)) 12 = (m3 : Int) := em3
  rw [em3, wr64 (by omega) (by omega)]
  have hy : ys.length = 64 := hy
  have r13 : RowAt w13 (some ⟨g2, 0, none⟩) (ys.map bV) := RowAt.ofWhole n13
  have hw := dwrite_any h13.t h13.wf (c := (64 : Int).toNat) r13 (by omega) (by omega) (fun q hq hm => by injection hq with hq; subst hq; exact hne2 _ hm rfl) (m3 : Int)
  rw [hy] at hw
  refine hw.mono ?_
  rintro e w14 ⟨rfl, t14, f14⟩
  have h14 := h13.to t14 f14 (h13.wf.write _ _)
  obtain ⟨w1, w2⟩ := write_still hL2 (m3 : Int) ys
  exact ⟨kg f14, _, rfl, lloads_k3_ok h14 (by rw [w2, hn2]) (by rw [w1, sv2.off])⟩
end Go.Proofs.Ytpfmadinijofeaa
end
section
/- Arrays and structs that came in as values: their numbers. -/
namespace Go.Proofs.Ytpfmadinijofeaa
open Go.RowKit Go.WideShapes Go.ChangeShapes
theorem okWide_arr {P : Program} {W : World} {r : Reach} {base : Nat} {t : TypeId} {v : Value} {n : Nat} {e : Sh} {k : Nat} (hf : fitsB P (.arr n e k) t = true) (hv : Value.okWide P W r base t v) : ∃ cs, v = .agg cs ∧ cs.size = P.cellsOf t := by
  unfold fitsB at hf
  split at hf
  · rename_i l et hu
    unfold Value.okWide at hv
    rw [hu] at hv
    obtain ⟨cs, h1, h2, _⟩ := hv
    exact ⟨cs, h1, h2⟩
  · cases hf
theorem open_arrI {H : Type} {enc : TypeId × Value → H} {P : Program} {W : World} {r : Reach} {base : Nat} {t : TypeId} {v : Value} {d : DataW H} {p : List MemPlace} (n : Nat) (hf : fitsB P (.arr n (.int .i64) 1) t = true) (hc : P.cellsOf t = n) (hv : Value.okWide P W r base t v)
    (h : DataW.Trod enc P W 0 (fun _ => true) true t v d p) : ∃ zs : List Int, zs.length = n ∧ v = .agg (zs.map (Value.int .i64)).toArray ∧ ∀ z ∈ zs, -9223372036854775808 ≤ z ∧ z ≤ 9223372036854775807 := by
  obtain ⟨cs, rfl, hs⟩ := okWide_arr hf hv
  have hh := open_sh hf h
  obtain ⟨zs, hz, hp⟩ := exists_list (p := fun i z => cs.toList[i]? = some (Value.int .i64 z) ∧ (Lit.int .i64 z).wf = true) n (fun i hi => by
    obtain ⟨z, h1, h2⟩ := hh i hi
    refine ⟨z, ?_, h2⟩
    have := congrArg (·[0]?) h1
    simpa [Value.cells] using this)
  refine ⟨zs, hz, ?_, fun z hm => ?_⟩
  · congr 1
    apply Array.ext'
    apply List.ext_getElem?
    intro i
    rw [List.getElem?_map]
    by_cases hi : i < n
    · rw [List.getElem?_eq_getElem (show i < zs.length by omega)]
      exact (hp i _ (List.getElem?_eq_getElem (by omega))).1
    · rw [List.getElem?_eq_none (by simp; omega), List.getElem?_eq_none (by omega)]
      rfl
  · obtain ⟨i, hi⟩ := List.getElem?_of_mem hm
    exact i64_range (hp i z hi).2
theorem open_arr2 {H : Type} {enc : TypeId × Value → H} {P : Program} {W : World} {r : Reach} {base : Nat} {t : TypeId} {v : Value} {d : DataW H} {p : List MemPlace} (hf : fitsB P (.arr 2 (.int .i64) 1) t = true) (hc : P.cellsOf t = 2) (hv : Value.okWide P W r base t v)
    (h : DataW.Trod enc P W 0 (fun _ => true) true t v d p) : ∃ x y : Int, v = .agg #[.int .i64 x, .int .i64 y] ∧ (-9223372036854775808 ≤ x ∧ x ≤ 9223372036854775807) ∧ -9223372036854775808 ≤ y ∧ y ≤ 9223372036854775807 := by
  obtain ⟨zs, hz, rfl, hr⟩ := open_arrI 2 hf hc hv h
  match zs, hz with
  | [x, y], _ => exact ⟨x, y, rfl, hr x (by simp), hr y (by simp)⟩
theorem open_arr4 {H : Type} {enc : TypeId × Value → H} {P : Program} {W : World} {r : Reach} {base : Nat} {t : TypeId} {v : Value} {d : DataW H} {p : List MemPlace} (hf : fitsB P (.arr 4 (.int .i64) 1) t = true) (hc : P.cellsOf t = 4) (hv : Value.okWide P W r base t v)
    (h : DataW.Trod enc P W 0 (fun _ => true) true t v d p) : ∃ x y z u : Int, v = .agg #[.int .i64 x, .int .i64 y, .int .i64 z, .int .i64 u] ∧ (-9223372036854775808 ≤ x ∧ x ≤ 9223372036854775807) ∧ (-9223372036854775808 ≤ y ∧ y ≤ 9223372036854775807) ∧ (-9223372036854775808 ≤ z ∧ z ≤ 9223372036854775807) ∧ -9223372036854775808 ≤ u ∧ u ≤ 9223372036854775807 := by
  obtain ⟨zs, hz, rfl, hr⟩ := open_arrI 4 hf hc hv h
  match zs, hz with
  | [x, y, z, u], _ => exact ⟨x, y, z, u, rfl, hr x (by simp), hr y (by simp), hr z (by simp), hr u (by simp)⟩
end Go.Proofs.Ytpfmadinijofeaa
end
section
/- What the rows of the slots need, together. -/
namespace Go.Proofs.Ytpfmadinijofeaa
open Go.RowKit Go.WideShapes Go.ChangeShapes
theorem open_arr3 {H : Type} {enc : TypeId × Value → H} {P : Program} {W : World} {r : Reach} {base : Nat} {t : TypeId} {v : Value} {d : DataW H} {p : List MemPlace} (hf : fitsB P (.arr 3 (.int .i64) 1) t = true) (hc : P.cellsOf t = 3) (hv : Value.okWide P W r base t v)
    (h : DataW.Trod enc P W 0 (fun _ => true) true t v d p) : ∃ x y z : Int, v = .agg #[.int .i64 x, .int .i64 y, .int .i64 z] ∧ (-9223372036854775808 ≤ x ∧ x ≤ 9223372036854775807) ∧ (-9223372036854775808 ≤ y ∧ y ≤ 9223372036854775807) ∧ -9223372036854775808 ≤ z ∧ z ≤ 9223372036854775807 := by
  obtain ⟨zs, hz, rfl, hr⟩ := open_arrI 3 hf hc hv h
  match zs, hz with
  | [x, y, z], _ => exact ⟨x, y, z, rfl, hr x (by simp), hr y (by simp), hr z (by simp)⟩
theorem open_im2 {H : Type} {enc : TypeId × Value → H} {P : Program} {W : World} {r : Reach} {base : Nat} {t : TypeId} {v : Value} {d : DataW H} {p : List MemPlace} (hf : fitsB P (.arr 2 shBytes 1) t = true) (hc : P.cellsOf t = 2) (hv : Value.okWide P W r base t v)
    (h : DataW.Trod enc P W 0 (fun _ => true) true t v d p) : ∃ x y : Im, v = .agg #[.slice x.a x.bs.length x.c, .slice y.a y.bs.length y.c] ∧ (RowAt W x.a (x.bs.map bV) ∧ x.bs.length ≤ x.c) ∧ RowAt W y.a (y.bs.map bV) ∧ y.bs.length ≤ y.c := by
  obtain ⟨cs, rfl, hs⟩ := okWide_arr hf hv
  have hh := open_sh hf h
  obtain ⟨b0, a0, c0, e0, l0, m0, r0⟩ := has_bytes (hh 0 (by omega))
  obtain ⟨b1, a1, c1, e1, l1, m1, r1⟩ := has_bytes (hh 1 (by omega))
  refine ⟨⟨a0, c0, b0⟩, ⟨a1, c1, b1⟩, ?_, ⟨r0, l0⟩, r1, l1⟩
  obtain ⟨l⟩ := cs
  have hl : l.length = 2 := by simpa [hc] using hs
  match l, hl with
  | [u, v], _ =>
    simp [Value.cells] at e0 e1
    subst e0; subst e1
    rfl
end Go.Proofs.Ytpfmadinijofeaa
end
