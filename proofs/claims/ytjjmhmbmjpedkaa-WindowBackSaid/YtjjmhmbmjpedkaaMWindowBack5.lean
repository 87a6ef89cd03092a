import Derived.Test.YtjjmhmbmjpedkaaMWindowBack4
import Derived.Test.YtjjmhmbmjpedkaaMWindowBack1
import Derived.ProofKit
import Derived.Deep.Matrix
import Derived.Test.YtjjmhmbmjpedkaaMWindowBack3
import Derived.Test.YtjjmhmbmjpedkaaProg
import Derived.Test.YtjjmhmbmjpedkaaMWindowBack2
section
/- 'More' and 'Sum' of crc: what they come to. -/
namespace Go.Proofs.Ytjjmhmbmjpedkaa
open Go.RowKit
theorem tabCells_get (k : Nat) (h : k < 16) : (tabCells 16)[k]? = some (V32 (tbl.getD k 0)) := by
  unfold tabCells
  rw [List.getElem?_toArray, List.getElem?_map, show (tbl.take 16 ++ List.replicate (16 - 16) 0) = tbl from rfl, List.getD_eq_getElem?_getD]
  rcases hq : tbl[k]? with _ | x
  · rw [List.getElem?_eq_none_iff] at hq
    have : tbl.length = 16 := rfl
    omega
  · rfl
theorem crcL_snoc (n : Nat) (bs : List UInt8) (k : Nat) (h : k < bs.length) : crcL n (bs.take (k + 1)) = cb (crcL n (bs.take k)) bs[k].toNat := by
  rw [List.take_succ_eq_append_getElem h, crcL_append]; rfl
theorem u32_xor_step (y t : Nat) (hy : y < 4294967296) (ht : t < 4294967296) : bits BinOp.xor IntKind.u32 ((y : Int) / 16) (t : Int) = (((y / 16) ^^^ t : Nat) : Int) := by
  rw [show (y : Int) / 16 = ((y / 16 : Nat) : Int) from rfl, u32_xor_nat _ _ (by omega) ht]
theorem u32_not (n : Nat) (h : n < 4294967296) : bits BinOp.xor IntKind.u32 IntKind.u32.max (n : Int) = ((cpl n : Nat) : Int) := by
  rw [show IntKind.u32.max = ((4294967295 : Nat) : Int) from rfl, u32_xor_nat _ _ (by omega) h]; rfl
set_option maxHeartbeats 400000 in
theorem more_any (n : Nat) (a : Option Addr) (cap : Nat) (bs : List UInt8) (w : World) (hn : n < 4294967296) (hl : bs.length ≤ maxLen) (hr : RowAt w a (bs.map bV)) :
    Calls Try.prog 72 #[.int .u32 n, .slice a bs.length cap] w fun e w' => e = .returned (.int .u32 (more n bs)) ∧ Below w.heap.size w w' := by
  unfold maxLen at hl
  have HR := hid hr; clear hr
  go_enter Try.func72, Try.ntmps72
  go_wp2_with (first | (go_at_call 91; refine (table_any _).mono ?_; rintro e W ⟨rfl, hb⟩) | (rw [← tabCells_zero]; refine wpList_store_row rfl 136 (.tmp 5) (.tmp 9) rfl _ (tabCells 16) rfl rfl 136 (tabCells 0) (heap_alloc_new _ _) (by kernel_rfl) rfl (by kernel_rfl) ?_))
  have hg : ((W.alloc (Obj.cells (tabCells 0) 136)).setRow W.heap.size (tabCells 16)).heap[W.heap.size]? = some (.cells (tabCells 16) 136 (0, 0)) := setRow_heap _ _ _ _ _ _ (heap_alloc_new _ _)
  have hw : Below w.heap.size w ((W.alloc (Obj.cells (tabCells 0) 136)).setRow W.heap.size (tabCells 16)) := Below_setRow (hb.alloc hb.size _) hb.size _
  generalize (W.alloc (Obj.cells (tabCells 0) 136)).setRow W.heap.size (tabCells 16) = W2 at *
  generalize W.heap.size = g at *
  have HG := hid hg; clear hg
  have HW := hid hw; clear hw hb
  have HR2 := hid (HR.out.below HW.out (Nat.le_refl _)); clear HR
  have hc := u32_not n hn
  rw [hc]; clear hc
  go_loop [6,8,15,16,17,18,19,20,21,22,23,24,25,26,27,28,29,30,31,32,33,34,35,14] (fun t6 _ _ _ _ _ _ _ _ _ _ _ _ _ _ _ _ _ _ _ _ _ _ t14 => ∃ k : Nat, k ≤ bs.length ∧ t14 = .int .i64 k ∧ t6 = V32 (crcL (cpl n) (bs.take k))) (fun t6 _ _ _ _ _ _ _ _ _ _ _ _ _ _ _ _ _ _ _ _ _ _ t14 => bs.length - (intOf t14).toNat)
  case atStart => exact ⟨0, by omega, rfl, rfl⟩
  case round =>
    obtain ⟨k, hk, rfl, rfl⟩ := hrel
    have h0 : crcL (cpl n) (bs.take k) < 4294967296 := crcL_lt _ (cpl_lt hn)
    by_cases hlt : k < bs.length
    · have hsn := hid (crcL_snoc (cpl n) bs k hlt)
      generalize hm : crcL (cpl n) (bs.take k) = m at *
      have Hm := hid hm; clear hm
      obtain ⟨b, off, rfl, hc⟩ := HR2.out.byte hlt
      have hx := (bs[k]).toNat_lt
      generalize hxx : (bs[k]).toNat = x at *
      have e1 := u32_xor_nat m x h0 (by omega)
      have l1 := xlt h0 (show x < 4294967296 by omega)
      generalize hy1 : m ^^^ x = y at *
      have c1 : W2.cell? ⟨g, y % 16, none⟩ = some (.int .u32 (tbl.getD (y % 16) 0 : Nat)) := (cell_of_row _ _ _ _ _ _ HG.out).trans (tabCells_get _ (Nat.mod_lt _ (by omega)))
      have e2 := u32_xor_step y (tbl.getD (y % 16) 0) l1 (tbl_lt _)
      have l2 := nib_lt l1
      have hy2 : nib y = (y / 16) ^^^ tbl.getD (y % 16) 0 := rfl
      rw [← hy2] at e2
      generalize hy3 : tbl.getD (y % 16) 0 = t1 at *
      generalize hy4 : nib y = z at *
      have c2 : W2.cell? ⟨g, z % 16, none⟩ = some (.int .u32 (tbl.getD (z % 16) 0 : Nat)) := (cell_of_row _ _ _ _ _ _ HG.out).trans (tabCells_get _ (Nat.mod_lt _ (by omega)))
      have e3 := u32_xor_step z (tbl.getD (z % 16) 0) l2 (tbl_lt _)
      have hy5 : nib z = (z / 16) ^^^ tbl.getD (z % 16) 0 := rfl
      rw [← hy5] at e3
      generalize hy6 : tbl.getD (z % 16) 0 = t2 at *
      have hfin : cb m x = nib z := by unfold cb; rw [hy1, hy4]
      rw [hfin] at hsn
      generalize nib z = z3 at *
      clear hxx hy1 hy2 hy3 hy4 hy5 hy6 hfin
      unfold V32
      go_wp2
      go_round
      case rel => exact ⟨k + 1, by omega, by go_num, by rw [hsn.out]⟩
      case measure => simp [intOf]; omega
    · obtain rfl : k = bs.length := by omega
      rw [List.take_length] at h0 ⊢
      have hfin : more n bs = cpl (crcL (cpl n) bs) := rfl
      generalize crcL (cpl n) bs = m at *
      have hc := u32_not m h0
      have Hf := hid hfin; clear hfin
      unfold V32
      go_wp2
      go_ret
      exact ⟨by rw [Hf.out]; rfl, HW.out⟩
theorem crcP_snoc (n : Nat) (ps : List (List UInt8)) (k : Nat) (h : k < ps.length) : crcP n (ps.take (k + 1)) = more (crcP n (ps.take k)) ps[k] := by
  rw [List.take_succ_eq_append_getElem h]; unfold crcP; rw [List.foldl_append]; rfl
set_option maxHeartbeats 400000 in
theorem csum_any (a : Option Addr) (cap : Nat) (ps : List (List UInt8)) (w : World) (hl : ps.length ≤ maxLen) (hr : PartsAt w a ps) :
    Calls Try.prog 45 #[.slice a ps.length cap] w fun e w' => e = .returned (.int .u32 (crcP 0 ps)) ∧ Below w.heap.size w w' := by
  unfold maxLen at hl
  have HR := hid hr; clear hr
  go_enter Try.func45, Try.ntmps45
  go_wp2
  go_loopw [3,5,9,10,11,12,13,14,15,8] (fun t3 _ _ _ _ _ _ _ _ t8 wr => ∃ k : Nat, k ≤ ps.length ∧ t8 = .int .i64 k ∧ t3 = V32 (crcP 0 (ps.take k)) ∧ Below w.heap.size w wr) (fun t3 _ _ _ _ _ _ _ _ t8 wr => ps.length - (intOf t8).toNat)
  case atStart => exact ⟨0, by omega, rfl, rfl, Below.refl _ _⟩
  case round =>
    obtain ⟨k, hk, rfl, rfl, hb⟩ := hrel
    have h0 : crcP 0 (ps.take k) < 4294967296 := crcP_lt _ (by omega)
    by_cases hlt : k < ps.length
    · obtain ⟨b, off, v, c, rfl, hc, hr, hvc, hm⟩ := (HR.out.below hb (Nat.le_refl _)).part hlt
      have hsn := hid (crcP_snoc 0 ps k hlt)
      generalize crcP 0 (ps.take k) = m at *
      generalize ps[k] = p at *
      have HP := hid hr; clear hr
      have HB := hid hb; clear hb
      unfold V32
      go_wp2_with (go_at_call 72; refine (more_any _ _ _ _ _ h0 hm HP.out).mono ?_; rintro e W ⟨rfl, hbW⟩)
      go_roundw
      case rel => exact ⟨k + 1, by omega, by go_num, by rw [hsn.out], HB.out.trans (hbW.mono HB.out.size)⟩
      case measure => simp [intOf]; omega
    · obtain rfl : k = ps.length := by omega
      rw [List.take_length] at h0 ⊢
      unfold V32
      go_wp2
      go_ret
      exact ⟨rfl, hb⟩
end Go.Proofs.Ytjjmhmbmjpedkaa
end
section
/- The known text has its sum. -/
namespace Go.Proofs.Ytjjmhmbmjpedkaa
open Go.RowKit
theorem known_sum : crcP 0 [[49, 50, 51, 52], [53, 54, 55, 56, 57]] = 3421780262 := by decide +kernel
end Go.Proofs.Ytjjmhmbmjpedkaa
end
section
/- The reference's sum: bit by bit. -/
namespace Go.Proofs.Ytjjmhmbmjpedkaa
open Go.RowKit
theorem rsum_snoc (n : Nat) (s : ByteArray) (k : Nat) (h : k < s.size) : crcL n (s.data.toList.take (k + 1)) = cb (crcL n (s.data.toList.take k)) s[k].toNat := by
  rw [crcL_snoc n _ k (by simpa using h)]; rfl
theorem xor_bit (a b : Nat) : (a % 2) ^^^ (b % 2) = (a % 2 + b % 2) % 2 := by
  rcases Nat.mod_two_eq_zero_or_one a with x | x <;> rcases Nat.mod_two_eq_zero_or_one b with y | y <;> rw [x, y] <;> decide
theorem bit_test (q x j : Nat) (hq : q < 4294967296) (hx : x < 256) :
    bits BinOp.xor IntKind.u32 (bits BinOp.and IntKind.u32 (q : Int) 1) (bits BinOp.and IntKind.u8 ((x : Int) / 2 ^ j) 1 % 4294967296) = (((q % 2 + x / 2 ^ j % 2) % 2 : Nat) : Int) := by
  have hd : x / 2 ^ j < 256 := Nat.lt_of_le_of_lt (Nat.div_le_self _ _) hx
  have e1 : bits BinOp.and IntKind.u32 (q : Int) 1 = ((q % 2 : Nat) : Int) := by rw [show (1 : Int) = ((1 : Nat) : Int) from rfl, u32_and_nat _ _ hq (by omega), nat_mask1]
  have e2 : bits BinOp.and IntKind.u8 ((x : Int) / 2 ^ j) 1 = ((x / 2 ^ j % 2 : Nat) : Int) := by
    rw [show (x : Int) / 2 ^ j = ((x / 2 ^ j : Nat) : Int) by simp, show (1 : Int) = ((1 : Nat) : Int) from rfl, u8_and_nat _ _ hd (by omega), nat_mask1]
  rw [e1, e2, show (((x / 2 ^ j % 2 : Nat) : Int)) % 4294967296 = ((x / 2 ^ j % 2 : Nat) : Int) by omega, u32_xor_nat _ _ (by omega) (by omega), xor_bit]
theorem rst_yes {q x j : Nat} (h : ((((q % 2 + x / 2 ^ j % 2) % 2 : Nat) : Int) == 1) = true) : rst q x j = (q / 2) ^^^ 3988292384 := by
  unfold rst
  have := beq_iff_eq.1 h
  generalize x / 2 ^ j = y at *
  rw [if_pos (by omega)]
theorem rst_no {q x j : Nat} (h : ((((q % 2 + x / 2 ^ j % 2) % 2 : Nat) : Int) == 1) = false) : rst q x j = q / 2 := by
  unfold rst
  have := beq_eq_false_iff_ne.1 h
  generalize x / 2 ^ j = y at *
  rw [if_neg (by omega)]
theorem u32_xor_half (q : Nat) (h : q < 4294967296) : bits BinOp.xor IntKind.u32 ((q : Int) / 2) 3988292384 = ((q / 2 ^^^ 3988292384 : Nat) : Int) := by
  rw [show (3988292384 : Int) = ((3988292384 : Nat) : Int) from rfl, show (q : Int) / 2 = ((q / 2 : Nat) : Int) from rfl, u32_xor_nat _ _ (by omega) (by omega)]
end Go.Proofs.Ytjjmhmbmjpedkaa
end
section
/- All parts behind each other, as a string; few parts. -/
namespace Go.Proofs.Ytjjmhmbmjpedkaa
open Go.RowKit
theorem Try.infoU8 : (Try.prog.info? 5).map (fun i => (i.zero, i.size, i.bytes)) = some (some (.int .u8 0), 1, 1) := by kernel_rfl
theorem take_flat (ps : List (List UInt8)) (k : Nat) (h : k < ps.length) : (ps.take (k + 1)).flatten = (ps.take k).flatten ++ ps[k] := by
  rw [List.take_succ_eq_append_getElem h, List.flatten_append]; simp
theorem take_flat_le (ps : List (List UInt8)) (k : Nat) : (ps.take k).flatten.length ≤ ps.flatten.length := by
  conv => rhs; rw [← List.take_append_drop k ps]
  rw [List.flatten_append, List.length_append]; omega
end Go.Proofs.Ytjjmhmbmjpedkaa
end
section
/- Few parts. -/
namespace Go.Proofs.Ytjjmhmbmjpedkaa
open Go.RowKit
theorem Try.infoBytes : (Try.prog.info? 30).map (fun i => (i.zero, i.size, i.bytes)) = some (some (.slice none 0 0), 1, 24) := by kernel_rfl
/-- What 'Few' comes to. -/
def few (ps : List (List UInt8)) (most size : Nat) : List (List UInt8) := (ps.take most).map (·.take size)
/-- Rows that lie in memory from 'base' on, each of its own make. -/
theorem few_len (ps : List (List UInt8)) (most size k : Nat) (h : k ≤ ps.length) (h2 : k ≤ most) : (few (ps.take k) most size).length = k := by
  unfold few; simp; omega
theorem few_snoc (ps : List (List UInt8)) (most size k : Nat) (h : k < ps.length) (h2 : k < most) : few (ps.take (k + 1)) most size = few (ps.take k) most size ++ [ps[k].take size] := by
  unfold few
  rw [List.take_take, List.take_take, Nat.min_eq_right (by omega), Nat.min_eq_right (by omega), List.take_succ_eq_append_getElem h, List.map_append]; rfl
/-- What 'Few' hands back, as parts. -/
theorem parts_of {w : World} {base : Nat} {t7 : Value} {ps : List (List UInt8)} {vs : List (Option Addr × Nat)} (hl : vs.length = ps.length) (ho : Own w base 30 1 t7 ps.length ((vs.zip ps).map fun (v, p) => .slice v.1 p.length v.2))
    (hr : ∀ v p, (v, p) ∈ vs.zip ps → Own w base 5 1 (.slice v.1 p.length v.2) p.length (p.map bV)) : ∃ a c, t7 = .slice a ps.length c ∧ PartsAt w a ps := by
  obtain ⟨a, c, rfl, hrow, _⟩ := ho.row1
  exact ⟨a, c, rfl, vs, hrow, hl, fun v p hm => ⟨(hr v p hm).row, (hr v p hm).cap⟩⟩
end Go.Proofs.Ytjjmhmbmjpedkaa
end
section
/- The four laws of crc, walked. -/
namespace Go.Proofs.Ytjjmhmbmjpedkaa
open Go.RowKit
theorem few_length (ps : List (List UInt8)) (most size : Nat) : (few ps most size).length ≤ most := by unfold few; simp; omega
theorem few_flat (ps : List (List UInt8)) (most size : Nat) : (few ps most size).flatten.length ≤ most * size := by
  unfold few
  have h : ∀ l : List (List UInt8), ((l.map (·.take size)).flatten).length ≤ l.length * size := by
    intro l
    induction l with
    | nil => simp
    | cons x l ih => simp only [List.map_cons, List.flatten_cons, List.length_append, List.length_take, List.length_cons, Nat.add_mul]; omega
  refine Nat.le_trans (h _) (Nat.mul_le_mul_right _ ?_)
  simp; omega
theorem slice_row {w : World} {a : Option Addr} {bs : List UInt8} (h : RowAt w a (bs.map bV)) (n : Nat) : RowAt w a ((bs.take n).map bV) := by rw [List.map_take]; exact h.take n
theorem parts1 {w : World} {a : Option Addr} {c : Nat} {xs : List UInt8} (E : TypeId) (hr : RowAt w a (xs.map bV)) (h1 : xs.length ≤ c) (h2 : xs.length ≤ 500) : PartsAt (w.alloc (.cells #[.slice a xs.length c] E)) (some ⟨w.heap.size, 0, none⟩) [xs] :=
  .ofWhole [(a, c)] _ (al_new rfl) rfl (zip1 ⟨hr.alloc _, h1, by unfold maxLen; omega⟩)
theorem parts2 {w : World} {a b : Option Addr} {c d : Nat} {xs ys : List UInt8} (E : TypeId) (hr : RowAt w a (xs.map bV)) (h1 : xs.length ≤ c) (h2 : xs.length ≤ 500) (hs : RowAt w b (ys.map bV)) (k1 : ys.length ≤ d) (k2 : ys.length ≤ 500) :
    PartsAt (w.alloc (.cells #[.slice a xs.length c, .slice b ys.length d] E)) (some ⟨w.heap.size, 0, none⟩) [xs, ys] :=
  .ofWhole [(a, c), (b, d)] _ (al_new rfl) rfl (zip2 ⟨hr.alloc _, h1, by unfold maxLen; omega⟩ ⟨hs.alloc _, k1, by unfold maxLen; omega⟩)
theorem len_one : ([([] : List UInt8)]).length ≤ maxLen := by decide
theorem len1 (xs : List UInt8) : [xs].length ≤ maxLen := by unfold maxLen; simp
theorem len2 (xs ys : List UInt8) : [xs, ys].length ≤ maxLen := by unfold maxLen; simp
theorem crcP_one (n : Nat) (a : List UInt8) : crcP n [a] = more n a := rfl
theorem crcP_two (n : Nat) (a b : List UInt8) : crcP n [a, b] = more (more n a) b := rfl
end Go.Proofs.Ytjjmhmbmjpedkaa
end
section
/- WindowKnown: what was kept is answered as before, as long as fewer came behind it than are kept. -/
namespace Go.Proofs.Ytjjmhmbmjpedkaa
open Go.RowKit
def ans50 (ps : List (List UInt8)) (i : Nat) : List UInt8 := (ps.getD i []).take 50
theorem ans50_eq {ps : List (List UInt8)} {i : Nat} (h : i < ps.length) : ans50 ps i = ps[i].take 50 := by unfold ans50; rw [List.getD_eq_getElem?_getD, List.getElem?_eq_getElem h]; rfl
theorem ans50_len (ps : List (List UInt8)) (i : Nat) : (ans50 ps i).length ≤ 50 := by unfold ans50; rw [List.length_take]; omega
theorem take_toNat (bs : List UInt8) : (min ((bs.length : Nat) : Int) 50).toNat = (bs.take 50).length := by rw [List.length_take]; omega
theorem lKnown_walk (z : Int) (a : Option Addr) (ca : Nat) (ps : List (List UInt8)) (t : Int) (w : World) (hl : ps.length ≤ maxLen) (ht : -9223372036854775808 ≤ t ∧ t ≤ 9223372036854775807) (hr : PartsAt w a ps) :
    Calls Try.prog 3 #[.int .i64 z, .slice a ps.length ca, .int .i64 t] w fun e w' => e = .returned (.bool true) ∧ Below w.heap.size w w' := by
  refine (GWinLaw.lKnown_calls z a ps.length ca t w (fun v w' => v = .bool true ∧ Below w.heap.size w w') ?_).mono (by rintro e w' ⟨v, rfl, rfl, hb⟩; exact ⟨rfl, hb⟩)
  unfold GWinLaw.lKnown_vc
  obtain ⟨m0, hm0, hm⟩ := u64_mod z 8 (by decide)
  have hmost : IntKind.i64.wrap (1 + IntKind.i64.wrap (Int.tmod (IntKind.u64.wrap z) 8)) = ((m0 + 1 : Nat) : Int) := by
    rw [show (8 : Int) = ((8 : Nat) : Int) from rfl, hm, wr64 (z := (m0 : Int)) (by omega) (by omega), wr64 (by omega) (by omega)]; omega
  obtain ⟨m, rfl⟩ : ∃ m, m = m0 + 1 := ⟨_, rfl⟩
  simp only [hmost]
  obtain ⟨N, hN⟩ : ∃ N, N = min ps.length 20 := ⟨_, rfl⟩
  have hNI : min ((ps.length : Nat) : Int) 20 = (N : Int) := by rw [hN]; omega
  simp only [hNI]
  generalize hm1 : m0 + 1 = m
  refine ⟨by decide, ?_⟩
  refine (wNew_any m true w (by omega) (by omega)).mono ?_
  rintro e w1 ⟨rfl, hw1, hb1⟩
  refine ⟨keepG_nil _ _, _, _, rfl, ?_⟩
  refine (windows_any w1).mono ?_
  rintro e w2 ⟨rfl, hb2⟩
  refine ⟨keepG_nil _ _, _, rfl, ?_⟩
  refine br_f rfl (br_n (by decide) ?_)
  have B2 := hb1.trans (hb2.mono hb1.size)
  have hK0 : (⟨m, true, -1, []⟩ : Win) = known m (ans50 ps) 0 := by simp [known, lastWin, upTo]
  refine ⟨fun x wx => ∃ (i : Nat) (L : List Nat), x = i ∧ i ≤ N ∧ WinAt wx L w.heap.size (known m (ans50 ps) i) ∧ Below w.heap.size w wx ∧ From w.heap.size L, fun x _ => N - x.toNat, ?_, ?_⟩
  · exact ⟨0, [w.heap.size], rfl, by omega, hK0 ▸ hw1.below (hb2.mono (Nat.le_refl _)), B2, fun k hk => by rw [List.mem_singleton] at hk; rw [hk]; exact Nat.le_refl _⟩
  rintro x w4 ⟨i, L, rfl, hi, hw, hb, hf⟩
  refine br_dec (fun hlt => ?_) fun hge => ?_
  · have hips : i < ps.length := by omega
    refine drewO_in fun w5 hb5 _ => ?_
    have W5 := hw.below hb5
    have B5 := hb.trans (hb5.mono hb.size)
    obtain ⟨b, off, v, c, rfl, hc, hv, hvl, _⟩ := (hr.below B5 (Nat.le_refl _)).part hips
    refine ⟨by omega, by omega, v, ps[i].length, c, by simpa using hc, by omega, by omega, v, ps[i].length, c, by simpa using hc, by omega, by omega, ?_⟩
    refine newO_in fun w6 h6 b6 s6 => ?_
    have c6 := (b6.cell (p := ⟨b, off + (i : Int).toNat * 1, none⟩) (by have := block_lt_of_cell hc; simpa using this)).trans (by simpa using hc)
    refine ⟨c6, c6, ?_⟩
    rw [take_toNat]
    have hby := bV_nat i (by omega)
    rw [wru8 (by omega) (by omega)] at h6
    refine (wKeep_any _ _ L i (some ⟨w5.heap.size, 0, none⟩) 1 [UInt8.ofNat i] v c (ps[i].take 50) w6 (W5.below b6) (by rw [← hby] at h6; exact one_row _ h6) ((slice_row hv 50).below b6 (Nat.le_refl _))).mono ?_
    rw [← ans50_eq hips, known_keep (by omega) (ans50 ps) i (by omega) (Nat.le_trans (ans50_len _ _) (by decide))]
    rintro e w7 ⟨rfl, L2, hw2, hf2, hg2⟩
    have hsz : w.heap.size ≤ w6.heap.size := Nat.le_trans B5.size b6.size
    refine ⟨keepG_nil _ _, _, rfl, br_n (by simp) ?_⟩
    rw [wr64 (by omega) (by omega)]
    exact ⟨⟨i + 1, L2, by omega, by omega, hw2, B5.trans ((b6.mono B5.size).trans (hf2.below hf hsz)), hg2.from hf hsz⟩, by dsimp only; omega⟩
  · obtain rfl : i = N := by omega
    refine ⟨fun x wx => ∃ j : Nat, x = j ∧ j ≤ i ∧ WinAt wx L w.heap.size (known m (ans50 ps) i) ∧ Below w.heap.size w wx, fun x _ => i - x.toNat, ⟨0, rfl, by omega, hw, hb⟩, ?_⟩
    rintro x w8 ⟨j, rfl, hj, hw8, hb8⟩
    refine br_dec (fun hlt => ?_) fun hge => ?_
    · have hips : j < ps.length := by omega
      refine newO_in fun w9 h9 b9 s9 => ?_
      rw [wru8 (by omega) (by omega), ← bV_nat j (by omega)] at h9
      refine (wLook_any _ _ L j (some ⟨w8.heap.size, 0, none⟩) 1 [UInt8.ofNat j] w9 (hw8.below b9) (one_row _ h9)).mono ?_
      rw [known_look (ans50 ps) i j (by omega) (by omega)]
      rintro e w10 ⟨v3, rfl, ho3, hb10⟩
      obtain ⟨a3, c3, rfl⟩ := ho3.isSlice
      refine ⟨keepG_nil _ _, _, _, _, _, rfl, ?_⟩
      refine drewO_in fun w11 hb11 e11 => ?_
      have B10 := hb8.trans ((b9.mono hb8.size).trans (hb10.mono (Nat.le_trans hb8.size b9.size)))
      have B11 := B10.trans (hb11.mono B10.size)
      have W11 := ((hw8.below b9).below hb10).below hb11
      have O11 := ho3.below hb11 (Nat.le_refl _)
      have hnext : (∃ j' : Nat, IntKind.i64.wrap ((j : Int) + 1) = j' ∧ j' ≤ i ∧ WinAt w11 L w.heap.size (known m (ans50 ps) i) ∧ Below w.heap.size w w11) ∧ i - (IntKind.i64.wrap ((j : Int) + 1)).toNat < i - (j : Int).toNat := by
        rw [wr64 (by omega) (by omega)]
        exact ⟨⟨j + 1, by omega, by omega, W11, B11⟩, by omega⟩
      have hwr : IntKind.i64.wrap ((i : Int) - (m : Int)) = (i : Int) - m := wr64 (by omega) (by omega)
      simp only [hwr]
      by_cases hin : i - m ≤ j
      · rw [if_pos hin] at O11 ⊢
        have R11 := O11.row
        obtain ⟨b, off, v, c, rfl, hc, hv, hvl, _⟩ := (hr.below B11 (Nat.le_refl _)).part hips
        refine br_y (by omega) (br_n (by simp) ⟨ans50 ps j, rfl, R11, by omega, by omega, v, ps[j].length, c, by simpa using hc, by omega, by omega, v, ps[j].length, c, by simpa using hc, by omega, by omega, ans50 ps j, ?_, ?_, br_n (by simp) (br_n (by omega) hnext)⟩)
        · rw [ans50_eq hips, take_toNat]
        · rw [ans50_eq hips]; exact slice_row hv 50
      · rw [if_neg hin] at O11 ⊢
        exact br_n (by omega) (br_y (by omega) (br_n (by simp) hnext))
    · refine (wLook_any _ _ L i none 0 [] w8 hw8 (.inl rfl)).mono ?_
      rintro e w12 ⟨v1, rfl, ho1, hb1⟩
      obtain ⟨a1, c1, rfl⟩ := ho1.isSlice
      refine ⟨keepG_nil _ _, _, _, _, _, rfl, ?_⟩
      have W12 := hw8.below hb1
      have B12 := hb8.trans (hb1.mono hb8.size)
      refine (wLook_any _ _ L t none 0 [] w12 W12 (.inl rfl)).mono ?_
      rintro e w13 ⟨v2, rfl, ho2, hb2⟩
      obtain ⟨a2, c2, rfl⟩ := ho2.isSlice
      have B13 := B12.trans (hb2.mono B12.size)
      refine ⟨keepG_nil _ _, _, _, _, _, rfl, ?_⟩
      rw [known_far (ans50 ps) i i [] (Int.le_refl _) (by omega), if_pos rfl]
      refine br_y rfl ?_
      refine br_dec (fun h1 => ⟨trivial, B13⟩) fun h1 => br_dec (fun h2 => ⟨trivial, B13⟩) fun h2 => ?_
      rw [known_far (ans50 ps) i t [] (by omega) (by omega), if_neg (by omega)]
      exact ⟨rfl, B13⟩
end Go.Proofs.Ytjjmhmbmjpedkaa
end
section
/- Arguments as the walks want them: bytes, rows of bytes. No program in sight. -/
namespace Go.Proofs.Ytjjmhmbmjpedkaa
open Go.RowKit Go.ChangeShapes
variable {H : Type} {enc : TypeId × Value → H} {P : Program} {W : World}
theorem addr_plain {w : World} {a : Addr} {v : Value} (h : w.cell? (a.add 0) = some v) : a = ⟨a.block, a.off, none⟩ := by
  have h0 : a.add 0 = a := by unfold Addr.add; rfl
  rw [h0] at h
  unfold World.cell? at h
  split at h
  · split at h
    · cases h
    · rename_i hs
      obtain ⟨b, o, s⟩ := a
      cases s with
      | none => rfl
      | some x => simp at hs
  · cases h
def ofI (zs : List Int) : List UInt8 := zs.map fun z => UInt8.ofNat z.toNat
theorem bV_ofI {z : Int} (h : (Lit.int .u8 z).wf = true) : bV (UInt8.ofNat z.toNat) = .int .u8 z := by
  have hz : 0 ≤ z ∧ z < 256 := by
    have e1 : IntKind.u8.min = 0 := rfl
    have e2 : IntKind.u8.max = 255 := rfl
    simp [Lit.wf] at h
    omega
  unfold bV
  rw [UInt8.toNat_ofNat', Nat.mod_eq_of_lt (by omega)]
  congr 1
  omega
theorem row_of_cells {a : Addr} {zs : List Int} {len : Nat} (hl : len ≤ zs.length) (hc : ∀ i, i < zs.length → W.cell? (a.add i) = some (.int .u8 (zs.getD i 0))) (hw : ∀ n ∈ zs, (Lit.int .u8 n).wf = true) : (ofI (zs.take len)).length = len ∧ RowAt W (some a) ((ofI (zs.take len)).map bV) := by
  refine ⟨by simp [ofI]; omega, ?_⟩
  cases hz : zs with
  | nil => exact .inl (by simp [ofI])
  | cons z0 r =>
    rw [← hz]
    have h0 := hc 0 (by rw [hz]; simp)
    have ha := addr_plain h0
    refine .inr ⟨a.block, a.off, by rw [← ha], fun i v hv => ?_⟩
    rw [List.getElem?_map, ofI, List.getElem?_map, List.getElem?_take] at hv
    split at hv
    · rcases hq : zs[i]? with _ | z
      · rw [hq] at hv; cases hv
      · rw [hq] at hv
        simp only [Option.map_some, Option.some.injEq] at hv
        have hi : i < zs.length := (List.getElem?_eq_some_iff.1 hq).1
        have h1 := hc i hi
        rw [ha, Addr.add_lit, List.getD_eq_getElem?_getD, hq] at h1
        rw [← hv, bV_ofI (hw z (List.mem_of_getElem? hq))]
        exact h1
    · cases hv
theorem open_bytes {t e : TypeId} {v : Value} {d : DataW H} {p : List MemPlace} (ht : P.underlying t = some (.slice e)) (he : P.underlying e = some (.int .u8)) (hc : P.cellsOf e = 1)
    (hv : ∃ a l c, v = .slice a l c) (h : DataW.Trod enc P W 0 (fun _ => true) true t v d p) : ∃ (bs : List UInt8) (a : Option Addr) (c : Nat), v = .slice a bs.length c ∧ bs.length ≤ c ∧ c ≤ maxLen ∧ RowAt W a (bs.map bV) := by
  obtain ⟨a, l, c, rfl⟩ := hv
  obtain ⟨fuel, hf⟩ := h
  rcases open_ints ht he hc hf with ⟨hcs, _⟩ | ⟨x, l', c', zs, hcs, _, hl, hm, hz, _, hcell, hwz⟩
  · simp [Value.cells] at hcs
    obtain ⟨rfl, rfl, rfl⟩ := hcs
    exact ⟨[], none, 0, rfl, Nat.le_refl _, by decide, .inl rfl⟩
  · simp [Value.cells] at hcs
    obtain ⟨rfl, rfl, rfl⟩ := hcs
    simp only [if_true] at hz
    obtain ⟨h1, h2⟩ := row_of_cells (len := l) (by omega) hcell hwz
    exact ⟨ofI (zs.take l), some x, c, by rw [h1], by rw [h1]; exact hl, hm, h2⟩
theorem open_parts {t e q : TypeId} {v : Value} {d : DataW H} {p : List MemPlace} (ht : P.underlying t = some (.slice e)) (he : P.underlying e = some (.slice q)) (hq : P.underlying q = some (.int .u8)) (ce : P.cellsOf e = 1) (cq : P.cellsOf q = 1)
    (hv : ∃ a l c, v = .slice a l c) (h : DataW.Trod enc P W 0 (fun _ => true) true t v d p) : ∃ (ps : List (List UInt8)) (a : Option Addr) (c : Nat), v = .slice a ps.length c ∧ ps.length ≤ c ∧ c ≤ maxLen ∧ PartsAt W a ps := by
  obtain ⟨a, l, c, rfl⟩ := hv
  obtain ⟨fuel, hf⟩ := h
  rcases Deep.open_int_rows ht he hq ce cq hf with ⟨hcs, _⟩ | ⟨x, l', c', A, L, C, Z, hcs, _, hl, hm, _, hrow⟩
  · simp [Value.cells] at hcs
    obtain ⟨rfl, rfl, rfl⟩ := hcs
    exact ⟨[], none, 0, rfl, Nat.le_refl _, by decide, .nil⟩
  · simp [Value.cells] at hcs
    obtain ⟨rfl, rfl, rfl⟩ := hcs
    have each : ∀ r, r < c → (ofI ((Z r).take (L r))).length = L r ∧ RowAt W (A r) ((ofI ((Z r).take (L r))).map bV) := fun r hr => by
      obtain ⟨_, h2, _, h4, h5, h6, h7⟩ := hrow r hr
      cases hA : A r with
      | none =>
        have hC := h6 hA
        have hL : L r = 0 := by omega
        rw [hL]
        exact ⟨by simp [ofI], .inl (by simp [ofI])⟩
      | some a' => exact row_of_cells (by omega) (fun i hi => (h7 a' hA).2 i (by omega)) h5
    let ps : List (List UInt8) := (List.range l).map fun r => ofI ((Z r).take (L r))
    let vs : List (Option Addr × Nat) := (List.range l).map fun r => (A r, C r)
    have hps : ps.length = l := by simp [ps]
    refine ⟨ps, some x, c, by rw [hps], by rw [hps]; exact hl, hm, vs, ?_, by simp [ps, vs], ?_⟩
    · by_cases h0 : l = 0
      · exact .inl (by rw [List.map_eq_nil_iff]; simp [ps, vs, h0])
      · have ha := addr_plain (hrow 0 (by omega)).1
        refine .inr ⟨x.block, x.off, by rw [← ha], fun i v hv => ?_⟩
        rw [List.getElem?_map] at hv
        rcases hz : (vs.zip ps)[i]? with _ | ⟨v1, p1⟩
        · rw [hz] at hv; cases hv
        · rw [hz] at hv
          simp only [Option.map_some, Option.some.injEq] at hv
          rw [List.getElem?_zip_eq_some] at hz
          obtain ⟨z1, z2⟩ := hz
          have hi : i < l := by
            have := (List.getElem?_eq_some_iff.1 z2).1
            omega
          simp only [vs, ps, List.getElem?_map, List.getElem?_range hi, Option.map_some, Option.some.injEq] at z1 z2
          rw [← hv, ← z1, ← z2, (each i (by omega)).1]
          have h1 := (hrow i (by omega)).1
          rw [ha, Addr.add_lit] at h1
          exact h1
    · intro v1 p1 hm1
      obtain ⟨i, hi⟩ := List.getElem?_of_mem hm1
      rw [List.getElem?_zip_eq_some] at hi
      obtain ⟨z1, z2⟩ := hi
      have hi : i < l := by
        have := (List.getElem?_eq_some_iff.1 z2).1
        omega
      simp only [vs, ps, List.getElem?_map, List.getElem?_range hi, Option.map_some, Option.some.injEq] at z1 z2
      obtain ⟨_, h2, h3, _⟩ := hrow i (by omega)
      rw [← z1, ← z2, (each i (by omega)).1]
      exact ⟨(each i (by omega)).2, h2, Nat.le_trans h2 h3⟩
theorem int_nat {z : Int} (h : 0 ≤ z) : ∃ n : Nat, z = (n : Int) := ⟨z.toNat, by omega⟩
theorem u32_nat {z : Int} (h : (Lit.int .u32 z).wf = true) : ∃ n : Nat, z = (n : Int) ∧ n < 4294967296 := by
  have hz : 0 ≤ z ∧ z < 4294967296 := by
    have e1 : IntKind.u32.min = 0 := rfl
    have e2 : IntKind.u32.max = 4294967295 := rfl
    simp [Lit.wf] at h
    omega
  exact ⟨z.toNat, by omega, by omega⟩
theorem i64_range {z : Int} (h : (Lit.int .i64 z).wf = true) : -9223372036854775808 ≤ z ∧ z ≤ 9223372036854775807 := by
  have e1 : IntKind.i64.min = -9223372036854775808 := rfl
  have e2 : IntKind.i64.max = 9223372036854775807 := rfl
  simp [Lit.wf] at h
  omega
end Go.Proofs.Ytjjmhmbmjpedkaa
end
section
/- Rows of ints. No program in sight. -/
namespace Go.Proofs.Ytjjmhmbmjpedkaa
open Go.RowKit Go.ChangeShapes
def iV (z : Int) : Value := .int .i64 z
def ints (zs : List Int) : Prop := ∀ z ∈ zs, -9223372036854775808 ≤ z ∧ z ≤ 9223372036854775807
theorem RowAt.int {w : World} {a : Option Addr} {zs : List Int} (h : RowAt w a (zs.map iV)) {k : Nat} (hk : k < zs.length) : ∃ b off, a = some ⟨b, off, none⟩ ∧ w.cell? ⟨b, off + k, none⟩ = some (.int .i64 zs[k]) := by
  rcases h with h | ⟨b, off, ha, h⟩
  · rw [List.map_eq_nil_iff] at h; subst h; simp at hk
  · exact ⟨b, off, ha, h k _ (by rw [List.getElem?_map, List.getElem?_eq_getElem hk]; rfl)⟩
theorem one_iV {zs : List Int} : ∀ u ∈ zs.map iV, u.oneCell' = true := by
  intro u hu
  obtain ⟨x, _, rfl⟩ := List.mem_map.1 hu
  rfl
theorem min_takeI (zs : List Int) (n : Nat) : min (zs.length : Int) (n : Int) = ((zs.take n).length : Int) := by
  rw [List.length_take]; omega
variable {P : Program} {W : World} {H : Type} {enc : TypeId × Value → H}
theorem row_of_ints {a : Addr} {zs : List Int} {len : Nat} (hl : len ≤ zs.length) (hc : ∀ i, i < zs.length → W.cell? (a.add i) = some (.int .i64 (zs.getD i 0))) : (zs.take len).length = len ∧ RowAt W (some a) ((zs.take len).map iV) := by
  refine ⟨by simp; omega, ?_⟩
  cases hz : zs with
  | nil => exact .inl (by simp)
  | cons z0 r =>
    rw [← hz]
    have h0 := hc 0 (by rw [hz]; simp)
    have ha := addr_plain h0
    refine .inr ⟨a.block, a.off, by rw [← ha], fun i v hv => ?_⟩
    rw [List.getElem?_map, List.getElem?_take] at hv
    split at hv
    · rcases hq : zs[i]? with _ | z
      · rw [hq] at hv; cases hv
      · rw [hq] at hv
        simp only [Option.map_some, Option.some.injEq] at hv
        have hi : i < zs.length := (List.getElem?_eq_some_iff.1 hq).1
        have h1 := hc i hi
        rw [ha, Addr.add_lit, List.getD_eq_getElem?_getD, hq] at h1
        rw [← hv]
        exact h1
    · cases hv
theorem open_i64s {t e : TypeId} {v : Value} {d : DataW H} {p : List MemPlace} (ht : P.underlying t = some (.slice e)) (he : P.underlying e = some (.int .i64)) (hc : P.cellsOf e = 1)
    (hv : ∃ a l c, v = .slice a l c) (h : DataW.Trod enc P W 0 (fun _ => true) true t v d p) : ∃ (zs : List Int) (a : Option Addr) (c : Nat), v = .slice a zs.length c ∧ zs.length ≤ c ∧ c ≤ maxLen ∧ RowAt W a (zs.map iV) ∧ ints zs := by
  obtain ⟨a, l, c, rfl⟩ := hv
  obtain ⟨fuel, hf⟩ := h
  rcases open_ints ht he hc hf with ⟨hcs, _⟩ | ⟨x, l', c', zs, hcs, _, hl, hm, hz, _, hcell, hwz⟩
  · simp [Value.cells] at hcs
    obtain ⟨rfl, rfl, rfl⟩ := hcs
    exact ⟨[], none, 0, rfl, Nat.le_refl _, by decide, .inl rfl, fun _ h => by cases h⟩
  · simp [Value.cells] at hcs
    obtain ⟨rfl, rfl, rfl⟩ := hcs
    simp only [if_true] at hz
    obtain ⟨h1, h2⟩ := row_of_ints (len := l) (by omega) hcell
    exact ⟨zs.take l, some x, c, by rw [h1], by rw [h1]; exact hl, hm, h2, fun z hz => i64_range (hwz z (List.mem_of_mem_take hz))⟩
end Go.Proofs.Ytjjmhmbmjpedkaa
end
section
/- WindowSparse: a window that isn't strict keeps rising numbers, with gaps; what lies in a gap is stale. -/
namespace Go.Proofs.Ytjjmhmbmjpedkaa
open Go.RowKit
theorem sparse_miss {m : Nat} {la z : Int} {es : List Ent} (hn : ∀ x ∈ es.drop (es.length - m), x.num ≠ z) (h0 : 0 ≤ z) (h1 : z ≤ 4611686018427387904) (q : List UInt8) : (lastWin m false la es).look z q = ([], if z ≤ la then 13 else 7) := by
  by_cases h : z ≤ la
  · rw [last_stale hn h0 h1 h, if_pos h]
  · rw [if_neg h]
    unfold Win.look lastWin
    rw [if_neg (by omega)]
    dsimp only
    rw [find_no hn]
    dsimp only
    rw [if_neg h, if_neg (by simp)]
theorem sparse_hit {m : Nat} {la : Int} {es : List Ent} {i : Nat} {e : Ent} (he : es[i]? = some e) (hi : es.length - m ≤ i) (hs : es.Pairwise fun x y => x.num < y.num) (h0 : 0 ≤ e.num) (h1 : e.num ≤ 4611686018427387904) (q : List UInt8) :
    (lastWin m false la es).look e.num q = if e.req = q then (e.ans, 0) else ([], 14) :=
  last_known he hi (fun x hx hxe => by
    obtain ⟨j, hj⟩ := List.mem_iff_getElem?.1 hx
    rw [List.pairwise_iff_getElem] at hs
    obtain ⟨hjl, rfl⟩ := List.getElem?_eq_some_iff.1 hj
    obtain ⟨hil, rfl⟩ := List.getElem?_eq_some_iff.1 he
    rcases Nat.lt_trichotomy i j with h | h | h
    · have := hs i j hil hjl h; omega
    · subst h; rfl
    · have := hs j i hjl hil h; omega) h0 h1 q
def numV (e : Ent) : Value := .int .i64 e.num
structure SparseAt (w : World) (n0 p m : Nat) (a : Option Addr) (n c : Nat) (la : Int) (es : List Ent) (L : List Nat) : Prop where
  win : WinAt w L p (lastWin m false la es)
  own : Own w 0 3 1 (.slice a n c) n (es.map numV)
  far : ∀ k, (Value.slice a n c).ownBlock = some k → k ∉ L ∧ n0 ≤ k
  frm : From n0 L
  le : ∀ x ∈ es, x.num ≤ la
  pos : ∀ x ∈ es, 0 ≤ x.num
  req : ∀ x ∈ es, x.req = [1]
  inc : es.Pairwise fun x y => x.num < y.num
theorem SparseAt.len {w : World} {n0 p m n c : Nat} {a : Option Addr} {la : Int} {es : List Ent} {L : List Nat} (h : SparseAt w n0 p m a n c la es L) : es.length = n := by have := h.own.1; simpa using this
theorem SparseAt.push {w : World} {n0 p m n c : Nat} {a : Option Addr} {la : Int} {es : List Ent} {L L2 : List Nat} (h : SparseAt w n0 p m a n c la es L) (hn0 : n0 ≤ w.heap.size) {z : Int} {ans : List UInt8} (h0 : 0 ≤ z) (hz : la < z) {w6 w7 w8 w9 : World} (b6 : Below w.heap.size w w6)
    (hw : WinAt w7 L2 p (lastWin m false z (es ++ [Ent.mk z [1] ans]))) (hf : Fr L w6 w7) (hg : Gr L L2 w6.heap.size) (b8 : Below w7.heap.size w7 w8) {a' : Option Addr} {c' : Nat}
    (ho : Own w9 0 3 1 (.slice a' (n + 1) c') (n + 1) (es.map numV ++ [.int .i64 z])) (hgr : w8.grownBy w9 (Value.slice a n c).ownBlock) (hor : (Value.slice a' (n + 1) c').ownBlock = (Value.slice a n c).ownBlock ∨ ∃ g, (Value.slice a' (n + 1) c').ownBlock = some g ∧ w8.heap.size ≤ g) :
    SparseAt w9 n0 p m a' (n + 1) c' z (es ++ [Ent.mk z [1] ans]) L2 := by
  have hs67 := hf.size
  have hs78 := b8.size
  have hold : ∀ k, (Value.slice a n c).ownBlock = some k → k ∉ L2 := fun k hk hm => by
    have hlt := (h.own.lt k hk).2
    rcases hg k hm with h1 | h1
    · exact (h.far k hk).1 h1
    · have := b6.size; omega
  refine ⟨?_, by rw [List.map_append]; exact ho, fun k hk => ?_, hg.from h.frm (Nat.le_trans hn0 b6.size), fun x hx => ?_, fun x hx => ?_, fun x hx => ?_, ?_⟩
  · refine (hw.below b8).keep (fun k hk => hgr.block k (Nat.lt_of_lt_of_le (hw.under k hk) b8.size) fun e => ?_) hgr.size
    exact hold k e.symm hk
  · rcases hor with e | ⟨g, e, hge⟩
    · rw [e] at hk
      exact ⟨hold k hk, (h.far k hk).2⟩
    · rw [e] at hk; injection hk with hk; subst hk
      refine ⟨fun hm => ?_, ?_⟩
      · have := hw.under g hm; omega
      · have := b6.size; omega
  · rcases List.mem_append.1 hx with hx | hx
    · have := h.le x hx; omega
    · rw [List.mem_singleton] at hx; subst hx; exact Int.le_refl _
  · rcases List.mem_append.1 hx with hx | hx
    · exact h.pos x hx
    · rw [List.mem_singleton] at hx; subst hx; exact h0
  · rcases List.mem_append.1 hx with hx | hx
    · exact h.req x hx
    · rw [List.mem_singleton] at hx; subst hx; rfl
  · rw [List.pairwise_append]
    refine ⟨h.inc, by simp, fun x hx y hy => ?_⟩
    rw [List.mem_singleton] at hy; subst hy
    have := h.le x hx
    dsimp only; omega
/-- A row of ints that came in. -/
def IntsAt (w : World) (a : Option Addr) (zs : List Int) : Prop := RowAt w a (zs.map fun z => Value.int .i64 z)
theorem row_int {w : World} {a : Option Addr} {zs : List Int} (h : IntsAt w a zs) {i : Nat} (hi : i < zs.length) : ∃ b off, a = some ⟨b, off, none⟩ ∧ w.cell? ⟨b, off + i * 1, none⟩ = some (.int .i64 zs[i]) := by
  rcases h with h | ⟨b, off, ha, h⟩
  · rw [List.map_eq_nil_iff] at h; subst h; simp at hi
  · exact ⟨b, off, ha, by rw [Nat.mul_one]; exact h i _ (by rw [List.getElem?_map, List.getElem?_eq_getElem hi]; rfl)⟩
theorem lSparse_walk (z : Int) (a : Option Addr) (ca : Nat) (zs : List Int) (t : Int) (w : World) (hl : zs.length ≤ maxLen) (hr : IntsAt w a zs) :
    Calls Try.prog 4 #[.int .i64 z, .slice a zs.length ca, .int .i64 t] w fun e w' => e = .returned (.bool true) ∧ Below w.heap.size w w' := by
  refine (GWinLaw.lSparse_calls z a zs.length ca t w (fun v w' => v = .bool true ∧ Below w.heap.size w w') ?_).mono (by rintro e w' ⟨v, rfl, rfl, hb⟩; exact ⟨rfl, hb⟩)
  unfold GWinLaw.lSparse_vc
  obtain ⟨m0, hm0, hm⟩ := u64_mod z 6 (by decide)
  have hmost : IntKind.i64.wrap (1 + IntKind.i64.wrap (Int.tmod (IntKind.u64.wrap z) 6)) = ((m0 + 1 : Nat) : Int) := by
    rw [show (6 : Int) = ((6 : Nat) : Int) from rfl, hm, wr64 (z := (m0 : Int)) (by omega) (by omega), wr64 (by omega) (by omega)]; omega
  obtain ⟨q, hq0, hq⟩ := u64_mod t 120 (by decide)
  have hask : IntKind.i64.wrap (Int.tmod (IntKind.u64.wrap t) 120) = (q : Int) := by
    rw [show (120 : Int) = ((120 : Nat) : Int) from rfl, hq, wr64 (by omega) (by omega)]
  simp only [hmost, hask]
  generalize hm1 : m0 + 1 = m
  refine ⟨by decide, ?_⟩
  refine (wNew_any m false w (by omega) (by omega)).mono ?_
  rintro e w1 ⟨rfl, hw1, hb1⟩
  refine ⟨keepG_nil _ _, _, _, rfl, ?_⟩
  refine (windows_any w1).mono ?_
  rintro e w2 ⟨rfl, hb2⟩
  refine ⟨keepG_nil _ _, _, rfl, ?_⟩
  refine br_f rfl (br_n (by decide) ?_)
  have B2 := hb1.trans (hb2.mono hb1.size)
  refine ⟨fun a9 n9 c9 x10 x11 wx => ∃ (i : Nat) (es : List Ent) (L : List Nat), x11 = i ∧ i ≤ zs.length ∧ i ≤ 20 ∧ i = n9 ∧ -1 ≤ x10 ∧ x10 ≤ 5 * i ∧ SparseAt wx w.heap.size w.heap.size m a9 n9 c9 x10 es L ∧ Below w.heap.size w wx, fun _ _ _ _ x11 _ => 20 - x11.toNat, ?_, ?_⟩
  · refine ⟨0, [], [w.heap.size], rfl, by omega, by omega, rfl, by omega, by omega, ⟨?_, Own.nil _ _ _ _, (fun k hk => by cases hk), fun k hk => ?_, by simp, by simp, by simp, List.Pairwise.nil⟩, B2⟩
    · rw [show lastWin m false (-1) [] = (⟨m, false, -1, []⟩ : Win) by simp [lastWin]]; exact hw1.below (hb2.mono (Nat.le_refl _))
    · rw [List.mem_singleton] at hk; rw [hk]; exact Nat.le_refl _
  rintro a9 n9 c9 x10 x11 w4 ⟨i, es, L, rfl, hi, hi20, rfl, hla0, hla1, hS, hb⟩
  have key : ∀ J : Prop, J → J := fun _ h => h
  refine br_dec (fun hlt => br_dec (fun hlt2 => ?_) fun hge => ?_) fun hge => ?_
  · have hil : i < zs.length := by omega
    obtain ⟨b, off, rfl, hc⟩ := row_int (show IntsAt w4 a zs from RowAt.below hr hb (Nat.le_refl _)) hil
    refine ⟨by omega, by omega, zs[i], by simpa using hc, by decide, ?_⟩
    obtain ⟨s, hs0, hs⟩ := u64_mod zs[i] 5 (by decide)
    have hstep : IntKind.i64.wrap (IntKind.i64.wrap (x10 + 1) + IntKind.i64.wrap (Int.tmod (IntKind.u64.wrap zs[i]) 5)) = x10 + 1 + s := by
      rw [show (5 : Int) = ((5 : Nat) : Int) from rfl, hs, wr64 (z := (s : Int)) (by omega) (by omega), wr64 (z := x10 + 1) (by omega) (by omega), wr64 (by omega) (by omega)]
    simp only [hstep]
    refine newO_in fun w5 h5 b5 s5 => ?_
    refine newO_in fun w6 h6 b6 s6 => ?_
    rw [wru8 (by omega) (by omega)] at h6
    have R1 : RowAt w6 (some ⟨w4.heap.size, 0, none⟩) ([(1 : UInt8)].map bV) := (one_row 1 h5).below b6 (Nat.le_refl _)
    have R2 : RowAt w6 (some ⟨w5.heap.size, 0, none⟩) ([UInt8.ofNat i].map bV) := by rw [← bV_nat i (by omega)] at h6; exact one_row _ h6
    have b46 : Below w4.heap.size w4 w6 := b5.trans (b6.mono b5.size)
    refine (wKeep_any _ _ L (x10 + 1 + s) (some ⟨w4.heap.size, 0, none⟩) 1 [1] (some ⟨w5.heap.size, 0, none⟩) 1 [UInt8.ofNat i] w6 (hS.win.below b46) R1 R2).mono ?_
    rw [last_keep (by omega) hS.le (by omega) (by omega) (by omega) (by simp) [1] [UInt8.ofNat i] (by simp) (by simp)]
    rintro e w7 ⟨rfl, L2, hw2, hf2, hg2⟩
    refine ⟨keepG_nil _ _, _, rfl, br_n (by simp) ?_⟩
    refine newO_in fun w8 h8 b8 s8 => ?_
    have hown8 : Own w8 0 3 1 (.slice a9 i c9) i (es.map numV) := by
      refine Own.keep (((hS.own.below b46 (Nat.le_refl _)).keep fun k hk => ?_).below b8 (Nat.le_refl _)) fun k hk => rfl
      exact hf2.block k (Nat.lt_of_lt_of_le (hS.own.lt k hk).2 b46.size) (hS.far k hk).1
    refine ⟨1, es.map numV, [.int .i64 (x10 + 1 + s)], hown8, src_block Try.underlying34 (n := 1) (size := 1) h8 rfl rfl, by unfold maxLen; omega, by omega, by simp, ?_⟩
    intro a' c' w9 ho9 hgr hor
    have hsz : w.heap.size ≤ w6.heap.size := Nat.le_trans hb.size b46.size
    have hfb := hf2.below hS.frm hsz
    have B9 : Below w.heap.size w w9 := by
      have B8 : Below w.heap.size w w8 := (hb.trans ((b46.mono hb.size).trans hfb)).trans (b8.mono (Nat.le_trans hsz hf2.size))
      have : Fr [] w w9 := (Fr.ofBelow B8).grown hgr fun k hk => .inr (hS.far k hk).2
      exact this.below (fun k hk => by cases hk) (Nat.le_refl _)
    refine ⟨⟨i + 1, es ++ [Ent.mk (x10 + 1 + s) [1] [UInt8.ofNat i]], L2, ?_, by omega, by omega, rfl, by omega, by omega, hS.push hb.size (by omega) (by omega) b46 hw2 hf2 hg2 b8 ho9 hgr hor, B9⟩, ?_⟩
    · rw [wr64 (by omega) (by omega)]; omega
    · rw [wr64 (by omega) (by omega)]; omega
  all_goals
    have hlen := hS.len
    refine ⟨by decide, fun x wx => x = (if (q : Int) ≤ x10 then 13 else 7) ∧ wx = w4, ?_, ?_⟩
    · refine br_dec (fun h => ⟨by rw [if_pos h], rfl⟩) fun h => ⟨by rw [if_neg h], rfl⟩
    rintro x12 wx ⟨rfl, rfl⟩
    have hst : max (IntKind.i64.wrap (((i : Nat) : Int) - (m : Int))) 0 = ((i - m : Nat) : Int) := by rw [wr64 (by omega) (by omega)]; omega
    simp only [hst]
    refine ⟨fun x12 x13 wy => ∃ j : Nat, x13 = j ∧ i - m ≤ j ∧ j ≤ i ∧ wy = wx ∧ (x12 = 0 ∧ (∃ k e, i - m ≤ k ∧ es[k]? = some e ∧ e.num = q) ∨ x12 = (if (q : Int) ≤ x10 then 13 else 7) ∧ ∀ k e, i - m ≤ k → k < j → es[k]? = some e → e.num ≠ q), fun _ x13 _ => i - x13.toNat, ⟨i - m, rfl, by omega, by omega, rfl, .inr ⟨rfl, fun k e h1 h2 => by omega⟩⟩, ?_⟩
    rintro x12 x13 wy ⟨j, rfl, hj0, hj1, rfl, hwant⟩
    refine br_dec (fun hlt3 => ?_) fun hge3 => ?_
    · have hjl : j < es.length := by omega
      obtain ⟨g, off, rfl, hc⟩ := own_cell hS.own (i := j) (v := numV es[j]) (by rw [List.getElem?_map, List.getElem?_eq_getElem hjl]; rfl)
      refine ⟨by omega, by omega, es[j].num, by simpa [numV] using hc, ?_⟩
      rw [wr64 (by omega) (by omega)]
      refine br_dec (fun heq => ?_) fun hne => ?_
      · exact ⟨⟨j + 1, by omega, by omega, by omega, rfl, .inl ⟨rfl, j, es[j], hj0, List.getElem?_eq_getElem hjl, heq⟩⟩, by dsimp only; omega⟩
      · refine ⟨⟨j + 1, by omega, by omega, by omega, rfl, ?_⟩, by dsimp only; omega⟩
        rcases hwant with h | ⟨h1, h2⟩
        · exact .inl h
        · refine .inr ⟨h1, fun k e hk1 hk2 hk3 => ?_⟩
          by_cases hkj : k = j
          · subst hkj
            rw [List.getElem?_eq_getElem hjl] at hk3
            injection hk3 with hk3
            rw [← hk3]; exact hne
          · exact h2 k e hk1 (by omega) hk3
    · obtain rfl : j = i := by omega
      refine newO_in fun w11 h11 b11 s11 => ?_
      refine (wLook_any _ _ L q (some ⟨wy.heap.size, 0, none⟩) 1 [1] w11 (hS.win.below b11) (one_row 1 h11)).mono ?_
      rintro e w12 ⟨v1, rfl, ho1, hb12⟩
      obtain ⟨a1, c1, rfl⟩ := ho1.isSlice
      refine ⟨keepG_nil _ _, _, _, _, _, rfl, ?_⟩
      refine newO_in fun w13 h13 b13 s13 => ?_
      refine (wLook_any _ _ L q (some ⟨w12.heap.size, 0, none⟩) 1 [2] w13 (((hS.win.below b11).below hb12).below b13) (one_row 2 h13)).mono ?_
      rintro e w14 ⟨v2, rfl, ho2, hb14⟩
      obtain ⟨a2, c2, rfl⟩ := ho2.isSlice
      refine ⟨keepG_nil _ _, _, _, _, _, rfl, ?_⟩
      have W14 := (((hS.win.below b11).below hb12).below b13).below hb14
      have B12 := hb.trans ((b11.mono hb.size).trans (hb12.mono (Nat.le_trans hb.size b11.size)))
      have B14 := B12.trans ((b13.mono B12.size).trans (hb14.mono (Nat.le_trans B12.size b13.size)))
      have fin : Calls Try.prog 17 #[.pointer (some ⟨w.heap.size, 0, none⟩)] w14 fun e_6 w_15 => KeepG [] w14 w_15 ∧ ∃ (x126 : Int), e_6 = .returned (.int .i64 x126) ∧ (Value.bool (decide (x126 = x10)) = .bool true ∧ Below w.heap.size w w_15) := by
        refine (wLast_any _ _ L w14 W14).mono ?_
        rintro e w15 ⟨rfl, rfl⟩
        exact ⟨keepG_nil _ _, _, rfl, by simp [lastWin], B14⟩
      rcases hwant with ⟨rfl, k, e, hk1, hk2, hk3⟩ | ⟨hx, hno⟩
      · have hem := List.mem_of_getElem? hk2
        have l1 := sparse_hit (la := x10) hk2 (by rw [hlen]; exact hk1) hS.inc (hS.pos e hem) (by omega) [1]
        have l2 := sparse_hit (la := x10) hk2 (by rw [hlen]; exact hk1) hS.inc (hS.pos e hem) (by omega) [2]
        rw [hk3, hS.req e hem] at l1 l2
        rw [l1, l2]
        exact br_y rfl (br_n (by simp) (br_y rfl (br_y rfl fin)))
      · have hno2 : ∀ x ∈ es.drop (es.length - m), x.num ≠ (q : Int) := fun x hx => by
          obtain ⟨k, hk⟩ := List.mem_iff_getElem?.1 hx
          rw [List.getElem?_drop] at hk
          have hlt4 := (List.getElem?_eq_some_iff.1 hk).1
          exact hno _ x (by omega) (by omega) hk
        rw [sparse_miss hno2 (by omega) (by omega) [1], sparse_miss hno2 (by omega) (by omega) [2], hx]
        have hne0 : (if (q : Int) ≤ x10 then (13 : Int) else 7) ≠ 0 := by split <;> decide
        exact br_y rfl (br_y hne0 (br_y rfl fin))
end Go.Proofs.Ytjjmhmbmjpedkaa
end
section
/- The document's window in memory: Last, Kept, Look, DocKeep. -/
namespace Go.Proofs.Ytjjmhmbmjpedkaa
open Go.RowKit
def rCells (e : Ent) : List Value := [.int .i64 e.num, .string (strOf e.req), .string (strOf e.ans)]
def rRow (es : List Ent) : List Value := es.flatMap rCells
theorem rRow_len (es : List Ent) : (rRow es).length = es.length * 3 := by
  induction es with
  | nil => rfl
  | cons e r ih => simp only [rRow, List.flatMap_cons, List.length_append] at ih ⊢; rw [ih]; simp [rCells]; omega
theorem rRow_get : ∀ (es : List Ent) (i : Nat) (e : Ent) (j : Nat), es[i]? = some e → j < 3 → (rRow es)[i * 3 + j]? = (rCells e)[j]?
  | x :: r, 0, e, j, h, hj => by
    cases h
    rw [rRow, List.flatMap_cons, List.getElem?_append_left (by simp [rCells]; omega)]
    congr 1; omega
  | x :: r, i + 1, e, j, h, hj => by
    rw [rRow, List.flatMap_cons, List.getElem?_append_right (by simp [rCells]; omega)]
    have := rRow_get r i e j (by simpa using h) hj
    rw [← this, rRow]
    congr 1
    simp [rCells]; omega
theorem rRow_app (es : List Ent) (e : Ent) : rRow (es ++ [e]) = rRow es ++ rCells e := by simp [rRow]
def lastNum (es : List Ent) : Int := match es.getLast? with
  | some e => e.num
  | none => -1
theorem lastNum_app (es : List Ent) (e : Ent) : lastNum (es ++ [e]) = e.num := by simp [lastNum]
def refWin (m : Nat) (st : Bool) (es : List Ent) : Win := lastWin m st (lastNum es) es
theorem refWin_push {m : Nat} (hm : 1 ≤ m) (st : Bool) (es : List Ent) (z : Int) (q a : List UInt8) : (refWin m st es).push z q a = refWin m st (es ++ [Ent.mk z q a]) := by
  unfold refWin; rw [last_push hm, lastNum_app]
/-- The numbers rise; in a strict one without a gap. -/
def Rise (st : Bool) (es : List Ent) : Prop := ∀ (i : Nat) (e : Ent), es[i]? = some e → (st = true → e.num = (i : Int)) ∧ lastNum (es.take i) < e.num
theorem Rise.nil (st : Bool) : Rise st [] := fun i e h => by cases h
theorem rise_last {es : List Ent} (h : Rise true es) : lastNum es = (es.length : Int) - 1 := by
  rcases List.eq_nil_or_concat es with rfl | ⟨r, e, rfl⟩
  · rfl
  · rw [List.concat_eq_append] at *
    rw [lastNum_app]
    have := (h r.length e (by simp)).1 rfl
    rw [this, List.length_append, List.length_singleton]; omega
theorem Rise.push {st : Bool} {es : List Ent} (h : Rise st es) {e : Ent} (h1 : lastNum es < e.num) (h2 : st = true → e.num = lastNum es + 1) : Rise st (es ++ [e]) := fun i x hx => by
  by_cases hi : i < es.length
  · rw [List.getElem?_append_left hi] at hx
    rw [List.take_append_of_le_length (by omega)]
    exact h i x hx
  · have hlt := (List.getElem?_eq_some_iff.1 hx).1
    rw [List.length_append, List.length_singleton] at hlt
    obtain rfl : i = es.length := by omega
    rw [List.getElem?_append_right (Nat.le_refl _), Nat.sub_self] at hx
    injection hx with hx; subst hx
    rw [List.take_left]
    refine ⟨fun hs => ?_, h1⟩
    subst hs
    rw [h2 rfl, rise_last h]; omega
theorem look_rise {m : Nat} {st : Bool} {es : List Ent} {n : Int} {q : List UInt8} (h : ((refWin m st es).look n q).2 = 7) : lastNum es < n ∧ (st = true → n = lastNum es + 1) := by
  unfold Win.look at h
  split at h
  · simp at h
  · split at h
    · split at h <;> simp at h
    · split at h
      · simp at h
      · rename_i h1
        split at h
        · simp at h
        · rename_i h2
          have e1 : (refWin m st es).last = lastNum es := rfl
          have e2 : (refWin m st es).strict = st := rfl
          rw [e1] at h1 h2
          rw [e2] at h2
          exact ⟨by omega, fun hs => Classical.byContradiction fun hn => h2 ⟨hs, hn⟩⟩
/-- The document's window, with all that was ever kept. -/
structure RefAt (w : World) (L : List Nat) (p m : Nat) (st : Bool) (es : List Ent) : Prop where
  ex : ∃ a c, Bk w p #[.int .i64 m, .bool st, .slice a es.length c] 61 ∧ Own w 0 116 3 (.slice a es.length c) es.length (rRow es) ∧ (Value.slice a es.length c).ownBlock ≠ some p ∧ ∀ k, (Value.slice a es.length c).ownBlock = some k → k ∈ L
  mem : p ∈ L
  under : Under L w.heap.size
  len : es.length ≤ 1000
  m1 : 1 ≤ m
  m2 : m ≤ 64
  num : ∀ e ∈ es, 0 ≤ e.num ∧ e.num ≤ 4611686018427387904
  rise : Rise st es
theorem RefAt.keep {w w' : World} {L : List Nat} {p m : Nat} {st : Bool} {es : List Ent} (h : RefAt w L p m st es) (hk : ∀ k ∈ L, w'.heap[k]? = w.heap[k]?) (hs : w.heap.size ≤ w'.heap.size) : RefAt w' L p m st es := by
  obtain ⟨⟨a, c, h1, h2, h3, h4⟩, hm, hu, hl, r1, r2, r3, r4⟩ := h
  exact ⟨⟨a, c, h1.keep (hk p hm), h2.keep (fun k e => hk k (h4 k e)), h3, h4⟩, hm, hu.mono hs, hl, r1, r2, r3, r4⟩
theorem RefAt.fr {w w' : World} {L M : List Nat} {p m : Nat} {st : Bool} {es : List Ent} (h : RefAt w L p m st es) (hf : Fr M w w') (ha : Apart L M) : RefAt w' L p m st es := h.keep (hf.keep ha h.under) hf.size
theorem RefAt.below {w w' : World} {L : List Nat} {p m : Nat} {st : Bool} {es : List Ent} (h : RefAt w L p m st es) (hb : Below w.heap.size w w') : RefAt w' L p m st es := h.keep (fun k hk => hb.block k (h.under k hk)) hb.size
theorem RefAt.last {w : World} {L : List Nat} {p m : Nat} {st : Bool} {es : List Ent} (h : RefAt w L p m st es) : -1 ≤ lastNum es ∧ lastNum es ≤ 4611686018427387904 := by
  unfold lastNum
  split
  · rename_i e he
    have := h.num e (List.mem_of_getLast? he); omega
  · omega
theorem ref_cell {w : World} {a : Option Addr} {c : Nat} {es : List Ent} (h : Own w 0 116 3 (.slice a es.length c) es.length (rRow es)) {i : Nat} {e : Ent} (he : es[i]? = some e) :
    ∃ b off, a = some ⟨b, off, none⟩ ∧ es.length ≤ c ∧ ∀ j, j < 3 → w.cell? ⟨b, off + i * 3 + j, none⟩ = (rCells e)[j]? := by
  have hlt := (List.getElem?_eq_some_iff.1 he).1
  rcases h.2 with ⟨_, h0⟩ | ⟨g, off, cap, cur, hv, _, _, hc, _⟩
  · omega
  · injection hv with h1 h2 h3
    subst h1; subst h3
    refine ⟨g, off, rfl, hc, fun j hj => ?_⟩
    have h4 := rRow_get es i e j he hj
    have hx : ∃ v, (rCells e)[j]? = some v := ⟨_, List.getElem?_eq_getElem (by simp [rCells]; omega)⟩
    obtain ⟨v, hv⟩ := hx
    rw [hv] at h4 ⊢
    rw [Nat.add_assoc]
    exact h.cells g off c rfl _ v h4
theorem rLast_raw (p : Nat) (m : Int) (st : Bool) (es : List Ent) (a : Option Addr) (c : Nat) (w : World) (h1 : Bk w p #[.int .i64 m, .bool st, .slice a es.length c] 61) (h2 : Own w 0 116 3 (.slice a es.length c) es.length (rRow es)) (hl : es.length ≤ 1000) :
    Calls Try.prog 33 #[.pointer (some ⟨p, 0, none⟩)] w fun e w' => e = .returned (.int .i64 (lastNum es)) ∧ Below w.heap.size w w' := by
  refine (GWinActs.rLast_calls _ w (fun v w' => v = .int .i64 (lastNum es) ∧ Below w.heap.size w w') ?_).mono (by rintro e w' ⟨v, rfl, rfl, hb⟩; exact ⟨rfl, hb⟩)
  unfold GWinActs.rLast_vc
  refine ⟨a, es.length, c, by rw [h1.cell]; rfl, ?_⟩
  refine br_dec (fun h0 => ?_) fun h0 => ?_
  · have : es = [] := List.eq_nil_of_length_eq_zero (by omega)
    subst this
    exact ⟨rfl, Below.refl _ _⟩
  · refine drewO_in fun w2 hb2 _ => ?_
    have h1 := h1.keep (hb2.block p h1.lt)
    have h2 := h2.below hb2 (Nat.le_refl _)
    have hlt : es.length - 1 < es.length := by omega
    obtain ⟨b, off, rfl, _, hc⟩ := ref_cell h2 (List.getElem?_eq_getElem hlt)
    refine ⟨some ⟨b, off, none⟩, es.length, c, by rw [h1.cell]; rfl, some ⟨b, off, none⟩, es.length, c, by rw [h1.cell]; rfl, ?_⟩
    rw [wr64 (by omega) (by omega)]
    refine ⟨by omega, by omega, _, ?_, rfl, hb2⟩
    have := hc 0 (by omega)
    rw [show ((es.length : Int) - 1).toNat = es.length - 1 by omega]
    rw [show lastNum es = es[es.length - 1].num by
      unfold lastNum
      rw [List.getLast?_eq_getElem?, List.getElem?_eq_getElem hlt]]
    simpa [rCells] using this
theorem rLast_any (p m : Nat) (st : Bool) (es : List Ent) (L : List Nat) (w : World) (h : RefAt w L p m st es) :
    Calls Try.prog 33 #[.pointer (some ⟨p, 0, none⟩)] w fun e w' => e = .returned (.int .i64 (lastNum es)) ∧ Below w.heap.size w w' := by
  obtain ⟨⟨a, c, h1, h2, h3, h4⟩, hm, hu, hl, r1, r2, r3, r4⟩ := h
  exact rLast_raw p m st es a c w h1 h2 hl
theorem rKept_any (p m : Nat) (st : Bool) (es : List Ent) (L : List Nat) (w : World) (h : RefAt w L p m st es) :
    Calls Try.prog 34 #[.pointer (some ⟨p, 0, none⟩)] w fun e w' => (∃ a c, e = .returned (.slice a (es.drop (es.length - m)).length c) ∧ ∀ wx, Below w.heap.size w wx → ∀ (i : Nat) (x : Ent), (es.drop (es.length - m))[i]? = some x → ∃ b off, a = some ⟨b, off, none⟩ ∧ ∀ j, j < 3 → wx.cell? ⟨b, off + i * 3 + j, none⟩ = (rCells x)[j]?) ∧ Below w.heap.size w w' := by
  refine (GWinActs.rKept_calls _ w (fun v w' => (∃ a c, v = .slice a (es.drop (es.length - m)).length c ∧ ∀ wx, Below w.heap.size w wx → ∀ (i : Nat) (x : Ent), (es.drop (es.length - m))[i]? = some x → ∃ b off, a = some ⟨b, off, none⟩ ∧ ∀ j, j < 3 → wx.cell? ⟨b, off + i * 3 + j, none⟩ = (rCells x)[j]?) ∧ Below w.heap.size w w') ?_).mono (by rintro e w' ⟨v, rfl, ⟨a, c, rfl, h⟩, hb⟩; exact ⟨⟨a, c, rfl, h⟩, hb⟩)
  obtain ⟨⟨a, c, h1, h2, h3, h4⟩, hm, hu, hl, r1, r2, r3, r4⟩ := h
  unfold GWinActs.rKept_vc
  refine drewO_in fun w2 hb2 _ => ?_
  have h1 := h1.keep (hb2.block p h1.lt)
  refine ⟨a, es.length, c, by rw [h1.cell]; rfl, a, es.length, c, by rw [h1.cell]; rfl, m, by rw [h1.cell]; rfl, ?_⟩
  have hk : max (IntKind.i64.wrap (((es.length : Nat) : Int) - (m : Int))) 0 = ((es.length - m : Nat) : Int) := by rw [wr64 (by omega) (by omega)]; omega
  rw [hk]
  refine ⟨by omega, by omega, ⟨_, _, by rw [List.length_drop, Int.toNat_natCast], fun wx hbx i x hx => ?_⟩, hb2⟩
  rw [List.getElem?_drop] at hx
  have h2 := h2.below hbx (Nat.le_refl _)
  obtain ⟨b, off, rfl, hc, hcell⟩ := ref_cell h2 hx
  have hlt := (List.getElem?_eq_some_iff.1 hx).1
  refine ⟨b, off + (es.length - m) * 3, ?_, fun j hj => ?_⟩
  · unfold sliceBase
    rw [if_neg (by omega)]
    simp [Addr.add_lit]
  · rw [← hcell j hj]
    congr 2
    omega
theorem find_first {l : List Ent} {z : Int} {i : Nat} {e : Ent} (he : l[i]? = some e) (hz : e.num = z) (hb : ∀ j x, j < i → l[j]? = some x → x.num ≠ z) : l.find? (fun e => decide (e.num = z)) = some e := by
  induction l generalizing i with
  | nil => cases he
  | cons y r ih =>
    cases i with
    | zero => injection he with he; subst he; rw [List.find?, decide_eq_true hz]
    | succ i =>
      rw [List.find?, decide_eq_false (hb 0 y (by omega) rfl)]
      exact ih (by simpa using he) fun j x hj hx => hb (j + 1) x (by omega) (by simpa using hx)
theorem rLook_any (p m : Nat) (st : Bool) (es : List Ent) (L : List Nat) (n : Int) (q : List UInt8) (w : World) (h : RefAt w L p m st es) :
    Calls Try.prog 66 #[.pointer (some ⟨p, 0, none⟩), .int .i64 n, .string (strOf q)] w fun e w' => e = .returned (.tuple #[.string (strOf ((refWin m st es).look n q).1), .int .i64 ((refWin m st es).look n q).2]) ∧ Below w.heap.size w w' := by
  refine (GWinActs.rLook_calls _ n (strOf q) w (fun v w' => v = .tuple #[.string (strOf ((refWin m st es).look n q).1), .int .i64 ((refWin m st es).look n q).2] ∧ Below w.heap.size w w') ?_).mono (by rintro e w' ⟨v, rfl, rfl, hb⟩; exact ⟨rfl, hb⟩)
  unfold GWinActs.rLook_vc
  have done : ∀ (r : List UInt8) (k : Int) (wx : World), (refWin m st es).look n q = (r, k) → Below w.heap.size w wx → (Value.tuple #[.string (strOf r), .int .i64 k] = .tuple #[.string (strOf ((refWin m st es).look n q).1), .int .i64 ((refWin m st es).look n q).2] ∧ Below w.heap.size w wx) := fun r k wx e hb => by rw [e]; exact ⟨rfl, hb⟩
  refine br_dec (fun h0 => ?_) fun h0 => br_dec (fun h1 => ?_) fun h1 => ?_
  · exact done [] 1 w (by unfold Win.look; rw [if_pos (.inl h0)]) (Below.refl _ _)
  · exact done [] 1 w (by unfold Win.look; rw [if_pos (.inr h1)]) (Below.refl _ _)
  have hin : ¬ (n < 0 ∨ 4611686018427387904 < n) := by omega
  refine (rKept_any p m st es L w h).mono ?_
  rintro e w2 ⟨⟨a, c, rfl, hcell⟩, hb2⟩
  refine ⟨keepG_nil _ _, _, _, _, rfl, ?_⟩
  have hlk := h.len
  have hkl : (es.drop (es.length - m)).length ≤ 1000 := by rw [List.length_drop]; omega
  refine ⟨fun x wx => ∃ i : Nat, x = i ∧ i ≤ (es.drop (es.length - m)).length ∧ Below w.heap.size w wx ∧ ∀ j x, j < i → (es.drop (es.length - m))[j]? = some x → x.num ≠ n, fun x _ => (es.drop (es.length - m)).length - x.toNat, ⟨0, rfl, by omega, hb2, fun j x hj => by omega⟩, ?_⟩
  rintro x wx ⟨i, rfl, hi, hbx, hno⟩
  refine br_dec (fun hlt => ?_) fun hge => ?_
  · have hil : i < (es.drop (es.length - m)).length := by omega
    have hx := List.getElem?_eq_getElem hil
    generalize (es.drop (es.length - m))[i] = x at hx
    obtain ⟨b, off, rfl, hc⟩ := hcell wx hbx i x hx
    have c0 : wx.cell? ⟨b, off + (i : Int).toNat * 3, none⟩ = some (.int .i64 x.num) := by have := hc 0 (by omega); simpa [rCells] using this
    have c1 : wx.cell? ⟨b, off + (i : Int).toNat * 3 + 1, none⟩ = some (.string (strOf x.req)) := by have := hc 1 (by omega); simpa [rCells] using this
    have c2 : wx.cell? ⟨b, off + (i : Int).toNat * 3 + 2, none⟩ = some (.string (strOf x.ans)) := by have := hc 2 (by omega); simpa [rCells] using this
    refine ⟨by omega, by omega, x.num, c0, ?_⟩
    refine br_dec (fun heq => ?_) fun hne => ?_
    · have hf := find_first hx heq hno
      refine ⟨by omega, by omega, strOf x.req, c1, br_dec (fun hq => ?_) fun hq => ?_⟩
      · refine ⟨by omega, by omega, strOf x.ans, c2, done _ _ _ ?_ hbx⟩
        unfold Win.look refWin lastWin
        rw [if_neg hin]; dsimp only; rw [hf]; dsimp only; rw [if_pos (strOf_inj hq)]
      · refine ⟨by omega, by omega, x.num, c0, br_y heq (done _ _ _ ?_ hbx)⟩
        unfold Win.look refWin lastWin
        rw [if_neg hin]; dsimp only; rw [hf]; dsimp only; rw [if_neg (fun e => hq (by rw [e]))]
    · refine ⟨by omega, by omega, x.num, c0, br_n hne ?_⟩
      rw [wr64 (by omega) (by omega)]
      refine ⟨⟨i + 1, by omega, by omega, hbx, fun j y hj hy => ?_⟩, by dsimp only; omega⟩
      by_cases hji : j = i
      · subst hji; rw [hx] at hy; injection hy with hy; rw [← hy]; exact hne
      · exact hno j y (by omega) hy
  · have hnf : (es.drop (es.length - m)).find? (fun e => decide (e.num = n)) = none := find_no fun x hx => by
      obtain ⟨j, hj⟩ := List.mem_iff_getElem?.1 hx
      exact hno j x (by have := (List.getElem?_eq_some_iff.1 hj).1; omega) hj
    have hlook : (refWin m st es).look n q = if n ≤ lastNum es then ([], 13) else if st = true ∧ n ≠ lastNum es + 1 then ([], 15) else ([], 7) := by
      unfold Win.look refWin lastWin
      rw [if_neg hin]; dsimp only; rw [hnf]
    refine (rLast_any p m st es L wx (h.below hbx)).mono ?_
    rintro e w4 ⟨rfl, hb4⟩
    have B4 := hbx.trans (hb4.mono hbx.size)
    refine ⟨keepG_nil _ _, _, rfl, br_dec (fun hle => ?_) fun hgt => ?_⟩
    · exact done [] 13 _ (by rw [hlook, if_pos hle]) B4
    · have h4 := h.below B4
      have hl4 := h4.last
      obtain ⟨⟨a', c', g1, _⟩, _⟩ := id h4
      refine ⟨st, by rw [g1.cell]; rfl, ?_⟩
      rw [if_neg hgt] at hlook
      cases st with
      | false => exact br_f rfl (done [] 7 _ (by rw [hlook]; simp) B4)
      | true =>
        refine br_t rfl ?_
        refine (rLast_any p m true es L w4 h4).mono ?_
        rintro e w5 ⟨rfl, hb5⟩
        have B5 := B4.trans (hb5.mono B4.size)
        refine ⟨keepG_nil _ _, _, rfl, ?_⟩
        rw [wr64 (by omega) (by omega)]
        refine br_dec (fun hne => ?_) fun hne => ?_
        · exact done [] 15 _ (by rw [hlook, if_pos ⟨rfl, hne⟩]) B5
        · exact done [] 7 _ (by rw [hlook, if_neg (fun e => hne e.2)]) B5
end Go.Proofs.Ytjjmhmbmjpedkaa
end
section
/- A window's bytes: what is written, what is read. No program in sight. -/
namespace Go.Proofs.Ytjjmhmbmjpedkaa
def entB (e : Ent) : List UInt8 := uintB e.num ++ textB e.req ++ textB e.ans
def winB (s : Win) : List UInt8 := uintB s.most ++ flagB s.strict ++ intB s.last ++ uintB (s.ents.length : Int) ++ s.ents.flatMap entB
def rdEnt (bs : List UInt8) (e : Int) : Ent × List UInt8 × Int :=
  let x := rdUint 4611686018427387904 bs e
  let q := rdText 65536 x.2.1 x.2.2
  let a := rdText 65536 q.2.1 q.2.2
  (⟨x.1, q.1, a.1⟩, a.2.1, a.2.2)
/-- May a number follow on these, of so many? -/
def folOk (m : Int) (st : Bool) (cnt : Int) (es : List Ent) (z : Int) : Bool :=
  if es.length = 0 ∧ st = true ∧ cnt < m then decide (z = 0) else if es.length = 0 then true else if st = true then decide (z = lastNum es + 1) else decide (z > lastNum es)
structure RdS where
  ok : Bool
  es : List Ent
  bs : List UInt8
  e : Int
def rdStep (m : Int) (st : Bool) (cnt : Int) (r : RdS) : RdS :=
  let x := rdEnt r.bs r.e
  ⟨r.ok && folOk m st cnt r.es x.1.num, r.es ++ [x.1], x.2.1, x.2.2⟩
def rdIter (m : Int) (st : Bool) (cnt : Int) (r : RdS) : Nat → RdS
  | 0 => r
  | n + 1 => rdStep m st cnt (rdIter m st cnt r n)
def rdHead (bs : List UInt8) : Int × Bool × Int × Int × List UInt8 × Int :=
  let m := rdUint 64 bs 0
  let f := rdFlag m.2.1 m.2.2
  let l := rdInt f.2.1 f.2.2
  let n := rdUint 64 l.2.1 l.2.2
  (m.1, f.1, l.1, n.1, n.2.1, n.2.2)
def rdAll (bs : List UInt8) : RdS :=
  let h := rdHead bs
  rdIter h.1 h.2.1 h.2.2.2.1 ⟨decide (1 ≤ h.1) && decide (h.2.2.2.1 ≤ h.1), [], h.2.2.2.2.1, h.2.2.2.2.2⟩ h.2.2.2.1.toNat
def rdOk (bs : List UInt8) : Prop := (rdAll bs).ok = true ∧ lastNum (rdAll bs).es = (rdHead bs).2.2.1 ∧ rdEnd (rdAll bs).bs (rdAll bs).e = 0
def rdW (bs : List UInt8) : Win := ⟨(rdHead bs).1, (rdHead bs).2.1, (rdHead bs).2.2.1, (rdAll bs).es⟩
theorem rdEnt_dead {bs : List UInt8} {e : Int} (he : e ≠ 0) : rdEnt bs e = (⟨0, [], []⟩, bs, e) := by
  unfold rdEnt
  rw [dead_uint he]; dsimp only
  rw [dead_text he]; dsimp only
  rw [dead_text he]
theorem rdEnt_ok {bs : List UInt8} {e : Int} (h : (rdEnt bs e).2.2 = 0) : e = 0 ∧ bs = entB (rdEnt bs e).1 ++ (rdEnt bs e).2.1 := by
  unfold rdEnt at h ⊢
  dsimp only at *
  obtain ⟨a1, a2, a3⟩ := un_text h
  obtain ⟨b1, b2, b3⟩ := un_text a1
  obtain ⟨c1, c2, c3, c4⟩ := un_uint b1
  refine ⟨c1, ?_⟩
  unfold entB
  dsimp only
  rw [List.append_assoc, List.append_assoc, ← a3, ← b3, ← c4]
theorem rdEnt_num (bs : List UInt8) (e : Int) : (rdEnt bs e).1.ok :=
  ⟨(rdUint_range _ _ _).1, uint_le (by decide), by have := text_le (most := 65536) (bs := (rdUint 4611686018427387904 bs e).2.1) (e := (rdUint 4611686018427387904 bs e).2.2) (by decide); show (rdText _ _ _).1.length ≤ 65536; omega, by
    show (rdText 65536 (rdText 65536 (rdUint 4611686018427387904 bs e).2.1 (rdUint 4611686018427387904 bs e).2.2).2.1 (rdText 65536 (rdUint 4611686018427387904 bs e).2.1 (rdUint 4611686018427387904 bs e).2.2).2.2).1.length ≤ 65536
    have := text_le (most := 65536) (bs := (rdText 65536 (rdUint 4611686018427387904 bs e).2.1 (rdUint 4611686018427387904 bs e).2.2).2.1) (e := (rdText 65536 (rdUint 4611686018427387904 bs e).2.1 (rdUint 4611686018427387904 bs e).2.2).2.2) (by decide)
    omega⟩
theorem rdEnt_len (bs : List UInt8) (e : Int) : (rdEnt bs e).2.1.length ≤ bs.length :=
  Nat.le_trans text_len.2 (Nat.le_trans text_len.2 (rdLenU _ _ _))
section
variable (m : Int) (st : Bool) (cnt : Int) (r : RdS)
theorem iter_len (n : Nat) : (rdIter m st cnt r n).es.length = r.es.length + n := by
  induction n with
  | zero => rfl
  | succ n ih => simp only [rdIter, rdStep, List.length_append, List.length_singleton, ih]; omega
theorem iter_bs (n : Nat) : (rdIter m st cnt r n).bs.length ≤ r.bs.length := by
  induction n with
  | zero => exact Nat.le_refl _
  | succ n ih => exact Nat.le_trans (rdEnt_len _ _) ih
theorem iter_num (h : ∀ e ∈ r.es, e.ok) (n : Nat) : ∀ e ∈ (rdIter m st cnt r n).es, e.ok := by
  induction n with
  | zero => exact h
  | succ n ih =>
    intro e he
    rcases List.mem_append.1 he with he | he
    · exact ih e he
    · rw [List.mem_singleton] at he; subst he; exact rdEnt_num _ _
theorem iter_dead (i : Nat) (h : (rdIter m st cnt r i).e ≠ 0) (n : Nat) (hn : i ≤ n) : (rdIter m st cnt r n).e ≠ 0 := by
  induction n with
  | zero => obtain rfl : i = 0 := by omega
            exact h
  | succ n ih =>
    by_cases hi : i = n + 1
    · subst hi; exact h
    · have := ih (by omega)
      show (rdEnt (rdIter m st cnt r n).bs (rdIter m st cnt r n).e).2.2 ≠ 0
      rw [rdEnt_dead this]; exact this
theorem iter_ok (n : Nat) (h : (rdIter m st cnt r n).ok = true) : r.ok = true := by
  induction n with
  | zero => exact h
  | succ n ih => exact ih (Bool.and_eq_true_iff.1 h).1
theorem iter_okAt (i n : Nat) (hi : i ≤ n) (h : (rdIter m st cnt r n).ok = true) : (rdIter m st cnt r i).ok = true := by
  induction n with
  | zero => obtain rfl : i = 0 := by omega
            exact h
  | succ n ih =>
    by_cases hn : i = n + 1
    · subst hn; exact h
    · exact ih (by omega) (Bool.and_eq_true_iff.1 h).1
theorem iter_back (n : Nat) (h : (rdIter m st cnt r n).e = 0) : r.e = 0 ∧ ∃ xs, (rdIter m st cnt r n).es = r.es ++ xs ∧ r.bs = xs.flatMap entB ++ (rdIter m st cnt r n).bs := by
  induction n with
  | zero => exact ⟨h, [], by simp [rdIter], by simp [rdIter]⟩
  | succ n ih =>
    obtain ⟨h1, h2⟩ := rdEnt_ok h
    obtain ⟨h3, xs, h4, h5⟩ := ih h1
    refine ⟨h3, xs ++ [(rdEnt (rdIter m st cnt r n).bs (rdIter m st cnt r n).e).1], ?_, ?_⟩
    · show (rdIter m st cnt r n).es ++ [_] = _
      rw [h4, List.append_assoc]
    · show r.bs = _ ++ (rdEnt (rdIter m st cnt r n).bs (rdIter m st cnt r n).e).2.1
      rw [h5]
      conv => lhs; rw [h2]
      simp
end
theorem rdHead_back {bs : List UInt8} (h : (rdHead bs).2.2.2.2.2 = 0) : bs = uintB (rdHead bs).1 ++ flagB (rdHead bs).2.1 ++ intB (rdHead bs).2.2.1 ++ uintB (rdHead bs).2.2.2.1 ++ (rdHead bs).2.2.2.2.1 ∧ 0 ≤ (rdHead bs).2.2.2.1 := by
  unfold rdHead at h ⊢
  dsimp only at *
  obtain ⟨a1, a2, a3, a4⟩ := un_uint h
  obtain ⟨b1, b3⟩ := un_int a1
  obtain ⟨c1, c3⟩ := un_flag b1
  obtain ⟨d1, d2, d3, d4⟩ := un_uint c1
  refine ⟨?_, a2⟩
  rw [List.append_assoc, ← a4, List.append_assoc, ← b3, List.append_assoc, ← c3, ← d4]
theorem rdHead_range (bs : List UInt8) : 0 ≤ (rdHead bs).1 ∧ (rdHead bs).1 ≤ 64 ∧ 0 ≤ (rdHead bs).2.2.2.1 ∧ (rdHead bs).2.2.2.1 ≤ 64 :=
  ⟨(rdUint_range _ _ _).1, uint_le (by decide), (rdUint_range _ _ _).1, uint_le (by decide)⟩
/-- What is taken has just its bytes. -/
theorem rdW_bytes {bs : List UInt8} (h : rdOk bs) : winB (rdW bs) = bs := by
  obtain ⟨h1, h2, h3⟩ := h
  obtain ⟨h4, h5⟩ := end_zero h3
  unfold winB rdW
  dsimp only
  unfold rdAll at *
  dsimp only at *
  obtain ⟨k1, xs, k2, k3⟩ := iter_back _ _ _ _ _ h4
  obtain ⟨k4, k5⟩ := rdHead_back k1
  have hl := iter_len (rdHead bs).1 (rdHead bs).2.1 (rdHead bs).2.2.2.1 ⟨decide (1 ≤ (rdHead bs).1) && decide ((rdHead bs).2.2.2.1 ≤ (rdHead bs).1), [], (rdHead bs).2.2.2.2.1, (rdHead bs).2.2.2.2.2⟩ (rdHead bs).2.2.2.1.toNat
  rw [hl, k2]
  rw [h5, List.append_nil] at k3
  dsimp only at k3 ⊢
  rw [List.nil_append, ← k3, List.length_nil, Nat.zero_add, Int.toNat_of_nonneg k5]
  exact k4.symm
theorem rdAll_len (bs : List UInt8) : ((rdAll bs).es.length : Int) = (rdHead bs).2.2.2.1 := by
  have := iter_len (rdHead bs).1 (rdHead bs).2.1 (rdHead bs).2.2.2.1 ⟨decide (1 ≤ (rdHead bs).1) && decide ((rdHead bs).2.2.2.1 ≤ (rdHead bs).1), [], (rdHead bs).2.2.2.2.1, (rdHead bs).2.2.2.2.2⟩ (rdHead bs).2.2.2.1.toNat
  have := (rdHead_range bs).2.2.1
  show ((rdIter _ _ _ _ _).es.length : Int) = _
  simp only [List.length_nil] at *
  omega
theorem rdAll_ok {bs : List UInt8} (h : (rdAll bs).ok = true) : 1 ≤ (rdHead bs).1 ∧ (rdHead bs).2.2.2.1 ≤ (rdHead bs).1 := by
  have := iter_ok _ _ _ _ _ h
  simpa using this
theorem lastNum_range {es : List Ent} (h : ∀ e ∈ es, e.ok) : -1 ≤ lastNum es ∧ lastNum es ≤ 4611686018427387904 := by
  unfold lastNum
  split
  · rename_i e he
    have := h e (List.mem_of_getLast? he)
    have h1 := this.1
    have h2 := this.2.1
    omega
  · omega
theorem rdAll_num (bs : List UInt8) : ∀ e ∈ (rdAll bs).es, e.ok := iter_num _ _ _ _ (by simp) _
theorem rdW_ok {bs : List UInt8} (h : rdOk bs) : (rdW bs).Ok := by
  obtain ⟨h1, h2, h3⟩ := h
  obtain ⟨k1, k2⟩ := rdAll_ok h1
  have k3 := rdHead_range bs
  have k4 := lastNum_range (rdAll_num bs)
  rw [h2] at k4
  exact ⟨k1, k3.2.1, k4.1, k4.2, by show ((rdAll bs).es.length : Int) ≤ _; rw [rdAll_len]; exact k2, rdAll_num bs⟩
end Go.Proofs.Ytjjmhmbmjpedkaa
end
section
/- What a window writes is read as it was. No program in sight. -/
namespace Go.Proofs.Ytjjmhmbmjpedkaa
theorem rdEnt_back {e : Ent} (h : e.ok) (rest : List UInt8) : rdEnt (entB e ++ rest) 0 = (e, rest, 0) := by
  obtain ⟨h1, h2, h3, h4⟩ := h
  unfold rdEnt entB
  rw [List.append_assoc, List.append_assoc, ck_uint h1 (by omega) h2]
  dsimp only
  rw [ck_text (by omega) (by omega)]
  dsimp only
  rw [ck_text (by omega) (by omega)]
theorem rdHead_of {s : Win} (h : s.Ok) : rdHead (winB s) = (s.most, s.strict, s.last, (s.ents.length : Int), s.ents.flatMap entB, 0) := by
  obtain ⟨m1, m2, l1, l2, le, each⟩ := h
  unfold rdHead winB
  rw [List.append_assoc, List.append_assoc, List.append_assoc, ck_uint (by omega) (by omega) m2]
  dsimp only
  rw [ck_flag]
  dsimp only
  rw [ck_int (by omega) (by omega)]
  dsimp only
  rw [ck_uint (by omega) (by omega) (by omega)]
theorem rdIter_of {m : Int} {st : Bool} {es : List Ent} (h : ∀ e ∈ es, e.ok) (hf : ∀ (i : Nat) (e : Ent), es[i]? = some e → folOk m st (es.length : Int) (es.take i) e.num = true) (n : Nat) (hn : n ≤ es.length) :
    rdIter m st (es.length : Int) ⟨true, [], es.flatMap entB, 0⟩ n = ⟨true, es.take n, (es.drop n).flatMap entB, 0⟩ := by
  induction n with
  | zero => simp [rdIter]
  | succ n ih =>
    have hlt : n < es.length := by omega
    show rdStep _ _ _ _ = _
    rw [ih (by omega)]
    unfold rdStep
    dsimp only
    rw [List.drop_eq_getElem_cons hlt, List.flatMap_cons, rdEnt_back (h _ (List.getElem_mem hlt))]
    dsimp only
    rw [hf n es[n] (List.getElem?_eq_getElem hlt)]
    rw [List.take_add_one, List.getElem?_eq_getElem hlt]
    rfl
theorem lastNum_take {es : List Ent} {i : Nat} {e : Ent} (h : es[i]? = some e) : lastNum (es.take (i + 1)) = e.num := by
  rw [List.take_add_one, h]
  exact lastNum_app _ _
theorem lastNum_drop {es : List Ent} {k : Nat} (h : k < es.length ∨ es = []) : lastNum (es.drop k) = lastNum es := by
  rcases h with h | rfl
  · unfold lastNum
    rw [List.getLast?_drop, if_neg (by omega)]
  · simp
theorem ref_fol {m : Nat} (hm : 1 ≤ m) {st : Bool} {es : List Ent} (h : Rise st es) (i : Nat) (e : Ent) (he : (es.drop (es.length - m))[i]? = some e) :
    folOk m st ((es.drop (es.length - m)).length : Int) ((es.drop (es.length - m)).take i) e.num = true := by
  have hlt := (List.getElem?_eq_some_iff.1 he).1
  have hd := he
  rw [List.getElem?_drop] at hd
  have hr := h _ _ hd
  rw [List.length_drop] at hlt ⊢
  unfold folOk
  cases i with
  | zero =>
    rw [List.take_zero]
    by_cases h1 : st = true ∧ ((es.length - (es.length - m) : Nat) : Int) < (m : Int)
    · rw [if_pos ⟨rfl, h1⟩]
      rw [decide_eq_true_eq, hr.1 h1.1]
      omega
    · rw [if_neg (fun h2 => h1 h2.2), if_pos List.length_nil]
  | succ i =>
    have hl : ((es.drop (es.length - m)).take (i + 1)).length = i + 1 := by rw [List.length_take, List.length_drop]; omega
    rw [if_neg (by omega), if_neg (by omega)]
    have hi : i < (es.drop (es.length - m)).length := by rw [List.length_drop]; omega
    have hx := List.getElem?_eq_getElem hi
    rw [lastNum_take hx]
    have hy := hx
    rw [List.getElem?_drop] at hy
    have hz : lastNum (es.take (es.length - m + (i + 1))) = (es.drop (es.length - m))[i].num := lastNum_take hy
    have hk := h _ _ hy
    split
    · rename_i hs
      rw [decide_eq_true_eq, hr.1 hs, hk.1 hs]; omega
    · rw [decide_eq_true_eq, ← hz]; exact hr.2
theorem refWin_back {m : Nat} {st : Bool} {es : List Ent} (ho : (refWin m st es).Ok) (h : Rise st es) : rdOk (winB (refWin m st es)) ∧ rdW (winB (refWin m st es)) = refWin m st es := by
  have hm : 1 ≤ m := by have := ho.m1; exact Int.ofNat_le.1 this
  have h1 := rdHead_of ho
  have h2 : rdAll (winB (refWin m st es)) = ⟨true, es.drop (es.length - m), [], 0⟩ := by
    unfold rdAll
    rw [h1]
    dsimp only
    have e1 : (decide (1 ≤ (refWin m st es).most) && decide (((refWin m st es).ents.length : Int) ≤ (refWin m st es).most)) = true := by
      have := ho.m1; have := ho.le; simp [*]
    rw [e1]
    have := rdIter_of (m := m) (st := st) ho.each (ref_fol hm h) (es.drop (es.length - m)).length (Nat.le_refl _)
    rw [Int.toNat_natCast]
    refine this.trans ?_
    rw [show (refWin m st es).ents = es.drop (es.length - m) from rfl, List.take_length, List.drop_length]
    rfl
  refine ⟨⟨by rw [h2], ?_, by rw [h2]; rfl⟩, ?_⟩
  · rw [h2, h1]
    refine lastNum_drop ?_
    rcases Nat.eq_zero_or_pos es.length with h0 | h0
    · exact .inr (List.eq_nil_of_length_eq_zero h0)
    · exact .inl (by omega)
  · unfold rdW
    rw [h1, h2]
    rfl
end Go.Proofs.Ytjjmhmbmjpedkaa
end
section
/- A writer at work beside an object that it leaves alone, and local boxes. -/
namespace Go.Proofs.Ytjjmhmbmjpedkaa
open Go.RowKit
structure WrOn (w0 w : World) (Q : World → Prop) (L B : List Nat) (g : Nat) (bs : List UInt8) (bad : Bool) : Prop where
  ex : ∃ K, WAt w K g bs bad ∧ Apart K L ∧ Apart K B ∧ From w0.heap.size K
  q : Q w
  stable : ∀ w w' : World, Q w → (∀ k ∈ L, w'.heap[k]? = w.heap[k]?) → w.heap.size ≤ w'.heap.size → Q w'
  underL : Under L w.heap.size
  underB : Under B w.heap.size
  fromB : From w0.heap.size B
  below : Below w0.heap.size w0 w
section
variable {w0 w w' : World} {Q : World → Prop} {L B : List Nat} {g : Nat} {bs : List UInt8} {bad : Bool}
theorem WrOn.start (hq : Q w) (hu : Under L w.heap.size) (hst : ∀ w w' : World, Q w → (∀ k ∈ L, w'.heap[k]? = w.heap[k]?) → w.heap.size ≤ w'.heap.size → Q w') (h2 : w'.heap[w.heap.size]? = some (.cells #[.slice none 0 0, .bool false] 76 (0, 0))) (hb : Below w.heap.size w w') :
    WrOn w w' Q L [] w.heap.size [] false :=
  ⟨⟨[w.heap.size], WAt.make (v := .slice none 0 0) h2 (Own.nil _ _ _ _), fun k h1 h3 => by rw [List.mem_singleton] at h1; have := hu k h3; omega, fun k h1 h3 => (by cases h3), fun k h1 => by rw [List.mem_singleton] at h1; omega⟩, hst _ _ hq (fun k hk => hb.block k (hu k hk)) hb.size, hst, hu.mono hb.size, fun k h => (by cases h), fun k h => (by cases h), hb⟩
theorem WrOn.down (h : WrOn w0 w Q L B g bs bad) (hb : Below w.heap.size w w') : WrOn w0 w' Q L B g bs bad := by
  obtain ⟨⟨K, h1, h2, h3, h4⟩, hq, hs, hl, hB, hf, hw⟩ := h
  exact ⟨⟨K, h1.keep (fun k hk => hb.block k (h1.under k hk)) hb.size, h2, h3, h4⟩, hs _ _ hq (fun k hk => hb.block k (hl k hk)) hb.size, hs, hl.mono hb.size, hB.mono hb.size, hf, hw.trans (hb.mono hw.size)⟩
theorem WrOn.box (h : WrOn w0 w Q L B g bs bad) (hb : Below w.heap.size w w') (hs : w'.heap.size = w.heap.size + 1) : WrOn w0 w' Q L (w.heap.size :: B) g bs bad := by
  have h' := h.down hb
  obtain ⟨⟨K, h1, h2, h3, h4⟩, hq, hst, hl, hB, hf, hw⟩ := h
  refine ⟨⟨K, h1.keep (fun k hk => hb.block k (h1.under k hk)) hb.size, h2, fun k hk hk2 => ?_, h4⟩, h'.q, hst, h'.underL, fun k hk => ?_, fun k hk => ?_, h'.below⟩
  · rcases List.mem_cons.1 hk2 with rfl | hk2
    · have := h1.under _ hk; omega
    · exact h3 k hk hk2
  · rcases List.mem_cons.1 hk with rfl | hk
    · omega
    · exact h'.underB k hk
  · rcases List.mem_cons.1 hk with rfl | hk
    · exact hw.size
    · exact hf k hk
theorem WrOn.boxSt (h : WrOn w0 w Q L B g bs bad) {b : Nat} (hb : b ∈ B) (hbL : b ∉ L) (hs : BoxSt b w w') : WrOn w0 w' Q L B g bs bad := by
  obtain ⟨⟨K, h1, h2, h3, h4⟩, hq, hst, hl, hB, hf, hw⟩ := h
  obtain ⟨f, hz⟩ := hs
  have kp : ∀ k, k < w.heap.size → k ≠ b → w'.heap[k]? = w.heap[k]? := fun k hk hne => f.block k hk (by rw [List.mem_singleton]; exact hne)
  exact ⟨⟨K, h1.keep (fun k hk => kp k (h1.under k hk) fun e => h3 k hk (e ▸ hb)) (by omega), h2, h3, h4⟩, hst _ _ hq (fun k hk => kp k (hl k hk) fun e => hbL (e ▸ hk)) (by omega), hst, hl.mono (by omega), hB.mono (by omega), hf, hw.trans (f.below (b := w0.heap.size) (fun k hk => by rw [List.mem_singleton] at hk; subst hk; exact hf _ hb) hw.size)⟩
theorem WrOn.drop (h : WrOn w0 w Q L B g bs bad) : WrOn w0 w Q L [] g bs bad := by
  obtain ⟨⟨K, h1, h2, h3, h4⟩, hq, hst, hl, hB, hf, hw⟩ := h
  exact ⟨⟨K, h1, h2, fun _ _ h => (by cases h), h4⟩, hq, hst, hl, fun _ h => (by cases h), fun _ h => (by cases h), hw⟩
theorem on_call (h : WrOn w0 w Q L B g bs bad) {P : Program} {f : FuncId} {args : Array Value} {bs' : List UInt8} {bad' : Bool} (hc : ∀ K, WAt w K g bs bad → Apart K L → Calls P f args w (W1 w K g bs' bad')) :
    Calls P f args w fun e w' => KeepG B w w' ∧ e = .returned (.tuple #[]) ∧ WrOn w0 w' Q L B g bs' bad' := by
  obtain ⟨⟨K, h1, h2, h3, h4⟩, hq, hst, hl, hB, hf, hw⟩ := h
  refine (hc K h1 h2).mono ?_
  rintro e w' ⟨rfl, K', h5, f5, g5⟩
  exact ⟨keepG_fr f5 fun k hk hk2 => h3 k hk2 hk, rfl, ⟨K', h5, h2.gr g5 hl, h3.gr g5 hB, g5.from h4 hw.size⟩, hst _ _ hq (f5.keep h2.symm hl) f5.size, hst, hl.mono f5.size, hB.mono f5.size, hf, hw.trans (f5.below h4 hw.size)⟩
theorem on_uint (h : WrOn w0 w Q L B g bs bad) (z : Int) (hz : z ≤ 9223372036854775807) (hl : bs.length ≤ 100000000) :
    Calls Try.prog 62 #[.pointer (some ⟨g, 0, none⟩), .int .i64 z] w fun e w' => KeepG B w w' ∧ e = .returned (.tuple #[]) ∧ WrOn w0 w' Q L B g (bs ++ uintB z) (bad || decide (z < 0)) :=
  on_call h fun K h1 _ => wUint_any g z hz bs bad K w h1 hl
theorem on_int (h : WrOn w0 w Q L B g bs bad) (z : Int) (hz0 : -9223372036854775808 ≤ z) (hz : z ≤ 9223372036854775807) (hl : bs.length ≤ 100000000) :
    Calls Try.prog 38 #[.pointer (some ⟨g, 0, none⟩), .int .i64 z] w fun e w' => KeepG B w w' ∧ e = .returned (.tuple #[]) ∧ WrOn w0 w' Q L B g (bs ++ intB z) bad :=
  on_call h fun K h1 _ => wInt_any g z hz0 hz bs bad K w h1 hl
theorem on_flag (h : WrOn w0 w Q L B g bs bad) (b : Bool) (hl : bs.length ≤ 100000000) :
    Calls Try.prog 63 #[.pointer (some ⟨g, 0, none⟩), .bool b] w fun e w' => KeepG B w w' ∧ e = .returned (.tuple #[]) ∧ WrOn w0 w' Q L B g (bs ++ flagB b) bad :=
  on_call h fun K h1 _ => wFlag_any g b bs bad K w h1 hl
theorem on_text (h : WrOn w0 w Q L B g bs bad) {a : Option Addr} (c : Nat) {ts : List UInt8} {M : List Nat} (ht : In w M a ts) (hM : ∀ k ∈ M, k ∈ L) (hl : bs.length ≤ 10000000) (htl : ts.length ≤ 10000000) :
    Calls Try.prog 64 #[.pointer (some ⟨g, 0, none⟩), .slice a ts.length c] w fun e w' => KeepG B w w' ∧ e = .returned (.tuple #[]) ∧ WrOn w0 w' Q L B g (bs ++ textB ts) bad :=
  on_call h fun K h1 hap => wText_any g a c ts M bs bad K w h1 ht (fun k hk => h.underL k (hM k hk)) (fun k hk hk2 => hap k hk2 (hM k hk)) hl htl
theorem on_bytes (h : WrOn w0 w Q L B g bs bad) (hl : bs.length ≤ 100000000) :
    Calls Try.prog 39 #[.pointer (some ⟨g, 0, none⟩)] w fun e w' => ∃ a c, e = .returned (.tuple #[.slice a bs.length c, .int .i64 (wErr bad)]) ∧ Own w' w0.heap.size 5 1 (.slice a bs.length c) bs.length (bs.map bV) ∧ KeepG B w w' ∧ Below w.heap.size w w' ∧ Below w0.heap.size w0 w' := by
  obtain ⟨⟨K, h1, h2, h3, h4⟩, hq, hst, hl2, hB, hf, hw⟩ := h
  refine (wBytes_any g bs bad K w h1 hl).mono ?_
  rintro e w' ⟨v, rfl, ho, hb⟩
  obtain ⟨a, c, rfl⟩ := ho.isSlice
  exact ⟨a, c, rfl, ho.base_le fun k hk => Nat.le_trans hw.size (ho.lt k hk).1, keepG_below hb, hb, hw.trans (hb.mono hw.size)⟩
end
end Go.Proofs.Ytjjmhmbmjpedkaa
end
section
/- Conditions of functions, printed by a program of this claim's own (vcgen.py) out of the loaded code; each is proved to be enough. -/
set_option maxRecDepth 100000
namespace Go.Proofs.Ytjjmhmbmjpedkaa
open Go.RowKit
namespace GWin
def env : Env := ⟨[(3, ⟨.int .i64, 1, .int .i64 0, 8, [.int .i64]⟩), (4, ⟨.bool, 1, .bool false, 1, [.bool]⟩), (24, ⟨.ptr, 1, .pointer none, 8, [.ptr]⟩), (30, ⟨.slice 5, 1, .slice none 0 0, 24, [.slice]⟩), (91, ⟨.slice 96, 1, .slice none 0 0, 24, [.slice]⟩), (93, ⟨.struct [(0, 3), (1, 4), (2, 3), (3, 91)], 4, .agg #[.int .i64 0, .bool false, .int .i64 0, .slice none 0 0], 48, [.int .i64, .bool, .int .i64, .slice]⟩), (96, ⟨.struct [(0, 3), (1, 30), (2, 30)], 3, .agg #[.int .i64 0, .slice none 0 0, .slice none 0 0], 56, [.int .i64, .slice, .slice]⟩)], [(16, [.lf (.slice), .lf (.int .i64)]), (49, [.lf (.slice)]), (50, [.lf (.int .i64)]), (52, [.lf (.bool)])]⟩
theorem ty3 : TyOk Try.prog 3 ⟨.int .i64, 1, .int .i64 0, 8, [.int .i64]⟩ := tyok (by kernel_rfl) (by kernel_rfl)
theorem ty4 : TyOk Try.prog 4 ⟨.bool, 1, .bool false, 1, [.bool]⟩ := tyok (by kernel_rfl) (by kernel_rfl)
theorem ty24 : TyOk Try.prog 24 ⟨.ptr, 1, .pointer none, 8, [.ptr]⟩ := tyok (by kernel_rfl) (by kernel_rfl)
theorem ty30 : TyOk Try.prog 30 ⟨.slice 5, 1, .slice none 0 0, 24, [.slice]⟩ := tyok (by kernel_rfl) (by kernel_rfl)
theorem ty91 : TyOk Try.prog 91 ⟨.slice 96, 1, .slice none 0 0, 24, [.slice]⟩ := tyok (by kernel_rfl) (by kernel_rfl)
theorem ty93 : TyOk Try.prog 93 ⟨.struct [(0, 3), (1, 4), (2, 3), (3, 91)], 4, .agg #[.int .i64 0, .bool false, .int .i64 0, .slice none 0 0], 48, [.int .i64, .bool, .int .i64, .slice]⟩ := tyok (by kernel_rfl) (by kernel_rfl)
theorem ty96 : TyOk Try.prog 96 ⟨.struct [(0, 3), (1, 30), (2, 30)], 3, .agg #[.int .i64 0, .slice none 0 0, .slice none 0 0], 56, [.int .i64, .slice, .slice]⟩ := tyok (by kernel_rfl) (by kernel_rfl)
theorem fn16 : FnOk Try.prog 16 := fnok Try.func16 (by kernel_rfl) (by kernel_rfl)
theorem fn49 : FnOk Try.prog 49 := fnok Try.func49 (by kernel_rfl) (by kernel_rfl)
theorem fn50 : FnOk Try.prog 50 := fnok Try.func50 (by kernel_rfl) (by kernel_rfl)
theorem fn52 : FnOk Try.prog 52 := fnok Try.func52 (by kernel_rfl) (by kernel_rfl)
theorem envOk : EOk Try.prog env := ⟨(by simp only [env, List.forall_mem_cons, List.not_mem_nil, false_implies, implies_true, and_true]; exact ⟨ty3, ty4, ty24, ty30, ty91, ty93, ty96⟩), (by simp only [env, List.forall_mem_cons, List.not_mem_nil, false_implies, implies_true, and_true]; exact ⟨fn16, fn49, fn50, fn52⟩), by kernel_rfl⟩
/-- purser/window.New -/
def wNew_vc (x0 : Int) (b1 : Bool) (w : World) (K : Value → World → Prop) : Prop :=
  br (decide (x0 < 1)) (
    K (.tuple #[.pointer none, .int .i64 1]) w
  ) (
    br (decide (x0 > 64)) (
      K (.tuple #[.pointer none, .int .i64 1]) w
    ) (
      newO w (.cells #[.int .i64 x0, .bool b1, .int .i64 (-1), .slice none 0 0] 93) fun g w_2 =>
      K (.tuple #[.pointer (some ⟨g, 0, none⟩), .int .i64 0]) w_2
    )
  )
def wNew_notes : Notes := ⟨[], [], []⟩
theorem wNew_calls (x0 : Int) (b1 : Bool) (w : World) (K : Value → World → Prop) (h : wNew_vc x0 b1 w K) : Calls Try.prog 13 #[.int .i64 x0, .bool b1] w fun e w' => ∃ v, e = .returned v ∧ K v w' :=
  calls_of_fvc envOk Try.func13 wNew_notes [] [.int .i64 x0, .bool b1] w K (use_vc h (by as_aux_lemma => kernel_rfl))
/-- (*purser/window.Window).Look -/
def wLook_vc (p0 : Option Addr) (x1 : Int) (a2 : Option Addr) (n2 : Nat) (c2 : Nat) (w : World) (K : Value → World → Prop) : Prop :=
  newO w (.cells #[.int .i64 x1] 3) fun g w_2 =>
  br (Option.isNone p0) (
    K (.tuple #[.slice none 0 0, .int .i64 1]) w_2
  ) (
    ∃ (x12 : Int), w_2.cell? ⟨g, 0, none⟩ = some (.int .i64 x12) ∧
    br (decide (x12 < 0)) (
      K (.tuple #[.slice none 0 0, .int .i64 1]) w_2
    ) (
      ∃ (x16 : Int), w_2.cell? ⟨g, 0, none⟩ = some (.int .i64 x16) ∧
      br (decide (x16 > 4611686018427387904)) (
        K (.tuple #[.slice none 0 0, .int .i64 1]) w_2
      ) (
        withP p0 fun g20 o20 =>
        ∃ (a22 : Option Addr) (n22 : Nat) (c22 : Nat), w_2.cell? ⟨g20, o20 + 3, none⟩ = some (.slice a22 n22 c22) ∧
        Calls Try.prog 50 #[.slice a22 n22 c22, .func (.func 51) #[] #[.pointer (some ⟨g, 0, none⟩)]] w_2 fun e w_3 => KeepG [] w_2 w_3 ∧
        ∃ (x24 : Int),
        e = .returned (.int .i64 x24) ∧
        br (decide (x24 ≥ 0)) (
          withP p0 fun g30 o30 =>
          ∃ (a32 : Option Addr) (n32 : Nat) (c32 : Nat), w_3.cell? ⟨g30, o30 + 3, none⟩ = some (.slice a32 n32 c32) ∧
          withP a32 fun g34 o34 =>
          (0 : Int) ≤ x24 ∧ x24 < (((n32 : Nat) : Int) : Int) ∧
          ∃ (a36 : Option Addr) (n36 : Nat) (c36 : Nat), w_3.cell? ⟨g34, o34 + x24.toNat * 3 + 1, none⟩ = some (.slice a36 n36 c36) ∧
          Calls Try.prog 52 #[.slice a36 n36 c36, .slice a2 n2 c2] w_3 fun e_2 w_4 => KeepG [] w_3 w_4 ∧
          ∃ (b38 : Bool),
          e_2 = .returned (.bool b38) ∧
          br b38 (
            withP p0 fun g41 o41 =>
            ∃ (a43 : Option Addr) (n43 : Nat) (c43 : Nat), w_4.cell? ⟨g41, o41 + 3, none⟩ = some (.slice a43 n43 c43) ∧
            withP a43 fun g45 o45 =>
            (0 : Int) ≤ x24 ∧ x24 < (((n43 : Nat) : Int) : Int) ∧
            ∃ (a47 : Option Addr) (n47 : Nat) (c47 : Nat), w_4.cell? ⟨g45, o45 + x24.toNat * 3 + 2, none⟩ = some (.slice a47 n47 c47) ∧
            Calls Try.prog 49 #[.slice a47 n47 c47] w_4 fun e_3 w_5 => KeepG [] w_4 w_5 ∧
            ∃ (a48 : Option Addr) (n48 : Nat) (c48 : Nat),
            e_3 = .returned (.slice a48 n48 c48) ∧
            K (.tuple #[.slice a48 n48 c48, .int .i64 0]) w_5
          ) (
            br (decide (x24 ≥ 0)) (
              K (.tuple #[.slice none 0 0, .int .i64 14]) w_4
            ) (
              drewO w_4 fun w_6 =>
              ∃ (x53 : Int), w_6.cell? ⟨g, 0, none⟩ = some (.int .i64 x53) ∧
              withP p0 fun g55 o55 =>
              ∃ (x57 : Int), w_6.cell? ⟨g55, o55 + 2, none⟩ = some (.int .i64 x57) ∧
              br (decide (x53 ≤ x57)) (
                K (.tuple #[.slice none 0 0, .int .i64 13]) w_6
              ) (
                drewO w_6 fun w_7 =>
                withP p0 fun g61 o61 =>
                ∃ (b63 : Bool), w_7.cell? ⟨g61, o61 + 1, none⟩ = some (.bool b63) ∧
                br b63 (
                  ∃ (x65 : Int), w_7.cell? ⟨g, 0, none⟩ = some (.int .i64 x65) ∧
                  withP p0 fun g67 o67 =>
                  ∃ (x69 : Int), w_7.cell? ⟨g67, o67 + 2, none⟩ = some (.int .i64 x69) ∧
                  br (decide (x65 ≠ (IntKind.i64.wrap (x69 + 1)))) (
                    K (.tuple #[.slice none 0 0, .int .i64 15]) w_7
                  ) (
                    K (.tuple #[.slice none 0 0, .int .i64 7]) w_7
                  )
                ) (
                  K (.tuple #[.slice none 0 0, .int .i64 7]) w_7
                )
              )
            )
          )
        ) (
          br (decide (x24 ≥ 0)) (
            K (.tuple #[.slice none 0 0, .int .i64 14]) w_3
          ) (
            drewO w_3 fun w_8 =>
            ∃ (x53_2 : Int), w_8.cell? ⟨g, 0, none⟩ = some (.int .i64 x53_2) ∧
            withP p0 fun g55_2 o55_2 =>
            ∃ (x57_2 : Int), w_8.cell? ⟨g55_2, o55_2 + 2, none⟩ = some (.int .i64 x57_2) ∧
            br (decide (x53_2 ≤ x57_2)) (
              K (.tuple #[.slice none 0 0, .int .i64 13]) w_8
            ) (
              drewO w_8 fun w_9 =>
              withP p0 fun g61_2 o61_2 =>
              ∃ (b63_2 : Bool), w_9.cell? ⟨g61_2, o61_2 + 1, none⟩ = some (.bool b63_2) ∧
              br b63_2 (
                ∃ (x65_2 : Int), w_9.cell? ⟨g, 0, none⟩ = some (.int .i64 x65_2) ∧
                withP p0 fun g67_2 o67_2 =>
                ∃ (x69_2 : Int), w_9.cell? ⟨g67_2, o67_2 + 2, none⟩ = some (.int .i64 x69_2) ∧
                br (decide (x65_2 ≠ (IntKind.i64.wrap (x69_2 + 1)))) (
                  K (.tuple #[.slice none 0 0, .int .i64 15]) w_9
                ) (
                  K (.tuple #[.slice none 0 0, .int .i64 7]) w_9
                )
              ) (
                K (.tuple #[.slice none 0 0, .int .i64 7]) w_9
              )
            )
          )
        )
      )
    )
  )
def wLook_notes : Notes := ⟨[(8, ⟨[0, 0, 2, 6, 14, 31, 63], [], [0, 1, 2, 3, 4, 5, 6]⟩), (10, ⟨[0, 1, 3, 7, 15, 31, 31, 95, 223, 479, 991, 2047, 4095, 8191], [], [0, 1, 2, 3, 4, 5, 6, 7, 8, 9, 10, 11, 12, 13]⟩)], [], []⟩
theorem wLook_calls (p0 : Option Addr) (x1 : Int) (a2 : Option Addr) (n2 : Nat) (c2 : Nat) (w : World) (K : Value → World → Prop) (h : wLook_vc p0 x1 a2 n2 c2 w K) : Calls Try.prog 16 #[.pointer p0, .int .i64 x1, .slice a2 n2 c2] w fun e w' => ∃ v, e = .returned v ∧ K v w' :=
  calls_of_fvc envOk Try.func16 wLook_notes [] [.pointer p0, .int .i64 x1, .slice a2 n2 c2] w K (use_vc h (by as_aux_lemma => kernel_rfl))
/-- (*purser/window.Window).Keep -/
def wKeep_vc (p0 : Option Addr) (x1 : Int) (a2 : Option Addr) (n2 : Nat) (c2 : Nat) (a3 : Option Addr) (n3 : Nat) (c3 : Nat) (w : World) (K : Value → World → Prop) : Prop :=
  Calls Try.prog 16 #[.pointer p0, .int .i64 x1, .slice a2 n2 c2] w fun e w_2 => KeepG [] w w_2 ∧
  ∃ (a15_0 : Option Addr) (n15_0 : Nat) (c15_0 : Nat) (x15_1 : Int),
  e = .returned (.tuple #[.slice a15_0 n15_0 c15_0, .int .i64 x15_1]) ∧
  br (decide (x15_1 = 0)) (
    K (.int .i64 8) w_2
  ) (
    br (decide (x15_1 ≠ 7)) (
      K (.int .i64 x15_1) w_2
    ) (
      br (decide (((n2 : Nat) : Int) > 65536)) (
        K (.int .i64 5) w_2
      ) (
        br (decide (((n3 : Nat) : Int) > 65536)) (
          K (.int .i64 5) w_2
        ) (
          drewO w_2 fun w_3 =>
          withP p0 fun g36 o36 =>
          ∃ (a38 : Option Addr) (n38 : Nat) (c38 : Nat), w_3.cell? ⟨g36, o36 + 3, none⟩ = some (.slice a38 n38 c38) ∧
          Calls Try.prog 49 #[.slice a2 n2 c2] w_3 fun e_2 w_4 => KeepG [] w_3 w_4 ∧
          ∃ (a41 : Option Addr) (n41 : Nat) (c41 : Nat),
          e_2 = .returned (.slice a41 n41 c41) ∧
          w_4.cell? ⟨g36, o36 + 3, none⟩ = some (.slice a38 n38 c38) ∧
          Calls Try.prog 49 #[.slice a3 n3 c3] w_4 fun e_3 w_5 => KeepG [] w_4 w_5 ∧
          ∃ (a43 : Option Addr) (n43 : Nat) (c43 : Nat),
          e_3 = .returned (.slice a43 n43 c43) ∧
          w_5.cell? ⟨g36, o36 + 3, none⟩ = some (.slice a38 n38 c38) ∧
          newO w_5 (.cells #[.int .i64 x1, .slice a41 n41 c41, .slice a43 n43 c43] 96) fun g w_6 =>
          w_6.cell? ⟨g36, o36 + 3, none⟩ = some (.slice a38 n38 c38) ∧
          appO Try.prog [] w_6 96 3 56 91 a38 n38 c38 (.slice (some ⟨g, 0, none⟩) 1 1) fun m46 a46 c46 w_7 =>
          withP p0 fun g47 o47 =>
          stO [] w_7 g47 (o47 + 3) [.slice a46 (n38 + m46) c46] fun w_8 =>
          drewO w_8 fun w_9 =>
          withP p0 fun g50 o50 =>
          ∃ (a52 : Option Addr) (n52 : Nat) (c52 : Nat), w_9.cell? ⟨g50, o50 + 3, none⟩ = some (.slice a52 n52 c52) ∧
          withP p0 fun g55 o55 =>
          ∃ (x57 : Int), w_9.cell? ⟨g55, o55, none⟩ = some (.int .i64 x57) ∧
          br (decide (((n52 : Nat) : Int) > x57)) (
            withP p0 fun g61 o61 =>
            ∃ (a63 : Option Addr) (n63 : Nat) (c63 : Nat), w_9.cell? ⟨g61, o61 + 3, none⟩ = some (.slice a63 n63 c63) ∧
            (0 : Int) ≤ 1 ∧ 1 ≤ (((n63 : Nat) : Int) : Int) ∧
            withP p0 fun g65 o65 =>
            stO [] w_9 g65 (o65 + 3) [.slice (sliceBase a63 c63 ((1 : Int).toNat) 3) (n63 - (1 : Int).toNat) (c63 - (1 : Int).toNat)] fun w_10 =>
            withP p0 fun g69 o69 =>
            stO [] w_10 g69 (o69 + 2) [.int .i64 x1] fun w_11 =>
            K (.int .i64 0) w_11
          ) (
            withP p0 fun g69_2 o69_2 =>
            stO [] w_9 g69_2 (o69_2 + 2) [.int .i64 x1] fun w_12 =>
            K (.int .i64 0) w_12
          )
        )
      )
    )
  )
def wKeep_notes : Notes := ⟨[(8, ⟨[0, 0, 2, 6, 14, 0, 0, 64, 0, 448, 992, 2016, 4094, 8191, 16383, 32767], [7, 9, 11, 12, 15], [0, 1, 2, 3, 4, 5, 6, 8, 10, 13, 14]⟩), (9, ⟨[0, 1, 3, 7, 15, 0, 32, 96, 224, 511], [], [0, 1, 2, 3, 4, 5, 6, 7, 8, 9]⟩)], [], []⟩
theorem wKeep_calls (p0 : Option Addr) (x1 : Int) (a2 : Option Addr) (n2 : Nat) (c2 : Nat) (a3 : Option Addr) (n3 : Nat) (c3 : Nat) (w : World) (K : Value → World → Prop) (h : wKeep_vc p0 x1 a2 n2 c2 a3 n3 c3 w K) : Calls Try.prog 15 #[.pointer p0, .int .i64 x1, .slice a2 n2 c2, .slice a3 n3 c3] w fun e w' => ∃ v, e = .returned v ∧ K v w' :=
  calls_of_fvc envOk Try.func15 wKeep_notes [] [.pointer p0, .int .i64 x1, .slice a2 n2 c2, .slice a3 n3 c3] w K (use_vc h (by as_aux_lemma => kernel_rfl))
/-- (*purser/window.Window).Last -/
def wLast_vc (p0 : Option Addr) (w : World) (K : Value → World → Prop) : Prop :=
  br (Option.isNone p0) (
    K (.int .i64 0) w
  ) (
    withP p0 fun g6 o6 =>
    ∃ (x8 : Int), w.cell? ⟨g6, o6 + 2, none⟩ = some (.int .i64 x8) ∧
    K (.int .i64 x8) w
  )
def wLast_notes : Notes := ⟨[], [], []⟩
theorem wLast_calls (p0 : Option Addr) (w : World) (K : Value → World → Prop) (h : wLast_vc p0 w K) : Calls Try.prog 17 #[.pointer p0] w fun e w' => ∃ v, e = .returned v ∧ K v w' :=
  calls_of_fvc envOk Try.func17 wLast_notes [] [.pointer p0] w K (use_vc h (by as_aux_lemma => kernel_rfl))
/-- (*purser/window.Window).Len -/
def wLen_vc (p0 : Option Addr) (w : World) (K : Value → World → Prop) : Prop :=
  br (Option.isNone p0) (
    K (.int .i64 0) w
  ) (
    withP p0 fun g6 o6 =>
    ∃ (a8 : Option Addr) (n8 : Nat) (c8 : Nat), w.cell? ⟨g6, o6 + 3, none⟩ = some (.slice a8 n8 c8) ∧
    K (.int .i64 ((n8 : Nat) : Int)) w
  )
def wLen_notes : Notes := ⟨[], [], []⟩
theorem wLen_calls (p0 : Option Addr) (w : World) (K : Value → World → Prop) (h : wLen_vc p0 w K) : Calls Try.prog 31 #[.pointer p0] w fun e w' => ∃ v, e = .returned v ∧ K v w' :=
  calls_of_fvc envOk Try.func31 wLen_notes [] [.pointer p0] w K (use_vc h (by as_aux_lemma => kernel_rfl))
end GWin
end Go.Proofs.Ytjjmhmbmjpedkaa
end
section
/- Acts on a window and the document's: the same answers. -/
namespace Go.Proofs.Ytjjmhmbmjpedkaa
open Go.RowKit
theorem RefAt.app {w w4 w5 : World} {L : List Nat} {p m : Nat} {st : Bool} {es : List Ent} (h : RefAt w L p m st es) {n : Int} (hn : 0 ≤ n ∧ n ≤ 4611686018427387904) {q r : List UInt8} (hrise : Rise st (es ++ [⟨n, q, r⟩])) (hl : es.length < 1000) {a a' : Option Addr} {c c' : Nat} {W : World} (hW : Below w.heap.size w W)
    (hbk : Bk w p #[.int .i64 m, .bool st, .slice a es.length c] 61) (hown : Own w 0 116 3 (.slice a es.length c) es.length (rRow es)) (hne : (Value.slice a es.length c).ownBlock ≠ some p) (hmine : ∀ k, (Value.slice a es.length c).ownBlock = some k → k ∈ L)
    (ho : Own w4 0 116 3 (.slice a' (es.length + 1) c') (es.length + 1) (rRow es ++ rCells ⟨n, q, r⟩)) (hg : W.grownBy w4 (Value.slice a es.length c).ownBlock) (hor : (Value.slice a' (es.length + 1) c').ownBlock = (Value.slice a es.length c).ownBlock ∨ ∃ g, (Value.slice a' (es.length + 1) c').ownBlock = some g ∧ W.heap.size ≤ g)
    (hb5 : Bk w5 p #[.int .i64 m, .bool st, .slice a' (es.length + 1) c'] 61) (hf5 : Fr [p] w4 w5) : ∃ L', RefAt w5 L' p m st (es ++ [⟨n, q, r⟩]) ∧ Fr L w w5 ∧ Gr L L' w.heap.size := by
  have hpl := h.under p h.mem
  have hne' : (Value.slice a' (es.length + 1) c').ownBlock ≠ some p := fun e => by
    rcases hor with h1 | ⟨g, h1, h2⟩
    · exact hne (h1 ▸ e)
    · rw [h1] at e; injection e with e; have := hW.size; omega
  refine ⟨p :: (Value.slice a' (es.length + 1) c').ownBlock.toList, ⟨⟨a', c', ?_, ?_, ?_, ?_⟩, by simp, fun k hk => ?_, by simp; omega, h.m1, h.m2, fun e he => ?_, hrise⟩, ?_, ?_⟩
  · rw [List.length_append]; exact hb5
  · rw [List.length_append, rRow_app]
    exact ho.keep fun k hk => hf5.block k (ho.lt k hk).2 (by rw [List.mem_singleton]; rintro rfl; exact hne' hk)
  · rw [List.length_append]; exact hne'
  · rw [List.length_append]; intro k hk; exact List.mem_cons_of_mem _ (Option.mem_toList.2 hk)
  · rcases List.mem_cons.1 hk with rfl | hk
    · have := hg.size; have := hW.size; have := hf5.size; omega
    · have := (ho.lt k (Option.mem_toList.1 hk)).2; have := hf5.size; omega
  · rcases List.mem_append.1 he with he | he
    · exact h.num e he
    · rw [List.mem_singleton] at he; subst he; exact hn
  · exact ((Fr.ofBelow (L := L) hW).grown hg fun k hk => .inl (hmine k hk)).trans hf5 fun k hk => by rw [List.mem_singleton] at hk; subst hk; exact .inl h.mem
  · intro k hk
    rcases List.mem_cons.1 hk with rfl | hk
    · exact .inl h.mem
    · have hk := Option.mem_toList.1 hk
      rcases hor with e | ⟨g, e, hge⟩
      · exact .inl (hmine k (e ▸ hk))
      · rw [e] at hk; injection hk with hk; subst hk
        have := hW.size
        exact .inr (by omega)
theorem rDocKeep_any (p m : Nat) (st : Bool) (es : List Ent) (L : List Nat) (n : Int) (q r : List UInt8) (w : World) (h : RefAt w L p m st es) (hl : es.length < 1000) :
    Calls Try.prog 67 #[.pointer (some ⟨p, 0, none⟩), .int .i64 n, .string (strOf q), .string (strOf r)] w fun e w' => e = .returned (.int .i64 ((refWin m st es).keep n q r).1) ∧ ∃ L' es', RefAt w' L' p m st es' ∧ refWin m st es' = ((refWin m st es).keep n q r).2 ∧ es'.length ≤ es.length + 1 ∧ Fr L w w' ∧ Gr L L' w.heap.size := by
  refine (GWinActs.rKeep_calls _ n (strOf q) (strOf r) w (fun v w' => v = .int .i64 ((refWin m st es).keep n q r).1 ∧ ∃ L' es', RefAt w' L' p m st es' ∧ refWin m st es' = ((refWin m st es).keep n q r).2 ∧ es'.length ≤ es.length + 1 ∧ Fr L w w' ∧ Gr L L' w.heap.size) ?_).mono (by rintro e w' ⟨v, rfl, rfl, hb⟩; exact ⟨rfl, hb⟩)
  unfold GWinActs.rKeep_vc
  refine (rLook_any p m st es L n q w h).mono ?_
  rintro e w2 ⟨rfl, hb2⟩
  refine ⟨keepG_nil _ _, _, _, rfl, ?_⟩
  have same : ∀ k : Int, (refWin m st es).keep n q r = (k, refWin m st es) → (Value.int .i64 k = .int .i64 ((refWin m st es).keep n q r).1 ∧ ∃ L' es', RefAt w2 L' p m st es' ∧ refWin m st es' = ((refWin m st es).keep n q r).2 ∧ es'.length ≤ es.length + 1 ∧ Fr L w w2 ∧ Gr L L' w.heap.size) := fun k e => by
    rw [e]; exact ⟨rfl, L, es, h.below hb2, rfl, by omega, Fr.ofBelow hb2, Gr.refl _ _⟩
  refine br_dec (fun h0 => ?_) fun h0 => br_dec (fun h7 => ?_) fun h7 => br_dec (fun hq => ?_) fun hq => br_dec (fun hr => ?_) fun hr => ?_
  · exact same 8 (by unfold Win.keep; dsimp only; rw [if_pos h0])
  · exact same _ (by unfold Win.keep; dsimp only; rw [if_neg h0, if_pos h7])
  · rw [strOf_size] at hq
    exact same 5 (by unfold Win.keep; dsimp only; rw [if_neg h0, if_neg h7, if_pos (by omega)])
  · rw [strOf_size] at hr
    exact same 5 (by unfold Win.keep; dsimp only; rw [if_neg h0, if_neg h7, if_pos (by omega)])
  · rw [strOf_size] at hq hr
    have h7 : ((refWin m st es).look n q).2 = 7 := by omega
    have hk : (refWin m st es).keep n q r = (0, (refWin m st es).push n q r) := by unfold Win.keep; dsimp only; rw [if_neg h0, if_neg (by omega), if_neg (by omega)]
    have h2 := h.below hb2
    obtain ⟨⟨a, c, g1, g2, g3, g4⟩, _⟩ := id h2
    refine ⟨a, es.length, c, by rw [g1.cell]; rfl, ?_⟩
    refine newO_in fun w3 h3 b3 s3 => ?_
    have g1' := g1.keep (b3.block p g1.lt)
    refine ⟨1, rRow es, rCells ⟨n, q, r⟩, g2.below b3 (Nat.le_refl _), src_block Try.underlying59 (n := 1) (size := 3) h3 rfl rfl, by unfold maxLen; omega, by omega, by simp, ?_⟩
    intro a' c' w4 ho4 hg4 hor
    have g4b := g1'.keep (hg4.block p g1'.lt (fun e => g3 e.symm))
    refine stO_bk g4b (by simp) (by simp) fun w5 hb5 hf5 hs5 => ?_
    obtain ⟨L', hR, hF, hG⟩ := h2.app (n := n) (q := q) (r := r) (Win.look7 h7) (h.rise.push (look_rise h7).1 (look_rise h7).2) hl b3 g1 g2 g3 g4 ho4 hg4 hor hb5 hf5
    rw [hk]
    refine ⟨rfl, L', _, hR, (refWin_push h.m1 st es n q r).symm, by simp, (Fr.ofBelow (L := L) hb2).trans hF (Gr.refl _ _), fun k hk => (hG k hk).imp id fun h => Nat.le_trans hb2.size h⟩
theorem aNumber_any (b1 b2 : Bool) (x : Int) (a3 a4 : Option Addr) (n3 c3 n4 c4 : Nat) (la : Int) (w : World) :
    Calls Try.prog 65 #[.agg #[.bool b1, .int .i64 x, .bool b2, .slice a3 n3 c3, .slice a4 n4 c4], .int .i64 la] w fun e w' => ∃ z : Int, e = .returned (.int .i64 z) ∧ Below w.heap.size w w' := by
  refine (GWinActs.aNumber_calls b1 x b2 a3 n3 c3 a4 n4 c4 la w (fun v w' => ∃ z : Int, v = .int .i64 z ∧ Below w.heap.size w w') ?_).mono (by rintro e w' ⟨v, rfl, z, rfl, hb⟩; exact ⟨z, rfl, hb⟩)
  unfold GWinActs.aNumber_vc
  refine newO_in fun w2 h2 b2' s2 => ?_
  cases b2 with
  | true => exact br_t rfl ⟨_, rfl, b2'⟩
  | false => exact br_f rfl ⟨by decide, by decide, by decide, _, rfl, b2'⟩
/-- A byte's copy of a row: 'append([]byte{}, x...)', its append alone. -/
theorem app_bytes {gs : List Nat} {w : World} {g : Nat} (hg : w.heap[g]? = some (.cells #[] 5 (0, 0))) (hgs : ∀ x ∈ gs, x ≠ g) {a : Option Addr} {c : Nat} {xs : List UInt8} (ha : RowAt w a (xs.map bV)) (hl : xs.length ≤ 100000000) {K : Nat → Option Addr → Nat → World → Prop}
    (hk : ∀ a' c' w', Own w' 0 5 1 (.slice a' (0 + xs.length) c') (0 + xs.length) (xs.map bV) → w.grownBy w' (some g) → ((Value.slice a' (0 + xs.length) c').ownBlock = some g ∨ ∃ k, (Value.slice a' (0 + xs.length) c').ownBlock = some k ∧ w.heap.size ≤ k) → K xs.length a' c' w') :
    appO Try.prog gs w 5 1 1 30 (some ⟨g, 0, none⟩) 0 0 (.slice a xs.length c) K := by
  have hs := Src.ofRow (P := Try.prog) (w := w) Try.underlying30 a c (xs.map bV) ha (fun u hu => by obtain ⟨x, _, rfl⟩ := List.mem_map.1 hu; rfl)
  rw [List.length_map] at hs
  exact ⟨xs.length, [], xs.map bV, own_empty 1 hg, hs, by unfold maxLen; omega, by omega, fun x hx e => by injection e with e; exact hgs x hx e.symm, fun a' c' w1 h1 h2 h3 => hk a' c' w1 h1 h2 h3⟩
end Go.Proofs.Ytjjmhmbmjpedkaa
end
section
/- An act on both windows: the same answer. -/
namespace Go.Proofs.Ytjjmhmbmjpedkaa
open Go.RowKit
theorem below_grown {n : Nat} {w w1 w2 : World} {row : Option Nat} (h : Below n w w1) (hn : n ≤ w.heap.size) (hg : w1.grownBy w2 row) (hr : ∀ k, row = some k → n ≤ k) : Below n w w2 := by
  obtain ⟨g1, g2, g3, g4, g5⟩ := hg
  exact ⟨g1.trans h.os, g2.trans h.tape, g3.trans h.output, Nat.le_trans h.size g4, fun k hk => (g5 k (by have := h.size; omega) fun e => by have := hr k e.symm; omega).trans (h.block k hk)⟩
theorem own_in {w : World} {n0 : Nat} {a : Option Addr} {n c : Nat} {xs : List Value} (h : Own w 0 5 1 (.slice a (0 + n) c) (0 + n) xs) {g s : Nat} (hor : (Value.slice a (0 + n) c).ownBlock = some g ∨ ∃ k, (Value.slice a (0 + n) c).ownBlock = some k ∧ s ≤ k) (hg : n0 ≤ g) (hs : n0 ≤ s) :
    Own w n0 5 1 (.slice a n c) n xs ∧ ((Value.slice a n c).ownBlock = some g ∨ ∃ k, (Value.slice a n c).ownBlock = some k ∧ s ≤ k) := by
  rw [Nat.zero_add] at h hor
  refine ⟨h.base_le fun k hk => ?_, hor⟩
  rcases hor with e | ⟨j, e, hj⟩
  · rw [e] at hk; injection hk with hk; omega
  · rw [e] at hk; injection hk with hk; omega
theorem take3 (xs : List UInt8) : (min ((xs.length : Nat) : Int) 300).toNat = (xs.take 300).length := by rw [List.length_take]; omega
theorem xor_head {x : UInt8} {t : List UInt8} {y : UInt8} : (strOf (y :: t)) = (strOf [y]) ++ (strOf (x :: t)).extract 1 (strOf (x :: t)).size := by
  rw [strOf_extract, strOf_app, strOf_size]; simp
theorem aDo_any (kp raw : Bool) (by' : Int) (a3 a4 : Option Addr) (c3 c4 : Nat) (Q A : List UInt8) (p r m : Nat) (st : Bool) (es : List Ent) (L M : List Nat) (w : World) (hW : WinAt w L p (refWin m st es)) (hR : RefAt w M r m st es) (hap : Apart L M) (hl : es.length < 1000)
    (h3 : RowAt w a3 (Q.map bV)) (l3 : Q.length ≤ c3) (h4 : RowAt w a4 (A.map bV)) (l4 : A.length ≤ c4) :
    Calls Try.prog 32 #[.agg #[.bool kp, .int .i64 by', .bool raw, .slice a3 Q.length c3, .slice a4 A.length c4], .pointer (some ⟨p, 0, none⟩), .pointer (some ⟨r, 0, none⟩)] w fun e w' => e = .returned (.bool true) ∧
      ∃ L' M' es', WinAt w' L' p (refWin m st es') ∧ RefAt w' M' r m st es' ∧ Apart L' M' ∧ es'.length ≤ es.length + 1 ∧ Fr (L ++ M) w w' ∧ Gr L L' w.heap.size ∧ Gr M M' w.heap.size := by
  refine (GWinActs.aDo_calls kp by' raw a3 Q.length c3 a4 A.length c4 _ _ w (fun v w' => v = .bool true ∧ ∃ L' M' es', WinAt w' L' p (refWin m st es') ∧ RefAt w' M' r m st es' ∧ Apart L' M' ∧ es'.length ≤ es.length + 1 ∧ Fr (L ++ M) w w' ∧ Gr L L' w.heap.size ∧ Gr M M' w.heap.size) ?_).mono (by rintro e w' ⟨v, rfl, rfl, hb⟩; exact ⟨rfl, hb⟩)
  unfold GWinActs.aDo_vc
  refine newO_in fun w2 h2 b2 s2 => ?_
  simp only [take3]
  have q3 : (Q.take 300).length ≤ 300 := by rw [List.length_take]; omega
  have q4 : (A.take 300).length ≤ 300 := by rw [List.length_take]; omega
  refine ⟨fun a7 n7 c7 a8 n8 c8 wx => (Q.take 300).length = n7 ∧ (A.take 300).length = n8 ∧ Own wx w2.heap.size 5 1 (.slice a7 n7 c7) n7 ((Q.take 300).map bV) ∧ Own wx w2.heap.size 5 1 (.slice a8 n8 c8) n8 ((A.take 300).map bV) ∧ (∀ k, (Value.slice a7 n7 c7).ownBlock = some k → (Value.slice a8 n8 c8).ownBlock ≠ some k) ∧ Below w2.heap.size w2 wx, ?_, ?_⟩
  · refine drewO_in fun w3 b3 e3 => ⟨by omega, by omega, by omega, by omega, ?_⟩
    have hs3 := b3.size
    have R3 : RowAt w3 a3 ((Q.take 300).map bV) := (slice_row (h3.below b2 (Nat.le_refl _)) 300).below b3 (Nat.le_refl _)
    have R4 : RowAt w3 a4 ((A.take 300).map bV) := (slice_row (h4.below b2 (Nat.le_refl _)) 300).below b3 (Nat.le_refl _)
    have fin : ∀ {wa wb wc : World} {a7 a8 : Option Addr} {n7 n8 c7 c8 g7 g8 sz : Nat}, (Q.take 300).length = n7 → (A.take 300).length = n8 → Below w2.heap.size w2 wa → w2.heap.size ≤ g7 → w2.heap.size ≤ g8 → w2.heap.size ≤ sz → Own wa 0 5 1 (.slice a7 (0 + n7) c7) (0 + n7) ((Q.take 300).map bV) → ((Value.slice a7 (0 + n7) c7).ownBlock = some g7 ∨ ∃ k, (Value.slice a7 (0 + n7) c7).ownBlock = some k ∧ sz ≤ k) →
        Below wa.heap.size wa wb → Own wc 0 5 1 (.slice a8 (0 + n8) c8) (0 + n8) ((A.take 300).map bV) → wb.grownBy wc (some g8) → ((Value.slice a8 (0 + n8) c8).ownBlock = some g8 ∨ ∃ k, (Value.slice a8 (0 + n8) c8).ownBlock = some k ∧ wb.heap.size ≤ k) → g7 ≠ g8 → (g8 < sz ∨ wa.heap.size ≤ g8) →
        (Q.take 300).length = 0 + n7 ∧ (A.take 300).length = 0 + n8 ∧ Own wc w2.heap.size 5 1 (.slice a7 (0 + n7) c7) (0 + n7) ((Q.take 300).map bV) ∧ Own wc w2.heap.size 5 1 (.slice a8 (0 + n8) c8) (0 + n8) ((A.take 300).map bV) ∧ (∀ k, (Value.slice a7 (0 + n7) c7).ownBlock = some k → (Value.slice a8 (0 + n8) c8).ownBlock ≠ some k) ∧ Below w2.heap.size w2 wc := by
      intro wa wb wc a7 a8 n7 n8 c7 c8 g7 g8 sz e7 e8 ba hg7 hg8 hsz o7 or7 bb o8 gr or8 hne hsm
      obtain ⟨p7, r7⟩ := own_in o7 or7 hg7 hsz
      have hszb : w2.heap.size ≤ wb.heap.size := Nat.le_trans ba.size bb.size
      obtain ⟨p8, r8⟩ := own_in o8 or8 hg8 hszb
      rw [Nat.zero_add, Nat.zero_add]
      have k7 : ∀ k, (Value.slice a7 n7 c7).ownBlock = some k → k < wa.heap.size ∧ k ≠ g8 := fun k hk => by
        have h1 := (p7.lt k hk).2
        refine ⟨h1, fun e => ?_⟩
        subst e
        rcases r7 with e | ⟨j, e, hj⟩
        · rw [e] at hk; injection hk with hk; exact hne hk
        · rw [e] at hk; injection hk with hk; omega
      refine ⟨e7, e8, (p7.below bb (Nat.le_refl _)).keep fun k hk => gr.block k (Nat.lt_of_lt_of_le (k7 k hk).1 bb.size) (fun e => by injection e with e; exact (k7 k hk).2 e), p8, fun k hk e => ?_, ?_⟩
      · rcases r8 with e8 | ⟨j, e8, hj⟩
        · rw [e8] at e; injection e with e; exact (k7 k hk).2 e.symm
        · rw [e8] at e; injection e with e; have := (k7 k hk).1; have := bb.size; omega
      · exact below_grown (ba.trans (bb.mono ba.size)) (Nat.le_refl _) gr fun k hk => by injection hk with hk; omega
    have gne : ∀ {k : Nat}, w2.heap.size ≤ k → ∀ x ∈ [w.heap.size], x ≠ k := fun hk x hx => by rw [List.mem_singleton] at hx; omega
    refine ⟨newO_in fun w4 h4' b4 s4 => ⟨?_, ?_⟩, newO_in fun w11 h11 b11 s11 => newO_in fun w12 h12 b12 s12 => ?_⟩
    · refine app_bytes h4' (gne hs3) (R3.below b4 (Nat.le_refl _)) (by omega) fun a7 c7 w5 o7 g5 or7 => ?_
      have B5 := below_grown (b3.trans (b4.mono hs3)) (Nat.le_refl _) g5 fun k hk => by injection hk with hk; omega
      refine newO_in fun w6 h6 b6 s6 => ?_
      have hs45 := g5.size
      refine app_bytes h6 (gne (by omega)) ((R4.below (below_grown b4 (Nat.le_refl _) g5 fun k hk => by injection hk with hk; omega) (Nat.le_refl _)).below b6 (Nat.le_refl _)) (by omega) fun a8 c8 w7 o8 g7 or8 => ?_
      exact fin rfl rfl B5 hs3 (by omega) (by omega) o7 or7 b6 o8 g7 or8 (by omega) (.inr (Nat.le_refl _))
    · refine newO_in fun w8 h8 b8 s8 => ?_
      have R38 := (R3.below b4 (Nat.le_refl _)).below b8 (Nat.le_refl _)
      have R48 := (R4.below b4 (Nat.le_refl _)).below b8 (Nat.le_refl _)
      refine app_bytes (Below.kept b8 (by omega) h4') (gne hs3) R38 (by omega) fun a7 c7 w9 o7 g9 or7 => ?_
      have B8 := (b3.trans (b4.mono hs3)).trans (b8.mono (by omega))
      have B9 := below_grown B8 (Nat.le_refl _) g9 fun k hk => by injection hk with hk; omega
      have hs89 := g9.size
      have R49 : RowAt w9 a4 ((A.take 300).map bV) := R4.below (below_grown (b4.trans (b8.mono (by omega))) (Nat.le_refl _) g9 fun k hk => by injection hk with hk; omega) (Nat.le_refl _)
      refine app_bytes ((g9.block _ (by omega) (by simp; omega)).trans h8) (gne (by omega)) R49 (by omega) fun a8 c8 w10 o8 g10 or8 => ?_
      exact fin rfl rfl B9 hs3 (by omega) (by omega) o7 or7 (Below.refl _ _) o8 g10 or8 (by omega) (.inl (by omega))
    · have R312 := (R3.below b11 (Nat.le_refl _)).below b12 (Nat.le_refl _)
      have B12 := (b3.trans (b11.mono hs3)).trans (b12.mono (by omega))
      refine app_bytes h12 (gne (by omega)) R312 (by omega) fun a7 c7 w13 o7 g13 or7 => ?_
      have B13 := below_grown B12 (Nat.le_refl _) g13 fun k hk => by injection hk with hk; omega
      have hs123 := g13.size
      have R413 : RowAt w13 a4 ((A.take 300).map bV) := R4.below (below_grown (b11.trans (b12.mono (by omega))) (Nat.le_refl _) g13 fun k hk => by injection hk with hk; omega) (Nat.le_refl _)
      refine app_bytes ((g13.block _ (by omega) (by simp; omega)).trans (Below.kept b12 (by omega) h11)) (gne hs3) R413 (by omega) fun a8 c8 w14 o8 g14 or8 => ?_
      exact fin rfl rfl B13 (by omega) hs3 (by omega) o7 or7 (Below.refl _ _) o8 g14 or8 (by omega) (.inl (by omega))
  rintro a7 n7 c7 a8 n8 c8 w15 ⟨rfl, rfl, o7, o8, hdis, b15⟩
  have hub2 : Below w.heap.size w w15 := b2.trans (b15.mono b2.size)
  refine drewO_in fun w16 b16 _ => ?_
  have B16 := hub2.trans (b16.mono hub2.size)
  have gL : ∀ x ∈ [w.heap.size], x ∉ L := fun x hx hm => by rw [List.mem_singleton] at hx; have := hW.under x hm; omega
  have gM : ∀ x ∈ [w.heap.size], x ∉ M := fun x hx hm => by rw [List.mem_singleton] at hx; have := hR.under x hm; omega
  refine (rLast_any r m st es M w16 (hR.below B16)).mono ?_
  rintro e w17 ⟨rfl, b17⟩
  have B17 := B16.trans (b17.mono B16.size)
  refine ⟨keepG_below b17, _, rfl, ?_⟩
  refine (aNumber_any kp raw by' a3 a4 _ c3 _ c4 _ w17).mono ?_
  rintro e w18 ⟨n, rfl, b18⟩
  have B18 := B17.trans (b18.mono B17.size)
  refine ⟨keepG_below b18, _, rfl, ?_⟩
  refine drewO_in fun w19 b19 _ => ?_
  have B19 := B18.trans (b19.mono B18.size)
  have C19 : Below w15.heap.size w15 w19 := ((b16.trans (b17.mono b16.size)).trans (b18.mono (Nat.le_trans b16.size b17.size))).trans (b19.mono (Nat.le_trans (Nat.le_trans b16.size b17.size) b18.size))
  have O7 := o7.below C19 (Nat.le_refl _)
  have O8 := o8.below C19 (Nat.le_refl _)
  have W19 := hW.below B19
  have R19 := hR.below B19
  refine ⟨Q.take 300, rfl, O7.row, A.take 300, rfl, O8.row, br_not ?_⟩
  have hw2s : w.heap.size < w2.heap.size := by omega
  cases kp with
  | false =>
    refine br_f rfl ?_
    refine (wLook_any p _ L n a7 c7 (Q.take 300) w19 W19 O7.row).mono ?_
    rintro e w20 ⟨v, rfl, ov, b20⟩
    obtain ⟨av, cv, rfl⟩ := ov.isSlice
    have B20 := B19.trans (b20.mono B19.size)
    refine ⟨keepG_below b20, _, _, _, _, rfl, ?_⟩
    refine (rLook_any r m st es M n (Q.take 300) w20 (hR.below B20)).mono ?_
    rintro e w21 ⟨rfl, b21⟩
    have B21 := B20.trans (b21.mono B20.size)
    have OV := ov.below b21 (Nat.le_refl _)
    refine ⟨keepG_below b21, _, _, rfl, ?_⟩
    have fin : ∀ wx : World, Below w.heap.size w wx → ((Value.bool (decide (((refWin m st es).look n (Q.take 300)).2 = ((refWin m st es).look n (Q.take 300)).2)) = .bool true) ∧ ∃ L' M' es', WinAt wx L' p (refWin m st es') ∧ RefAt wx M' r m st es' ∧ Apart L' M' ∧ es'.length ≤ es.length + 1 ∧ Fr (L ++ M) w wx ∧ Gr L L' w.heap.size ∧ Gr M M' w.heap.size) := fun wx hb =>
      ⟨by simp, L, M, es, hW.below hb, hR.below hb, hap, by omega, Fr.ofBelow hb, Gr.refl _ _, Gr.refl _ _⟩
    generalize hans : ((refWin m st es).look n (Q.take 300)).1 = ans at *
    refine br_dec (fun hpos => ?_) fun hneg => ?_
    · cases ans with
      | nil => simp at hpos
      | cons x t =>
        refine br_y (by rw [strOf_size]; simp) ?_
        obtain ⟨gv, ofv, rfl, hcell⟩ := own_cell OV (i := 0) (v := bV x) rfl
        refine ⟨by omega, by simp, (x.toNat : Int), by simpa [bV] using hcell, by omega, by simp, ?_⟩
        obtain ⟨y, hy⟩ := bits_byte .xor (x.toNat : Int) 1
        rw [hy]
        refine OV.storeAt (i := 0) (by simp) ?_ ?_
        · intro x hx
          rw [List.mem_singleton] at hx
          have h5 := (OV.lt gv rfl).1
          have h6 := B19.size
          rintro rfl
          have h7 := hub2.size
          have h8 := b15.size
          have h9 := C19.size
          omega
        · intro w22 o22 f22 s22
          refine drewO_in fun w23 b23 _ => ⟨by omega, by rw [strOf_size, List.length_cons]; omega, by omega, by rw [strOf_size, List.length_cons]; omega, ?_⟩
          refine newO_in fun w24 h24 b24 s24 => ?_
          have hb0 : byteAt (strOf (x :: t)) 0 = (x.toNat : Int) := byteAt_strOf (x :: t) 0
          rw [hb0, hy] at h24
          have O24 := (o22.below b23 (Nat.le_refl _)).below b24 (Nat.le_refl _)
          refine ⟨[y], rfl, one_row y h24, ?_, y :: t, by simp, ?_, br_y ?_ (fin w24 ?_)⟩
          · have := OV.1
            have hlen : (x :: t).length ≤ 65536 := by have := Win.look_le (refWin m st es) W19.ok n (Q.take 300); rw [hans] at this; exact this
            rw [strOf_extract, strOf_size, strOf_size, strOf_size]
            simp only [List.length_take, List.length_drop, List.length_cons, List.length_nil] at hlen ⊢
            omega
          · exact O24.row
          · exact xor_head
          · have F2 := ((Fr.ofBelow (L := [gv]) B21).trans f22 (Gr.refl _ _)).below (b := w.heap.size) (fun k hk => by rw [List.mem_singleton] at hk; have := (OV.lt gv rfl).1; have := B19.size; omega) (Nat.le_refl _)
            exact (F2.trans (b23.mono F2.size)).trans (b24.mono (Nat.le_trans F2.size b23.size))
    · have : ans = [] := List.eq_nil_of_length_eq_zero (by omega)
      subst this
      exact ⟨[], rfl, .inl rfl, br_y rfl (fin w21 B21)⟩
  | true =>
    refine br_t rfl ?_
    have hs2 := hub2.size
    have far7 : ∀ {k : Nat}, (Value.slice a7 (Q.take 300).length c7).ownBlock = some k → w2.heap.size ≤ k ∧ k < w15.heap.size := fun hk => o7.lt _ hk
    have far8 : ∀ {k : Nat}, (Value.slice a8 (A.take 300).length c8).ownBlock = some k → w2.heap.size ≤ k ∧ k < w15.heap.size := fun hk => o8.lt _ hk
    have hs19 := C19.size
    refine (wKeep_any p _ L n a7 c7 (Q.take 300) a8 c8 (A.take 300) w19 W19 O7.row O8.row).mono ?_
    rintro e w25 ⟨rfl, L2, hw2, hf2, hg2⟩
    refine ⟨keepG_fr hf2 gL, _, rfl, ?_⟩
    have notL : ∀ {k : Nat}, w2.heap.size ≤ k → k ∉ L := fun hk hm => by have := hW.under _ hm; omega
    have notL2 : ∀ {k : Nat}, w2.heap.size ≤ k → k < w15.heap.size → k ∉ L2 := fun h1 h2 hm => (hg2 _ hm).elim (notL h1) fun h3 => by omega
    have notM : ∀ {k : Nat}, w2.heap.size ≤ k → k ∉ M := fun hk hm => by have := hR.under _ hm; omega
    have apM : Apart L2 M := fun k hk hm => (hg2 k hk).elim (fun h1 => hap k h1 hm) fun h1 => by have := hR.under k hm; omega
    have F25 : Fr L w w25 := (Fr.ofBelow (L := L) B19).trans hf2 (Gr.refl _ _)
    have P7 := O7.keep fun k hk => hf2.block k (by have := far7 hk; omega) (notL (far7 hk).1)
    have P8 := O8.keep fun k hk => hf2.block k (by have := far8 hk; omega) (notL (far8 hk).1)
    have R25 : RefAt w25 M r m st es := R19.fr hf2 (fun k hk hm => hap k hm hk)
    have gne7 : ∀ k, (Value.slice a7 (Q.take 300).length c7).ownBlock = some k → ∀ x ∈ [w.heap.size], x ≠ k := fun k hk x hx => by rw [List.mem_singleton] at hx; have := far7 hk; omega
    have gne8 : ∀ k, (Value.slice a8 (A.take 300).length c8).ownBlock = some k → ∀ x ∈ [w.heap.size], x ≠ k := fun k hk x hx => by rw [List.mem_singleton] at hx; have := far8 hk; omega
    refine ⟨fun x wx => ∃ (i : Nat) (bs : List UInt8), x = i ∧ i ≤ (Q.take 300).length ∧ Own wx w2.heap.size 5 1 (.slice a7 (Q.take 300).length c7) (Q.take 300).length (bs.map bV) ∧ Own wx w2.heap.size 5 1 (.slice a8 (A.take 300).length c8) (A.take 300).length ((A.take 300).map bV) ∧ WinAt wx L2 p ((refWin m st es).keep n (Q.take 300) (A.take 300)).2 ∧ RefAt wx M r m st es ∧ Fr L w wx,
      fun x _ => (Q.take 300).length - x.toNat, ⟨0, _, rfl, by omega, P7, P8, hw2, R25, F25⟩, ?_⟩
    rintro x w26 ⟨i, bs, rfl, hi, P7, P8, hw2, R26, F26⟩
    refine br_dec (fun hlt => ?_) fun hge => ?_
    · have hbl : bs.length = (Q.take 300).length := by have := P7.1; simpa using this
      have hib : i < bs.length := by omega
      obtain ⟨gv, ofv, rfl, hcell⟩ := own_cell P7 (i := i) (v := bV bs[i]) (by rw [List.getElem?_map, List.getElem?_eq_getElem hib]; rfl)
      refine ⟨by omega, by omega, (bs[i].toNat : Int), by simpa [bV] using hcell, by omega, by omega, ?_⟩
      obtain ⟨y, hy⟩ := bits_byte .xor (bs[i].toNat : Int) 3
      rw [hy, wr64 (by omega) (by omega)]
      refine P7.storeAt (i := i) (by omega) (gne7 gv rfl) ?_
      · intro w27 o27 f27 s27
        have hk : ∀ k ∈ [gv], (Value.slice (some ⟨gv, ofv, none⟩) (Q.take 300).length c7).ownBlock = some k := fun k hk => by rw [List.mem_singleton] at hk; rw [hk]; rfl
        refine ⟨⟨i + 1, bs.set i y, by omega, by omega, by rw [List.map_set]; exact o27, P8.keep fun k h8 => f27.block k (P8.lt k h8).2 fun hm => hdis k (hk k hm) h8, hw2.fr f27 fun k h1 h2 => notL2 (far7 (hk k h2)).1 (far7 (hk k h2)).2 h1, R26.fr f27 fun k h1 h2 => notM (far7 (hk k h2)).1 h1, F26.trans f27 fun k h1 => .inr (by have := far7 (hk k h1); omega)⟩, by dsimp only; omega⟩
    · obtain rfl : i = (Q.take 300).length := by omega
      refine ⟨fun x wx => ∃ (i : Nat) (bs : List UInt8), x = i ∧ i ≤ (A.take 300).length ∧ Own wx w2.heap.size 5 1 (.slice a8 (A.take 300).length c8) (A.take 300).length (bs.map bV) ∧ WinAt wx L2 p ((refWin m st es).keep n (Q.take 300) (A.take 300)).2 ∧ RefAt wx M r m st es ∧ Fr L w wx,
        fun x _ => (A.take 300).length - x.toNat, ⟨0, _, rfl, by omega, P8, hw2, R26, F26⟩, ?_⟩
      rintro x w28 ⟨i, bs', rfl, hi, P8, hw2, R28, F28⟩
      refine br_dec (fun hlt => ?_) fun hge => ?_
      · have hbl : bs'.length = (A.take 300).length := by have := P8.1; simpa using this
        have hib : i < bs'.length := by omega
        obtain ⟨gv, ofv, rfl, hcell⟩ := own_cell P8 (i := i) (v := bV bs'[i]) (by rw [List.getElem?_map, List.getElem?_eq_getElem hib]; rfl)
        refine ⟨by omega, by omega, (bs'[i].toNat : Int), by simpa [bV] using hcell, by omega, by omega, ?_⟩
        obtain ⟨y, hy⟩ := bits_byte .xor (bs'[i].toNat : Int) 3
        rw [hy, wr64 (by omega) (by omega)]
        refine P8.storeAt (i := i) (by omega) (gne8 gv rfl) ?_
        · intro w27 o27 f27 s27
          have hk : ∀ k ∈ [gv], (Value.slice (some ⟨gv, ofv, none⟩) (A.take 300).length c8).ownBlock = some k := fun k hk => by rw [List.mem_singleton] at hk; rw [hk]; rfl
          refine ⟨⟨i + 1, bs'.set i y, by omega, by omega, by rw [List.map_set]; exact o27, hw2.fr f27 fun k h1 h2 => notL2 (far8 (hk k h2)).1 (far8 (hk k h2)).2 h1, R28.fr f27 fun k h1 h2 => notM (far8 (hk k h2)).1 h1, F28.trans f27 fun k h1 => .inr (by have := far8 (hk k h1); omega)⟩, by dsimp only; omega⟩
      · refine (rDocKeep_any r m st es M n (Q.take 300) (A.take 300) w28 R28 hl).mono ?_
        rintro e w30 ⟨rfl, M', es', hR', hes, hlen, hfM, hgM⟩
        refine ⟨keepG_fr hfM gM, _, rfl, by simp, L2, M', es', ?_, hR', fun k h1 h2 => ?_, hlen, ?_, fun k h1 => (hg2 k h1).imp id fun h => by have := B19.size; omega, fun k h1 => (hgM k h1).imp id fun h => Nat.le_trans F28.size h⟩
        · rw [hes]; exact hw2.fr hfM apM
        · exact (hgM k h2).elim (apM k h1) fun h3 => by have := hw2.under k h1; omega
        · exact (F28.mono fun k hk => .inl (List.mem_append_left _ hk)).trans hfM fun k hk => .inl (List.mem_append_right _ hk)
end Go.Proofs.Ytjjmhmbmjpedkaa
end
section
/- A window is written, by both; walked. -/
namespace Go.Proofs.Ytjjmhmbmjpedkaa
open Go.RowKit
theorem entB_len {e : Ent} (h : e.ok) : (entB e).length ≤ 131110 := by
  obtain ⟨h1, h2, h3, h4⟩ := h
  unfold entB
  rw [List.length_append, List.length_append]
  have a := uint_len10 (n := e.num) (by omega)
  have b := textB_len (ts := e.req) (by omega)
  have c := textB_len (ts := e.ans) (by omega)
  omega
theorem entsB_len {es : List Ent} (h : ∀ e ∈ es, e.ok) : (es.flatMap entB).length ≤ 131110 * es.length := by
  induction es with
  | nil => simp
  | cons e r ih =>
    rw [List.flatMap_cons, List.length_append, List.length_cons]
    have := entB_len (h e (by simp))
    have := ih fun x hx => h x (by simp [hx])
    omega
def winHd (s : Win) : List UInt8 := uintB s.most ++ flagB s.strict ++ intB s.last ++ uintB (s.ents.length : Int)
theorem winHd_len {s : Win} (h : s.Ok) : (winHd s).length ≤ 31 := by
  obtain ⟨m1, m2, l1, l2, le, each⟩ := h
  unfold winHd
  rw [List.length_append, List.length_append, List.length_append]
  have a := uint_len10 (n := s.most) (by omega)
  have b := uint_len10 (n := (s.ents.length : Int)) (by omega)
  have c := int_len10 (n := s.last) (by omega) (by omega)
  have d : (flagB s.strict).length = 1 := rfl
  omega
theorem wWrite_any (p : Nat) (s : Win) (L : List Nat) (w : World) (h : WinAt w L p s) :
    Calls Try.prog 30 #[.pointer (some ⟨p, 0, none⟩)] w fun e w' => ∃ a c, e = .returned (.tuple #[.slice a (winB s).length c, .int .i64 0]) ∧ Own w' w.heap.size 5 1 (.slice a (winB s).length c) (winB s).length ((winB s).map bV) ∧ Below w.heap.size w w' := by
  refine (GWinWr.wWrite_calls (some ⟨p, 0, none⟩) w (fun v w' => ∃ a c, v = .tuple #[.slice a (winB s).length c, .int .i64 0] ∧ Own w' w.heap.size 5 1 (.slice a (winB s).length c) (winB s).length ((winB s).map bV) ∧ Below w.heap.size w w') ?_).mono (by rintro e w' ⟨v, rfl, a, c, rfl, hb⟩; exact ⟨a, c, rfl, hb⟩)
  unfold GWinWr.wWrite_vc
  refine br_f rfl ?_
  obtain ⟨⟨kv, xs, M, h1, h2, h3, h4, h5⟩, hm, hu, ho⟩ := h
  obtain ⟨ka, kc, rfl⟩ := h2.isSlice
  have hhl := winHd_len ho
  obtain ⟨m1, m2, l1, l2, le, each⟩ := id ho
  have hes := entsB_len each
  refine newO_in fun w2 n2 b2 s2 => ?_
  have on := WrOn.start (w := w) (w' := w2) (L := L) (Q := fun w => Bk w p #[.int .i64 s.most, .bool s.strict, .int .i64 s.last, .slice ka s.ents.length kc] 93 ∧ Own w 0 96 3 (.slice ka s.ents.length kc) s.ents.length xs ∧ EntsOk w M s.ents xs) ⟨h1, h2, h3⟩ hu
    (fun w w' hq hk _ => ⟨hq.1.keep (hk p hm), hq.2.1.keep fun k e => hk k (h5 k e), hq.2.2.keep fun k hm => hk k (h4 k hm).1⟩) n2 b2
  clear h1 h2 h3
  refine ⟨_, by rw [on.q.1.cell]; rfl, (on_uint on s.most (by omega) (by simp)).mono ?_⟩
  rintro e w3 ⟨kg, rfl, on⟩
  refine ⟨kg, rfl, _, by rw [on.q.1.cell]; rfl, (on_flag on s.strict (by have := uint_len10 (n := s.most) (by omega); simp; omega)).mono ?_⟩
  rintro e w4 ⟨kg, rfl, on⟩
  refine ⟨kg, rfl, _, by rw [on.q.1.cell]; rfl, (on_int on s.last (by omega) (by omega) (by unfold winHd at hhl; simp at hhl ⊢; omega)).mono ?_⟩
  rintro e w5 ⟨kg, rfl, on⟩
  refine ⟨kg, rfl, _, _, _, by rw [on.q.1.cell]; rfl, (on_uint on (s.ents.length : Int) (by omega) (by unfold winHd at hhl; simp at hhl ⊢; omega)).mono ?_⟩
  rintro e w6 ⟨kg, rfl, on⟩
  refine ⟨kg, rfl, _, _, _, by rw [on.q.1.cell]; rfl, ?_⟩
  have hbad : (false || decide (s.most < 0) || decide ((s.ents.length : Int) < 0)) = false := by
    rw [decide_eq_false (by omega), decide_eq_false (by omega)]; rfl
  rw [hbad, List.nil_append] at on
  change WrOn w w6 _ L [] w.heap.size (winHd s) false at on
  refine ⟨fun x wx => ∃ i : Nat, x = i ∧ i ≤ s.ents.length ∧ WrOn w wx (fun w => Bk w p #[.int .i64 s.most, .bool s.strict, .int .i64 s.last, .slice ka s.ents.length kc] 93 ∧ Own w 0 96 3 (.slice ka s.ents.length kc) s.ents.length xs ∧ EntsOk w M s.ents xs) L [] w.heap.size (winHd s ++ (s.ents.take i).flatMap entB) false, fun x _ => s.ents.length - x.toNat, ⟨0, rfl, by omega, by simpa using on⟩, ?_⟩
  clear on
  rintro x wx ⟨i, rfl, hi, on⟩
  refine br_dec (fun hlt => ?_) fun hge => ?_
  · have hlt : i < s.ents.length := by omega
    have he := List.getElem?_eq_getElem hlt
    obtain ⟨u, cu, v, cv, x0, x1, x2, _, _, _, _⟩ := on.q.2.2.2 i _ he
    obtain ⟨b, off, rfl⟩ := own_some (by omega) on.q.2.1
    have hc := on.q.2.1.cells b off kc rfl
    have in1 : ∀ wa, EntsOk wa M s.ents xs → In wa M u s.ents[i].req ∧ In wa M v s.ents[i].ans := by
      intro wa hE
      obtain ⟨u', cu', v', cv', _, y1, y2, q3, q4, _⟩ := hE.2 i _ he
      rw [x1] at y1; injection y1 with y1; injection y1 with y1 _ _; subst y1
      rw [x2] at y2; injection y2 with y2; injection y2 with y2 _ _; subst y2
      exact ⟨q3, q4⟩
    have hok := each _ (List.getElem_mem hlt)
    have hlen : (winHd s ++ (s.ents.take i).flatMap entB).length ≤ 31 + 131110 * i := by
      rw [List.length_append]
      have := entsB_len (es := s.ents.take i) fun e he => each e (List.mem_of_mem_take he)
      rw [List.length_take] at this
      omega
    obtain ⟨o1, o2, o3, o4⟩ := hok
    have e1 := uint_len10 (n := s.ents[i].num) (by omega)
    have e2 := textB_len (ts := s.ents[i].req) (by omega)
    have hnL : wx.heap.size ∉ L := fun hk => Nat.lt_irrefl _ (on.underL _ hk)
    refine ⟨by omega, by omega, s.ents[i].num, u, s.ents[i].req.length, cu, v, s.ents[i].ans.length, cv, ⟨?_, ?_, ?_, trivial⟩, newO_in fun w8 n8 b8 s8 w9 bs9 => ?_⟩
    · rw [Int.toNat_natCast]; exact hc _ _ x0
    · rw [Int.toNat_natCast]; exact hc _ _ x1
    · rw [Int.toNat_natCast]; exact hc _ _ x2
    refine (on_uint ((on.box b8 s8).boxSt (by simp) hnL bs9) _ (by omega) (by omega)).mono ?_
    rintro e w10 ⟨kg, rfl, on10⟩
    refine ⟨kg, rfl, (on_text on10 cu (in1 _ on10.q.2.2).1 (fun k hk => (h4 k hk).1) (by rw [List.length_append]; omega) (by omega)).mono ?_⟩
    rintro e w11 ⟨kg, rfl, on11⟩
    refine ⟨kg, rfl, (on_text on11 cv (in1 _ on11.q.2.2).2 (fun k hk => (h4 k hk).1) (by rw [List.length_append, List.length_append]; omega) (by omega)).mono ?_⟩
    rintro e w12 ⟨kg, rfl, on12⟩
    refine ⟨kg, rfl, ?_⟩
    rw [wr64 (by omega) (by omega)]
    refine ⟨⟨i + 1, by omega, by omega, ?_⟩, by dsimp only; omega⟩
    have on := on12.drop
    rw [decide_eq_false (by omega)] at on
    rw [List.take_add_one, he, List.flatMap_append]
    simpa [entB] using on
  · obtain rfl : i = s.ents.length := by omega
    have hb : winHd s ++ (s.ents.take s.ents.length).flatMap entB = winB s := by rw [List.take_length]; rfl
    rw [hb] at on
    have hw : (winB s).length ≤ 100000000 := by rw [← hb, List.length_append, List.take_length]; omega
    refine (on_bytes on hw).mono ?_
    rintro e w8 ⟨a, c, rfl, o8, kg, _, b8⟩
    exact ⟨kg, _, _, _, _, rfl, _, _, rfl, o8, b8⟩
end Go.Proofs.Ytjjmhmbmjpedkaa
end
section
/- The document's window is written; walked. -/
namespace Go.Proofs.Ytjjmhmbmjpedkaa
open Go.RowKit
theorem refWin_ok {w : World} {L : List Nat} {p m : Nat} {st : Bool} {es : List Ent} {K : List Nat} {r : Nat} (h : WinAt w L p (refWin m st es)) (_ : RefAt w K r m st es) : (refWin m st es).Ok := h.ok
theorem rWrite_any (p m : Nat) (st : Bool) (es : List Ent) (L : List Nat) (w : World) (h : RefAt w L p m st es) (ho : (refWin m st es).Ok) :
    Calls Try.prog 48 #[.pointer (some ⟨p, 0, none⟩)] w fun e w' => e = .returned (.string (strOf (winB (refWin m st es)))) ∧ Below w.heap.size w w' := by
  refine (GWinWr.rWrite_calls (some ⟨p, 0, none⟩) w (fun v w' => v = .string (strOf (winB (refWin m st es))) ∧ Below w.heap.size w w') ?_).mono (by rintro e w' ⟨v, rfl, rfl, hb⟩; exact ⟨rfl, hb⟩)
  unfold GWinWr.rWrite_vc
  have hhl := winHd_len ho
  have hoo := ho
  obtain ⟨m1, m2, l1, l2, le, each⟩ := ho
  have hm1 := h.m1
  have hm2 := h.m2
  have hbk := h.ex
  obtain ⟨a0, c0, bk, _⟩ := hbk
  have bkat : ∀ wx, Below w.heap.size w wx → Bk wx p #[.int .i64 m, .bool st, .slice a0 es.length c0] 61 := fun wx hb => bk.keep (hb.block p bk.lt)
  have hlast := h.last
  refine (rKept_any p m st es L w h).mono ?_
  rintro e w2 ⟨⟨a, c, rfl, hcell⟩, b2⟩
  refine ⟨keepG_nil _ _, _, _, _, rfl, drewO_in fun w3 b3 _ => ?_⟩
  have B3 := b2.trans (b3.mono b2.size)
  refine ⟨m, by rw [(bkat _ B3).cell]; rfl, st, by rw [(bkat _ B3).cell]; rfl, (fUint_any m (by omega) w3).mono ?_⟩
  rintro e w4 ⟨rfl, b4⟩
  have B4 := B3.trans (b4.mono B3.size)
  refine ⟨keepG_nil _ _, _, rfl, by rw [(bkat _ B4).cell]; rfl, (fFlag_any st w4).mono ?_⟩
  rintro e w5 ⟨rfl, rfl⟩
  have sz : ∀ xs : List UInt8, (strOf xs).size = xs.length := strOf_size
  unfold winHd at hhl
  rw [List.length_append, List.length_append, List.length_append] at hhl
  change (uintB (m : Int)).length + (flagB st).length + (intB (lastNum es)).length + (uintB ((es.drop (es.length - m)).length : Int)).length ≤ 31 at hhl
  refine ⟨keepG_nil _ _, _, rfl, by rw [sz, sz]; omega, (rLast_any p m st es L w5 (h.below B4)).mono ?_⟩
  rintro e w6 ⟨rfl, b6⟩
  have B6 := B4.trans (b6.mono B4.size)
  refine ⟨keepG_nil _ _, _, rfl, (fInt_any (lastNum es) (by omega) (by omega) w6).mono ?_⟩
  rintro e w7 ⟨rfl, b7⟩
  have B7 := B6.trans (b7.mono B6.size)
  refine ⟨keepG_nil _ _, _, rfl, by rw [strOf_app, sz, sz, List.length_append]; omega, (fUint_any _ (by rw [List.length_drop]; have := h.len; omega) w7).mono ?_⟩
  rintro e w8 ⟨rfl, b8⟩
  have B8 := B7.trans (b8.mono B7.size)
  refine ⟨keepG_nil _ _, _, rfl, by rw [strOf_app, strOf_app, sz, sz, List.length_append, List.length_append]; omega, ?_⟩
  rw [strOf_app, strOf_app, strOf_app]
  change ∃ (I : ByteArray → Int → World → Prop) (μ : ByteArray → Int → World → Nat), I (strOf (winHd (refWin m st es))) 0 w8 ∧ _
  have hE : (refWin m st es).ents = es.drop (es.length - m) := rfl
  rw [hE] at each le
  generalize hes : es.drop (es.length - m) = xs at *
  refine ⟨fun s x wx => ∃ i : Nat, s = strOf (winHd (refWin m st es) ++ (xs.take i).flatMap entB) ∧ x = i ∧ i ≤ xs.length ∧ Below w.heap.size w wx, fun _ x _ => xs.length - x.toNat, ⟨0, by simp, rfl, by omega, B8⟩, ?_⟩
  rintro s x wx ⟨i, rfl, rfl, hi, hb⟩
  have hlx : (xs.length : Int) ≤ 64 := by have : (refWin m st es).most = m := rfl; omega
  refine br_dec (fun hlt => ?_) fun hge => ?_
  · have hlt : i < xs.length := by omega
    have he := List.getElem?_eq_getElem hlt
    have hok := each _ (List.getElem_mem hlt)
    have hlen : (winHd (refWin m st es) ++ (xs.take i).flatMap entB).length ≤ 31 + 131110 * i := by
      rw [List.length_append]
      have := entsB_len (es := xs.take i) fun e he => each e (List.mem_of_mem_take he)
      have := winHd_len hoo
      rw [List.length_take] at *
      omega
    obtain ⟨o1, o2, o3, o4⟩ := hok
    have e1 := uint_len10 (n := xs[i].num) (by omega)
    have e2 := textB_len (ts := xs[i].req) (by omega)
    have e3 := textB_len (ts := xs[i].ans) (by omega)
    have cat : ∀ wy, Below w.heap.size w wy → ∃ b off, a = some ⟨b, off, none⟩ ∧ ∀ j, j < 3 → wy.cell? ⟨b, off + i * 3 + j, none⟩ = (rCells xs[i])[j]? := fun wy hy => hcell wy hy i _ he
    refine drewO_in fun w10 b10 _ => ?_
    have B10 := hb.trans (b10.mono hb.size)
    obtain ⟨b, off, rfl, _⟩ := cat w10 B10
    have cat : ∀ wy, Below w.heap.size w wy → ∀ j, j < 3 → wy.cell? ⟨b, off + i * 3 + j, none⟩ = (rCells xs[i])[j]? := fun wy hy => by
      obtain ⟨b', off', e, hc⟩ := cat wy hy
      injection e with e; injection e with q1 q2; subst q1; subst q2
      exact hc
    refine ⟨by omega, by omega, xs[i].num, (cat _ B10 0 (by omega)), by omega, by omega, strOf xs[i].req, (cat _ B10 1 (by omega)), by omega, by omega, strOf xs[i].ans, (cat _ B10 2 (by omega)), (fUint_any _ (by omega) w10).mono ?_⟩
    rintro e w11 ⟨rfl, b11⟩
    have B11 := B10.trans (b11.mono B10.size)
    refine ⟨keepG_nil _ _, _, rfl, cat _ B11 1 (by omega), cat _ B11 2 (by omega), by rw [sz, sz]; omega, (fText_any _ (by omega) w11).mono ?_⟩
    rintro e w12 ⟨rfl, b12⟩
    have B12 := B11.trans (b12.mono B11.size)
    refine ⟨keepG_nil _ _, _, rfl, cat _ B12 2 (by omega), by rw [strOf_app, sz, sz, List.length_append]; omega, (fText_any _ (by omega) w12).mono ?_⟩
    rintro e w13 ⟨rfl, b13⟩
    have B13 := B12.trans (b13.mono B12.size)
    refine ⟨keepG_nil _ _, _, rfl, by rw [strOf_app, strOf_app, sz, sz, List.length_append, List.length_append]; omega, ?_⟩
    rw [wr64 (by omega) (by omega), strOf_app, strOf_app, strOf_app]
    refine ⟨⟨i + 1, ?_, by omega, by omega, B13⟩, by dsimp only; omega⟩
    rw [List.take_add_one, he, List.flatMap_append]
    simp [entB]
  · obtain rfl : i = xs.length := by omega
    refine ⟨?_, hb⟩
    rw [List.take_length]
    show _ = Value.string (strOf (winHd (refWin m st es) ++ (refWin m st es).ents.flatMap entB))
    rw [hE]
end Go.Proofs.Ytjjmhmbmjpedkaa
end
