/- The parts of the codec's laws, walked. -/
import Derived.Test.YtlgdapgocbmcfaaCodecRef
namespace Go.Proofs.Ytlgdapgocbmcfaa
open Go.RowKit
def partV (k n : Int) (y : Bool) (a : Option Addr) (m c : Nat) : Value := .agg #[.int .i64 k, .int .i64 n, .bool y, .slice a m c]
theorem kind_of (k : Int) : wrap64 ((IntKind.u64.wrap k).tmod 4) = k % 4 := by
  rw [Int.tmod_eq_emod_of_nonneg (by rw [IntKind.wrap_u64]; omega), IntKind.wrap_u64]; unfold wrap64; omega
theorem Own.fresh0At {w : World} {base g : Nat} {e : TypeId} {size : Nat} (hg : g = w.heap.size) (hb : base ≤ g) : Own (w.alloc (.cells #[] e)) base e size (.slice (some ⟨g, 0, none⟩) 0 0) 0 [] := by subst hg; exact Own.fresh0 hb
set_option maxRecDepth 100000 in
set_option maxHeartbeats 2000000 in
theorem pkind_any (k n : Int) (y : Bool) (a : Option Addr) (m c : Nat) (w : World) :
    Calls Try.prog 37 #[partV k n y a m c] w fun e w' => e = .returned (.int .i64 (k % 4)) ∧ Below w.heap.size w w' := by
  unfold partV
  go_enter Try.func37, Try.ntmps37
  go_wp2
  go_ret
  exact ⟨by show Ending.returned (.int .i64 (wrap64 ((IntKind.u64.wrap k).tmod 4))) = _; rw [kind_of], Below_one _⟩
set_option maxRecDepth 100000 in
set_option maxHeartbeats 2000000 in
theorem ptext_any (k n : Int) (y : Bool) (a : Option Addr) (ts : List UInt8) (c : Nat) (w : World) (h : RowAt w a (ts.map bV)) (hc : ts.length ≤ c) :
    Calls Try.prog 50 #[partV k n y a ts.length c] w fun e w' => ∃ v, e = .returned v ∧ Own w' w.heap.size 5 1 v (ts.take 300).length ((ts.take 300).map bV) ∧ Below w.heap.size w w' := by
  unfold partV
  have hm : min (ts.length : Int) 300 = ((ts.take 300).length : Int) := min_take ts 300
  have hr : RowAt w a ((ts.take 300).map bV) := by rw [List.map_take]; exact h.take 300
  have la : (ts.take 300).length ≤ c ∧ (ts.take 300).length ≤ 300 := by rw [List.length_take]; omega
  generalize ts.take 300 = xs at *
  have HR := Bx.mk hr; have HL := Bx.mk la.2
  have qa0 : (0 : Int) ≤ (xs.length : Int) := by omega
  have qa1 : (xs.length : Int) ≤ (c : Int) := by omega
  clear h hc hr la
  go_enter Try.func50, Try.ntmps50
  go_wp2_with (refine wpList_appb rfl (.tmp 3) (.tmp 10) rfl rfl (Own.fresh0At (base := w.heap.size) (by simp) (by omega)) _ rfl xs.length (xs.map bV) ?hs ?hb ?hbase ?_)
  case hs =>
    have := Src.ofRow (P := Try.prog) (tx := 36) Try.underlying36 a c (xs.map bV) ((HR.out.alloc (.cells #[.int .i64 k, .int .i64 n, .bool y, .slice a ts.length c] 62)).alloc (.cells #[] 5)) one_bV
    rwa [List.length_map] at this
  case hb => have := HL.out; omega
  case hbase => simp; omega
  intro v1 w1 ho1 hg1 hn1
  obtain ⟨a1, cp1, rfl⟩ := ho1.isSlice
  have hb := ((Below_one (w := w) (.cells #[.int .i64 k, .int .i64 n, .bool y, .slice a ts.length c] 62)).alloc (by simp) (.cells #[] 5)).grown hg1 (by simp; omega) (fun g hg => by have h3 : w.heap.size + 1 = g := Option.some.inj hg; omega)
  have HB := Bx.mk hb; have HO := Bx.mk ho1
  clear hb ho1 hg1 hn1
  go_wp2
  go_ret
  exact ⟨_, rfl, HO.out, HB.out⟩
/-- What a part writes; is it none? -/
def partBytes (k n : Int) (y : Bool) (ts : List UInt8) : List UInt8 :=
  if k % 4 = 0 then uintB n else if k % 4 = 1 then intB n else if k % 4 = 2 then flagB y else textB (ts.take 300)
def partBad (k n : Int) : Bool := decide (k % 4 = 0) && decide (n < 0)
theorem uintB_len {n : Int} (h : n ≤ 9223372036854775807) : (uintB n).length ≤ 10 := by
  unfold uintB; split
  · simp
  · exact grp_len64 (by omega)
theorem intB_len {n : Int} (h1 : -9223372036854775808 ≤ n) (h2 : n ≤ 9223372036854775807) : (intB n).length ≤ 10 := grp_len64 (zig_lt h1 h2)
theorem partBytes_len {k n : Int} {y : Bool} {ts : List UInt8} (h1 : -9223372036854775808 ≤ n) (h2 : n ≤ 9223372036854775807) : (partBytes k n y ts).length ≤ 310 := by
  unfold partBytes
  split
  · have := uintB_len h2; omega
  · split
    · have := intB_len h1 h2; omega
    · split
      · simp [flagB]
      · unfold textB
        have := grp_len64 (u := (ts.take 300).length) (by rw [List.length_take]; omega)
        rw [List.length_append]
        have h3 : (ts.take 300).length ≤ 300 := by rw [List.length_take]; omega
        omega
def W2 (w : World) (L : List Nat) (g : Nat) (ps bs : List UInt8) (bad : Bool) (e : Ending) (w' : World) : Prop :=
  e = .returned (.string (strOf ps)) ∧ ∃ L', WAt w' L' g bs bad ∧ Fr L w w' ∧ Gr L L' w.heap.size
theorem wbelow {w w' : World} {L : List Nat} {g : Nat} {bs : List UInt8} {bad : Bool} (h : WAt w L g bs bad) (hb : Below w.heap.size w w') : WAt w' L g bs bad :=
  h.keep (fun k hk => hb.block k (h.under k hk)) hb.size
set_option maxRecDepth 100000 in
set_option maxHeartbeats 4000000 in
theorem pwrite_uint (g : Nat) (k n : Int) (y : Bool) (a : Option Addr) (m c : Nat) (hn : -9223372036854775808 ≤ n ∧ n ≤ 9223372036854775807) (bs : List UInt8) (bad : Bool) (L : List Nat) (w : World) (h : WAt w L g bs bad) (hl : bs.length ≤ 10000000) (hk : k % 4 = 0) :
    Calls Try.prog 36 #[partV k n y a m c, .pointer (some ⟨g, 0, none⟩)] w (W2 w L g (uintB n) (bs ++ uintB n) (bad || decide (n < 0))) := by
  have HK := fun w => Bx.mk (hk ▸ pkind_any k n y a m c w)
  have HW := Bx.mk h; have HN := Bx.mk hn; have HL := Bx.mk hl
  clear hk h hn hl
  unfold partV
  go_enter Try.func36, Try.ntmps36
  go_wp2_with fail
  refine (HK _).out.mono ?_
  rintro e w1 ⟨rfl, hb⟩
  have B1 := Bx.mk ((Below_one (w := w) (.cells #[.int .i64 k, .int .i64 n, .bool y, .slice a m c] 62)).trans (hb.mono (by simp)))
  have K1 : Bk w1 w.heap.size #[.int .i64 k, .int .i64 n, .bool y, .slice a m c] 62 := (Bk.new rfl).keep (hb.block _ (by simp))
  have HK1 := Bx.mk K1
  have c1 : w1.cell? ⟨w.heap.size, 1, none⟩ = some (.int .i64 n) := by rw [K1.cell]; rfl
  have HW1 := Bx.mk (wbelow HW.out B1.out)
  clear hb K1
  go_wp2_with fail
  refine (wUint_any g n HN.out.2 bs bad L w1 HW1.out (by have := HL.out; omega)).mono ?_
  rintro e w2 ⟨rfl, L2, hW2, hF2, hG2⟩
  have HW2 := Bx.mk hW2; have HG2 := Bx.mk (show Gr L L2 w.heap.size from fun k hk => (hG2 k hk).imp id (fun h => Nat.le_trans B1.out.size h))
  have HF2 := Bx.mk ((Fr.ofBelow B1.out).trans hF2 (fun k hk => .inl hk) : Fr L w w2)
  have hgL : w.heap.size ∉ L := fun hm => by have := HW.out.under _ hm; omega
  have K2 : Bk w2 w.heap.size #[.int .i64 k, .int .i64 n, .bool y, .slice a m c] 62 := HK1.out.keep (hF2.block _ HK1.out.lt hgL)
  have c2 : w2.cell? ⟨w.heap.size, 1, none⟩ = some (.int .i64 n) := by rw [K2.cell]; rfl
  clear hW2 hG2 hF2 hgL K2 c1
  go_wp2_with fail
  refine (fUint_any n HN.out.2 _).mono ?_
  rintro e w3 ⟨rfl, hb⟩
  have HW3 := Bx.mk (wbelow HW2.out hb)
  have HF3 := Bx.mk (HF2.out.trans (Fr.ofBelow (L := []) hb) (fun k hk => by cases hk))
  clear hb
  go_wp2
  go_ret
  exact ⟨rfl, L2, HW3.out, HF3.out, HG2.out⟩
set_option maxRecDepth 100000 in
set_option maxHeartbeats 4000000 in
theorem pwrite_int (g : Nat) (k n : Int) (y : Bool) (a : Option Addr) (m c : Nat) (hn : -9223372036854775808 ≤ n ∧ n ≤ 9223372036854775807) (bs : List UInt8) (bad : Bool) (L : List Nat) (w : World) (h : WAt w L g bs bad) (hl : bs.length ≤ 10000000) (hk : k % 4 = 1) :
    Calls Try.prog 36 #[partV k n y a m c, .pointer (some ⟨g, 0, none⟩)] w (W2 w L g (intB n) (bs ++ intB n) (bad)) := by
  have HK := fun w => Bx.mk (hk ▸ pkind_any k n y a m c w)
  have HW := Bx.mk h; have HN := Bx.mk hn; have HL := Bx.mk hl
  clear hk h hn hl
  unfold partV
  go_enter Try.func36, Try.ntmps36
  go_wp2_with fail
  refine (HK _).out.mono ?_
  rintro e w1 ⟨rfl, hb⟩
  have B1 := Bx.mk ((Below_one (w := w) (.cells #[.int .i64 k, .int .i64 n, .bool y, .slice a m c] 62)).trans (hb.mono (by simp)))
  have K1 : Bk w1 w.heap.size #[.int .i64 k, .int .i64 n, .bool y, .slice a m c] 62 := (Bk.new rfl).keep (hb.block _ (by simp))
  have HK1 := Bx.mk K1
  have c1 : w1.cell? ⟨w.heap.size, 1, none⟩ = some (.int .i64 n) := by rw [K1.cell]; rfl
  have HW1 := Bx.mk (wbelow HW.out B1.out)
  clear hb K1
  go_wp2_with fail
  refine (wInt_any g n HN.out.1 HN.out.2 bs bad L w1 HW1.out (by have := HL.out; omega)).mono ?_
  rintro e w2 ⟨rfl, L2, hW2, hF2, hG2⟩
  have HW2 := Bx.mk hW2; have HG2 := Bx.mk (show Gr L L2 w.heap.size from fun k hk => (hG2 k hk).imp id (fun h => Nat.le_trans B1.out.size h))
  have HF2 := Bx.mk ((Fr.ofBelow B1.out).trans hF2 (fun k hk => .inl hk) : Fr L w w2)
  have hgL : w.heap.size ∉ L := fun hm => by have := HW.out.under _ hm; omega
  have K2 : Bk w2 w.heap.size #[.int .i64 k, .int .i64 n, .bool y, .slice a m c] 62 := HK1.out.keep (hF2.block _ HK1.out.lt hgL)
  have c2 : w2.cell? ⟨w.heap.size, 1, none⟩ = some (.int .i64 n) := by rw [K2.cell]; rfl
  clear hW2 hG2 hF2 hgL K2 c1
  go_wp2_with fail
  refine (fInt_any n HN.out.1 HN.out.2 _).mono ?_
  rintro e w3 ⟨rfl, hb⟩
  have HW3 := Bx.mk (wbelow HW2.out hb)
  have HF3 := Bx.mk (HF2.out.trans (Fr.ofBelow (L := []) hb) (fun k hk => by cases hk))
  clear hb
  go_wp2
  go_ret
  exact ⟨rfl, L2, HW3.out, HF3.out, HG2.out⟩
set_option maxRecDepth 100000 in
set_option maxHeartbeats 4000000 in
theorem pwrite_flag (g : Nat) (k n : Int) (y : Bool) (a : Option Addr) (m c : Nat) (hn : -9223372036854775808 ≤ n ∧ n ≤ 9223372036854775807) (bs : List UInt8) (bad : Bool) (L : List Nat) (w : World) (h : WAt w L g bs bad) (hl : bs.length ≤ 10000000) (hk : k % 4 = 2) :
    Calls Try.prog 36 #[partV k n y a m c, .pointer (some ⟨g, 0, none⟩)] w (W2 w L g (flagB y) (bs ++ flagB y) (bad)) := by
  have HK := fun w => Bx.mk (hk ▸ pkind_any k n y a m c w)
  have HW := Bx.mk h; have HN := Bx.mk hn; have HL := Bx.mk hl
  clear hk h hn hl
  unfold partV
  go_enter Try.func36, Try.ntmps36
  go_wp2_with fail
  refine (HK _).out.mono ?_
  rintro e w1 ⟨rfl, hb⟩
  have B1 := Bx.mk ((Below_one (w := w) (.cells #[.int .i64 k, .int .i64 n, .bool y, .slice a m c] 62)).trans (hb.mono (by simp)))
  have K1 : Bk w1 w.heap.size #[.int .i64 k, .int .i64 n, .bool y, .slice a m c] 62 := (Bk.new rfl).keep (hb.block _ (by simp))
  have HK1 := Bx.mk K1
  have c1 : w1.cell? ⟨w.heap.size, 2, none⟩ = some (.bool y) := by rw [K1.cell]; rfl
  have HW1 := Bx.mk (wbelow HW.out B1.out)
  clear hb K1
  go_wp2_with fail
  refine (wFlag_any g y bs bad L w1 HW1.out (by have := HL.out; omega)).mono ?_
  rintro e w2 ⟨rfl, L2, hW2, hF2, hG2⟩
  have HW2 := Bx.mk hW2; have HG2 := Bx.mk (show Gr L L2 w.heap.size from fun k hk => (hG2 k hk).imp id (fun h => Nat.le_trans B1.out.size h))
  have HF2 := Bx.mk ((Fr.ofBelow B1.out).trans hF2 (fun k hk => .inl hk) : Fr L w w2)
  have hgL : w.heap.size ∉ L := fun hm => by have := HW.out.under _ hm; omega
  have K2 : Bk w2 w.heap.size #[.int .i64 k, .int .i64 n, .bool y, .slice a m c] 62 := HK1.out.keep (hF2.block _ HK1.out.lt hgL)
  have c2 : w2.cell? ⟨w.heap.size, 2, none⟩ = some (.bool y) := by rw [K2.cell]; rfl
  clear hW2 hG2 hF2 hgL K2 c1
  go_wp2_with fail
  refine (fFlag_any y _).mono ?_
  rintro e w3 ⟨rfl, rfl⟩
  go_wp2
  go_ret
  exact ⟨rfl, L2, HW2.out, HF2.out, HG2.out⟩
theorem WAt.other {w : World} {L : List Nat} {g : Nat} {bs : List UInt8} {bad : Bool} (h : WAt w L g bs bad) {b i : Nat} {v : Value} (hb : b ∉ L) : WAt (w.setCell ⟨b, i, none⟩ v) L g bs bad :=
  h.keep (fun k hk => Below.heap_setCell _ _ _ _ fun e => hb (by have e2 : k = b := e; exact e2 ▸ hk)) (by simp)
def u8V (z : Int) : Value := .int .u8 z
set_option maxRecDepth 100000 in
set_option maxHeartbeats 4000000 in
theorem pwrite_text (w : World) (g : Nat) (k n : Int) (y : Bool) (a : Option Addr) (ts : List UInt8) (c : Nat) (hr : RowAt w a (ts.map bV)) (hc : ts.length ≤ c) (bs : List UInt8) (bad : Bool) (L : List Nat) (h : WAt w L g bs bad) (hl : bs.length ≤ 1000000) (hk : k % 4 = 3) :
    Calls Try.prog 36 #[partV k n y a ts.length c, .pointer (some ⟨g, 0, none⟩)] w (W2 w L g (textB (ts.take 300)) (bs ++ textB (ts.take 300)) bad) := by
  have HK := fun w => Bx.mk (hk ▸ pkind_any k n y a ts.length c w)
  have HW := Bx.mk h; have HL := Bx.mk hl; have HR := Bx.mk hr; have HC := Bx.mk hc
  have hx : (ts.take 300).length ≤ 300 := by rw [List.length_take]; omega
  have HX := Bx.mk hx
  clear hk h hl hr hc hx
  unfold partV
  go_enter Try.func36, Try.ntmps36
  go_wp2_with fail
  refine (HK _).out.mono ?_
  rintro e w1 ⟨rfl, hb⟩
  have B1 := Bx.mk ((Below_one (w := w) (.cells #[.int .i64 k, .int .i64 n, .bool y, .slice a ts.length c] 62)).trans (hb.mono (by simp)))
  have K1 : Bk w1 w.heap.size #[.int .i64 k, .int .i64 n, .bool y, .slice a ts.length c] 62 := (Bk.new rfl).keep (hb.block _ (by simp))
  have HK1 := Bx.mk K1
  have HW1 := Bx.mk (wbelow HW.out B1.out)
  have HR1 := Bx.mk (HR.out.below B1.out (Nat.le_refl _))
  clear hb K1
  go_wp2_with (refine wpList_load_row rfl 62 (.tmp 2) rfl w.heap.size rfl 62 #[.int .i64 k, .int .i64 n, .bool y, .slice a ts.length c] (0, 0) _ HK1.out Try.underlying62 rfl (by kernel_rfl) ?_)
  refine (ptext_any k n y a ts c w1 HR1.out HC.out).mono ?_
  rintro e w2 ⟨v, rfl, ho, hb⟩
  generalize ts.take 300 = xs at *
  obtain ⟨a2, c2, rfl⟩ := ho.isSlice
  have B2 := Bx.mk (B1.out.trans (hb.mono B1.out.size))
  have HW2 := Bx.mk (wbelow HW1.out hb)
  have HO2 := Bx.mk ho
  have hcv := conv_str (P := Try.prog) 36 9 Try.underlying36 Try.underlying5 Try.underlying9 w2 a2 c2 xs ho.row
  have S12 := Bx.mk hb.size
  clear hb ho
  go_wp2_with fail
  refine (fText_any xs (by have := HX.out; omega) w2).mono ?_
  rintro e w3 ⟨rfl, hb⟩
  have B3 := Bx.mk (B2.out.trans (hb.mono B2.out.size))
  have HW3 := Bx.mk (wbelow HW2.out hb)
  have HO3 := Bx.mk (HO2.out.below hb (Nat.le_refl _))
  clear hb hcv
  go_wp2_with fail
  refine (wText_any g a2 c2 xs _ bs bad L w3 HW3.out (In.ofOwn HO3.out) (fun k hk => (HO3.out.lt k (by simpa using hk)).2) (fun k hk hm => ?_) (by have := HL.out; omega) (by have := HX.out; omega)).mono ?_
  · have h1 := (HO3.out.lt k (by simpa using hk)).1
    have h2 := HW.out.under k hm
    have h3 := B1.out.size
    omega
  rintro e w4 ⟨rfl, L4, hW4, hF4, hG4⟩
  have hfar : ∀ k, (Value.slice a2 xs.length c2).ownBlock = some k → k ∉ L ∧ k ∉ L4 ∧ w.heap.size ≤ k := fun k hk => by
    have h1 := HO3.out.lt k hk
    have h3 := B1.out.size
    have h5 : k ∉ L := fun hm => by have h2 := HW.out.under k hm; omega
    exact ⟨h5, fun hm => (hG4 k hm).elim h5 (fun h6 => by omega), by omega⟩
  have HFar := Bx.mk hfar
  have HW4 := Bx.mk hW4
  have HG4 := Bx.mk (show Gr L L4 w.heap.size from fun k hk => (hG4 k hk).imp id (fun h => Nat.le_trans B3.out.size h))
  have HF4 := Bx.mk ((Fr.ofBelow B3.out).trans hF4 (fun k hk => .inl hk) : Fr L w w4)
  have HO4 : Bx (Own w4 w1.heap.size 5 1 (.slice a2 xs.length c2) xs.length ((xs.map fun b => (b.toNat : Int)).map u8V)) := ⟨by
    rw [List.map_map]
    exact HO3.out.keep fun k hk => hF4.block k (HO3.out.lt k hk).2 (hfar k hk).1⟩
  have HCap := Bx.mk HO4.out.cap
  clear hW4 hF4 hG4 hfar
  obtain ⟨zs, hzs⟩ : ∃ zs : List Int, zs = xs.map fun b => (b.toNat : Int) := ⟨_, rfl⟩
  have hzl : zs.length = xs.length := by rw [hzs, List.length_map]
  rw [← hzs] at HO4
  clear hzs
  go_wp2_with fail
  go_loopw [7,45,46,47,48,49,50,51,52,53,54,55,56] (fun t7 _ _ _ _ _ _ _ _ _ _ _ _ wr => ∃ (i : Nat) (zs : List Int), t7 = .int .i64 i ∧ i ≤ xs.length ∧ zs.length = xs.length ∧ Own wr w1.heap.size 5 1 (.slice a2 xs.length c2) xs.length (zs.map u8V) ∧ WAt wr L4 g (bs ++ textB xs) bad ∧ Fr L w wr) (fun t7 _ _ _ _ _ _ _ _ _ _ _ _ _ => xs.length - (intOf t7).toNat)
  case atStart => exact ⟨0, zs, rfl, by omega, hzl, HO4.out, HW4.out, HF4.out⟩
  case round =>
    obtain ⟨i, zs, rfl, hi, hzl, ho, hw, hf⟩ := hrel
    have HO := Bx.mk ho; have HWr := Bx.mk hw; have HFr := Bx.mk hf
    clear ho hw hf
    by_cases hlt : i < xs.length
    · obtain ⟨g2, off2, rfl, hg1, hg2⟩ := HO.out.someAddr (by omega)
      have hcell : wr.cell? ⟨g2, off2 + i, none⟩ = some (.int .u8 (zs[i]'(by omega))) := HO.out.cells g2 off2 c2 rfl i _ (by rw [List.getElem?_map, List.getElem?_eq_getElem (by omega)]; rfl)
      have hfz : wr.frozen? ⟨g2, off2 + i, none⟩ = false := HO.out.notFrozen _
      have hset := fun u => Bx.mk (HO.out.setCell1 (i := i) u)
      obtain ⟨f1, f2, f3⟩ := HFar.out g2 rfl
      have F2 := Bx.mk f2; have F3 := Bx.mk f3
      have i0 : (0 : Int) ≤ (i : Int) := by omega
      have i1 : (i : Int) < (xs.length : Int) := by omega
      have HX2 := Bx.mk HX.out
      have i2 : xs.length ≤ 300 := HX.out
      generalize zs[i] = z at *
      clear f1 f2 f3 hg1 hg2
      go_wp2
      go_roundw
      case rel => exact ⟨i + 1, zs.set i (bits BinOp.xor IntKind.u8 z 1), by go_num, by omega, by rw [List.length_set]; exact hzl, by rw [List.map_set]; exact (hset _).out, HWr.out.other F2.out, HFr.out.setCell (p := ⟨g2, off2 + i, none⟩) (.inr F3.out) _⟩
      case measure => simp [intOf]; omega
    · go_wp2
      go_ret
      exact ⟨rfl, L4, HWr.out, HFr.out, HG4.out⟩
end Go.Proofs.Ytlgdapgocbmcfaa
