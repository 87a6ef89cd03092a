import Derived.Test.YtpfmadinijofeaaMFrl4
import Derived.Test.YtpfmadinijofeaaMFrl3
import Derived.Test.YtpfmadinijofeaaMFrl1
import Derived.Test.YtpfmadinijofeaaRows
set_option linter.unusedVariables false
section
/- The program's disk: what writes it; walked. -/
namespace Go.Proofs.Ytpfmadinijofeaa
open Go.RowKit Go.Shelf
section
variable {w w1 w2 : World} {L : List Nat} {k : Nat}
theorem Fr.b (f : Fr L w w1) (b : Below w1.heap.size w1 w2) : Fr L w w2 := f.trans (Fr.ofBelow (L := L) b) (Gr.refl _ _)
theorem Fr.g (f : Fr L w w1) (f2 : Fr [k] w1 w2) (h : k ∈ L ∨ w.heap.size ≤ k) : Fr L w w2 := f.trans f2 fun j hj => by rw [List.mem_singleton] at hj; rw [hj]; exact h
theorem RowAt.frL {a : Option Addr} {vs : List Value} (h : RowAt w a vs) (f : Fr L w w1) (hn : ∀ q, a = some q → q.block ∉ L) : RowAt w1 a vs := by
  rcases h with h | ⟨b, off, ha, h⟩
  · exact .inl h
  · refine .inr ⟨b, off, ha, fun i v hv => ?_⟩
    have hc := h i v hv
    have hlt := block_lt_of_cell hc
    have hb := f.block b hlt (hn _ ha)
    unfold World.cell? at hc ⊢
    simp only [hb]
    exact hc
end
/-- A call's word: what it tells, the disk behind it, and that it wrote there alone. -/
def DDo (w : World) (g gl mb : Nat) (u : Value) (S' : DS) : Ending → World → Prop := fun e w' => e = .returned u ∧ DkAt w' g gl mb S' ∧ Fr [g, gl, mb] w w'
def DDoV (w : World) (g gl mb : Nat) (u : Value) (S' : DS) : Value → World → Prop := fun v w' => v = u ∧ DkAt w' g gl mb S' ∧ Fr [g, gl, mb] w w'
theorem ddo_in {P : Program} {f : FuncId} {av : Array Value} {w : World} {g gl mb : Nat} {u : Value} {S' : DS} (h : Calls P f av w fun e w' => ∃ v, e = .returned v ∧ DDoV w g gl mb u S' v w') : Calls P f av w (DDo w g gl mb u S') :=
  h.mono (by rintro e w' ⟨v, rfl, rfl, hh⟩; exact ⟨rfl, hh⟩)
theorem ddo_no {w wx : World} {g gl mb : Nat} {S S' : DS} {u v : Value} (h : DkAt w g gl mb S) (B : Bs w wx) (hv : v = u) (hd : S' = S) : DDoV w g gl mb u S' v wx := by
  subst hv; subst hd
  exact ⟨rfl, h.below B, Fr.ofBelow B⟩
theorem made_secs (n : Nat) : madeCells (List.replicate 64 (Value.int .u8 0)).toArray (n * 64) = sArr n 64 fun _ => zero64.map bV := by
  have hz : zero64.map bV = List.replicate 64 (Value.int .u8 0) := by unfold zero64; rw [List.map_replicate]; rfl
  refine sArr_of (fun i _ => by rw [hz, List.length_replicate]) (by simp [madeCells]) fun i c hi hc => ?_
  have hle : (i + 1) * 64 ≤ n * 64 := Nat.mul_le_mul_right 64 hi
  rw [hz, List.getElem?_replicate, if_pos hc]
  have hm : (i * 64 + c) % 64 < 64 := Nat.mod_lt _ (by decide)
  unfold madeCells
  rw [Array.getElem?_map, Array.getElem?_range, if_pos (by omega)]
  simp only [Option.map_some, List.size_toArray, List.length_replicate]
  congr 1
  rw [getElem!_pos _ _ (by rw [List.size_toArray, List.length_replicate]; exact hm), List.getElem_toArray]
  exact List.getElem_replicate _
theorem dnew_new (n : Nat) (h1 : 1 ≤ n) (h2 : n ≤ 8192) (w : World) : Calls Try.prog 13 #[.int .i64 n] w fun e w' => ∃ g gl mb, e = .returned (.tuple #[.pointer (some ⟨g, 0, none⟩), .int .i64 0]) ∧ DkAt w' g gl mb (newS n) ∧ w.heap.size ≤ g ∧ w.heap.size ≤ gl ∧ w.heap.size ≤ mb ∧ Below w.heap.size w w' := by
  refine (GDk.dnew_calls n w (fun u w' => ∃ g gl mb, u = .tuple #[.pointer (some ⟨g, 0, none⟩), .int .i64 0] ∧ DkAt w' g gl mb (newS n) ∧ w.heap.size ≤ g ∧ w.heap.size ≤ gl ∧ w.heap.size ≤ mb ∧ Below w.heap.size w w') ?_).mono (by rintro e w' ⟨v, rfl, g, gl, mb, rfl, h⟩; exact ⟨g, gl, mb, rfl, h⟩)
  unfold GDk.dnew_vc
  refine br_n (by omega) (br_n (by omega) ⟨by omega, by omega, by omega, by omega, newB (Bs.refl w) fun gl w2 gl0 sgl n2 z2 b2 B2 => newB B2 fun mb w3 mb0 smb n3 z3 b3 B3 => newB B3 fun g w4 g0 sg n4 z4 b4 B4 => ⟨g, gl, mb, rfl, ⟨?_, ?_, [], MapAt.below ⟨#[], 0, n3, MapKept.stamped_empty 0, rfl⟩ b4, fun k => ?_⟩, g0, gl0, mb0, B4⟩⟩)
  · rw [Int.toNat_natCast] at n4
    exact n4
  · rw [Int.toNat_natCast] at n2
    have n2' : Bk w2 gl (madeCells (List.replicate 64 (Value.int .u8 0)).toArray (n * 64)) 110 := n2
    rw [made_secs] at n2'
    exact (n2'.below b3).below b4
  · unfold cD
    split <;> rfl
theorem dnew_no (n : Int) (h : n < 1 ∨ n > 8192) (w : World) : Calls Try.prog 13 #[.int .i64 n] w (Ret (.tuple #[.pointer none, .int .i64 1]) w) := by
  refine ret_in (GDk.dnew_calls n w (fun u w' => u = .tuple #[.pointer none, .int .i64 1] ∧ Below w.heap.size w w') ?_)
  unfold GDk.dnew_vc
  exact br_dec (fun _ => ⟨rfl, Bs.refl _⟩) fun q => br_y (by omega) ⟨rfl, Bs.refl _⟩
theorem dput_any {w : World} {g gl mb : Nat} {S : DS} (h : DkAt w g gl mb S) (hW : DWf S) {k : Nat} {s : List UInt8} {gp op c : Nat} (hs : s.length = 64) (hc : cellsAt w gp op (s.map bV)) :
    Calls Try.prog 56 #[.pointer (some ⟨g, 0, none⟩), .int .i64 (k : Int), .slice (some ⟨gp, op, none⟩) 64 c] w (DDo w g gl mb (.bool (!(putK S k s).off)) (putK S k s)) := by
  refine ddo_in (GDk.dput_calls (some ⟨g, 0, none⟩) (k : Int) (some ⟨gp, op, none⟩) 64 c w (DDoV w g gl mb (.bool (!(putK S k s).off)) (putK S k s)) ?_)
  unfold GDk.dput_vc
  have hl0 := hW.left0
  have hlM := hW.leftM
  refine drewB (Bs.refl w) fun w2 b2 B2 e2 => ⟨some mb, (h.below b2).c1, Nat.le_refl _, s, hs, cellsAt_below hc b2 (Nat.le_refl _), (h.below b2).putM k s fun w3 h3 f3 z3 => ⟨S.left, h3.c2, ?_⟩⟩
  have F3 : Fr [g, gl, mb] w w3 := (Fr.ofBelow b2).trans f3 fun j hj => .inl (by simp at hj; simp [hj])
  refine br_dec (fun hl => ⟨S.left, h3.c2, ?_⟩) fun hl => ⟨S.off, h3.c3, ?_⟩
  · rw [wr64 (by omega) (by omega)]
    refine h3.setLeft (S.left - 1) (fun q hq => by cases hq) fun w4 h4 f4 z4 => ⟨S.left - 1, h4.c2, h4.setOff (decide (S.left - 1 = 0)) (fun q hq => by cases hq) fun w5 h5 f5 z5 => ⟨decide (S.left - 1 = 0), h5.c3, ?_, ?_, ?_⟩⟩
    · unfold putK
      dsimp only
      rw [if_pos hl]
    · unfold putK
      rw [if_pos hl, if_pos hl]
      exact h5
    · exact (F3.g f4 (.inl (by simp))).g f5 (.inl (by simp))
  · refine ⟨?_, ?_, F3⟩
    · unfold putK
      dsimp only
      rw [if_neg hl]
    · unfold putK
      rw [if_neg hl, if_neg hl]
      exact h3
/-- 'slices.Collect(slices.Chunk(b, 64))', as one step. -/
theorem chunksB_new {w : World} {a : Option Addr} {c m gb off : Nat} (ha : 0 < m → a = some ⟨gb, off, none⟩) (hm : m ≤ 1000000) (hcap : m * 64 ≤ c) {gs : List Nat} {K : Option Addr → Nat → Nat → World → Prop}
    (k : ∀ a' c' w2, Own w2 w.heap.size 22 1 (.slice a' m c') m ((List.range m).map (pieceV gb off)) → Below w.heap.size w w2 → K a' m c' w2) :
    Calls Try.prog 55 #[.slice a (m * 64) c, .int .i64 64] w fun e w1 => KeepG gs w w1 ∧ ∃ v : Value, e = .returned v ∧ Calls Try.prog 54 #[v] w1 fun e w2 => KeepG gs w1 w2 ∧ ∃ (a : Option Addr) (n c : Nat), e = .returned (.slice a n c) ∧ K a n c w2 := by
  refine ((callsIn_wide (n := 5)).1 (chunk_in Fence.wide 5 trivial rfl a (m * 64) c w)).mono ?_
  rintro e w1 ⟨rfl, rfl⟩
  have b1 : Below w.heap.size w (w.alloc (.cells #[.slice a (m * 64) c] 22)) := Below_one _
  have b2 : Below w.heap.size w ((w.alloc (.cells #[.slice a (m * 64) c] 22)).alloc (.cells #[.int .i64 64] 3)) := b1.alloc b1.size _
  refine ⟨keepG_below b2, _, rfl, ?_⟩
  have h0 : ((w.alloc (.cells #[.slice a (m * 64) c] 22)).alloc (.cells #[.int .i64 64] 3)).cell? ⟨w.heap.size, 0, none⟩ = some (.slice a (m * 64) c) := by
    rw [cell_of_row _ _ _ _ _ _ ((Below.heap_alloc _ _ _ (by simp)).trans (al_new rfl))]; rfl
  have h1 : ((w.alloc (.cells #[.slice a (m * 64) c] 22)).alloc (.cells #[.int .i64 64] 3)).cell? ⟨w.heap.size + 1, 0, none⟩ = some (.int .i64 64) := by
    rw [cell_of_row _ _ _ _ _ _ (al_new (by simp))]; rfl
  refine ((callsIn_wide (n := 5)).1 (collectB_in Fence.wide 5 trivial trivial trivial rfl (by omega) w.heap.size (w.heap.size + 1) gb off c m a ha hm hcap _ (by rw [World.size_alloc, World.size_alloc]; omega) (by rw [World.size_alloc, World.size_alloc]; omega) h0 h1)).mono ?_
  rintro e w2 ⟨v, rfl, hr, hn, hb⟩
  have ho := Own.ofRow hr
  obtain ⟨a', c', rfl⟩ := ho.isSlice
  have hb' : Below w.heap.size w w2 := b2.trans (hb.mono b2.size)
  exact ⟨keepG_below hb, a', m, c', rfl, k a' c' w2 (ho.base_le fun j hj => Nat.le_trans b2.size (ho.lt j hj).1) hb'⟩
theorem tdiv64 (n : Nat) : Int.tdiv (n : Int) 64 = ((n / 64 : Nat) : Int) := by rw [Int.tdiv_eq_ediv_of_nonneg (by omega)]; omega
theorem tmod64 (n : Nat) : Int.tmod (n : Int) 64 = ((n % 64 : Nat) : Int) := by rw [Int.tmod_eq_emod_of_nonneg (by omega)]; omega
theorem dwrite_any {w : World} {g gl mb : Nat} {S : DS} (h : DkAt w g gl mb S) (hW : DWf S) {a : Option Addr} {c : Nat} {bs : List UInt8} (hr : RowAt w a (bs.map bV)) (hl : bs.length ≤ 60000000) (hcap : bs.length ≤ c) (ha : ∀ q, a = some q → q.block ∉ [g, gl, mb]) (first : Int) :
    Calls Try.prog 17 #[.pointer (some ⟨g, 0, none⟩), .int .i64 first, .slice a bs.length c] w (DDo w g gl mb (.int .i64 (writeE S first bs)) (writeD S first bs)) := by
  refine ddo_in (GDk.dwrite_calls (some ⟨g, 0, none⟩) first a bs.length c w (DDoV w g gl mb (.int .i64 (writeE S first bs)) (writeD S first bs)) ?_)
  unfold GDk.dwrite_vc
  rw [tdiv64, tmod64, wr64 (z := ((bs.length / 64 : Nat) : Int)) (by omega) (by omega)]
  refine ⟨by decide, callB (Bs.refl w) (dmay_ret h hW first _) fun w2 b2 B2 => ⟨_, rfl, br_dec (fun q => ddo_no h B2 (by unfold writeE; rw [if_pos q]) (by unfold writeD; rw [if_neg fun r => q r.1])) fun q => ⟨by decide, br_dec (fun q2 => ddo_no h B2 (by unfold writeE; rw [if_neg q, if_pos (by omega)]) (by unfold writeD; rw [if_neg fun r => by have := r.2; omega])) fun q2 => ?_⟩⟩⟩
  have q : mayE S first ((bs.length / 64 : Nat) : Int) = 0 := Decidable.byContradiction q
  obtain ⟨ho, h0, h1, h3, h4⟩ := mayE_zero q
  have hn2 := hW.n2
  obtain ⟨f, rfl⟩ := Int.eq_ofNat_of_zero_le h0
  obtain ⟨m, hm⟩ : ∃ m, bs.length = m * 64 := ⟨bs.length / 64, by omega⟩
  have hmd : bs.length / 64 = m := by omega
  have hE : writeE S (f : Int) bs = if (wrS S f (pieceB bs) m).off = true then 12 else 0 := by
    unfold writeE
    rw [if_neg (fun r => r q), if_neg (by omega), hmd, Int.toNat_natCast]
  have hD : writeD S (f : Int) bs = wrS S f (pieceB bs) m := by
    unfold writeD
    rw [if_pos ⟨q, by omega⟩, hmd, Int.toNat_natCast]
  rw [hE, hD]
  obtain ⟨gb, off, hgo⟩ : ∃ gb off, 0 < m → a = some ⟨gb, off, none⟩ := by
    rcases hr with e | ⟨b, o, e, _⟩
    · refine ⟨0, 0, fun hp => ?_⟩
      rw [List.map_eq_nil_iff] at e
      rw [e] at hm
      simp at hm
      omega
    · exact ⟨b, o, fun _ => e⟩
  rw [hm]
  refine chunksB_new (m := m) (c := c) hgo (by omega) (by omega) fun a' c' w4 hO b4 => ?_
  have B4 := B2.to b4
  have h4' := h.below B4
  obtain ⟨l1, l2, l3⟩ := h.lt
  have hs2 := B2.size
  refine ⟨fun x wx => ∃ i : Nat, x = i ∧ i ≤ m ∧ (wrS S f (pieceB bs) i).off = false ∧ DkAt wx g gl mb (wrS S f (pieceB bs) i) ∧ Fr [g, gl, mb] w wx ∧ Fr [g, gl, mb] w4 wx, fun x _ => m - x.toNat, ⟨0, rfl, by omega, ho, h4', Fr.ofBelow B4, Fr.refl _ _⟩, ?_⟩
  rintro x wx ⟨i, rfl, hi, hoff, hx, fx, fx4⟩
  have hWi : DWf (wrS S f (pieceB bs) i) := hW.wr (first := f) (f := pieceB bs) (m := i) (fun k hk => pieceB_len hm (by omega)) (by omega)
  refine br_dec (fun hlt => ?_) fun hge => ?_
  · have him : i < m := by omega
    have hOx : Own wx w2.heap.size 22 1 (.slice a' m c') m ((List.range m).map (pieceV gb off)) := hO.keep fun k hk => by
      obtain ⟨k1, k2⟩ := hO.lt k hk
      exact fx4.block k k2 (by simp; omega)
    have hpl := pieceB_len hm him
    rcases hOx.row with e | ⟨pb, po, rfl, hc⟩
    · have := congrArg List.length e
      simp at this
      omega
    have hci := hc i (pieceV gb off i) (by simp [him])
    have ea := hgo (by omega)
    have hrx : RowAt wx a (bs.map bV) := hr.frL fx ha
    have hpc : cellsAt wx gb (off + i * 64) ((pieceB bs i).map bV) := by
      refine cellsAt_of fun j v hv => ?_
      rcases hrx with e | ⟨b, o, e, hcb⟩
      · rw [List.map_eq_nil_iff] at e
        rw [e] at hm
        simp at hm
        omega
      · rw [ea] at e
        injection e with e
        injection e with e1 e2 _
        subst e1; subst e2
        have hj : j < 64 := by
          have := (List.getElem?_eq_some_iff.1 hv).1
          rw [List.length_map, hpl] at this
          exact this
        have := hcb (i * 64 + j) v (by
          rw [List.getElem?_map] at hv ⊢
          unfold pieceB at hv
          rw [List.getElem?_take_of_lt hj, List.getElem?_drop] at hv
          exact hv)
        rwa [← Nat.add_assoc] at this
    rw [wr64 (z := (f : Int) + i) (by omega) (by omega), wr64 (z := (i : Int) + 1) (by omega) (by omega), show (f : Int) + i = ((f + i : Nat) : Int) by omega]
    refine ⟨by omega, by omega, some ⟨gb, off + i * 64, none⟩, 64, 64, by rw [Int.toNat_natCast, Nat.mul_one]; exact hci, (dput_any hx hWi hpl hpc).mono ?_⟩
    rintro e w6 ⟨rfl, h6, f6⟩
    have hst : wrS S f (pieceB bs) (i + 1) = putK (wrS S f (pieceB bs) i) (f + i) (pieceB bs i) := by rw [wrS, if_neg (by rw [hoff]; decide)]
    rw [← hst] at h6 ⊢
    have f6w := fx.trans f6 (Gr.refl _ _)
    refine ⟨keepG_nil _ _, _, rfl, ?_⟩
    cases hq : (wrS S f (pieceB bs) (i + 1)).off
    · exact br_f rfl ⟨⟨i + 1, by omega, by omega, hq, h6, f6w, fx4.trans f6 (Gr.refl _ _)⟩, by dsimp only; omega⟩
    · have hall := wrS_stay hq (j := m) (by omega)
      rw [hall, if_pos hq]
      exact br_t rfl ⟨rfl, h6, f6w⟩
  · obtain rfl : i = m := by omega
    rw [if_neg (by rw [hoff]; decide)]
    exact ⟨rfl, hx, fx⟩
theorem dwrite_nil (first : Int) (w : World) : Calls Try.prog 17 #[.pointer none, .int .i64 first, .slice none 0 0] w (Ret (.int .i64 1) w) := by
  refine ret_in (GDk.dwrite_calls none first none 0 0 w (fun u w' => u = .int .i64 1 ∧ Below w.heap.size w w') ?_)
  unfold GDk.dwrite_vc
  exact ⟨by decide, callB (Bs.refl w) (dmay_nil first _ w) fun w2 b2 B2 => ⟨_, rfl, br_y (by decide) ⟨rfl, B2⟩⟩⟩
theorem dcut_any {w : World} {g gl mb : Nat} {S : DS} (h : DkAt w g gl mb S) (n : Int) : Calls Try.prog 37 #[.pointer (some ⟨g, 0, none⟩), .int .i64 n] w (DDo w g gl mb (.tuple #[]) (cutD S n)) := by
  refine ddo_in (GDk.dcut_calls (some ⟨g, 0, none⟩) n w (DDoV w g gl mb (.tuple #[]) (cutD S n)) ?_)
  unfold GDk.dcut_vc
  exact br_t rfl (h.setLeft (max n 0) (fun q hq => by cases hq) fun w2 h2 f2 z2 => ⟨rfl, h2, f2.mono fun k hk => .inl (by simp at hk; simp [hk])⟩)
theorem dcut_nil (n : Int) (w : World) : Calls Try.prog 37 #[.pointer none, .int .i64 n] w (Ret (.tuple #[]) w) := by
  refine ret_in (GDk.dcut_calls none n w (fun u w' => u = .tuple #[] ∧ Below w.heap.size w w') ?_)
  unfold GDk.dcut_vc
  exact br_f rfl ⟨rfl, Bs.refl _⟩
end Go.Proofs.Ytpfmadinijofeaa
end
section
/- Rows of ints. No program in sight. -/
namespace Go.Proofs.Ytpfmadinijofeaa
open Go.RowKit Go.ChangeShapes
def iV (z : Int) : Value := .int .i64 z
def ints (zs : List Int) : Prop := ∀ z ∈ zs, -9223372036854775808 ≤ z ∧ z ≤ 9223372036854775807
theorem RowAt.int {w : World} {a : Option Addr} {zs : List Int} (h : RowAt w a (zs.map iV)) {k : Nat} (hk : k < zs.length) : ∃ b off, a = some ⟨b, off, none⟩ ∧ w.cell? ⟨b, off + k, none⟩ = some (.int .i64 zs[k]) := by
  rcases h with h | ⟨b, off, ha, h⟩
  · rw [List.map_eq_nil_iff] at h; subst h; simp at hk
  · exact ⟨b, off, ha, h k _ (by rw [List.getElem?_map, List.getElem?_eq_getElem hk]; rfl)⟩
theorem one_iV {zs : List Int} : ∀ u ∈ zs.map iV, u.oneCell' = true := by
  intro u hu
  obtain ⟨x, _, rfl⟩ := List.mem_map.1 hu
  rfl
theorem min_takeI (zs : List Int) (n : Nat) : min (zs.length : Int) (n : Int) = ((zs.take n).length : Int) := by
  rw [List.length_take]; omega
variable {P : Program} {W : World} {H : Type} {enc : TypeId × Value → H}
theorem row_of_ints {a : Addr} {zs : List Int} {len : Nat} (hl : len ≤ zs.length) (hc : ∀ i, i < zs.length → W.cell? (a.add i) = some (.int .i64 (zs.getD i 0))) : (zs.take len).length = len ∧ RowAt W (some a) ((zs.take len).map iV) := by
  refine ⟨by simp; omega, ?_⟩
  cases hz : zs with
  | nil => exact .inl (by simp)
  | cons z0 r =>
    rw [← hz]
    have h0 := hc 0 (by rw [hz]; simp)
    have ha := addr_plain h0
    refine .inr ⟨a.block, a.off, by rw [← ha], fun i v hv => ?_⟩
    rw [List.getElem?_map, List.getElem?_take] at hv
    split at hv
    · rcases hq : zs[i]? with _ | z
      · rw [hq] at hv; cases hv
      · rw [hq] at hv
        simp only [Option.map_some, Option.some.injEq] at hv
        have hi : i < zs.length := (List.getElem?_eq_some_iff.1 hq).1
        have h1 := hc i hi
        rw [ha, Addr.add_lit, List.getD_eq_getElem?_getD, hq] at h1
        rw [← hv]
        exact h1
    · cases hv
theorem open_i64s {t e : TypeId} {v : Value} {d : DataW H} {p : List MemPlace} (ht : P.underlying t = some (.slice e)) (he : P.underlying e = some (.int .i64)) (hc : P.cellsOf e = 1)
    (hv : ∃ a l c, v = .slice a l c) (h : DataW.Trod enc P W 0 (fun _ => true) true t v d p) : ∃ (zs : List Int) (a : Option Addr) (c : Nat), v = .slice a zs.length c ∧ zs.length ≤ c ∧ c ≤ maxLen ∧ RowAt W a (zs.map iV) ∧ ints zs := by
  obtain ⟨a, l, c, rfl⟩ := hv
  obtain ⟨fuel, hf⟩ := h
  rcases open_ints ht he hc hf with ⟨hcs, _⟩ | ⟨x, l', c', zs, hcs, _, hl, hm, hz, _, hcell, hwz⟩
  · simp [Value.cells] at hcs
    obtain ⟨rfl, rfl, rfl⟩ := hcs
    exact ⟨[], none, 0, rfl, Nat.le_refl _, by decide, .inl rfl, fun _ h => by cases h⟩
  · simp [Value.cells] at hcs
    obtain ⟨rfl, rfl, rfl⟩ := hcs
    simp only [if_true] at hz
    obtain ⟨h1, h2⟩ := row_of_ints (len := l) (by omega) hcell
    exact ⟨zs.take l, some x, c, by rw [h1], by rw [h1]; exact hl, hm, h2, fun z hz => i64_range (hwz z (List.mem_of_mem_take hz))⟩
end Go.Proofs.Ytpfmadinijofeaa
end
section
/- The program's disk: what lasts, behind a sync and behind a crash; walked. -/
namespace Go.Proofs.Ytpfmadinijofeaa
open Go.RowKit Go.Shelf Go.Maps Go.Sort
theorem cD_some {S : DS} {k : Int} {v : Value} (h : cD S k = some v) : ∃ (i : Nat) (s : List UInt8), k = i ∧ S.cch i = some s ∧ v = secV s := by
  unfold cD at h
  split at h
  · cases h
  · rename_i hk
    rw [Option.map_eq_some_iff] at h
    obtain ⟨s, hs, rfl⟩ := h
    exact ⟨k.toNat, s, by omega, hs, rfl⟩
theorem cD_mem {S : DS} {m : List (Int × Value)} (hn : (m.map (·.1)).Nodup) (hl : ∀ k, lkM m k = cD S k) (k : Int) : k ∈ m.map (·.1) ↔ 0 ≤ k ∧ (S.cch k.toNat).isSome = true := by
  constructor
  · intro h
    obtain ⟨p, hp, rfl⟩ := List.mem_map.1 h
    have h1 := lkM_of_mem hn (k := p.1) (v := p.2) hp
    rw [hl] at h1
    obtain ⟨i, s, hi, hs, _⟩ := cD_some h1
    rw [hi, Int.toNat_natCast, hs]
    exact ⟨by omega, rfl⟩
  · rintro ⟨h0, h1⟩
    obtain ⟨s, hs⟩ := Option.isSome_iff_exists.1 h1
    have := hl k
    unfold cD at this
    rw [if_neg (by omega), hs] at this
    exact List.mem_map.2 ⟨_, lkM_mem this, rfl⟩
theorem sortK_dirty {S : DS} (hW : DWf S) {m : List (Int × Value)} (hn : (m.map (·.1)).Nodup) (hl : ∀ k, lkM m k = cD S k) : sortK m = dirtyI S := by
  unfold sortK
  have hnd : (dirtyI S).Nodup := (dirtyI_sorted S).imp fun h => by omega
  have hp : (m.map (·.1)).Perm (dirtyI S) := (List.perm_ext_iff_of_nodup hn hnd).2 fun k => by rw [mem_dirtyI hW, cD_mem hn hl]
  rw [mergeSort_of_perm_i hp]
  exact List.mergeSort_of_pairwise ((dirtyI_sorted S).imp fun h => by simp [leI]; omega)
theorem dirty_range {S : DS} (hW : DWf S) {m : List (Int × Value)} (hn : (m.map (·.1)).Nodup) (hl : ∀ k, lkM m k = cD S k) : (∀ p ∈ m, -9223372036854775808 ≤ p.1 ∧ p.1 ≤ 9223372036854775807) ∧ m.length ≤ 8192 := by
  have hn2 := hW.n2
  have h1 : ∀ k ∈ m.map (·.1), 0 ≤ k ∧ k < 8192 := fun k hk => by
    obtain ⟨h0, h1⟩ := (cD_mem hn hl k).1 hk
    obtain ⟨s, hs⟩ := Option.isSome_iff_exists.1 h1
    have := (hW.cch _ s hs).1
    omega
  refine ⟨fun p hp => by have := h1 p.1 (List.mem_map.2 ⟨p, hp, rfl⟩); omega, ?_⟩
  have hsub := nodup_sub (l := m.map (·.1)) (l' := (List.range 8192).map fun (i : Nat) => (i : Int)) hn fun k hk => by
    have := h1 k hk
    exact List.mem_map.2 ⟨k.toNat, List.mem_range.2 (by omega), by omega⟩
  simpa using hsub
def NewIntsD (w : World) (zs : List Int) (a : Option Addr) (n c : Nat) (w' : World) : Prop := n = zs.length ∧ Own w' w.heap.size 3 1 (.slice a n c) n (zs.map iV) ∧ Below w.heap.size w w'
theorem ddirty_new {w : World} {g gl mb : Nat} {S : DS} (h : DkAt w g gl mb S) (hW : DWf S) :
    Calls Try.prog 36 #[.pointer (some ⟨g, 0, none⟩)] w fun e w' => ∃ a n c, e = .returned (.slice a n c) ∧ NewIntsD w (dirtyI S) a n c w' := by
  refine (GDk.ddirty_calls (some ⟨g, 0, none⟩) w (fun u w' => ∃ a n c, u = .slice a n c ∧ NewIntsD w (dirtyI S) a n c w') ?_).mono (by rintro e w' ⟨v, rfl, a, n, c, rfl, h⟩; exact ⟨a, n, c, rfl, h⟩)
  unfold GDk.ddirty_vc
  obtain ⟨m, hm, hl⟩ := h.map
  obtain ⟨hr, hlen⟩ := dirty_range hW hm.nodup hl
  refine br_f rfl ⟨some mb, h.c1, keysDisk_new (K := fun u w' => ∃ a n c, u = .slice a n c ∧ NewIntsD w (dirtyI S) a n c w') hm hr (by omega) (Bs.refl w) fun a c w2 ho hn b2 B2 => ?_⟩
  rw [sortK_dirty hW hm.nodup hl] at ho ⊢
  exact ⟨a, _, c, rfl, rfl, ho, B2⟩
theorem ddirty_nil (w : World) : Calls Try.prog 36 #[.pointer none] w (Ret (.slice none 0 0) w) := by
  refine ret_in (GDk.ddirty_calls none w (fun u w' => u = .slice none 0 0 ∧ Below w.heap.size w w') ?_)
  unfold GDk.ddirty_vc
  exact br_t rfl ⟨rfl, Bs.refl _⟩
def seenS (S : DS) (seen : List Int) : DS := ⟨S.n, fun i => if (i : Int) ∈ seen then nowS S i else S.last i, S.cch, S.left, S.off⟩
theorem seenS_wf {S : DS} (h : DWf S) (seen : List Int) : DWf (seenS S seen) :=
  ⟨h.n1, h.n2, fun i => by
    show (if (i : Int) ∈ seen then nowS S i else S.last i).length = 64
    split
    · exact h.now i
    · exact h.last i, h.cch, h.left0, h.leftM⟩
theorem off_of {S : DS} (q : syncE S ≠ 0) : syncD S = S := by
  unfold syncE at q
  unfold syncD
  by_cases ho : S.off = true
  · rw [if_pos ho]
  · rw [if_neg ho] at q; exact absurd rfl q
theorem dsync_any {w : World} {g gl mb : Nat} {S : DS} (h : DkAt w g gl mb S) (hW : DWf S) : Calls Try.prog 65 #[.pointer (some ⟨g, 0, none⟩)] w (DDo w g gl mb (.int .i64 (syncE S)) (syncD S)) := by
  refine ddo_in (GDk.dsync_calls (some ⟨g, 0, none⟩) w (DDoV w g gl mb (.int .i64 (syncE S)) (syncD S)) ?_)
  unfold GDk.dsync_vc
  have hm0 : mayE S 0 0 = syncE S := by
    unfold mayE syncE
    split
    · rfl
    · rw [if_pos ⟨by omega, by omega, by omega, by omega⟩]
  refine callB (Bs.refl w) (dmay_ret h hW 0 0) fun w2 b2 B2 => ⟨_, rfl, ?_⟩
  rw [hm0]
  refine br_dec (fun q => ddo_no h B2 rfl (off_of q)) fun q => ?_
  have q : syncE S = 0 := Decidable.byContradiction q
  have ho : ¬ S.off = true := fun r => by unfold syncE at q; rw [if_pos r] at q; omega
  have hS : syncD S = ⟨S.n, nowS S, fun _ => none, S.left, S.off⟩ := by unfold syncD; rw [if_neg ho]
  rw [q, hS]
  have h2 := h.below B2
  obtain ⟨l1, l2, l3⟩ := h.lt
  obtain ⟨n1, n2, n3⟩ := h.ne
  have hs2 := B2.size
  obtain ⟨m, hm, hl⟩ := h2.map
  have hn := hm.nodup
  refine ⟨some mb, h2.c1, mb, m, rfl, hm, fun g2 w3 sg2 hit b3 z3 => ?_⟩
  have B3 := B2.to b3
  refine ⟨fun wx => ∃ seen, Loop wx g2 mb m seen ∧ DkAt wx g gl mb (seenS S seen) ∧ Fr [g, gl, mb] w wx ∧ w3.heap.size ≤ wx.heap.size, fun wx => m.length - iterLen wx g2, ⟨[], Loop.start hit, ?_, Fr.ofBelow B3, Nat.le_refl _⟩, ?_⟩
  · have := h2.below b3
    exact this
  rintro wx ⟨seen, hL, hx, fx, hsx⟩
  refine ⟨mb, m, seen, hL.at', fun hall => ?_, fun k v w7 hkv hks hit1 hf1 hz1 => ?_⟩
  · refine ⟨some mb, hx.c1, .inr (hx.clear fun w6 h6 f6 z6 => ⟨rfl, ?_, fx.g f6 (.inl (by simp))⟩)⟩
    have hlast : (seenS S seen).last = nowS S := by
      funext i
      show (if (i : Int) ∈ seen then nowS S i else S.last i) = nowS S i
      by_cases hi : (i : Int) ∈ seen
      · rw [if_pos hi]
      · rw [if_neg hi]
        unfold nowS
        cases hc : S.cch i with
        | none => rfl
        | some s =>
          have hlk := hl (i : Int)
          rw [cD_nat, hc] at hlk
          exact absurd (hall _ (lkM_mem hlk)) hi
    have h6' : DkAt w6 g gl mb ⟨S.n, (seenS S seen).last, fun _ => none, S.left, S.off⟩ := h6
    rw [hlast] at h6'
    exact h6'
  · have hv := lkM_of_mem hn hkv
    have hv' := hv
    rw [hl] at hv'
    obtain ⟨i, s, rfl, hs, rfl⟩ := cD_some hv'
    obtain ⟨hin, h64⟩ := hW.cch i s hs
    have hL1 := hL.step hkv hks hit1
    have hx7 : DkAt w7 g gl mb (seenS S seen) := hx.fr hf1 (by rw [List.mem_singleton]; omega) (by rw [List.mem_singleton]; omega) (by rw [List.mem_singleton]; omega)
    have fx7 : Fr [g, gl, mb] w w7 := fx.g hf1 (.inr (by omega))
    refine ⟨s, h64, (i : Int), ⟨mb, m, seen, hit1, hv⟩, newB (Bs.refl w7) fun g3 w8 g30 sg3 n8 z8 b8 B8 => condB h64 (stB B8 g30 n8 (by rw [List.length_map, h64]; rfl) (fun q hq => by cases hq) fun w9 n9 f9 B9 z9 => drewB B9 fun w10 b10 B10 e10 => ?_)⟩
    have h10 := hx7.below B10
    have n10 : Bk w10 g3 (s.map bV).toArray 110 := n9.below b10
    refine ⟨some ⟨gl, 0, none⟩, S.n, S.n, h10.c0, s, h64, cellsAt_row n10 (by rw [List.drop_zero, List.take_length]), by omega, by omega, condB h64 ?_⟩
    have hstep : (⟨S.n, fun j => if j = i then s else (seenS S seen).last j, S.cch, S.left, S.off⟩ : DS) = seenS S (seen ++ [(i : Int)]) := by
      unfold seenS
      congr 1
      funext j
      dsimp only
      by_cases e : j = i
      · subst e
        rw [if_pos rfl, if_pos (by simp)]
        unfold nowS
        rw [hs]
        rfl
      · rw [if_neg e]
        by_cases hj : (j : Int) ∈ seen
        · rw [if_pos hj, if_pos (by simp [hj])]
        · rw [if_neg hj, if_neg (by simp [hj]; omega)]
    rw [Int.toNat_natCast]
    refine h10.setSec (seenS_wf hW seen) hin h64 (fun q hq => by cases hq) fun w11 h11 f11 z11 => ?_
    have h11' : DkAt w11 g gl mb ⟨S.n, fun j => if j = i then s else (seenS S seen).last j, S.cch, S.left, S.off⟩ := h11
    rw [hstep] at h11'
    have hL11 : Loop w11 g2 mb m (seen ++ [(i : Int)]) := (hL1.below B10).box h10.lst f11
    refine ⟨⟨_, hL11, h11', (fx7.b B10).g f11 (.inl (by simp)), by have := B10.size; omega⟩, ?_⟩
    have hmore := hL.more hkv hks
    dsimp only
    rw [hL11.at'.len, hL.at'.len]
    simp
    omega
theorem dsync_nil (w : World) : Calls Try.prog 65 #[.pointer none] w (Ret (.int .i64 1) w) := by
  refine ret_in (GDk.dsync_calls none w (fun u w' => u = .int .i64 1 ∧ Below w.heap.size w w') ?_)
  unfold GDk.dsync_vc
  exact callB (Bs.refl w) (dmay_nil 0 0 w) fun w2 b2 B2 => ⟨_, rfl, br_y (by decide) ⟨rfl, B2⟩⟩
/-- So many of the cache have been looked at. -/
def crS (S : DS) (kept : List Bool) (k : Nat) : DS := ⟨S.n, fun i => if i ∈ (dirtyL S).take k ∧ kept.getD (rk (dirtyS S) i) false = true then nowS S i else S.last i, S.cch, S.left, S.off⟩
theorem crS_wf {S : DS} (h : DWf S) (kept : List Bool) (k : Nat) : DWf (crS S kept k) :=
  ⟨h.n1, h.n2, fun i => by
    show (if i ∈ (dirtyL S).take k ∧ kept.getD (rk (dirtyS S) i) false = true then nowS S i else S.last i).length = 64
    split
    · exact h.now i
    · exact h.last i, h.cch, h.left0, h.leftM⟩
theorem crS_no {S : DS} {kept : List Bool} {k i : Nat} (hk : (dirtyL S)[k]? = some i) (hn : kept.getD k false = false) : crS S kept (k + 1) = crS S kept k := by
  obtain ⟨h1, h2, h3⟩ := filt_get (dirtyS S) S.n k i hk
  unfold crS
  congr 1
  funext j
  by_cases e : j = i
  · subst e
    rw [if_neg fun q => by rw [← h1, hn] at q; exact absurd q.2 (by decide), if_neg fun q => by rw [← h1, hn] at q; exact absurd q.2 (by decide)]
  · have hiff : j ∈ (dirtyL S).take (k + 1) ↔ j ∈ (dirtyL S).take k := by
      rw [List.take_add_one, hk, List.mem_append]
      simp [e]
    simp only [hiff]
theorem crS_yes {S : DS} {kept : List Bool} {k i : Nat} {s : List UInt8} (hk : (dirtyL S)[k]? = some i) (hy : kept.getD k false = true) (hs : S.cch i = some s) :
    (⟨S.n, fun j => if j = i then s else (crS S kept k).last j, S.cch, S.left, S.off⟩ : DS) = crS S kept (k + 1) := by
  obtain ⟨h1, h2, h3⟩ := filt_get (dirtyS S) S.n k i hk
  unfold crS
  congr 1
  funext j
  dsimp only
  by_cases e : j = i
  · subst e
    rw [if_pos rfl, if_pos ⟨by rw [List.take_add_one, hk, List.mem_append]; simp, by rw [← h1]; exact hy⟩]
    unfold nowS
    rw [hs]
    rfl
  · rw [if_neg e]
    have hiff : j ∈ (dirtyL S).take (k + 1) ↔ j ∈ (dirtyL S).take k := by
      rw [List.take_add_one, hk, List.mem_append]
      simp [e]
    simp only [hiff]
theorem crS_all {S : DS} (hW : DWf S) (kept : List Bool) : (crS S kept (dirtyL S).length).last = (crashD S kept).last := by
  funext i
  show (if i ∈ (dirtyL S).take (dirtyL S).length ∧ kept.getD (rk (dirtyS S) i) false = true then nowS S i else S.last i) = if dirtyS S i = true ∧ kept.getD (rk (dirtyS S) i) false = true then nowS S i else S.last i
  have hiff : i ∈ (dirtyL S).take (dirtyL S).length ↔ dirtyS S i = true := by
    rw [List.take_length]
    unfold dirtyL
    rw [List.mem_filter, List.mem_range]
    refine ⟨fun q => q.2, fun q => ⟨?_, q⟩⟩
    obtain ⟨s, hs⟩ := Option.isSome_iff_exists.1 q
    exact (hW.cch i s hs).1
  simp only [hiff]
theorem getD_b {l : List Bool} {i : Nat} (h : i < l.length) : l.getD i false = l[i] := by rw [List.getD_eq_getElem?_getD, List.getElem?_eq_getElem h]; rfl
theorem RowAt.bool {w : World} {a : Option Addr} {bs : List Bool} (h : RowAt w a (bs.map Value.bool)) {k : Nat} (hk : k < bs.length) : ∃ b off, a = some ⟨b, off, none⟩ ∧ w.cell? ⟨b, off + k, none⟩ = some (.bool bs[k]) := by
  rcases h with h | ⟨b, off, ha, h⟩
  · rw [List.map_eq_nil_iff] at h; subst h; simp at hk
  · exact ⟨b, off, ha, h k _ (by simp [hk])⟩
theorem dcrash_g {w : World} {g gl mb : Nat} {S : DS} (h : DkAt w g gl mb S) (hW : DWf S) {a : Option Addr} {c : Nat} {kept : List Bool} (hr : ∀ w1, Fr [g, gl, mb] w w1 → RowAt w1 a (kept.map Value.bool)) :
    Calls Try.prog 39 #[.pointer (some ⟨g, 0, none⟩), .slice a kept.length c] w (DDo w g gl mb (.tuple #[]) (crashD S kept)) := by
  refine ddo_in (GDk.dcrash_calls (some ⟨g, 0, none⟩) a kept.length c w (DDoV w g gl mb (.tuple #[]) (crashD S kept)) ?_)
  unfold GDk.dcrash_vc
  have hlen := dirtyL_le hW
  have hlI : (dirtyI S).length = (dirtyL S).length := by unfold dirtyI; rw [List.length_map]
  obtain ⟨l1, l2, l3⟩ := h.lt
  refine br_f rfl ((ddirty_new h hW).mono ?_)
  rintro e w2 ⟨ad, nd, cd, rfl, rfl, od, bd⟩
  refine ⟨keepG_nil _ _, ad, _, cd, rfl, fun x wx => ∃ k : Nat, x = k ∧ k ≤ (dirtyL S).length ∧ DkAt wx g gl mb (crS S kept k) ∧ Fr [g, gl, mb] w wx ∧ Fr [g, gl, mb] w2 wx, fun x _ => (dirtyL S).length - x.toNat, ⟨0, rfl, by omega, ?_, Fr.ofBelow bd, Fr.refl _ _⟩, ?_⟩
  · have h2 := h.below bd
    have : crS S kept 0 = S := by
      unfold crS
      simp
    rw [this]
    exact h2
  rintro x wx ⟨k, rfl, hk, hx, fx, fx2⟩
  refine br_dec (fun hlt => ?_) fun hge => ?_
  · have hkl : k < (dirtyL S).length := by omega
    have hodx : Own wx w.heap.size 3 1 (.slice ad (dirtyI S).length cd) (dirtyI S).length ((dirtyI S).map iV) := od.keep fun j hj => by
      obtain ⟨j1, j2⟩ := od.lt j hj
      exact fx2.block j j2 (by simp; omega)
    obtain ⟨b0, o0, rfl, hc⟩ := hodx.row.int (k := k) (by omega)
    have hg := List.getElem?_eq_getElem hkl
    obtain ⟨r1, r2, r3⟩ := filt_get (dirtyS S) S.n k _ hg
    have hat : (dirtyI S)[k] = (((dirtyL S)[k] : Nat) : Int) := by unfold dirtyI; simp
    rw [wr64 (z := (k : Int) + 1) (by omega) (by omega)]
    refine ⟨by omega, by omega, (((dirtyL S)[k] : Nat) : Int), by rw [Int.toNat_natCast, Nat.mul_one, hc, hat], ?_⟩
    have no : kept.getD k false = false → (∃ j : Nat, (k : Int) + 1 = j ∧ j ≤ (dirtyL S).length ∧ DkAt wx g gl mb (crS S kept j) ∧ Fr [g, gl, mb] w wx ∧ Fr [g, gl, mb] w2 wx) ∧ (dirtyL S).length - ((k : Int) + 1).toNat < (dirtyL S).length - (k : Int).toNat := fun q => ⟨⟨k + 1, by omega, by omega, by rw [crS_no hg q]; exact hx, fx, fx2⟩, by omega⟩
    refine br_dec (fun hkk => ?_) fun hkk => no (by rw [List.getD_eq_getElem?_getD, List.getElem?_eq_none (by omega)]; rfl)
    have hkl2 : k < kept.length := by omega
    obtain ⟨b1, o1, rfl, hb⟩ := (hr _ fx).bool hkl2
    refine ⟨by omega, by omega, kept[k], by rw [Int.toNat_natCast, Nat.mul_one]; exact hb, ?_⟩
    cases hkb : kept[k]
    · exact br_f rfl (no (by rw [getD_b hkl2, hkb]))
    · obtain ⟨s, hs⟩ := Option.isSome_iff_exists.1 r3
      have h64 := (hW.cch _ s hs).2
      refine br_t rfl (drewB (Bs.refl wx) fun w4 b4 B4 e4 => ?_)
      have h4 := hx.below b4
      refine ⟨some ⟨gl, 0, none⟩, S.n, S.n, h4.c0, some mb, h4.c1, s, h64, ?_, by omega, by omega, condB h64 ?_⟩
      · obtain ⟨r, q1, q2, _⟩ := h4.hit (k := (dirtyL S)[k]) (s := s) hs
        exact ⟨r, q1, q2⟩
      rw [Int.toNat_natCast]
      refine h4.setSec (crS_wf hW kept k) r2 h64 (fun q hq => by cases hq) fun w5 h5 f5 z5 => ?_
      have h5' : DkAt w5 g gl mb ⟨S.n, fun j => if j = (dirtyL S)[k] then s else (crS S kept k).last j, S.cch, S.left, S.off⟩ := h5
      rw [crS_yes hg (by rw [getD_b hkl2, hkb]) hs] at h5'
      exact ⟨⟨k + 1, by omega, by omega, h5', (fx.b b4).g f5 (.inl (by simp)), (fx2.b b4).g f5 (.inl (by simp))⟩, by dsimp only; omega⟩
  · obtain rfl : k = (dirtyL S).length := by omega
    refine ⟨some mb, hx.c1, .inr (hx.clear fun w6 h6 f6 z6 => h6.setLeft 0 (fun q hq => by cases hq) fun w7 h7 f7 z7 => h7.setOff false (fun q hq => by cases hq) fun w8 h8 f8 z8 => ⟨rfl, ?_, ((fx.g f6 (.inl (by simp))).g f7 (.inl (by simp))).g f8 (.inl (by simp))⟩)⟩
    have h8' : DkAt w8 g gl mb ⟨S.n, (crS S kept (dirtyL S).length).last, fun _ => none, 0, false⟩ := h8
    rw [crS_all hW] at h8'
    exact h8'
theorem dcrash_any {w : World} {g gl mb : Nat} {S : DS} (h : DkAt w g gl mb S) (hW : DWf S) {a : Option Addr} {c : Nat} {kept : List Bool} (hr : RowAt w a (kept.map Value.bool)) (ha : ∀ q, a = some q → q.block ∉ [g, gl, mb]) :
    Calls Try.prog 39 #[.pointer (some ⟨g, 0, none⟩), .slice a kept.length c] w (DDo w g gl mb (.tuple #[]) (crashD S kept)) := dcrash_g h hW fun _ f => hr.frL f ha
theorem dcrash_nil (a : Option Addr) (n c : Nat) (w : World) : Calls Try.prog 39 #[.pointer none, .slice a n c] w (Ret (.tuple #[]) w) := by
  refine ret_in (GDk.dcrash_calls none a n c w (fun u w' => u = .tuple #[] ∧ Below w.heap.size w w') ?_)
  unfold GDk.dcrash_vc
  exact br_t rfl ⟨rfl, Bs.refl _⟩
end Go.Proofs.Ytpfmadinijofeaa
end
section
/- The table of nibbles, as the program makes it. -/
namespace Go.Proofs.Ytpfmadinijofeaa
open Go.RowKit
def V32 (n : Nat) : Value := .int .u32 n
def tabCells (k : Nat) : Array Value := ((tbl.take k ++ List.replicate (16 - k) 0).map V32).toArray
theorem tabCells_zero : tabCells 0 = #[Value.int IntKind.u32 0, Value.int IntKind.u32 0, Value.int IntKind.u32 0, Value.int IntKind.u32 0,
            Value.int IntKind.u32 0, Value.int IntKind.u32 0, Value.int IntKind.u32 0, Value.int IntKind.u32 0,
            Value.int IntKind.u32 0, Value.int IntKind.u32 0, Value.int IntKind.u32 0, Value.int IntKind.u32 0,
            Value.int IntKind.u32 0, Value.int IntKind.u32 0, Value.int IntKind.u32 0, Value.int IntKind.u32 0] := by rfl
theorem tabCells_16 : tabCells 16 = #[Value.int IntKind.u32 0, Value.int IntKind.u32 498536548, Value.int IntKind.u32 997073096, Value.int IntKind.u32 651767980, Value.int IntKind.u32 1994146192, Value.int IntKind.u32 1802195444, Value.int IntKind.u32 1303535960, Value.int IntKind.u32 1342533948, Value.int IntKind.u32 3988292384, Value.int IntKind.u32 4027552580, Value.int IntKind.u32 3604390888, Value.int IntKind.u32 3412177804, Value.int IntKind.u32 2607071920, Value.int IntKind.u32 2262029012, Value.int IntKind.u32 2685067896, Value.int IntKind.u32 3183342108] := by rfl
theorem tabCells_at (k : Nat) (h : k < 16) : (tabCells k)[k]? = some (.int .u32 0) := by
  have e : (tbl.take k ++ List.replicate (16 - k) 0)[k]? = some 0 := (by decide : ∀ k, k < 16 → (tbl.take k ++ List.replicate (16 - k) 0)[k]? = some 0) k h
  unfold tabCells
  rw [List.getElem?_toArray, List.getElem?_map, e]; rfl
theorem tabCells_step (k : Nat) (h : k < 16) : (tabCells k).setIfInBounds k (V32 (iter st 4 k)) = tabCells (k + 1) := by
  have e : (tbl.take k ++ List.replicate (16 - k) 0).set k (iter st 4 k) = tbl.take (k + 1) ++ List.replicate (16 - (k + 1)) 0 := (by decide : ∀ k, k < 16 → (tbl.take k ++ List.replicate (16 - k) 0).set k (iter st 4 k) = tbl.take (k + 1) ++ List.replicate (16 - (k + 1)) 0) k h
  unfold tabCells
  rw [← e, List.map_set]; simp
set_option maxHeartbeats 400000 in
theorem table_any (w : World) :
    Calls Try.prog 99 #[] w fun e w' => e = .returned (.agg (tabCells 16)) ∧ Below w.heap.size w w' := by
  go_enter Try.func99, Try.ntmps99
  go_wp2
  go_loopw [2,3,4,5,6,7,8] (fun t2 t3 t4 t5 t6 t7 t8 wr => ∃ k : Nat, k ≤ 16 ∧ t4 = .int .i64 k ∧ wr = (w.alloc (Obj.cells (tabCells 0) 154)).alloc (Obj.cells (tabCells k) 154)) (fun t2 t3 t4 t5 t6 t7 t8 wr => 16 - (intOf t4).toNat)
  case atStart => 
    exact ⟨0, by omega, rfl, by simp only [tabCells_zero]⟩
  case round =>
    obtain ⟨k, hk, rfl, rfl⟩ := hrel
    by_cases hlt : k < 16
    · have hcell := tabCells_at k hlt
      go_wp2
      go_loop [3,9,10,11,12,13,14,15,16,17,18,19] (fun t3 t9 t10 t11 t12 t13 t14 t15 t16 t17 t18 t19 => ∃ j : Nat, j ≤ 4 ∧ t9 = .int .i64 j ∧ t3 = V32 (iter st j k)) (fun t3 t9 t10 t11 t12 t13 t14 t15 t16 t17 t18 t19 => 4 - (intOf t9).toNat)
      case atStart => exact ⟨0, by omega, rfl, rfl⟩
      case round => 
        obtain ⟨j, hj, rfl, rfl⟩ := hrel
        have h0 : iter st j k < 4294967296 := iter_lt j (by omega)
        have h1 : iter st (j + 1) k = st (iter st j k) := rfl
        have H1 := hid h1; clear h1
        generalize hn : iter st j k = n at *
        have Hn := hid hn; clear hn
        unfold V32
        by_cases hltj : j < 4
        · have hb : bits BinOp.and IntKind.u32 (n : Int) 1 = ((n % 2 : Nat) : Int) := by rw [show (1 : Int) = ((1 : Nat) : Int) from rfl, u32_and_nat _ _ h0 (by omega), nat_mask1]
          have hx : bits BinOp.xor IntKind.u32 (n / 2) 3988292384 = ((n / 2 ^^^ 3988292384 : Nat) : Int) := by rw [show (3988292384 : Int) = ((3988292384 : Nat) : Int) from rfl, show (n : Int) / 2 = ((n / 2 : Nat) : Int) from rfl, u32_xor_nat _ _ (by omega) (by omega)]
          have HB := hid hb; clear hb
          have HX := hid hx; clear hx
          go_wp2
          · go_round
            case rel => 
              refine ⟨j + 1, by omega, by go_num, ?_⟩
              have hb1 : (bits BinOp.and IntKind.u32 (n : Int) 1 == 1) = true := by assumption
              rw [HB.out] at hb1
              rw [H1.out, HX.out]; unfold st; rw [if_pos (by simp at hb1; omega)]
            case measure => simp [intOf]; omega
          · go_round
            case rel => 
              refine ⟨j + 1, by omega, by go_num, ?_⟩
              have hb1 : (bits BinOp.and IntKind.u32 (n : Int) 1 == 1) = false := by assumption
              rw [HB.out] at hb1
              rw [H1.out]; unfold st; rw [if_neg (by simp at hb1; omega)]; rfl
            case measure => simp [intOf]; omega
        · go_wp2
          have hstep := tabCells_step k hlt
          rw [show (4 : Nat) = j by omega, Hn.out] at hstep
          go_roundw
          case rel => 
              refine ⟨k + 1, by omega, by go_num, ?_⟩
              rw [← hstep]; rfl
          case measure => simp [intOf]; omega
    · obtain rfl : k = 16 := by omega
      have hw1 := heap_alloc2_new w (Obj.cells (tabCells 0) 154) (Obj.cells (tabCells 16) 154)
      have hw0 := heap_alloc2_old w (Obj.cells (tabCells 0) 154) (Obj.cells (tabCells 16) 154)
      have hb : Below w.heap.size w ((w.alloc (Obj.cells (tabCells 0) 154)).alloc (Obj.cells (tabCells 16) 154)) := ((Below.refl _ _).alloc (Nat.le_refl _) _).alloc (by simp) _
      generalize (w.alloc (Obj.cells (tabCells 0) 154)).alloc (Obj.cells (tabCells 16) 154) = W at *
      have H1 := hid hw1
      have H0 := hid hw0
      clear hw1 hw0
      go_wp2_with (first | (refine wpList_load_row rfl 154 (.tmp 1) rfl (w.heap.size + 1) rfl 154 (tabCells 16) (0, 0) _ H1.out Try.underlying154 rfl (by kernel_rfl) ?_) | (refine wpList_store_row rfl 154 (.tmp 0) (.tmp 24) rfl w.heap.size (tabCells 16) rfl rfl 154 (tabCells 0) H0.out (by kernel_rfl) rfl (by kernel_rfl) ?_))
      refine bodyPost_ret (results_cell_row rfl _ _ w.heap.size 154 (tabCells 16) (0, 0) _ rfl (setRow_heap _ _ _ _ _ _ H0.out) Try.underlying154 rfl (by kernel_rfl)) rfl ⟨rfl, ?_⟩
      exact hb.trans ⟨rfl, rfl, rfl, by simp, fun k hk => by simp [World.setRow, Array.getElem?_modify]; omega⟩
end Go.Proofs.Ytpfmadinijofeaa
end
section
/- 'More' and 'Sum' of crc: what they come to. -/
namespace Go.Proofs.Ytpfmadinijofeaa
open Go.RowKit
theorem tabCells_get (k : Nat) (h : k < 16) : (tabCells 16)[k]? = some (V32 (tbl.getD k 0)) := by
  unfold tabCells
  rw [List.getElem?_toArray, List.getElem?_map, show (tbl.take 16 ++ List.replicate (16 - 16) 0) = tbl from rfl, List.getD_eq_getElem?_getD]
  rcases hq : tbl[k]? with _ | x
  · rw [List.getElem?_eq_none_iff] at hq
    have : tbl.length = 16 := rfl
    omega
  · rfl
theorem crcL_snoc (n : Nat) (bs : List UInt8) (k : Nat) (h : k < bs.length) : crcL n (bs.take (k + 1)) = cb (crcL n (bs.take k)) bs[k].toNat := by
  rw [List.take_succ_eq_append_getElem h, crcL_append]; rfl
theorem u32_xor_step (y t : Nat) (hy : y < 4294967296) (ht : t < 4294967296) : bits BinOp.xor IntKind.u32 ((y : Int) / 16) (t : Int) = (((y / 16) ^^^ t : Nat) : Int) := by
  rw [show (y : Int) / 16 = ((y / 16 : Nat) : Int) from rfl, u32_xor_nat _ _ (by omega) ht]
theorem u32_not (n : Nat) (h : n < 4294967296) : bits BinOp.xor IntKind.u32 IntKind.u32.max (n : Int) = ((cpl n : Nat) : Int) := by
  rw [show IntKind.u32.max = ((4294967295 : Nat) : Int) from rfl, u32_xor_nat _ _ (by omega) h]; rfl
set_option maxHeartbeats 400000 in
theorem more_any (n : Nat) (a : Option Addr) (cap : Nat) (bs : List UInt8) (w : World) (hn : n < 4294967296) (hl : bs.length ≤ maxLen) (hr : RowAt w a (bs.map bV)) :
    Calls Try.prog 88 #[.int .u32 n, .slice a bs.length cap] w fun e w' => e = .returned (.int .u32 (more n bs)) ∧ Below w.heap.size w w' := by
  unfold maxLen at hl
  have HR := hid hr; clear hr
  go_enter Try.func88, Try.ntmps88
  go_wp2_with (first | (go_at_call 99; refine (table_any _).mono ?_; rintro e W ⟨rfl, hb⟩) | (rw [← tabCells_zero]; refine wpList_store_row rfl 154 (.tmp 5) (.tmp 9) rfl _ (tabCells 16) rfl rfl 154 (tabCells 0) (heap_alloc_new _ _) (by kernel_rfl) rfl (by kernel_rfl) ?_))
  have hg : ((W.alloc (Obj.cells (tabCells 0) 154)).setRow W.heap.size (tabCells 16)).heap[W.heap.size]? = some (.cells (tabCells 16) 154 (0, 0)) := setRow_heap _ _ _ _ _ _ (heap_alloc_new _ _)
  have hw : Below w.heap.size w ((W.alloc (Obj.cells (tabCells 0) 154)).setRow W.heap.size (tabCells 16)) := Below_setRow (hb.alloc hb.size _) hb.size _
  generalize (W.alloc (Obj.cells (tabCells 0) 154)).setRow W.heap.size (tabCells 16) = W2 at *
  generalize W.heap.size = g at *
  have HG := hid hg; clear hg
  have HW := hid hw; clear hw hb
  have HR2 := hid (HR.out.below HW.out (Nat.le_refl _)); clear HR
  have hc := u32_not n hn
  rw [hc]; clear hc
  go_loop [6,8,15,16,17,18,19,20,21,22,23,24,25,26,27,28,29,30,31,32,33,34,35,14] (fun t6 _ _ _ _ _ _ _ _ _ _ _ _ _ _ _ _ _ _ _ _ _ _ t14 => ∃ k : Nat, k ≤ bs.length ∧ t14 = .int .i64 k ∧ t6 = V32 (crcL (cpl n) (bs.take k))) (fun t6 _ _ _ _ _ _ _ _ _ _ _ _ _ _ _ _ _ _ _ _ _ _ t14 => bs.length - (intOf t14).toNat)
  case atStart => exact ⟨0, by omega, rfl, rfl⟩
  case round =>
    obtain ⟨k, hk, rfl, rfl⟩ := hrel
    have h0 : crcL (cpl n) (bs.take k) < 4294967296 := crcL_lt _ (cpl_lt hn)
    by_cases hlt : k < bs.length
    · have hsn := hid (crcL_snoc (cpl n) bs k hlt)
      generalize hm : crcL (cpl n) (bs.take k) = m at *
      have Hm := hid hm; clear hm
      obtain ⟨b, off, rfl, hc⟩ := HR2.out.byte hlt
      have hx := (bs[k]).toNat_lt
      generalize hxx : (bs[k]).toNat = x at *
      have e1 := u32_xor_nat m x h0 (by omega)
      have l1 := xlt h0 (show x < 4294967296 by omega)
      generalize hy1 : m ^^^ x = y at *
      have c1 : W2.cell? ⟨g, y % 16, none⟩ = some (.int .u32 (tbl.getD (y % 16) 0 : Nat)) := (cell_of_row _ _ _ _ _ _ HG.out).trans (tabCells_get _ (Nat.mod_lt _ (by omega)))
      have e2 := u32_xor_step y (tbl.getD (y % 16) 0) l1 (tbl_lt _)
      have l2 := nib_lt l1
      have hy2 : nib y = (y / 16) ^^^ tbl.getD (y % 16) 0 := rfl
      rw [← hy2] at e2
      generalize hy3 : tbl.getD (y % 16) 0 = t1 at *
      generalize hy4 : nib y = z at *
      have c2 : W2.cell? ⟨g, z % 16, none⟩ = some (.int .u32 (tbl.getD (z % 16) 0 : Nat)) := (cell_of_row _ _ _ _ _ _ HG.out).trans (tabCells_get _ (Nat.mod_lt _ (by omega)))
      have e3 := u32_xor_step z (tbl.getD (z % 16) 0) l2 (tbl_lt _)
      have hy5 : nib z = (z / 16) ^^^ tbl.getD (z % 16) 0 := rfl
      rw [← hy5] at e3
      generalize hy6 : tbl.getD (z % 16) 0 = t2 at *
      have hfin : cb m x = nib z := by unfold cb; rw [hy1, hy4]
      rw [hfin] at hsn
      generalize nib z = z3 at *
      clear hxx hy1 hy2 hy3 hy4 hy5 hy6 hfin
      unfold V32
      go_wp2
      go_round
      case rel => exact ⟨k + 1, by omega, by go_num, by rw [hsn.out]⟩
      case measure => simp [intOf]; omega
    · obtain rfl : k = bs.length := by omega
      rw [List.take_length] at h0 ⊢
      have hfin : more n bs = cpl (crcL (cpl n) bs) := rfl
      generalize crcL (cpl n) bs = m at *
      have hc := u32_not m h0
      have Hf := hid hfin; clear hfin
      unfold V32
      go_wp2
      go_ret
      exact ⟨by rw [Hf.out]; rfl, HW.out⟩
theorem crcP_snoc (n : Nat) (ps : List (List UInt8)) (k : Nat) (h : k < ps.length) : crcP n (ps.take (k + 1)) = more (crcP n (ps.take k)) ps[k] := by
  rw [List.take_succ_eq_append_getElem h]; unfold crcP; rw [List.foldl_append]; rfl
set_option maxHeartbeats 400000 in
theorem csum_any (a : Option Addr) (cap : Nat) (ps : List (List UInt8)) (w : World) (hl : ps.length ≤ maxLen) (hr : PartsAt w a ps) :
    Calls Try.prog 73 #[.slice a ps.length cap] w fun e w' => e = .returned (.int .u32 (crcP 0 ps)) ∧ Below w.heap.size w w' := by
  unfold maxLen at hl
  have HR := hid hr; clear hr
  go_enter Try.func73, Try.ntmps73
  go_wp2
  go_loopw [3,5,9,10,11,12,13,14,15,8] (fun t3 _ _ _ _ _ _ _ _ t8 wr => ∃ k : Nat, k ≤ ps.length ∧ t8 = .int .i64 k ∧ t3 = V32 (crcP 0 (ps.take k)) ∧ Below w.heap.size w wr) (fun t3 _ _ _ _ _ _ _ _ t8 wr => ps.length - (intOf t8).toNat)
  case atStart => exact ⟨0, by omega, rfl, rfl, Below.refl _ _⟩
  case round =>
    obtain ⟨k, hk, rfl, rfl, hb⟩ := hrel
    have h0 : crcP 0 (ps.take k) < 4294967296 := crcP_lt _ (by omega)
    by_cases hlt : k < ps.length
    · obtain ⟨b, off, v, c, rfl, hc, hr, hvc, hm⟩ := (HR.out.below hb (Nat.le_refl _)).part hlt
      have hsn := hid (crcP_snoc 0 ps k hlt)
      generalize crcP 0 (ps.take k) = m at *
      generalize ps[k] = p at *
      have HP := hid hr; clear hr
      have HB := hid hb; clear hb
      unfold V32
      go_wp2_with (go_at_call 88; refine (more_any _ _ _ _ _ h0 hm HP.out).mono ?_; rintro e W ⟨rfl, hbW⟩)
      go_roundw
      case rel => exact ⟨k + 1, by omega, by go_num, by rw [hsn.out], HB.out.trans (hbW.mono HB.out.size)⟩
      case measure => simp [intOf]; omega
    · obtain rfl : k = ps.length := by omega
      rw [List.take_length] at h0 ⊢
      unfold V32
      go_wp2
      go_ret
      exact ⟨rfl, hb⟩
end Go.Proofs.Ytpfmadinijofeaa
end
section
/- Small words: one byte more, new bytes, what a disk's blocks keep. -/
namespace Go.Proofs.Ytpfmadinijofeaa
open Go.RowKit
theorem numByte (n x : Nat) (hx : x ≤ 7) : IntKind.u8.wrap (Int.fdiv (n : Int) (2 ^ (min (IntKind.i64.wrap (8 * (x : Int))).toNat (IntKind.bits .u64)))) = ((UInt8.ofNat (n / 2 ^ (8 * x) % 256)).toNat : Int) := by
  rw [wr64 (by omega) (by omega), show (8 * (x : Int)).toNat = 8 * x by omega, show min (8 * x) (IntKind.bits .u64) = 8 * x from Nat.min_eq_left (show 8 * x ≤ 64 by omega)]
  rw [ofNat_toNat (Nat.mod_lt _ (by omega)), IntKind.wrap_u8]
  have e : ((2 : Int) ^ (8 * x)) = ((2 ^ (8 * x) : Nat) : Int) := by rw [Int.natCast_pow]; rfl
  rw [e]
  clear e
  generalize 2 ^ (8 * x) = p
  rw [Int.fdiv_eq_ediv_of_nonneg _ (Int.natCast_nonneg p), ← Int.natCast_ediv]
  omega
/-- One byte more. -/
theorem appU {w0 w : World} {n1 n c : Nat} {a : Option Addr} {xs : List UInt8} {b : UInt8} {v : Value} {gs : List Nat} {K : Nat → Option Addr → Nat → World → Prop} (B : Bs w0 w) (o : Own w n1 5 1 (.slice a n c) n (xs.map bV)) (h1 : w0.heap.size ≤ n1) (h2 : n1 ≤ w.heap.size) (hl : n ≤ 1000000000)
    (hv : v = bV b) (hg : ∀ g ∈ gs, g < n1)
    (k : ∀ a' c' w2, Own w2 n1 5 1 (.slice a' (n + 1) c') (n + 1) ((xs ++ [b]).map bV) → Bs w0 w2 → w.heap.size ≤ w2.heap.size → K 1 a' c' w2) :
    newO w (.cells #[v] 5) fun g w1 => appO Try.prog gs w1 5 1 1 22 a n c (.slice (some ⟨g, 0, none⟩) 1 1) K := by
  subst hv
  refine newB B fun g w1 g0 sg n1' z1 b1 B1 => appB B1 (o.below b1 (Nat.le_refl _)) h1 (Nat.le_trans h2 b1.size) (src_block (cs := [bV b]) Try.underlying22 n1' rfl rfl) (by unfold maxLen; omega) (by omega) (fun g hg' e => by have := (o.lt g e).1; have := hg g hg'; omega) fun a' c' w2 o2 g2 B2 z2 => k a' c' w2 ?_ B2 (Nat.le_trans b1.size z2)
  rw [List.map_append]
  exact o2
theorem own_lit {w : World} {g base : Nat} {bs : List UInt8} (h : w.heap[g]? = some (.cells (bs.map bV).toArray 5 (0, 0))) (hg : base ≤ g) (hl : bs.length ≤ maxLen) : Own w base 5 1 (.slice (some ⟨g, 0, none⟩) bs.length bs.length) bs.length (bs.map bV) :=
  ⟨by simp, .inr ⟨g, 0, bs.length, (bs.map bV).toArray, rfl, hg, h, Nat.le_refl _, hl, by simp, by rw [Nat.mul_one]; exact List.take_of_length_le (by simp)⟩⟩
theorem srcB {w : World} {a : Option Addr} {c : Nat} {bs : List UInt8} (h : RowAt w a (bs.map bV)) : Src Try.prog 1 22 (.slice a bs.length c) bs.length (bs.map bV) w := by
  have hs := Src.ofRow (P := Try.prog) (w := w) Try.underlying22 a c (bs.map bV) h (fun u hu => by obtain ⟨x, _, rfl⟩ := List.mem_map.1 hu; rfl)
  rwa [List.length_map] at hs
def NewB (w0 : World) (n1 : Nat) (bs : List UInt8) (e : Ending) (w' : World) : Prop := ∃ a c, e = .returned (.slice a bs.length c) ∧ Own w' n1 5 1 (.slice a bs.length c) bs.length (bs.map bV) ∧ Bs w0 w'
theorem DkAt.bs {w w1 : World} {g gl mb : Nat} {S : DS} (h : DkAt w g gl mb S) (B : Bs w w1) : DkAt w1 g gl mb S := h.below B
theorem RowAt.bs {w w1 : World} {a : Option Addr} {vs : List Value} (h : RowAt w a vs) (B : Bs w w1) : RowAt w1 a vs := h.below B (Nat.le_refl _)
theorem zerosB_succ (n : Nat) : zerosB (n + 1) = zerosB n ++ [0] := List.replicate_succ'
theorem zerosB_len (n : Nat) : (zerosB n).length = n := List.length_replicate
theorem box_ne {w : World} {g gl mb g1 : Nat} {S : DS} (h : DkAt w g gl mb S) (hg : w.heap.size ≤ g1) : ∀ k ∈ [g1], k ∉ [g, gl, mb] := fun k hk hm => by
  have := h.lt
  simp at hk hm
  omega
theorem step_val (x : Int) (y : UInt8) : bitsV .or .i64 (IntKind.i64.wrap (x * 2 ^ (min (8 : Int).toNat (IntKind.bits .i64)))) (IntKind.i64.wrap (y.toNat : Int)) = stepI x y.toNat := rfl
theorem RowAt.keepB {w w1 : World} {a : Option Addr} {vs : List Value} (h : RowAt w a vs) (hk : ∀ q, a = some q → w1.heap[q.block]? = w.heap[q.block]?) : RowAt w1 a vs := by
  rcases h with h | ⟨b, off, rfl, hc⟩
  · exact .inl h
  · refine .inr ⟨b, off, rfl, fun i v hv => ?_⟩
    rw [← hc i v hv]
    simp only [World.cell?]
    rw [hk _ rfl]
theorem row_base {w : World} {a : Option Addr} {c : Nat} {bs : List UInt8} (h : RowAt w a (bs.map bV)) (hl : bs.length ≤ c) (l : Nat) : RowAt w (sliceBase a c l 1) ((bs.drop l).map bV) := by
  unfold sliceBase
  split
  · left; rw [List.drop_of_length_le (by omega)]; rfl
  · rcases h with h | ⟨b, off, rfl, hc⟩
    · left
      have : bs = [] := by simpa using h
      subst this; simp
    · have := RowAt.drop (w := w) (.inr ⟨b, off, rfl, hc⟩) l
      rw [List.map_drop]
      simpa [Addr.add_lit] using this
/-- A disk of one's own. -/
structure D1 (w wx : World) (g gl mb : Nat) (S : DS) : Prop where
  t : DkAt wx g gl mb S
  wf : DWf S
  bs : Bs w wx
  g0 : ∀ k ∈ [g, gl, mb], w.heap.size ≤ k
section
variable {w wx wy : World} {g gl mb : Nat} {S S' : DS}
theorem D1.below (h : D1 w wx g gl mb S) (b : Below wx.heap.size wx wy) : D1 w wy g gl mb S := ⟨h.t.below b, h.wf, h.bs.to b, h.g0⟩
theorem D1.to (h : D1 w wx g gl mb S) (t : DkAt wy g gl mb S') (f : Fr [g, gl, mb] wx wy) (hW : DWf S') : D1 w wy g gl mb S' := ⟨t, hW, h.bs.fr f h.g0, h.g0⟩
theorem D1.lt (h : D1 w wx g gl mb S) : ∀ k ∈ [g, gl, mb], k < wx.heap.size := fun k hk => by
  have := h.t.lt
  simp at hk
  omega
theorem D1.box (h : D1 w wx g gl mb S) {g1 : Nat} (hg : ∀ k ∈ [g, gl, mb], k ≠ g1) (hg0 : w.heap.size ≤ g1) (x : BoxSt g1 wx wy) : D1 w wy g gl mb S :=
  ⟨h.t.fr x.1 (fun e => hg g (by simp) (List.mem_singleton.1 e)) (fun e => hg gl (by simp) (List.mem_singleton.1 e)) (fun e => hg mb (by simp) (List.mem_singleton.1 e)), h.wf, h.bs.box hg0 x, h.g0⟩
/-- A block that is not the disk's is left as it was. -/
theorem D1.k1 (h : D1 w wx g gl mb S) {gs : List Nat} (hg : ∀ k ∈ gs, k < w.heap.size ∨ wx.heap.size ≤ k) {wz wy : World} (f : Fr [g, gl, mb] wz wy) : KeepG gs wz wy := keepG_fr f fun k hk hm => by
  have h1 := h.lt k hm
  have h2 := h.g0 k hm
  have := hg k hk
  omega
theorem own_ap {n1 n c : Nat} {a : Option Addr} {xs : List Value} {e : TypeId} (h : D1 w wx g gl mb S) (o : Own wy n1 e 1 (.slice a n c) n xs) (hn : wx.heap.size ≤ n1) : ∀ q, a = some q → q.block ∉ [g, gl, mb] := fun q hq hm => by
  subst hq
  have := (o.lt q.block rfl).1
  have := h.lt q.block hm
  omega
end
theorem d1_new (n : Nat) (h1 : 1 ≤ n) (h2 : n ≤ 8192) (w : World) {R : Ending → World → Prop} (k : ∀ g gl mb w', D1 w w' g gl mb (newS n) → R (.returned (.tuple #[.pointer (some ⟨g, 0, none⟩), .int .i64 0])) w') : Calls Try.prog 13 #[.int .i64 n] w fun e w' => KeepG [] w w' ∧ R e w' := by
  refine (dnew_new n h1 h2 w).mono ?_
  rintro e w' ⟨g, gl, mb, rfl, t, g0, gl0, mb0, b⟩
  exact ⟨keepG_nil _ _, k g gl mb w' ⟨t, newS_wf h1 h2, b, fun k hk => by simp at hk; omega⟩⟩
end Go.Proofs.Ytpfmadinijofeaa
end
section
/- A writer, and a reader, at work since a world: what else has turned. -/
namespace Go.Proofs.Ytpfmadinijofeaa
open Go.RowKit
/-- Since w0 only the writer's blocks, and new ones, have turned. -/
structure WP (w0 : World) (K0 : List Nat) (w : World) (g : Nat) (bs : List UInt8) (bad : Bool) : Prop where
  ex : ∃ K, WAt w K g bs bad ∧ Gr K0 K w0.heap.size
  fr : Fr K0 w0 w
  un : Under K0 w0.heap.size
section
variable {w0 w w1 w2 : World} {K0 : List Nat} {g : Nat} {bs bs' : List UInt8} {bad bad' : Bool}
theorem WP.start (h : WAt w K0 g bs bad) : WP w K0 w g bs bad := ⟨⟨K0, h, Gr.refl _ _⟩, Fr.refl _ _, h.under⟩
theorem WP.make {t : TypeId} (h : w.heap[g]? = some (.cells #[.slice none 0 0, .bool false] 139 (0, 0))) (ht : t = 139) : WP w [g] w g [] false :=
  WP.start (by have := WAt.make (v := .slice none 0 0) (bs := []) h (Own.nil _ _ _ _); simpa [Value.ownBlock] using this)
theorem WP.below (h : WP w0 K0 w g bs bad) (b : Below w.heap.size w w1) : WP w0 K0 w1 g bs bad := by
  obtain ⟨⟨K, h1, h2⟩, h3, h4⟩ := h
  exact ⟨⟨K, h1.keep (fun k hk => b.block k (h1.under k hk)) b.size, h2⟩, h3.trans (Fr.ofBelow (L := K0) b) (Gr.refl _ _), h4⟩
/-- A box that is newer than the base was written. -/
theorem WP.newbox (h : WP w0 K0 w g bs bad) (b : Below w.heap.size w w1) {x : Nat} (sx : w.heap.size = x) (hx : BoxSt x w1 w2) : WP w0 K0 w2 g bs bad := by
  obtain ⟨⟨K, h1, h2⟩, h3, h4⟩ := h
  have z := b.size
  have z2 := hx.2
  have z3 := h3.size
  refine ⟨⟨K, h1.keep (fun k hk => (hx.1.block k (by have := h1.under k hk; omega) (by rw [List.mem_singleton]; have := h1.under k hk; omega)).trans (b.block k (h1.under k hk))) (by omega), h2⟩, ?_, h4⟩
  exact (h3.trans (Fr.ofBelow (L := K0) b) (Gr.refl _ _)).trans hx.1 (fun k hk => by rw [List.mem_singleton] at hk; exact .inr (by omega))
theorem WP.keep (h : WP w0 K0 w g bs bad) {b : Nat} (hb : b < w0.heap.size) (hn : b ∉ K0) : w.heap[b]? = w0.heap[b]? := h.fr.block b hb hn
theorem WP.old {wb : World} (h : WP w0 K0 w g bs bad) (B : Bs wb w0) (hf : From wb.heap.size K0) : Bs wb w := B.trans (h.fr.below hf B.size)
theorem WP.call (h : WP w0 K0 w g bs bad) {P : Program} {f : FuncId} {av : Array Value} {gs : List Nat} {R : Ending → World → Prop} (hc : ∀ K, WAt w K g bs bad → Gr K0 K w0.heap.size → Calls P f av w (W1 w K g bs' bad')) (hg : ∀ x ∈ gs, x < w0.heap.size ∧ x ∉ K0)
    (k : ∀ w1, WP w0 K0 w1 g bs' bad' → w.heap.size ≤ w1.heap.size → R (.returned (.tuple #[])) w1) : Calls P f av w fun e w1 => KeepG gs w w1 ∧ R e w1 := by
  obtain ⟨⟨K, h1, h2⟩, h3, h4⟩ := h
  refine (hc K h1 h2).mono ?_
  rintro e w1 ⟨rfl, K', h5, f5, g5⟩
  refine ⟨keepG_fr f5 fun x hx hm => ?_, k w1 ⟨⟨K', h5, h2.trans g5 h3.size⟩, h3.trans f5 h2, h4⟩ f5.size⟩
  rcases h2 x hm with h | h
  · exact (hg x hx).2 h
  · have := (hg x hx).1; omega
/-- The same, with boxes that are newer than the base: told of the writer's blocks. -/
theorem WP.out {K : List Nat} (h : WP w K w1 g bs bad) : W1 w K g bs bad (.returned (.tuple #[])) w1 := by
  obtain ⟨⟨K', h1, h2⟩, h3, h4⟩ := h
  exact ⟨rfl, K', h1, h3, h2⟩
/-- A new base. -/
theorem WP.rebase (h : WP w0 K0 w g bs bad) : ∃ K, WP w K w g bs bad ∧ Gr K0 K w0.heap.size := by
  obtain ⟨⟨K, h1, h2⟩, h3, h4⟩ := h
  exact ⟨K, WP.start h1, h2⟩
/-- A new base behind a box that was made and filled. -/
theorem WP.rebox (h : WP w0 K0 w g bs bad) (b : Below w.heap.size w w1) {x : Nat} (sx : w.heap.size = x) (hs : w1.heap.size = x + 1) (hx : BoxSt x w1 w2) :
    ∃ K, WP w2 K w2 g bs bad ∧ Gr K0 K w0.heap.size ∧ x ∉ K ∧ x < w2.heap.size := by
  obtain ⟨⟨K, h1, h2⟩, h3, h4⟩ := h
  have z2 := hx.2
  have z3 := h3.size
  refine ⟨K, WP.start (h1.keep (fun k hk => (hx.1.block k (by have := h1.under k hk; omega) (by rw [List.mem_singleton]; have := h1.under k hk; omega)).trans (b.block k (h1.under k hk))) (by omega)), h2, fun hm => ?_, by omega⟩
  have := h1.under x hm
  omega
theorem WP.join {K : List Nat} (h : WP w0 K0 w g bs bad) (h2 : WP w K w1 g bs' bad') (hg : Gr K0 K w0.heap.size) : WP w0 K0 w1 g bs' bad' := by
  obtain ⟨⟨K', k1, k2⟩, k3, k4⟩ := h2
  exact ⟨⟨K', k1, hg.trans k2 h.fr.size⟩, h.fr.trans k3 hg, h.un⟩
end
/-- Since w0 only the reader's blocks, and new ones, have turned. -/
structure RP (w0 : World) (L : List Nat) (w : World) (g : Nat) (bs : List UInt8) (e : Int) : Prop where
  at' : RdAt w L g bs e
  fr : Fr L w0 w
  un : Under L w0.heap.size
section
variable {w0 w w1 w2 : World} {L : List Nat} {g : Nat} {bs : List UInt8} {e : Int}
theorem RP.start (h : RdAt w L g bs e) : RP w L w g bs e := ⟨h, Fr.refl _ _, h.under⟩
theorem RP.below (h : RP w0 L w g bs e) (b : Below w.heap.size w w1) : RP w0 L w1 g bs e := ⟨h.at'.below b, h.fr.trans (Fr.ofBelow (L := L) b) (Gr.refl _ _), h.un⟩
theorem RP.newbox (h : RP w0 L w g bs e) (b : Below w.heap.size w w1) {x : Nat} (sx : w.heap.size = x) (hx : BoxSt x w1 w2) : RP w0 L w2 g bs e := by
  have z := b.size
  have z3 := h.fr.size
  exact ⟨(h.at'.below b).fr hx.1 (fun k h1 h2 => by rw [List.mem_singleton] at h2; have := h.at'.under k h1; omega), (h.fr.trans (Fr.ofBelow (L := L) b) (Gr.refl _ _)).trans hx.1 (fun k hk => by rw [List.mem_singleton] at hk; exact .inr (by omega)), h.un⟩
theorem RP.box (h : RP w0 L w g bs e) {x : Nat} (hx : BoxSt x w w1) (hn : x ∉ L) (hz : w0.heap.size ≤ x) : RP w0 L w1 g bs e :=
  ⟨h.at'.fr hx.1 (fun k h1 h2 => by rw [List.mem_singleton] at h2; exact hn (h2 ▸ h1)), h.fr.trans hx.1 (fun k hk => by rw [List.mem_singleton] at hk; exact .inr (by omega)), h.un⟩
theorem RP.keep (h : RP w0 L w g bs e) {b : Nat} (hb : b < w0.heap.size) (hn : b ∉ L) : w.heap[b]? = w0.heap[b]? := h.fr.block b hb hn
theorem RP.old {wb : World} (h : RP w0 L w g bs e) (B : Bs wb w0) (hf : From wb.heap.size L) : Bs wb w := B.trans (h.fr.below hf B.size)
theorem RP.uint (h : RP w0 L w g bs e) {gs : List Nat} {R : Ending → World → Prop} (most : Int) (hm : most ≤ 9223372036854775807) (hm2 : 0 ≤ most) (hl : bs.length ≤ 100000000) (hg : ∀ x ∈ gs, x ∉ L)
    (k : ∀ w1, RP w0 L w1 g (rdUint most bs e).2.1 (rdUint most bs e).2.2 → Fr L w w1 → w.heap.size ≤ w1.heap.size → R (.returned (.int .i64 (rdUint most bs e).1)) w1) :
    Calls Try.prog 101 #[.pointer (some ⟨g, 0, none⟩), .int .i64 most] w fun r w1 => KeepG gs w w1 ∧ R r w1 :=
  (rUint_any g most hm (by omega) bs e L w h.at' hl).mono (by
    rintro r w1 ⟨rfl, h1, f1, _⟩
    exact ⟨keepG_fr f1 hg, k w1 ⟨h1, h.fr.trans f1 (Gr.refl _ _), h.un⟩ f1 f1.size⟩)
end
end Go.Proofs.Ytpfmadinijofeaa
end
section
/- Texts, rows of texts, rows of rows of texts that came in. No program in sight. -/
namespace Go.Proofs.Ytpfmadinijofeaa
open Go.RowKit Go.WideShapes
structure Im where
  a : Option Addr
  c : Nat
  bs : List UInt8
structure ImAt (w : World) (b off : Nat) (x : Im) : Prop where
  cell : cellsAt w b off [.slice x.a x.bs.length x.c]
  row : RowAt w x.a (x.bs.map bV)
  cap : x.bs.length ≤ x.c
  small : x.c ≤ maxLen
theorem ImAt.below {w w' : World} {b off : Nat} {x : Im} (h : ImAt w b off x) (hb : Below w.heap.size w w') : ImAt w' b off x := ⟨cellsAt_below h.cell hb (Nat.le_refl _), h.row.below hb (Nat.le_refl _), h.cap, h.small⟩
theorem im_elem {w : World} (cs' : List Value) (b off : Nat) (hl : cs'.length = 1) (hc : cellsAt w b off cs') (h : shBytes.Has w cs') : ∃ x, ImAt w b off x := by
  obtain ⟨bs, a, c, rfl, h1, h2, h3⟩ := has_bytes h
  exact ⟨⟨a, c, bs⟩, hc, h3, h1, h2⟩
theorem open_imgs {H : Type} {enc : TypeId × Value → H} {P : Program} {W : World} {t : TypeId} {v : Value} {d : DataW H} {p : List MemPlace} (hf : fitsB P (.slice shBytes 1) t = true) (hv : ∃ a l c, v = .slice a l c) (h : DataW.Trod enc P W 0 (fun _ => true) true t v d p) :
    ∃ (xs : List Im) (a : Option Addr) (c : Nat), v = .slice a xs.length c ∧ RowsAt ImAt 1 W a xs ∧ xs.length ≤ c ∧ c ≤ maxLen := open_rows (by decide) im_elem hf hv h
abbrev Ims (w : World) (a : Option Addr) (xs : List Im) : Prop := RowsAt ImAt 1 w a xs
theorem Ims.below {w w' : World} {a : Option Addr} {xs : List Im} (h : Ims w a xs) (hb : Below w.heap.size w w') : Ims w' a xs := RowsAt.mono h fun _ _ _ q => q.below hb
theorem ims_get {w : World} {a : Option Addr} {xs : List Im} (hx : Ims w a xs) (i : Nat) (hi : i < xs.length) {wx : World} (B : Below w.heap.size w wx) : ∃ b off, a = some ⟨b, off, none⟩ ∧ ImAt wx b (off + i * 1) xs[i] := by
  obtain ⟨b, off, ha, hc⟩ := RowsAt.get (Ims.below hx B) hi
  exact ⟨b, off, ha, hc⟩
/-- A row of texts. -/
structure Gp where
  a : Option Addr
  c : Nat
  ims : List Im
structure GpAt (w : World) (b off : Nat) (x : Gp) : Prop where
  cell : cellsAt w b off [.slice x.a x.ims.length x.c]
  row : Ims w x.a x.ims
  cap : x.ims.length ≤ x.c
  small : x.c ≤ maxLen
theorem GpAt.below {w w' : World} {b off : Nat} {x : Gp} (h : GpAt w b off x) (hb : Below w.heap.size w w') : GpAt w' b off x := ⟨cellsAt_below h.cell hb (Nat.le_refl _), h.row.below hb, h.cap, h.small⟩
def shIms : Sh := .slice shBytes 1
theorem gp_elem {w : World} (cs' : List Value) (b off : Nat) (hl : cs'.length = 1) (hc : cellsAt w b off cs') (h : shIms.Has w cs') : ∃ x, GpAt w b off x := by
  obtain ⟨xs, a, c, rfl, h1, h2, h3⟩ := has_rows (R := ImAt) (by decide) im_elem h
  exact ⟨⟨a, c, xs⟩, hc, h3, h1, h2⟩
theorem open_gps {H : Type} {enc : TypeId × Value → H} {P : Program} {W : World} {t : TypeId} {v : Value} {d : DataW H} {p : List MemPlace} (hf : fitsB P (.slice shIms 1) t = true) (hv : ∃ a l c, v = .slice a l c) (h : DataW.Trod enc P W 0 (fun _ => true) true t v d p) :
    ∃ (xs : List Gp) (a : Option Addr) (c : Nat), v = .slice a xs.length c ∧ RowsAt GpAt 1 W a xs ∧ xs.length ≤ c ∧ c ≤ maxLen := open_rows (by decide) gp_elem hf hv h
abbrev Gps (w : World) (a : Option Addr) (xs : List Gp) : Prop := RowsAt GpAt 1 w a xs
theorem Gps.below {w w' : World} {a : Option Addr} {xs : List Gp} (h : Gps w a xs) (hb : Below w.heap.size w w') : Gps w' a xs := RowsAt.mono h fun _ _ _ q => q.below hb
theorem gps_get {w : World} {a : Option Addr} {xs : List Gp} (hx : Gps w a xs) (i : Nat) (hi : i < xs.length) {wx : World} (B : Below w.heap.size w wx) : ∃ b off, a = some ⟨b, off, none⟩ ∧ GpAt wx b (off + i * 1) xs[i] := by
  obtain ⟨b, off, ha, hc⟩ := RowsAt.get (Gps.below hx B) hi
  exact ⟨b, off, ha, hc⟩
/-! Bools. -/
theorem bool_el {w : World} (cs' : List Value) (b off : Nat) (hl : cs'.length = 1) (hc : cellsAt w b off cs') (h : Sh.bool.Has w cs') : ∃ z : Bool, cellsAt w b off [.bool z] := by
  obtain ⟨x, hx⟩ := h
  match cs', hl with
  | [v0], _ =>
    simp at hx
    subst hx
    exact ⟨x, hc⟩
theorem rows_bl {w : World} {a : Option Addr} {zs : List Bool} (h : RowsAt (fun w b off (z : Bool) => cellsAt w b off [.bool z]) 1 w a zs) : RowAt w a (zs.map Value.bool) := by
  rcases h with h | ⟨b, off, ha, h⟩
  · subst h; exact .inl rfl
  · refine .inr ⟨b, off, ha, fun i v hv => ?_⟩
    rw [List.getElem?_map, Option.map_eq_some_iff] at hv
    obtain ⟨z, hz, rfl⟩ := hv
    have := cellsAt_get (h i z hz) 0 _ rfl
    rwa [Nat.mul_one, Nat.add_zero] at this
theorem open_bls {H : Type} {enc : TypeId × Value → H} {P : Program} {W : World} {t : TypeId} {v : Value} {d : DataW H} {p : List MemPlace} (hf : fitsB P (.slice .bool 1) t = true) (hv : ∃ a l c, v = .slice a l c) (h : DataW.Trod enc P W 0 (fun _ => true) true t v d p) :
    ∃ (xs : List Bool) (a : Option Addr) (c : Nat), v = .slice a xs.length c ∧ RowsAt (fun w b off (z : Bool) => cellsAt w b off [.bool z]) 1 W a xs ∧ xs.length ≤ c ∧ c ≤ maxLen := open_rows (by decide) bool_el hf hv h
/-- Texts or rows of texts, a number, what is kept. -/
structure Fl (α : Type) where
  a : Option Addr
  c : Nat
  xs : List α
  off : Int
  ka : Option Addr
  kc : Nat
  kept : List Bool
structure FlAt {α : Type} (R : World → Option Addr → List α → Prop) (w : World) (b off : Nat) (x : Fl α) : Prop where
  cell : cellsAt w b off [.slice x.a x.xs.length x.c, .int .i64 x.off, .slice x.ka x.kept.length x.kc]
  row : R w x.a x.xs
  kept : RowAt w x.ka (x.kept.map Value.bool)
  cap : x.xs.length ≤ x.c
  small : x.c ≤ maxLen
def shFl (e : Sh) : Sh := .agg (.fcons 0 1 e (.fcons 1 1 (.int .i64) (.fcons 2 1 (.slice .bool 1) .fnil)))
theorem fl_elem {α : Type} {R : World → Nat → Nat → α → Prop} {e : Sh} (el : ∀ {w : World} (cs' : List Value) (b off : Nat), cs'.length = 1 → cellsAt w b off cs' → e.Has w cs' → ∃ x, R w b off x) {w : World} (cs' : List Value) (b off : Nat) (hl : cs'.length = 3) (hc : cellsAt w b off cs') (h : (shFl (.slice e 1)).Has w cs') :
    ∃ x, FlAt (fun w a xs => RowsAt R 1 w a xs) w b off x := by
  obtain ⟨h0, ⟨x1, h1, _⟩, h2, _⟩ := h
  obtain ⟨xs, a, c, p1, p2, p3, p4⟩ := has_rows (R := R) (by decide) el h0
  obtain ⟨ks, ka, kc, q1, q2, q3, q4⟩ := has_rows (R := fun w b off (z : Bool) => cellsAt w b off [.bool z]) (by decide) bool_el h2
  match cs', hl with
  | [v0, v1, v2], _ =>
    simp at p1 h1 q1
    subst p1; subst h1; subst q1
    exact ⟨⟨a, c, xs, x1, ka, kc, ks⟩, hc, p4, rows_bl q4, p2, p3⟩
abbrev FlI := FlAt (fun w a xs => RowsAt ImAt 1 w a xs)
abbrev FlG := FlAt (fun w a xs => RowsAt GpAt 1 w a xs)
theorem open_fli {H : Type} {enc : TypeId × Value → H} {P : Program} {W : World} {t : TypeId} {v : Value} {d : DataW H} {p : List MemPlace} (hf : fitsB P (.slice (shFl (.slice shBytes 1)) 3) t = true) (hv : ∃ a l c, v = .slice a l c) (h : DataW.Trod enc P W 0 (fun _ => true) true t v d p) :
    ∃ (xs : List (Fl Im)) (a : Option Addr) (c : Nat), v = .slice a xs.length c ∧ RowsAt FlI 3 W a xs ∧ xs.length ≤ c ∧ c ≤ maxLen := open_rows (by decide) (fl_elem im_elem) hf hv h
theorem open_flg {H : Type} {enc : TypeId × Value → H} {P : Program} {W : World} {t : TypeId} {v : Value} {d : DataW H} {p : List MemPlace} (hf : fitsB P (.slice (shFl (.slice shIms 1)) 3) t = true) (hv : ∃ a l c, v = .slice a l c) (h : DataW.Trod enc P W 0 (fun _ => true) true t v d p) :
    ∃ (xs : List (Fl Gp)) (a : Option Addr) (c : Nat), v = .slice a xs.length c ∧ RowsAt FlG 3 W a xs ∧ xs.length ≤ c ∧ c ≤ maxLen := open_rows (by decide) (fl_elem gp_elem) hf hv h
theorem FlI.below {w w' : World} {b off : Nat} {x : Fl Im} (h : FlI w b off x) (hb : Below w.heap.size w w') : FlI w' b off x := ⟨cellsAt_below h.cell hb (Nat.le_refl _), Ims.below h.row hb, h.kept.below hb (Nat.le_refl _), h.cap, h.small⟩
theorem FlG.below {w w' : World} {b off : Nat} {x : Fl Gp} (h : FlG w b off x) (hb : Below w.heap.size w w') : FlG w' b off x := ⟨cellsAt_below h.cell hb (Nat.le_refl _), Gps.below h.row hb, h.kept.below hb (Nat.le_refl _), h.cap, h.small⟩
theorem fli_get {w : World} {a : Option Addr} {xs : List (Fl Im)} (hx : RowsAt FlI 3 w a xs) (i : Nat) (hi : i < xs.length) {wx : World} (B : Below w.heap.size w wx) : ∃ b off, a = some ⟨b, off, none⟩ ∧ FlI wx b (off + i * 3) xs[i] := by
  obtain ⟨b, off, ha, hc⟩ := RowsAt.get (RowsAt.mono hx fun _ _ _ q => FlI.below q B) hi
  exact ⟨b, off, ha, hc⟩
theorem flg_get {w : World} {a : Option Addr} {xs : List (Fl Gp)} (hx : RowsAt FlG 3 w a xs) (i : Nat) (hi : i < xs.length) {wx : World} (B : Below w.heap.size w wx) : ∃ b off, a = some ⟨b, off, none⟩ ∧ FlG wx b (off + i * 3) xs[i] := by
  obtain ⟨b, off, ha, hc⟩ := RowsAt.get (RowsAt.mono hx fun _ _ _ q => FlG.below q B) hi
  exact ⟨b, off, ha, hc⟩
end Go.Proofs.Ytpfmadinijofeaa
end
section
/- The program's log: numbers, labels, whole sectors, a group's bytes; walked. -/
namespace Go.Proofs.Ytpfmadinijofeaa
open Go.RowKit
theorem fnum_on {w0 w : World} (B : Bs w0 w) {n1 c : Nat} {a : Option Addr} {xs : List UInt8} (o : Own w n1 5 1 (.slice a xs.length c) xs.length (xs.map bV)) (h1 : w0.heap.size ≤ n1) (h2 : n1 ≤ w.heap.size) (hl : xs.length ≤ 1000000) (n k : Nat) (hk : k ≤ 8) :
    Calls Try.prog 82 #[.slice a xs.length c, .int .u64 (n : Int), .int .i64 (k : Int)] w fun e w' => NewB w0 n1 (xs ++ beB n k) e w' ∧ w.heap.size ≤ w'.heap.size := by
  refine (GFr.number_calls a xs.length c n k w (fun v w' => ∃ a c, v = .slice a (xs ++ beB n k).length c ∧ Own w' n1 5 1 (.slice a (xs ++ beB n k).length c) (xs ++ beB n k).length ((xs ++ beB n k).map bV) ∧ Bs w0 w' ∧ w.heap.size ≤ w'.heap.size) ?_).mono (by rintro e w' ⟨v, rfl, a, c, rfl, h1, h2, h3⟩; exact ⟨⟨a, c, rfl, h1, h2⟩, h3⟩)
  unfold GFr.number_vc
  refine ⟨fun a2 m c2 x w2 => ∃ j : Nat, j ≤ k ∧ x = (k : Int) - 1 - j ∧ m = (xs ++ beJ n k j).length ∧ Own w2 n1 5 1 (.slice a2 m c2) m ((xs ++ beJ n k j).map bV) ∧ Bs w0 w2 ∧ w.heap.size ≤ w2.heap.size, fun _ _ _ x _ => (x + 1).toNat, ⟨0, by omega, by rw [wr64 (by omega) (by omega)]; omega, by simp [beJ], by simpa [beJ] using o, B, Nat.le_refl _⟩, ?_⟩
  rintro a2 m c2 x w2 ⟨j, hj, rfl, rfl, o2, B2, z2⟩
  refine br_dec (fun h => ?_) fun h => ?_
  · have hl2 : (xs ++ beJ n k j).length = xs.length + j := by rw [List.length_append, beJ_len]
    obtain ⟨x, hx⟩ : ∃ x : Nat, (k : Int) - 1 - j = (x : Int) := ⟨k - 1 - j, by omega⟩
    rw [hx]
    refine ⟨by rw [wr64 (by omega) (by omega)]; omega, appU B2 o2 h1 (Nat.le_trans h2 z2) (by omega) (b := UInt8.ofNat (n / 2 ^ (8 * x) % 256)) (by rw [numByte n x (by omega)]; rfl) (fun g hg => by cases hg) fun a' c' w3 o3 B3 z3 => ⟨⟨j + 1, by omega, by rw [wr64 (by omega) (by omega)]; omega, ?_, ?_, B3, Nat.le_trans z2 z3⟩, by dsimp only; rw [wr64 (by omega) (by omega)]; omega⟩⟩
    · simp only [List.length_append, beJ_succ, List.length_singleton]; omega
    · rw [beJ_succ, show k - 1 - j = x by omega, ← List.append_assoc]
      exact o3
  · obtain rfl : j = k := by omega
    exact ⟨a2, c2, rfl, o2, B2, z2⟩

theorem row_lt {w : World} {a : Option Addr} {vs : List Value} (h : RowAt w a vs) (hne : vs ≠ []) : ∀ q, a = some q → q.block < w.heap.size := fun q hq => by
  rcases h with h | ⟨b, off, rfl, hc⟩
  · exact absurd h hne
  · injection hq with hq
    subst hq
    cases vs with
    | nil => exact absurd rfl hne
    | cons v r =>
      have h0 := hc 0 v rfl
      rcases Nat.lt_or_ge b w.heap.size with h' | h'
      · exact h'
      · simp [World.cell?, Array.getElem?_eq_none h'] at h0
theorem row_in {w wx : World} {a : Option Addr} {bs : List UInt8} (h : RowAt w a (bs.map bV)) (B : Bs w wx) : ∃ M, In wx M a bs ∧ ∀ k ∈ M, k < w.heap.size := by
  cases a with
  | none => exact ⟨[], ⟨h.bs B, fun _ h => (by cases h)⟩, fun k hk => by cases hk⟩
  | some q =>
    by_cases hb : bs = []
    · exact ⟨[], ⟨h.bs B, fun _ _ h => absurd hb h⟩, fun k hk => by cases hk⟩
    · exact ⟨[q.block], ⟨h.bs B, fun ad h _ => by injection h with h; rw [h]; exact List.mem_singleton_self _⟩, fun k hk => by rw [List.mem_singleton] at hk; rw [hk]; exact row_lt h (by simpa using hb) q rfl⟩
theorem fpad_on {w0 w : World} (B : Bs w0 w) {n1 c : Nat} {a : Option Addr} {xs : List UInt8} (o : Own w n1 5 1 (.slice a xs.length c) xs.length (xs.map bV)) (h1 : w0.heap.size ≤ n1) (h2 : n1 ≤ w.heap.size) (hl : xs.length ≤ 10000000) :
    Calls Try.prog 64 #[.slice a xs.length c] w fun e w' => NewB w0 n1 (bodyB xs) e w' ∧ w.heap.size ≤ w'.heap.size := by
  refine (GFr.pad_calls a xs.length c w (fun v w' => ∃ a c, v = .slice a (bodyB xs).length c ∧ Own w' n1 5 1 (.slice a (bodyB xs).length c) (bodyB xs).length ((bodyB xs).map bV) ∧ Bs w0 w' ∧ w.heap.size ≤ w'.heap.size) ?_).mono (by rintro e w' ⟨v, rfl, a, c, rfl, h1, h2, h3⟩; exact ⟨⟨a, c, rfl, h1, h2⟩, h3⟩)
  unfold GFr.pad_vc
  refine ⟨fun a3 m c3 wx => ∃ j : Nat, j ≤ (64 - xs.length % 64) % 64 ∧ m = (xs ++ zerosB j).length ∧ Own wx n1 5 1 (.slice a3 m c3) m ((xs ++ zerosB j).map bV) ∧ Bs w0 wx ∧ w.heap.size ≤ wx.heap.size, fun _ m _ _ => xs.length + 64 - m, ⟨0, Nat.zero_le _, by simp [zerosB], by simpa [zerosB] using o, B, Nat.le_refl _⟩, ?_⟩
  rintro a3 m c3 wx ⟨j, hj, rfl, ox, Bx, zx⟩
  have hl2 : (xs ++ zerosB j).length = xs.length + j := by rw [List.length_append, zerosB_len]
  refine ⟨by decide, ?_⟩
  rw [tmod64]
  refine br_dec (fun h => ?_) fun h => ?_
  · refine appU Bx ox h1 (Nat.le_trans h2 zx) (by omega) (b := 0) rfl (fun q hq => by cases hq) fun a4 c4 w4 o4 B4 z4 => ⟨⟨j + 1, by omega, ?_, ?_, B4, Nat.le_trans zx z4⟩, by dsimp only; omega⟩
    · rw [List.length_append, List.length_append, zerosB_len, zerosB_len]; omega
    · rw [zerosB_succ, ← List.append_assoc]; exact o4
  · obtain rfl : j = (64 - xs.length % 64) % 64 := by omega
    exact ⟨a3, c3, rfl, ox, Bx, zx⟩
theorem fsec_ret (n : Nat) (hn : n ≤ 1000000000) (w : World) : Calls Try.prog 61 #[.int .i64 (n : Int)] w (Ret (.int .i64 (secN n : Nat)) w) := by
  refine ret_in (GFr.sectors_calls n w (fun u w' => u = .int .i64 (secN n : Nat) ∧ Below w.heap.size w w') ?_)
  unfold GFr.sectors_vc secN
  refine br_dec (fun h => ⟨by rw [if_pos (by omega)]; rfl, Bs.refl _⟩) fun h => ⟨by decide, ?_, Bs.refl _⟩
  rw [if_neg (by omega), wr64 (z := (n : Int) - 39) (by omega) (by omega), wr64 (z := (n : Int) - 39 + 63) (by omega) (by omega), wr64 (z := (n : Int) - 39 + 63 - 1) (by omega) (by omega)]
  rw [Int.tdiv_eq_ediv_of_nonneg (by omega), wr64 (z := ((n : Int) - 39 + 63 - 1) / 63) (by omega) (by omega), wr64 (by omega) (by omega)]
  congr 1
  omega
theorem label_new (gen n : Nat) (hg : gen < 9223372036854775808) (hn : n < 9223372036854775808) {a : Option Addr} {c : Nat} {b : List UInt8} (w : World) (hr : RowAt w a (b.map bV)) (hl : b.length ≤ 10000000) (hc : b.length ≤ c) :
    Calls Try.prog 63 #[.int .i64 (gen : Int), .int .i64 (n : Int), .slice a b.length c] w (NewB w w.heap.size (labelB gen n b)) := by
  refine (GFr.label_calls gen n a b.length c w (fun v w' => ∃ a c, v = .slice a (labelB gen n b).length c ∧ Own w' w.heap.size 5 1 (.slice a (labelB gen n b).length c) (labelB gen n b).length ((labelB gen n b).map bV) ∧ Bs w w') ?_).mono (by rintro e w' ⟨v, rfl, a, c, rfl, h⟩; exact ⟨a, c, rfl, h⟩)
  unfold GFr.label_vc
  rw [wru64 (by omega) (by omega), wru64 (by omega) (by omega), wru64 (by omega) (by omega)]
  refine (fnum_on (Bs.refl w) (xs := []) (Own.nil w w.heap.size 5 1) (Nat.le_refl _) (Nat.le_refl _) (by simp) gen 8 (by omega)).mono ?_
  rintro e w2 ⟨⟨a2, c2, rfl, o2, B2⟩, z2⟩
  rw [List.nil_append] at o2 ⊢
  refine ⟨keepG_nil _ _, a2, _, c2, rfl, (fnum_on B2 o2 (Nat.le_refl _) z2 (by rw [beB_len]; omega) n 8 (by omega)).mono ?_⟩
  rintro e w3 ⟨⟨a3, c3, rfl, o3, B3⟩, z3⟩
  refine ⟨keepG_nil _ _, a3, _, c3, rfl, (fnum_on B3 o3 (Nat.le_refl _) B3.size (by rw [List.length_append, beB_len, beB_len]; omega) b.length 4 (by omega)).mono ?_⟩
  rintro e w4 ⟨⟨a4, c4, he, o4, B4⟩, z4⟩
  rw [show beB gen 8 ++ beB n 8 ++ beB b.length 4 = labH gen n b.length from rfl] at he o4
  subst he
  have hpl := labH_len gen n b.length
  refine ⟨keepG_nil _ _, a4, _, c4, rfl, newB B4 fun g w5 g0 sg n5 z5 b5 B5 => ?_⟩
  have o5 := o4.below b5 (Nat.le_refl _)
  have hp : PartsAt w5 (some ⟨g, 0, none⟩) [labH gen n b.length, b] := by
    refine ⟨[(a4, c4), (a, c)], RowAt.ofWhole n5, rfl, fun v p hm => ?_⟩
    simp at hm
    rcases hm with ⟨rfl, rfl⟩ | ⟨rfl, rfl⟩
    · exact ⟨o5.row, o5.cap.1, by unfold maxLen; omega⟩
    · exact ⟨hr.below B5 (Nat.le_refl _), hc, by unfold maxLen; omega⟩
  refine (csum_any (some ⟨g, 0, none⟩) 2 [labH gen n b.length, b] w5 (by show 2 ≤ maxLen; decide) hp).mono ?_
  rintro e w6 ⟨rfl, b6⟩
  have B6 := B5.to b6
  have o6 := o5.below b6 (Nat.le_refl _)
  have hcr : crcP 0 [labH gen n b.length, b] = more 0 (labH gen n b.length ++ b) := by
    rw [crcP_join]
    simp
  have hlt : more 0 (labH gen n b.length ++ b) < 4294967296 := more_lt _ (by omega)
  rw [hcr]
  refine ⟨keepG_nil _ _, _, rfl, ?_⟩
  rw [show IntKind.u64.wrap ((more 0 (labH gen n b.length ++ b) : Nat) : Int) = ((more 0 (labH gen n b.length ++ b) : Nat) : Int) from wru64 (by omega) (by omega)]
  refine (fnum_on B6 o6 (Nat.le_refl _) B6.size (by omega) (more 0 (labH gen n b.length ++ b)) 4 (by omega)).mono ?_
  rintro e w7 ⟨⟨a7, c7, he, o7, B7⟩, z7⟩
  rw [show labH gen n b.length ++ beB (more 0 (labH gen n b.length ++ b)) 4 = labelB gen n b from rfl] at he o7
  subst he
  exact ⟨keepG_nil _ _, a7, _, c7, rfl, a7, c7, rfl, o7, B7⟩
def recs (xs : List Im) : Grp := xs.map (·.bs)
theorem grpB_take (g : Grp) {k : Nat} (hk : k < g.length) : grpB (g.take (k + 1)) = grpB (g.take k) ++ textB g[k] := by
  unfold grpB
  rw [List.take_add_one, List.getElem?_eq_getElem hk, List.flatMap_append]
  simp
theorem grpB_le (g : Grp) (k : Nat) : (grpB (g.take k)).length ≤ (grpB g).length := by
  have e : grpB g = grpB (g.take k) ++ grpB (g.drop k) := by
    unfold grpB
    rw [← List.flatMap_append, List.take_append_drop]
  rw [e, List.length_append]
  omega
theorem fbody_new {a : Option Addr} {c : Nat} {xs : List Im} (w : World) (hx : Ims w a xs) (hn : xs.length ≤ 1000000) (hl : (grpB (recs xs)).length ≤ 1000000) (hl2 : ∀ x, x ∈ xs → x.bs.length ≤ 1000000) :
    Calls Try.prog 60 #[.slice a xs.length c] w (NewB w w.heap.size (grpB (recs xs))) := by
  refine (GFr.body_calls a xs.length c w (fun v w' => ∃ a c, v = .slice a (grpB (recs xs)).length c ∧ Own w' w.heap.size 5 1 (.slice a (grpB (recs xs)).length c) (grpB (recs xs)).length ((grpB (recs xs)).map bV) ∧ Bs w w') ?_).mono (by rintro e w' ⟨v, rfl, a, c, rfl, h⟩; exact ⟨a, c, rfl, h⟩)
  unfold GFr.body_vc
  have hgl : (recs xs).length = xs.length := by simp [recs]
  refine newB (Bs.refl w) fun g w2 g0 sg n2 z2 b2 B2 => ?_
  have hw := WP.make (w := w2) (g := g) n2 rfl
  have hf : From w.heap.size [g] := fun k hk => by rw [List.mem_singleton] at hk; omega
  refine ⟨fun x wx => ∃ k : Nat, x = k ∧ k ≤ xs.length ∧ WP w2 [g] wx g (grpB ((recs xs).take k)) false, fun x _ => (xs.length - x).toNat, ⟨0, rfl, Nat.zero_le _, by simpa [grpB] using hw⟩, ?_⟩
  rintro x wx ⟨k, rfl, hk, hwx⟩
  have Bx := hwx.old B2 hf
  refine br_dec (fun hlt => ?_) fun hge => ?_
  · have hk' : k < xs.length := by omega
    obtain ⟨b, off, ha, hi⟩ := ims_get hx k hk' Bx
    refine withP_mk b off ha ⟨by omega, by omega, _, _, _, by rw [Int.toNat_natCast]; exact cellsAt_get hi.cell 0 _ rfl, ?_⟩
    obtain ⟨b', off', _, hi'⟩ := ims_get hx k hk' (Bs.refl w)
    obtain ⟨M, hM, hMl⟩ := row_in hi'.row Bx
    have hk1 : IntKind.i64.wrap ((k : Int) + 1) = ((k + 1 : Nat) : Int) := by rw [wr64 (by omega) (by omega)]; omega
    refine hwx.call (bs' := grpB ((recs xs).take (k + 1))) (bad' := false) (fun K hK hg => ?_) (fun x hx => by cases hx) fun w1 hw1 z1 => ⟨rfl, ⟨k + 1, hk1, by omega, hw1⟩, by dsimp only; rw [hk1]; omega⟩
    have hgk : (recs xs)[k]'(by omega) = xs[k].bs := by simp [recs]
    rw [grpB_take (recs xs) (by omega), hgk]
    refine wText_any g xs[k].a xs[k].c xs[k].bs M _ false K wx hK hM (fun q hq => by have := hMl q hq; have := Bx.size; omega) (fun q hq hq2 => ?_) (by have := grpB_le (recs xs) k; omega) (by have := hl2 xs[k] (List.getElem_mem hk'); omega)
    have h1 := hMl q hq
    rcases hg q hq2 with h | h
    · rw [List.mem_singleton] at h; omega
    · omega
  · obtain rfl : k = xs.length := by omega
    rw [List.take_of_length_le (by omega)] at hwx
    obtain ⟨⟨K, h1, h2⟩, h3, h4⟩ := hwx
    refine (wBytes_any g _ false K wx h1 (by omega)).mono ?_
    rintro e w3 ⟨v, rfl, o3, b3⟩
    obtain ⟨a3, c3, rfl⟩ := o3.isSlice
    exact ⟨keepG_nil _ _, a3, _, c3, _, rfl, a3, c3, rfl, o3.base_le fun q hq => Nat.le_trans Bx.size (o3.lt q hq).1, Bx.to b3⟩
end Go.Proofs.Ytpfmadinijofeaa
end
section
/- The program's log: rows of texts of one's own, records; walked. -/
namespace Go.Proofs.Ytpfmadinijofeaa
open Go.RowKit
theorem Own.blk {w : World} {b n size : Nat} {e : TypeId} {v : Value} {xs : List Value} (h : Own w b e size v n xs) {q : Nat} (hq : v.ownBlock = some q) : ∃ cur, w.heap[q]? = some (.cells cur e (0, 0)) := by
  rcases h.2 with ⟨rfl, _⟩ | ⟨g, off, cap, cur, rfl, _, hg, _⟩
  · cases hq
  · injection hq with hq; subst hq; exact ⟨cur, hg⟩
theorem own_kinds {w : World} {b1 b2 n1 n2 s1 s2 : Nat} {e1 e2 : TypeId} {v1 v2 : Value} {xs ys : List Value} (h1 : Own w b1 e1 s1 v1 n1 xs) (h2 : Own w b2 e2 s2 v2 n2 ys) (hne : e1 ≠ e2) {q : Nat} (hq : v1.ownBlock = some q) : v2.ownBlock ≠ some q := fun hq2 => by
  obtain ⟨c1, k1⟩ := h1.blk hq
  obtain ⟨c2, k2⟩ := h2.blk hq2
  rw [k1] at k2
  injection k2 with k2
  injection k2 with _ k2
  exact hne k2
theorem Own.capC {w : World} {b n size c : Nat} {e : TypeId} {a : Option Addr} {xs : List Value} (h : Own w b e size (.slice a n c) n xs) : c ≤ maxLen := by
  rcases h.2 with ⟨hv, _⟩ | ⟨g, off, cap, cur, hv, _, _, _, hm, _⟩
  · injection hv with _ _ hv; rw [hv]; exact Nat.zero_le _
  · injection hv with _ _ hv; rw [hv]; exact hm
def slV (x : Im) : Value := .slice x.a x.bs.length x.c
/-- A row of texts, all in blocks of their own from n1 on. -/
structure OwnR (w : World) (n1 : Nat) (a : Option Addr) (c : Nat) (xs : List Im) : Prop where
  own : Own w n1 22 1 (.slice a xs.length c) xs.length (xs.map slV)
  rows : ∀ x, x ∈ xs → Own w n1 5 1 (.slice x.a x.bs.length x.c) x.bs.length (x.bs.map bV)
section
variable {w w' : World} {n1 c : Nat} {a : Option Addr} {xs : List Im}
theorem OwnR.nil (w : World) (n1 : Nat) : OwnR w n1 none 0 [] := ⟨Own.nil _ _ _ _, fun x hx => by cases hx⟩
theorem OwnR.keep (h : OwnR w n1 a c xs) (hk : ∀ k, n1 ≤ k → k < w.heap.size → w'.heap[k]? = w.heap[k]?) : OwnR w' n1 a c xs :=
  ⟨h.own.keep fun k hv => hk k (h.own.lt k hv).1 (h.own.lt k hv).2, fun x hx => (h.rows x hx).keep fun k hv => hk k ((h.rows x hx).lt k hv).1 ((h.rows x hx).lt k hv).2⟩
theorem OwnR.below (h : OwnR w n1 a c xs) (hb : Below w.heap.size w w') : OwnR w' n1 a c xs := h.keep fun k _ h2 => hb.block k h2
theorem OwnR.base (h : OwnR w n1 a c xs) {n0 : Nat} (hn : n0 ≤ n1) : OwnR w n0 a c xs := ⟨h.own.base_le fun k hk => Nat.le_trans hn (h.own.lt k hk).1, fun x hx => (h.rows x hx).base_le fun k hk => Nat.le_trans hn ((h.rows x hx).lt k hk).1⟩
theorem OwnR.ims (h : OwnR w n1 a c xs) : Ims w a xs := by
  by_cases he : xs = []
  · exact .inl he
  · have hl : 0 < xs.length := List.length_pos_iff.2 he
    have hown := h.own
    rcases hown.2 with ⟨h0, h1⟩ | ⟨g, off, cap, cur, hv, _⟩
    · omega
    · injection hv with h1 h2 h3
      subst h1
      refine .inr ⟨g, off, rfl, fun i x hx => ⟨cellsAt_of fun j v hj => ?_, (h.rows x (List.mem_of_getElem? hx)).row, (h.rows x (List.mem_of_getElem? hx)).cap.1, (h.rows x (List.mem_of_getElem? hx)).capC⟩⟩
      have hj0 : j = 0 := by
        have := (List.getElem?_eq_some_iff.1 hj).1
        simp at this
        exact this
      subst hj0
      simp at hj
      subst hj
      have := h.own.cells g off c rfl i (slV x) (by rw [List.getElem?_map, hx]; rfl)
      rw [Nat.add_zero, Nat.mul_one]
      exact this
/-- One text more. -/
theorem appR {w0 : World} {gs : List Nat} {x : Im} {v : Value} {K : Nat → Option Addr → Nat → World → Prop} (B : Bs w0 w) (h : OwnR w n1 a c xs) (hx : Own w n1 5 1 (.slice x.a x.bs.length x.c) x.bs.length (x.bs.map bV)) (h1 : w0.heap.size ≤ n1) (h2 : n1 ≤ w.heap.size) (hl : xs.length ≤ 1000000000) (hv : v = slV x) (hg : ∀ g ∈ gs, g < n1)
    (k : ∀ a' c' w2, OwnR w2 n1 a' c' (xs ++ [x]) → Bs w0 w2 → w.heap.size ≤ w2.heap.size → (∀ q, q < w.heap.size → (Value.slice a xs.length c).ownBlock ≠ some q → w2.heap[q]? = w.heap[q]?) → K 1 a' c' w2) :
    newO w (.cells #[v] 22) fun g w1 => appO Try.prog gs w1 22 1 24 44 a xs.length c (.slice (some ⟨g, 0, none⟩) 1 1) K := by
  subst hv
  refine newB B fun g w1 g0 sg n1' z1 b1 B1 => appB B1 (h.own.below b1 (Nat.le_refl _)) h1 (Nat.le_trans h2 b1.size) (src_block (cs := [slV x]) Try.underlying44 n1' rfl rfl) (by unfold maxLen; omega) (by omega) (fun g hg' e => by have := (h.own.lt g e).1; have := hg g hg'; omega) fun a' c' w2 o2 g2 B2 z2 => ?_
  have hne : ∀ (y : Im), (Own w n1 5 1 (.slice y.a y.bs.length y.c) y.bs.length (y.bs.map bV)) → Own w2 n1 5 1 (.slice y.a y.bs.length y.c) y.bs.length (y.bs.map bV) := fun y hy => by
    refine (hy.below b1 (Nat.le_refl _)).keep fun q hq => g2.block q (Nat.lt_of_lt_of_le (hy.lt q hq).2 b1.size) fun e => ?_
    exact own_kinds h.own hy (by decide) e.symm hq
  refine k a' c' w2 ⟨?_, fun y hy => ?_⟩ B2 (Nat.le_trans b1.size z2) fun q hq hq2 => (g2.block q (Nat.lt_of_lt_of_le hq b1.size) fun e => hq2 e.symm).trans (b1.block q hq)
  · rw [List.map_append, List.length_append]
    exact o2
  · rcases List.mem_append.1 hy with hy | hy
    · exact hne y (h.rows y hy)
    · rw [List.mem_singleton] at hy; subst hy; exact hne y hx
end
end Go.Proofs.Ytpfmadinijofeaa
end
section
/- The program's log: what it holds, records, reading sectors, a head's count; walked. -/
namespace Go.Proofs.Ytpfmadinijofeaa
open Go.RowKit
theorem grpB_drop (g : Grp) {k : Nat} (hk : k < g.length) : grpB (g.drop k) = textB g[k] ++ grpB (g.drop (k + 1)) := by
  unfold grpB
  rw [List.drop_eq_getElem_cons hk]
  rfl
theorem textB_gt (t : List UInt8) : t.length < (textB t).length := by
  unfold textB
  rw [List.length_append]
  have := grp_pos t.length
  omega
theorem grpB_one (g : Grp) {k : Nat} (hk : k < g.length) : g[k].length < (grpB g).length ∧ grpB (g.drop k) ≠ [] := by
  have e : grpB g = grpB (g.take k) ++ grpB (g.drop k) := by
    unfold grpB
    rw [← List.flatMap_append, List.take_append_drop]
  have h1 := textB_gt g[k]
  have h2 := grpB_drop g hk
  refine ⟨?_, fun e0 => ?_⟩
  · rw [e, h2, List.length_append, List.length_append]; omega
  · rw [e0] at h2
    have := congrArg List.length h2
    rw [List.length_append, List.length_nil] at this
    omega
theorem grpB_count (g : Grp) : g.length ≤ (grpB g).length := by
  induction g with
  | nil => exact Nat.zero_le _
  | cons t r ih =>
    have e : grpB (t :: r) = textB t ++ grpB r := rfl
    rw [e, List.length_append, List.length_cons]
    have := textB_gt t
    omega
theorem rleft_ret {w : World} {L : List Nat} {g : Nat} {bs : List UInt8} {e : Int} (h : RdAt w L g bs e) : Calls Try.prog 90 #[.pointer (some ⟨g, 0, none⟩)] w (Ret (.int .i64 (bs.length : Int)) w) := by
  obtain ⟨⟨a, c, k1, _, _⟩, _, _⟩ := h
  refine ret_in (GFr.rleft_calls (some ⟨g, 0, none⟩) w (fun u w' => u = .int .i64 (bs.length : Int) ∧ Below w.heap.size w w') ?_)
  unfold GFr.rleft_vc
  exact br_f rfl ⟨a, bs.length, c, by rw [k1.cell]; rfl, rfl, Bs.refl w⟩
theorem records_new {a : Option Addr} {c : Nat} {g : Grp} (w : World) (hr : RowAt w a ((grpB g).map bV)) (hl : (grpB g).length ≤ 1000000) :
    Calls Try.prog 79 #[.slice a (grpB g).length c] w fun e w' => ∃ a' c' xs, e = .returned (.tuple #[.slice a' (xs : List Im).length c', .bool true]) ∧ recs xs = g ∧ OwnR w' w.heap.size a' c' xs ∧ Bs w w' := by
  refine (GFr.records_calls a (grpB g).length c w (fun v w' => ∃ a' c' xs, v = .tuple #[.slice a' (xs : List Im).length c', .bool true] ∧ recs xs = g ∧ OwnR w' w.heap.size a' c' xs ∧ Bs w w') ?_).mono (by rintro e w' ⟨v, rfl, a', c', xs, rfl, h⟩; exact ⟨a', c', xs, rfl, h⟩)
  unfold GFr.records_vc
  have hgc := grpB_count g
  refine (cRead_any a c (grpB g) w hr (by omega)).mono ?_
  rintro e w2 ⟨gr, L, rfl, hR, hF, b2⟩
  have hU := hR.under
  refine ⟨keepG_nil _ _, _, rfl, ?_⟩
  refine ⟨fun a5 n5 c5 wx => ∃ (k : Nat) (xs : List Im), k ≤ g.length ∧ n5 = xs.length ∧ recs xs = g.take k ∧ RdAt wx L gr (grpB (g.drop k)) 0 ∧ OwnR wx w2.heap.size a5 c5 xs ∧ Bs w wx ∧ w2.heap.size ≤ wx.heap.size, fun _ n5 _ _ => g.length - n5, ⟨0, [], Nat.zero_le _, rfl, rfl, hR, OwnR.nil _ _, b2, Nat.le_refl _⟩, ?_⟩
  rintro a5 n5 c5 wx ⟨k, xs, hk, rfl, hxs, hRx, hO, Bx, zx⟩
  have hlen : xs.length = k := by
    have := congrArg List.length hxs
    rw [List.length_take] at this
    simp [recs] at this
    omega
  have fin : k = g.length → ∀ wy, Below wx.heap.size wx wy → GFr.records_k1 (fun v w' => ∃ a' c' xs, v = .tuple #[.slice a' (xs : List Im).length c', .bool true] ∧ recs xs = g ∧ OwnR w' w.heap.size a' c' xs ∧ Bs w w') (some ⟨gr, 0, none⟩) a5 xs.length c5 wy := fun e wy by' => by
    subst e
    unfold GFr.records_k1
    rw [List.drop_length] at hRx
    have hRy := hRx.keep (fun q hq => by'.block q (hRx.under q hq)) by'.size
    refine (rEnd_any gr _ 0 L wy hRy (by show 0 ≤ _; omega)).mono ?_
    rintro e w3 ⟨rfl, rfl⟩
    refine ⟨keepG_nil _ _, _, rfl, a5, c5, xs, rfl, by rw [hxs, List.take_length], (hO.below by').base b2.size, Bx.to by'⟩
  refine callB Bx (rleft_ret hRx) fun w3 b3 B3 => ⟨_, rfl, ?_⟩
  by_cases hkg : k = g.length
  · refine br_n (by rw [hkg, List.drop_length]; show ¬ ((0 : Nat) : Int) > 0; omega) (fin hkg w3 b3)
  · obtain ⟨hsz, hne⟩ := grpB_one g (k := k) (by omega)
    have hpos : 0 < (grpB (g.drop k)).length := List.length_pos_iff.2 hne
    have hle : (grpB (g.drop k)).length ≤ (grpB g).length := by
      have e : grpB g = grpB (g.take k) ++ grpB (g.drop k) := by
        unfold grpB
        rw [← List.flatMap_append, List.take_append_drop]
      rw [e, List.length_append]; omega
    refine br_y (by omega) ?_
    have hR3 := hRx.keep (fun q hq => b3.block q (hRx.under q hq)) b3.size
    refine (rEnd_any gr _ 0 L w3 hR3 (by omega)).mono ?_
    rintro e w4 ⟨rfl, rfl⟩
    have e4 : rdEnd (grpB (g.drop k)) 0 = 4 := by unfold rdEnd; rw [if_pos ⟨rfl, hne⟩]
    rw [e4]
    refine ⟨keepG_nil _ _, _, rfl, br_y rfl ?_⟩
    have hck : rdText ((grpB g).length : Int) (grpB (g.drop k)) 0 = (g[k]'(by omega), grpB (g.drop (k + 1)), 0) := by
      rw [grpB_drop g (by omega)]
      exact ck_text (by omega) (by omega) _
    refine (rText_any gr ((grpB g).length : Int) (by omega) (by omega) _ 0 L w4 hR3 (by omega)).mono ?_
    rw [hck]
    rintro e w5 ⟨v, rfl, o5, hR5, f5⟩
    obtain ⟨a6, c6, rfl⟩ := o5.isSlice
    have z4 := b3.size
    have hO5 : OwnR w5 w2.heap.size a5 c5 xs := (hO.below b3).keep fun q h1 h2 => f5.block q h2 fun hm => by have := hU q hm; omega
    have B5 : Bs w w5 := B3.fr f5 hF
    have z5 := f5.size
    refine ⟨keepG_nil _ _, a6, _, c6, rfl, ?_⟩
    refine appR (x := ⟨a6, c6, g[k]'(by omega)⟩) B5 hO5 (o5.base_le fun q hq => by have := (o5.lt q hq).1; omega) b2.size (by omega) (by omega) rfl (fun q hq => by cases hq) fun a7 c7 w7 O7 B7 z7 k7 => ⟨⟨k + 1, xs ++ [⟨a6, c6, g[k]'(by omega)⟩], by omega, by simp, ?_, ?_, O7, B7, by omega⟩, by dsimp only; omega⟩
    · show (xs ++ [_]).map _ = _
      rw [List.map_append, show xs.map (·.bs) = g.take k from hxs, List.take_add_one, List.getElem?_eq_getElem (by omega)]
      rfl
    · exact hR5.keep (fun q hq => k7 q (by have := hU q hq; omega) fun e => by have := (hO5.own.lt q e).1; have := hU q hq; omega) z7
/-! The log. -/
def LgAt (w : World) (gl g : Nat) (L : LG) : Prop := Bk w gl #[.pointer (some ⟨g, 0, none⟩), .int .i64 L.first, .int .i64 L.size, .int .i64 L.gen, .int .i64 L.used, .int .i64 L.groups] 114
structure LWf (S : DS) (L : LG) : Prop where
  top : L.first + L.size ≤ S.n
  used : L.used ≤ L.size
  groups : L.groups ≤ L.used
  gen : L.gen < 9223372036854775808
section
variable {w w1 : World} {gl g gd mb : Nat} {L : LG} {S : DS}
theorem LgAt.below (h : LgAt w gl g L) (b : Below w.heap.size w w1) : LgAt w1 gl g L := Bk.below h b
theorem LgAt.bs (h : LgAt w gl g L) (b : Bs w w1) : LgAt w1 gl g L := Bk.below h b
theorem LgAt.cl (h : LgAt w gl g L) : w.cell? ⟨gl, 0, none⟩ = some (.pointer (some ⟨g, 0, none⟩)) ∧ w.cell? ⟨gl, 0 + 1, none⟩ = some (.int .i64 L.first) ∧ w.cell? ⟨gl, 0 + 2, none⟩ = some (.int .i64 L.size) ∧ w.cell? ⟨gl, 0 + 3, none⟩ = some (.int .i64 L.gen) ∧ w.cell? ⟨gl, 0 + 4, none⟩ = some (.int .i64 L.used) ∧ w.cell? ⟨gl, 0 + 5, none⟩ = some (.int .i64 L.groups) := by
  have h : Bk w gl _ _ := h
  refine ⟨?_, ?_, ?_, ?_, ?_, ?_⟩ <;> rw [h.cell] <;> rfl
theorem fleft_ret (h : LgAt w gl g L) (hW : LWf S L) (hn : S.n ≤ 8192) : Calls Try.prog 28 #[.pointer (some ⟨gl, 0, none⟩)] w (Ret (.int .i64 ((L.size - L.used : Nat) : Int)) w) := by
  refine ret_in (GFr.left_calls (some ⟨gl, 0, none⟩) w (fun u w' => u = .int .i64 ((L.size - L.used : Nat) : Int) ∧ Below w.heap.size w w') ?_)
  unfold GFr.left_vc
  have h1 := hW.top
  have h2 := hW.used
  refine br_f rfl (drewB (Bs.refl w) fun w2 b2 B2 e2 => ⟨_, (h.below b2).cl.2.2.1, _, (h.below b2).cl.2.2.2.2.1, ?_, B2⟩)
  rw [wr64 (by omega) (by omega)]
  congr 1
  omega
theorem fgroups_ret (h : LgAt w gl g L) : Calls Try.prog 27 #[.pointer (some ⟨gl, 0, none⟩)] w (Ret (.int .i64 (L.groups : Int)) w) := by
  refine ret_in (GFr.groups_calls (some ⟨gl, 0, none⟩) w (fun u w' => u = .int .i64 (L.groups : Int) ∧ Below w.heap.size w w') ?_)
  unfold GFr.groups_vc
  exact br_f rfl ⟨_, h.cl.2.2.2.2.2, rfl, Bs.refl w⟩
theorem fgen_ret (h : LgAt w gl g L) : Calls Try.prog 29 #[.pointer (some ⟨gl, 0, none⟩)] w (Ret (.int .i64 (L.gen : Int)) w) := by
  refine ret_in (GFr.gen_calls (some ⟨gl, 0, none⟩) w (fun u w' => u = .int .i64 (L.gen : Int) ∧ Below w.heap.size w w') ?_)
  unfold GFr.gen_vc
  exact br_f rfl ⟨_, h.cl.2.2.2.1, rfl, Bs.refl w⟩
theorem fread_new (h : LgAt w gl g L) (t : DkAt w g gd mb S) (hS : DWf S) (hW : LWf S L) (at' n : Nat) (ha : at' ≤ 8192) : Calls Try.prog 77 #[.pointer (some ⟨gl, 0, none⟩), .int .i64 (at' : Int), .int .i64 (n : Int)] w fun e w' => ∃ a m c, e = .returned (.tuple #[.slice a m c, .int .i64 (mayE S ((L.first + at' : Nat) : Int) n)]) ∧ m = (readL S ((L.first + at' : Nat) : Int) n).length ∧ Own w' w.heap.size 5 1 (.slice a m c) m ((readL S ((L.first + at' : Nat) : Int) n).map bV) ∧ Bs w w' := by
  refine (GFr.fread_calls (some ⟨gl, 0, none⟩) at' n w (fun v w' => ∃ a m c, v = .tuple #[.slice a m c, .int .i64 (mayE S ((L.first + at' : Nat) : Int) n)] ∧ m = (readL S ((L.first + at' : Nat) : Int) n).length ∧ Own w' w.heap.size 5 1 (.slice a m c) m ((readL S ((L.first + at' : Nat) : Int) n).map bV) ∧ Bs w w') ?_).mono (by rintro e w' ⟨v, rfl, a, m, c, rfl, h⟩; exact ⟨a, m, c, rfl, h⟩)
  unfold GFr.fread_vc
  have h1 := hW.top
  have h2 := hS.n2
  refine drewB (Bs.refl w) fun w2 b2 B2 e2 => ⟨_, (h.below b2).cl.1, _, (h.below b2).cl.2.1, ?_⟩
  rw [wr64 (by omega) (by omega), show (L.first : Int) + at' = ((L.first + at' : Nat) : Int) by omega]
  refine (dread_new (t.below b2) hS _ _).mono ?_
  rintro e w3 ⟨a, m, c, rfl, hm, o3, b3⟩
  exact ⟨keepG_nil _ _, a, m, c, _, rfl, a, m, c, rfl, hm, o3.base_le fun q hq => Nat.le_trans B2.size (o3.lt q hq).1, B2.to b3⟩
end
end Go.Proofs.Ytpfmadinijofeaa
end
section
/- The program's log: a head's count; walked. -/
namespace Go.Proofs.Ytpfmadinijofeaa
open Go.RowKit
/-- What 'count' tells. -/
structure CntV (L : LG) (bs : List UInt8) (V : Value) : Prop where
  no : bs.take 17 ≠ headP L.gen L.groups → V = .tuple #[.int .i64 0, .bool false]
  yes : bs.take 17 = headP L.gen L.groups → ∃ b, bs = headF L.gen L.groups b ∧ b.length ≤ 10000000 ∧ V = .tuple #[.int .i64 (b.length : Int), .bool (decide (secN b.length ≤ L.size - L.used))]
theorem appUf {w0 w : World} {n1 n c : Nat} {a : Option Addr} {xs : List UInt8} {b : UInt8} {v : Value} {K : Nat → Option Addr → Nat → World → Prop} (B : Bs w0 w) (o : Own w n1 5 1 (.slice a n c) n (xs.map bV)) (h1 : w0.heap.size ≤ n1) (h2 : n1 ≤ w.heap.size) (hl : n ≤ 1000000000) (hv : v = bV b)
    (k : ∀ a' c' w2, Own w2 n1 5 1 (.slice a' (n + 1) c') (n + 1) ((xs ++ [b]).map bV) → Bs w0 w2 → w.heap.size ≤ w2.heap.size → (∀ q, q < w.heap.size → (Value.slice a n c).ownBlock ≠ some q → w2.heap[q]? = w.heap[q]?) → ((Value.slice a' (n + 1) c').ownBlock = (Value.slice a n c).ownBlock ∨ ∃ g, (Value.slice a' (n + 1) c').ownBlock = some g ∧ w.heap.size ≤ g) → K 1 a' c' w2) :
    newO w (.cells #[v] 5) fun g w1 => appO Try.prog [] w1 5 1 1 22 a n c (.slice (some ⟨g, 0, none⟩) 1 1) K := by
  subst hv
  refine newB B fun g w1 g0 sg n1' z1 b1 B1 => ?_
  have o1 := o.below b1 (Nat.le_refl _)
  refine ⟨1, xs.map bV, [bV b], o1.base_le fun _ _ => Nat.zero_le _, src_block (cs := [bV b]) Try.underlying22 n1' rfl rfl, by unfold maxLen; omega, by omega, fun g hg => (by cases hg), fun a' c' w2 o2 g2 or2 _ => ?_⟩
  have z2 := g2.size
  have hn1 : n1 ≤ w1.heap.size := Nat.le_trans h2 b1.size
  refine k a' c' w2 ?_ ⟨g2.os.trans B1.os, g2.tape.trans B1.tape, g2.output.trans B1.output, Nat.le_trans B1.size z2, fun q hq => (g2.block q (by have := B1.size; omega) fun e => by have := (o1.lt q e.symm).1; omega).trans (B1.block q hq)⟩ (Nat.le_trans b1.size z2) (fun q hq hne => (g2.block q (Nat.lt_of_lt_of_le hq b1.size) fun e => hne e.symm).trans (b1.block q hq)) ?_
  · rw [List.map_append]
    refine o2.base_le fun q hq => ?_
    rcases or2 with h | ⟨g', h, h3⟩
    · exact (o1.lt q (h ▸ hq)).1
    · rw [h] at hq; injection hq with hq; omega
  · rcases or2 with h | ⟨g', h, h3⟩
    · exact .inl h
    · exact .inr ⟨g', h, Nat.le_trans b1.size h3⟩
theorem fnum_fr {w0 w : World} (B : Bs w0 w) {n1 c : Nat} {a : Option Addr} {xs : List UInt8} (o : Own w n1 5 1 (.slice a xs.length c) xs.length (xs.map bV)) (h1 : w0.heap.size ≤ n1) (h2 : n1 ≤ w.heap.size) (hl : xs.length ≤ 1000000) (n k : Nat) (hk : k ≤ 8) :
    Calls Try.prog 82 #[.slice a xs.length c, .int .u64 (n : Int), .int .i64 (k : Int)] w fun e w' => NewB w0 n1 (xs ++ beB n k) e w' ∧ w.heap.size ≤ w'.heap.size ∧ ∀ q, q < w.heap.size → (Value.slice a xs.length c).ownBlock ≠ some q → w'.heap[q]? = w.heap[q]? := by
  refine (GFr.number_calls a xs.length c n k w (fun v w' => ∃ a2 c2, v = .slice a2 (xs ++ beB n k).length c2 ∧ Own w' n1 5 1 (.slice a2 (xs ++ beB n k).length c2) (xs ++ beB n k).length ((xs ++ beB n k).map bV) ∧ Bs w0 w' ∧ w.heap.size ≤ w'.heap.size ∧ ∀ q, q < w.heap.size → (Value.slice a xs.length c).ownBlock ≠ some q → w'.heap[q]? = w.heap[q]?) ?_).mono (by rintro e w' ⟨v, rfl, a2, c2, rfl, h1, h2, h3⟩; exact ⟨⟨a2, c2, rfl, h1, h2⟩, h3⟩)
  unfold GFr.number_vc
  refine ⟨fun a2 m c2 x w2 => ∃ j : Nat, j ≤ k ∧ x = (k : Int) - 1 - j ∧ m = (xs ++ beJ n k j).length ∧ Own w2 n1 5 1 (.slice a2 m c2) m ((xs ++ beJ n k j).map bV) ∧ Bs w0 w2 ∧ w.heap.size ≤ w2.heap.size ∧ (∀ q, q < w.heap.size → (Value.slice a xs.length c).ownBlock ≠ some q → w2.heap[q]? = w.heap[q]?) ∧ ((Value.slice a2 m c2).ownBlock = (Value.slice a xs.length c).ownBlock ∨ ∃ g, (Value.slice a2 m c2).ownBlock = some g ∧ w.heap.size ≤ g), fun _ _ _ x _ => (x + 1).toNat, ⟨0, by omega, by rw [wr64 (by omega) (by omega)]; omega, by simp [beJ], by simpa [beJ] using o, B, Nat.le_refl _, fun _ _ _ => rfl, .inl rfl⟩, ?_⟩
  rintro a2 m c2 x w2 ⟨j, hj, rfl, rfl, o2, B2, z2, f2, or2⟩
  refine br_dec (fun h => ?_) fun h => ?_
  · have hl2 : (xs ++ beJ n k j).length = xs.length + j := by rw [List.length_append, beJ_len]
    obtain ⟨x, hx⟩ : ∃ x : Nat, (k : Int) - 1 - j = (x : Int) := ⟨k - 1 - j, by omega⟩
    rw [hx]
    refine ⟨by rw [wr64 (by omega) (by omega)]; omega, appUf B2 o2 h1 (Nat.le_trans h2 z2) (by omega) (b := UInt8.ofNat (n / 2 ^ (8 * x) % 256)) (by rw [numByte n x (by omega)]; rfl) fun a' c' w3 o3 B3 z3 f3 or3 => ⟨⟨j + 1, by omega, by rw [wr64 (by omega) (by omega)]; omega, ?_, ?_, B3, Nat.le_trans z2 z3, fun q hq hne => (f3 q (by omega) fun e => ?_).trans (f2 q hq hne), ?_⟩, by dsimp only; rw [wr64 (by omega) (by omega)]; omega⟩⟩
    · simp only [List.length_append, beJ_succ, List.length_singleton]; omega
    · rw [beJ_succ, show k - 1 - j = x by omega, ← List.append_assoc]
      exact o3
    · rcases or2 with h' | ⟨g', h', h3⟩
      · exact hne (h' ▸ e)
      · rw [h'] at e; injection e with e; omega
    · rcases or3 with h' | ⟨g', h', h3⟩
      · rw [h']; exact or2
      · exact .inr ⟨g', h', by omega⟩
  · obtain rfl : j = k := by omega
    exact ⟨a2, c2, rfl, o2, B2, z2, f2⟩
theorem secN_le (n : Nat) : secN n ≤ n + 1 := by unfold secN; split <;> omega
theorem count_k1_ok {w wx : World} {gl g : Nat} {L : LG} {S : DS} {a a6 : Option Addr} {c : Nat} {bs : List UInt8} {V : Value} (B : Bs w wx) (h : LgAt wx gl g L) (hW : LWf S L) (hS : S.n ≤ 8192) (r : RowAt wx a (bs.map bV)) (hl : bs.length = 64) (hc : 64 ≤ c) (r6 : RowAt wx a6 ((headP L.gen L.groups).map bV)) (hV : CntV L bs V) :
    GFr.count_k1 (fun u w' => u = V ∧ Below w.heap.size w w') (some ⟨gl, 0, none⟩) a c a6 17 wx := by
  unfold GFr.count_k1
  have h17 := headP_len L.gen L.groups
  have t1 := hW.top
  have t2 := hW.used
  have e17 : (((17 : Nat) : Int)).toNat = 17 := rfl
  refine drewB B fun w2 b2 B2 e2 => ⟨by decide, by omega, bs.take 17, by rw [List.length_take]; omega, by rw [List.map_take]; exact (r.bs b2).take 17, headP L.gen L.groups, h17, r6.bs b2, br_dec (fun hne => ?_) fun heq => ?_⟩
  · exact ⟨(hV.no fun e => hne (by rw [e])).symm, B2⟩
  have heq := strOf_inj (Decidable.not_not.1 heq)
  obtain ⟨b, hb, hbl, hv⟩ := hV.yes heq
  have e21 : IntKind.i64.wrap (((17 : Nat) : Int) + 4) = 21 := by decide
  rw [e21, e17]
  have r2 := r.bs b2
  have rb := row_base (c := c) (bs := bs) r2 (by omega) 17
  have hdl : (bs.drop 17).length = 47 := by rw [List.length_drop]; omega
  refine ⟨by decide, by decide, by omega, ?_⟩
  refine ⟨fun x y wy => ∃ k : Nat, k ≤ 4 ∧ y = k ∧ x = foldI 0 ((bs.drop 17).take k) ∧ wy = w2, fun _ y _ => (4 - y).toNat, ⟨0, by omega, rfl, rfl, rfl⟩, ?_⟩
  rintro x y wy ⟨k, hk, rfl, rfl, rfl⟩
  have ek : ((((21 : Int).toNat - 17 : Nat) : Nat) : Int) = 4 := rfl
  rw [ek]
  refine br_dec (fun hlt => ?_) fun hge => ?_
  · obtain ⟨gb, off, ha, hcell⟩ := RowAt.byte (bs := bs.drop 17) rb (k := k) (by omega)
    refine withP_mk gb off ha ⟨by omega, by omega, _, by rw [Int.toNat_natCast, Nat.mul_one]; exact hcell, by decide, ⟨k + 1, by omega, by rw [wr64 (by omega) (by omega)]; omega, ?_, rfl⟩, by dsimp only; rw [wr64 (by omega) (by omega)]; omega⟩
    rw [step_val, List.take_add_one, List.getElem?_eq_getElem (by omega)]
    exact (foldI_snoc _ _ _).symm
  · obtain rfl : k = 4 := by omega
    have hn : foldI 0 ((bs.drop 17).take 4) = (b.length : Int) := by
      rw [hb, headF_num]
      unfold beB
      rw [foldI_be (by omega) (by omega) 4 (by omega)]
      simp
    rw [hn]
    refine drewB B2 fun w3 b3 B3 e3 => ⟨_, ((h.bs b2).bs b3).cl.2.2.1, _, ((h.bs b2).bs b3).cl.2.2.2.2.1, callB B3 (fsec_ret b.length (by omega) w3) fun w4 b4 B4 => ⟨_, rfl, (((h.bs b2).bs b3).bs b4).cl.2.2.1, (((h.bs b2).bs b3).bs b4).cl.2.2.2.2.1, ?_, B4⟩⟩
    rw [hv, wr64 (by omega) (by omega)]
    have e : decide (((secN b.length : Nat) : Int) ≤ (L.size : Int) - L.used) = decide (secN b.length ≤ L.size - L.used) := decide_eq_decide.2 (by omega)
    rw [e]
theorem count_ret {w : World} {gl g : Nat} {L : LG} {S : DS} {a : Option Addr} {c : Nat} {bs : List UInt8} {V : Value} (h : LgAt w gl g L) (hW : LWf S L) (hS : S.n ≤ 8192) (r : RowAt w a (bs.map bV)) (hl : bs.length = 64) (hc : 64 ≤ c) (hV : CntV L bs V) :
    Calls Try.prog 78 #[.pointer (some ⟨gl, 0, none⟩), .slice a bs.length c] w (Ret V w) := by
  refine ret_in (GFr.count_calls (some ⟨gl, 0, none⟩) a bs.length c w (fun u w' => u = V ∧ Below w.heap.size w w') ?_)
  unfold GFr.count_vc
  have t1 := hW.top
  have t2 := hW.used
  have t3 := hW.groups
  have t4 := hW.gen
  have u1 : IntKind.u64.wrap (L.gen : Int) = (L.gen : Int) := wru64 (by omega) (by omega)
  have u2 : IntKind.u64.wrap (L.groups : Int) = (L.groups : Int) := wru64 (by omega) (by omega)
  have e17 : 1 + (beB L.gen 8 ++ beB L.groups 8).length = 17 := by rw [List.length_append, beB_len, beB_len]
  refine drewB (Bs.refl w) fun w2 b2 B2 e2 => ⟨_, (h.bs B2).cl.2.2.2.1, _, (h.bs B2).cl.2.2.2.2.2, ?_⟩
  rw [u1, u2]
  have fin : ∀ {wy wz : World} {gx n1 n2 cx : Nat} {ax : Option Addr}, Bs w wy → Own wy n1 5 1 (.slice (some ⟨gx, 0, none⟩) 1 1) 1 (([1] : List UInt8).map bV) → w.heap.size ≤ n1 → n1 ≤ wy.heap.size → Own wy n2 5 1 (.slice ax (beB L.gen 8 ++ beB L.groups 8).length cx) (beB L.gen 8 ++ beB L.groups 8).length ((beB L.gen 8 ++ beB L.groups 8).map bV) →
      appO Try.prog [] wy 5 1 1 22 (some ⟨gx, 0, none⟩) 1 1 (.slice ax (beB L.gen 8 ++ beB L.groups 8).length cx) fun m a6 c6 w6 => GFr.count_k1 (fun u w' => u = V ∧ Below w.heap.size w w') (some ⟨gl, 0, none⟩) a c a6 (1 + m) w6 := fun {wy wz gx n1 n2 cx ax} By o1 h1 h2 o2 => by
    have hll : (beB L.gen 8 ++ beB L.groups 8).length = 16 := by rw [List.length_append, beB_len, beB_len]
    refine appB By o1 h1 h2 (srcB o2.row) (by unfold maxLen; omega) (by omega) (fun q hq => by cases hq) fun a' c' w6 o6 g6 B6 z6 => ?_
    rw [e17]
    refine count_k1_ok B6 (h.bs B6) hW hS (r.bs B6) hl hc ?_ hV
    have := o6.row
    rw [← List.map_append] at this
    exact this
  refine ⟨?_, ?_⟩
  · refine newB B2 fun g3 w3 g30 sg3 n3 z3 b3 B3 => ⟨((h.bs B3).cl.2.2.2.1), ((h.bs B3).cl.2.2.2.2.2), ?_⟩
    have o3 : Own w3 w.heap.size 5 1 (.slice (some ⟨g3, 0, none⟩) 1 1) 1 (([1] : List UInt8).map bV) := own_lit (bs := [1]) n3 g30 (by unfold maxLen; decide)
    refine (fnum_on (Bs.refl w3) (xs := []) (Own.nil w3 w3.heap.size 5 1) (Nat.le_refl _) (Nat.le_refl _) (by simp) L.gen 8 (by omega)).mono ?_
    rintro e w4 ⟨⟨a4, c4, rfl, o4, B34⟩, z4⟩
    rw [List.nil_append] at o4 ⊢
    refine ⟨keepG_nil _ _, a4, _, c4, rfl, ((h.bs (B3.to B34)).cl.2.2.2.2.2), (fnum_on B34 o4 (Nat.le_refl _) B34.size (by rw [beB_len]; omega) L.groups 8 (by omega)).mono ?_⟩
    rintro e w5 ⟨⟨a5, c5, rfl, o5, B35⟩, z5⟩
    exact ⟨keepG_nil _ _, a5, _, c5, rfl, fin (wz := w5) (B3.to B35) (o3.below B35 (Nat.le_refl _)) (Nat.le_refl _) (B3.to B35).size o5⟩
  · refine (fnum_on (Bs.refl w2) (xs := []) (Own.nil w2 w2.heap.size 5 1) (Nat.le_refl _) (Nat.le_refl _) (by simp) L.gen 8 (by omega)).mono ?_
    rintro e w4 ⟨⟨a4, c4, rfl, o4, B24⟩, z4⟩
    rw [List.nil_append] at o4 ⊢
    have B4 := B2.to B24
    refine ⟨keepG_nil _ _, a4, _, c4, rfl, ((h.bs B4).cl.2.2.2.2.2), ?_, ?_⟩
    · refine newB B4 fun g3 w3 g30 sg3 n3 z3 b3 B3 => ⟨((h.bs B3).cl.2.2.2.2.2), ?_⟩
      have o3 : Own w3 g3 5 1 (.slice (some ⟨g3, 0, none⟩) 1 1) 1 (([1] : List UInt8).map bV) := own_lit (bs := [1]) n3 (Nat.le_refl _) (by unfold maxLen; decide)
      have o4' := o4.below b3 (Nat.le_refl _)
      refine (fnum_fr (w0 := w2) (B24.to b3) o4' (Nat.le_refl _) (B24.to b3).size (by rw [beB_len]; omega) L.groups 8 (by omega)).mono ?_
      rintro e w5 ⟨⟨a5, c5, rfl, o5, B25⟩, z5, f5⟩
      have o3' := o3.keep (w' := w5) fun q hq => f5 q (o3.lt q hq).2 fun e => by have := (o4.lt q e).2; have := (o3.lt q hq).1; omega
      exact ⟨keepG_nil _ _, a5, _, c5, rfl, fin (wz := w5) (B2.to B25) o3' g30 (by have := (o3'.lt g3 rfl).2; omega) o5⟩
    · refine (fnum_on B24 o4 (Nat.le_refl _) B24.size (by rw [beB_len]; omega) L.groups 8 (by omega)).mono ?_
      rintro e w5 ⟨⟨a5, c5, rfl, o5, B25⟩, z5⟩
      have B5 := B2.to B25
      refine ⟨keepG_nil _ _, a5, _, c5, rfl, newB B5 fun g3 w3 g30 sg3 n3 z3 b3 B3 => ?_⟩
      exact fin (wz := w3) B3 (own_lit (bs := [1]) n3 g30 (by unfold maxLen; decide)) (Nat.le_refl _) B3.size (o5.below b3 (Nat.le_refl _))
end Go.Proofs.Ytpfmadinijofeaa
end
section
/- Logs on a disk, groups that are appended, and crashes. No program in sight. -/
namespace Go.Proofs.Ytpfmadinijofeaa
open Go.RowKit
def There (S : DS) (q gen n : Nat) (gr : Grp) : Prop := nowS S q = headF gen n (grpB gr) ∧ ∀ i, i < secN (grpB gr).length - 1 → nowS S (q + 1 + i) = pieceF ((grpB gr).drop 39) i
def Chain (S : DS) (first gen : Nat) : Nat → Nat → List Grp → Nat → Prop
  | p, _, [], u => u = p
  | p, k, g :: r, u => There S (first + p) gen k g ∧ g ≠ [] ∧ (grpB g).length ≤ 1000000 ∧ Chain S first gen (p + secN (grpB g).length) (k + 1) r u
theorem Chain.le {S : DS} {first gen : Nat} : ∀ {gs : List Grp} {p k u : Nat}, Chain S first gen p k gs u → p ≤ u ∧ gs.length ≤ u - p
  | [], p, k, u, h => by have h : u = p := h; subst h; exact ⟨Nat.le_refl _, Nat.zero_le _⟩
  | g :: r, p, k, u, h => by
    obtain ⟨h1, h2⟩ := Chain.le h.2.2.2
    have := secN_pos (grpB g).length
    rw [List.length_cons]
    omega
theorem Chain.congr {S T : DS} {first gen : Nat} : ∀ {gs : List Grp} {p k u : Nat}, Chain S first gen p k gs u → (∀ i, first + p ≤ i → i < first + u → nowS T i = nowS S i) → Chain T first gen p k gs u
  | [], p, k, u, h, _ => h
  | g :: r, p, k, u, h, hc => by
    have hl := Chain.le h.2.2.2
    have sp := secN_pos (grpB g).length
    obtain ⟨⟨h1, h2⟩, h3, h4, h5⟩ := h
    exact ⟨⟨by rw [hc _ (by omega) (by omega)]; exact h1, fun i hi => by rw [hc _ (by omega) (by omega)]; exact h2 i hi⟩, h3, h4, Chain.congr h5 fun i a b => hc i (by omega) b⟩
theorem Chain.snoc {S : DS} {first gen : Nat} {g : Grp} : ∀ {gs : List Grp} {p k u : Nat}, Chain S first gen p k gs u → There S (first + u) gen (k + gs.length) g → g ≠ [] → (grpB g).length ≤ 1000000 → Chain S first gen p k (gs ++ [g]) (u + secN (grpB g).length)
  | [], p, k, u, h, ht, hn, hl => by
    have h : u = p := h
    subst h
    exact ⟨ht, hn, hl, rfl⟩
  | g' :: r, p, k, u, h, ht, hn, hl => by
    obtain ⟨h1, h2, h3, h4⟩ := h
    refine ⟨h1, h2, h3, Chain.snoc h4 ?_ hn hl⟩
    rw [List.length_cons] at ht
    rw [show k + 1 + r.length = k + (r.length + 1) by omega]
    exact ht
/-! Heads and what is none. -/
def NotHead (s : List UInt8) (gen : Nat) : Prop := s.take 9 ≠ [1] ++ beB gen 8
theorem NotHead.p {s : List UInt8} {gen : Nat} (h : NotHead s gen) (n : Nat) : s.take 17 ≠ headP gen n := fun e => h (by
  have : (s.take 17).take 9 = (headP gen n).take 9 := by rw [e]
  rw [List.take_take] at this
  rw [show min 9 17 = 9 from rfl] at this
  rw [this]
  unfold headP
  rw [List.take_append_of_le_length (by simp [beB_len]), List.take_of_length_le (by simp [beB_len])])
theorem beB_inj {a b : Nat} (ha : a < 9223372036854775808) (hb : b < 9223372036854775808) (h : beB a 8 = beB b 8) : a = b := by
  have h1 := foldI_beB ha
  have h2 := foldI_beB hb
  rw [h, h2] at h1
  omega
theorem notHead_first {s : List UInt8} {gen : Nat} {x : UInt8} (h : s.head? = some x) (hx : x ≠ 1) : NotHead s gen := fun e => by
  cases s with
  | nil => cases h
  | cons y r =>
    injection h with h
    subst h
    rw [List.take_succ_cons, List.singleton_append] at e
    injection e with e _
    exact hx e
theorem notHead_piece (b : List UInt8) (i gen : Nat) : NotHead (pieceF b i) gen := notHead_first (x := 2) (by unfold pieceF bodyB; rfl) (by decide)
theorem notHead_zero (gen : Nat) : NotHead zero64 gen := notHead_first (x := 0) rfl (by decide)
theorem notHead_gen {g1 g2 n : Nat} {b : List UInt8} (h1 : g1 < 9223372036854775808) (h2 : g2 < 9223372036854775808) (hne : g1 ≠ g2) : NotHead (headF g1 n b) g2 := fun e => by
  have h9 : (headF g1 n b).take 9 = [1] ++ beB g1 8 := by
    rw [headF_eq, List.take_append_of_le_length (by rw [headP_len]; omega)]
    unfold headP
    rw [List.take_append_of_le_length (by simp [beB_len]), List.take_of_length_le (by simp [beB_len])]
  rw [h9] at e
  exact hne (beB_inj h1 h2 (by injection e with _ e))
/-! One group more. -/
structure Put (S T : DS) (L : LG) (g : Grp) : Prop where
  n : T.n = S.n
  off : T.off = false
  calm : Calm T
  left0 : S.left ≤ 0 → T.left ≤ 0
  there : There T (L.first + L.used) L.gen L.groups g
  rest : ∀ i, i < L.first + L.used ∨ L.first + L.used + secN (grpB g).length ≤ i → T.last i = S.last i
  new : ∀ i, T.last i = S.last i ∨ T.last i = headF L.gen L.groups (grpB g) ∨ ∃ j, T.last i = pieceF ((grpB g).drop 39) j
structure PutHalf (S T : DS) (L : LG) (g : Grp) : Prop where
  n : T.n = S.n
  off : T.off = true
  rest : ∀ kept i, i < L.first + L.used ∨ L.first + L.used + secN (grpB g).length ≤ i → (crashD T kept).last i = S.last i
  new : ∀ kept i, (crashD T kept).last i = S.last i ∨ (crashD T kept).last i = headF L.gen L.groups (grpB g) ∨ ∃ j, (crashD T kept).last i = pieceF ((grpB g).drop 39) j
  mid : ∀ kept i, L.first + L.used < i → (crashD T kept).last i = S.last i ∨ ∃ j, (crashD T kept).last i = pieceF ((grpB g).drop 39) j
  head : ∀ kept, (crashD T kept).last (L.first + L.used) = S.last (L.first + L.used) ∨ There (crashD T kept) (L.first + L.used) L.gen L.groups g
theorem piece_self {b : List UInt8} (h : b.length = 64) : pieceB b 0 = b := by
  unfold pieceB
  rw [Nat.zero_mul, List.drop_zero, List.take_of_length_le (by omega)]
theorem ap_cases {S : DS} (hc : Calm S) (ho : S.off = false) {L : LG} {g : Grp} (htop : L.first + L.size ≤ S.n) (hused : L.used ≤ L.size) (hne : g ≠ []) (hs : secN (grpB g).length ≤ L.size - L.used) :
    (apE S L g = 0 ∧ Put S (apD S L g) L g) ∨ (apE S L g = 12 ∧ 0 < S.left ∧ PutHalf S (apD S L g) L g) := by
  have sp := secN_pos (grpB g).length
  have hb := tailF_len (grpB g)
  have eE : apE S L g = if pwE S ((L.first + L.used + 1 : Nat) : Int) (tailF (grpB g)) ≠ 0 then pwE S ((L.first + L.used + 1 : Nat) : Int) (tailF (grpB g)) else pwE (pwD S ((L.first + L.used + 1 : Nat) : Int) (tailF (grpB g))) ((L.first + L.used : Nat) : Int) (headF L.gen L.groups (grpB g)) := by
    unfold apE; rw [if_neg hne, if_neg (by omega)]
  have eD : apD S L g = if pwE S ((L.first + L.used + 1 : Nat) : Int) (tailF (grpB g)) ≠ 0 then pwD S ((L.first + L.used + 1 : Nat) : Int) (tailF (grpB g)) else pwD (pwD S ((L.first + L.used + 1 : Nat) : Int) (tailF (grpB g))) ((L.first + L.used : Nat) : Int) (headF L.gen L.groups (grpB g)) := by
    unfold apD; rw [if_neg hne, if_neg (by omega)]
  rw [eE, eD]
  have hdm : (tailF (grpB g)).length / 64 = secN (grpB g).length - 1 := by omega
  have htp : ∀ i, i < secN (grpB g).length - 1 → pieceB (tailF (grpB g)) i = pieceF ((grpB g).drop 39) i := fun i hi => pieceB_tail _ hi
  generalize hq : L.first + L.used = q
  rcases pw_cases hc ho (p := q + 1) hb (by omega) with ⟨w1, w2⟩ | ⟨w1, w0, w2⟩
  · rw [w1, if_neg (by decide), if_neg (by decide)]
    generalize pwD S ((q + 1 : Nat) : Int) (tailF (grpB g)) = T1 at w2
    have hhl := headF_len L.gen L.groups (grpB g)
    have hh : (headF L.gen L.groups (grpB g)).length / 64 = 1 := by rw [hhl]
    rcases pw_cases w2.calm w2.off (p := q) (b := headF L.gen L.groups (grpB g)) (m := 1) hhl (by rw [w2.n]; omega) with ⟨v1, v2⟩ | ⟨v1, v0, v2⟩
    · generalize pwD T1 (q : Int) (headF L.gen L.groups (grpB g)) = T2 at v2
      have hl1 : T2.last q = headF L.gen L.groups (grpB g) := by rw [v2.last, hh, if_pos (by omega), Nat.sub_self, piece_self hhl]
      have hl2 : ∀ i, i < secN (grpB g).length - 1 → T2.last (q + 1 + i) = pieceF ((grpB g).drop 39) i := fun i hi => by
        rw [v2.last, hh, if_neg (by omega), w2.last, hdm, if_pos (by omega), Nat.add_sub_cancel_left, htp i hi]
      have hl3 : ∀ i, i < q ∨ q + secN (grpB g).length ≤ i → T2.last i = S.last i := fun i hi => by
        rw [v2.last, hh, if_neg (by omega), w2.last, hdm, if_neg (by omega)]
      refine .inl ⟨v1, ⟨by rw [v2.n, w2.n], v2.off, v2.calm, fun h => v2.left0 (w2.left0 h), ?_, ?_, fun i => ?_⟩⟩
      · rw [hq]
        exact ⟨by rw [v2.calm.now]; exact hl1, fun i hi => by rw [v2.calm.now]; exact hl2 i hi⟩
      · rw [hq]; exact hl3
      · by_cases h1 : i < q ∨ q + secN (grpB g).length ≤ i
        · exact .inl (hl3 i h1)
        · by_cases h2 : i = q
          · subst h2; exact .inr (.inl hl1)
          · have := hl2 (i - q - 1) (by omega)
            rw [show q + 1 + (i - q - 1) = i by omega] at this
            exact .inr (.inr ⟨_, this⟩)
    · have cr : ∀ kept i, (crashD (pwD T1 (q : Int) (headF L.gen L.groups (grpB g))) kept).last i = T1.last i ∨ (i = q ∧ (crashD (pwD T1 (q : Int) (headF L.gen L.groups (grpB g))) kept).last i = headF L.gen L.groups (grpB g)) := fun kept i => by
        rcases v2.crash kept i with h | ⟨h1, h2, h⟩
        · exact .inl h
        · rw [hh] at h2
          have : i = q := by omega
          subst this
          rw [Nat.sub_self, piece_self hhl] at h
          exact .inr ⟨rfl, h⟩
      have t1l : ∀ i, T1.last i = S.last i ∨ (q < i ∧ i < q + secN (grpB g).length ∧ ∃ j, T1.last i = pieceF ((grpB g).drop 39) j) := fun i => by
        rw [w2.last, hdm]
        by_cases h1 : q + 1 ≤ i ∧ i < q + 1 + (secN (grpB g).length - 1)
        · rw [if_pos h1]
          exact .inr ⟨by omega, by omega, _, htp _ (by omega)⟩
        · rw [if_neg h1]; exact .inl rfl
      refine .inr ⟨v1, ?_, ⟨by rw [v2.n, w2.n], v2.off, fun kept i hi => ?_, fun kept i => ?_, fun kept i hi => ?_, fun kept => ?_⟩⟩
      · rcases Int.lt_or_le 0 S.left with h | h
        · exact h
        · have := w2.left0 h; omega
      · rw [hq] at hi
        rcases cr kept i with h | ⟨h, _⟩
        · rw [h]
          rcases t1l i with h2 | ⟨h2, h3, _⟩
          · exact h2
          · omega
        · omega
      · rcases cr kept i with h | ⟨_, h⟩
        · rw [h]
          rcases t1l i with h2 | ⟨_, _, h2⟩
          · exact .inl h2
          · exact .inr (.inr h2)
        · exact .inr (.inl h)
      · rw [hq] at hi
        rcases cr kept i with h | ⟨h, _⟩
        · rw [h]
          rcases t1l i with h2 | ⟨_, _, h2⟩
          · exact .inl h2
          · exact .inr h2
        · omega
      · rw [hq]
        rcases cr kept q with h | ⟨_, h⟩
        · left
          rw [h]
          rcases t1l q with h2 | ⟨h2, _, _⟩
          · exact h2
          · omega
        · right
          have hcm := Calm.crash (pwD T1 (q : Int) (headF L.gen L.groups (grpB g))) kept
          refine ⟨by rw [hcm.now]; exact h, fun i hi => ?_⟩
          rw [hcm.now]
          rcases cr kept (q + 1 + i) with h' | ⟨h', _⟩
          · rw [h', w2.last, hdm, if_pos (by omega), Nat.add_sub_cancel_left, htp i hi]
          · omega
  · rw [w1, if_pos (by decide), if_pos (by decide)]
    have cr : ∀ kept i, (crashD (pwD S ((q + 1 : Nat) : Int) (tailF (grpB g))) kept).last i = S.last i ∨ (q < i ∧ i < q + secN (grpB g).length ∧ ∃ j, (crashD (pwD S ((q + 1 : Nat) : Int) (tailF (grpB g))) kept).last i = pieceF ((grpB g).drop 39) j) := fun kept i => by
      rcases w2.crash kept i with h | ⟨h1, h2, h⟩
      · exact .inl h
      · rw [hdm] at h2
        exact .inr ⟨by omega, by omega, _, by rw [h]; exact htp _ (by omega)⟩
    refine .inr ⟨rfl, w0, ⟨w2.n, w2.off, fun kept i hi => ?_, fun kept i => ?_, fun kept i hi => ?_, fun kept => .inl ?_⟩⟩
    · rw [hq] at hi
      rcases cr kept i with h | ⟨h1, h2, _⟩
      · exact h
      · omega
    · rcases cr kept i with h | ⟨_, _, h⟩
      · exact .inl h
      · exact .inr (.inr h)
    · rcases cr kept i with h | ⟨_, _, h⟩
      · exact .inl h
      · exact .inr h
    · rw [hq]
      rcases cr kept q with h | ⟨h1, _, _⟩
      · exact h
      · omega
/-! The log, its groups. -/
structure LogOk (S : DS) (first size gen : Nat) (gs : List Grp) (u : Nat) : Prop where
  wf : DWf S
  calm : Calm S
  off : S.off = false
  top : first + size ≤ S.n
  one : 1 ≤ size
  genl : gen < 9223372036854775808
  chain : Chain S first gen 0 0 gs u
  used : u ≤ size
  clean : ∀ i, u ≤ i → i < size → NotHead (S.last (first + i)) gen
section
variable {S : DS} {first size gen u : Nat} {gs : List Grp}
theorem LogOk.lw (h : LogOk S first size gen gs u) : first + size ≤ S.n ∧ u ≤ size ∧ gs.length ≤ u ∧ gen < 9223372036854775808 := ⟨h.top, h.used, by have := h.chain.le.2; omega, h.genl⟩
theorem LogOk.stop (h : LogOk S first size gen gs u) : u = size ∨ (nowS S (first + u)).take 17 ≠ headP gen gs.length := by
  by_cases e : u = size
  · exact .inl e
  · right
    rw [h.calm.now]
    exact (h.clean u (Nat.le_refl _) (by have := h.used; omega)).p _
theorem log_new {n : Nat} (h1 : 1 ≤ n) (h2 : n ≤ 8192) (hs : 1 ≤ size) (ht : first + size ≤ n) (hg : gen < 9223372036854775808) : LogOk (newS n) first size gen [] 0 :=
  ⟨newS_wf h1 h2, fun _ => rfl, rfl, ht, hs, hg, rfl, Nat.zero_le _, fun _ _ _ => notHead_zero gen⟩
theorem LogOk.put {T : DS} {g : Grp} (h : LogOk S first size gen gs u) (hW : DWf T) (hp : Put S T ⟨first, size, gen, u, gs.length⟩ g) (hne : g ≠ []) (hl : (grpB g).length ≤ 1000000) (hs : secN (grpB g).length ≤ size - u) : LogOk T first size gen (gs ++ [g]) (u + secN (grpB g).length) := by
  have hu := h.used
  refine ⟨hW, hp.calm, hp.off, by rw [hp.n]; exact h.top, h.one, h.genl, Chain.snoc (h.chain.congr fun i _ b => ?_) ?_ hne hl, by omega, fun i a b => ?_⟩
  · rw [hp.calm.now, h.calm.now]
    exact hp.rest i (.inl b)
  · rw [Nat.zero_add]; exact hp.there
  · rw [hp.rest (first + i) (.inr (by show first + u + _ ≤ _; omega))]
    exact h.clean i (by omega) b
theorem LogOk.same {T : DS} (h : LogOk S first size gen gs u) (hW : DWf T) (hc : Calm T) (ho : T.off = false) (hn : T.n = S.n) (hl : ∀ i, first ≤ i → i < first + size → T.last i = S.last i) : LogOk T first size gen gs u := by
  have hu := h.used
  refine ⟨hW, hc, ho, by rw [hn]; exact h.top, h.one, h.genl, h.chain.congr fun i a b => ?_, h.used, fun i a b => ?_⟩
  · rw [hc.now, h.calm.now]; exact hl i (by omega) (by omega)
  · rw [hl _ (by omega) (by omega)]; exact h.clean i a b
theorem LogOk.crash (h : LogOk S first size gen gs u) (kept : List Bool) : LogOk (crashD S kept) first size gen gs u := h.same (h.wf.crash kept) (Calm.crash S kept) rfl rfl fun i _ _ => by rw [crash_calm h.calm]
theorem LogOk.cut (h : LogOk S first size gen gs u) {n : Int} (hn : n ≤ 9223372036854775807) : LogOk (cutD S n) first size gen gs u := h.same (h.wf.cut hn) h.calm h.off rfl fun _ _ _ => rfl
theorem LogOk.half {T : DS} {g : Grp} (h : LogOk S first size gen gs u) (hW : DWf T) (hp : PutHalf S T ⟨first, size, gen, u, gs.length⟩ g) (hne : g ≠ []) (hl : (grpB g).length ≤ 1000000) (hs : secN (grpB g).length ≤ size - u) (kept : List Bool) :
    LogOk (crashD T kept) first size gen gs u ∨ LogOk (crashD T kept) first size gen (gs ++ [g]) (u + secN (grpB g).length) := by
  have hu := h.used
  have hcm := Calm.crash T kept
  have hch : Chain (crashD T kept) first gen 0 0 gs u := h.chain.congr fun i _ b => by rw [hcm.now, h.calm.now]; exact hp.rest kept i (.inl b)
  have sp := secN_pos (grpB g).length
  have hcl : ∀ i, u < i → i < size → NotHead ((crashD T kept).last (first + i)) gen := fun i a b => by
    rcases hp.mid kept (first + i) (by show first + u < _; omega) with e | ⟨j, e⟩
    · rw [e]; exact h.clean i (by omega) b
    · rw [e]; exact notHead_piece _ _ _
  rcases hp.head kept with e | e
  · left
    refine ⟨hW.crash kept, hcm, rfl, by show first + size ≤ T.n; rw [hp.n]; exact h.top, h.one, h.genl, hch, h.used, fun i a b => ?_⟩
    by_cases hi : i = u
    · subst hi
      have e : (crashD T kept).last (first + i) = S.last (first + i) := e
      rw [e]
      exact h.clean i (Nat.le_refl _) b
    · exact hcl i (by omega) b
  · right
    refine ⟨hW.crash kept, hcm, rfl, by show first + size ≤ T.n; rw [hp.n]; exact h.top, h.one, h.genl, hch.snoc (by rw [Nat.zero_add]; exact e) hne hl, by omega, fun i a b => hcl i (by omega) b⟩
/-- No sector is a head of that generation. -/
def Elder (S : DS) (first size gen : Nat) : Prop := ∀ i, i < size → NotHead (S.last (first + i)) gen
theorem Elder.put {T : DS} {L : LG} {g : Grp} {gen2 : Nat} (h : Elder S first size gen2) (hp : Put S T L g) (h1 : L.gen < 9223372036854775808) (h2 : gen2 < 9223372036854775808) (hne : L.gen ≠ gen2) : Elder T first size gen2 := fun i hi => by
  rcases hp.new (first + i) with e | e | ⟨j, e⟩
  · rw [e]; exact h i hi
  · rw [e]; exact notHead_gen h1 h2 hne
  · rw [e]; exact notHead_piece _ _ _
theorem Elder.half {T : DS} {L : LG} {g : Grp} {gen2 : Nat} (h : Elder S first size gen2) (hp : PutHalf S T L g) (h1 : L.gen < 9223372036854775808) (h2 : gen2 < 9223372036854775808) (hne : L.gen ≠ gen2) (kept : List Bool) : Elder (crashD T kept) first size gen2 := fun i hi => by
  rcases hp.new kept (first + i) with e | e | ⟨j, e⟩
  · rw [e]; exact h i hi
  · rw [e]; exact notHead_gen h1 h2 hne
  · rw [e]; exact notHead_piece _ _ _
theorem Elder.log (h : Elder S first size gen) (hW : DWf S) (hc : Calm S) (ho : S.off = false) (ht : first + size ≤ S.n) (h1 : 1 ≤ size) (hg : gen < 9223372036854775808) : LogOk S first size gen [] 0 :=
  ⟨hW, hc, ho, ht, h1, hg, rfl, Nat.zero_le _, fun i _ b => h i b⟩
end
end Go.Proofs.Ytpfmadinijofeaa
end
section
/- The program's log: the group that stands next; walked. -/
namespace Go.Proofs.Ytpfmadinijofeaa
open Go.RowKit
/-- 'append', told of all else. -/
theorem appF {P : Program} {w0 w : World} {e : TypeId} {size bytes n1 n c m : Nat} {tx : TypeId} {a : Option Addr} {x : Value} {xs news : List Value} {K : Nat → Option Addr → Nat → World → Prop}
    (B : Bs w0 w) (o : Own w n1 e size (.slice a n c) n xs) (hn1 : w0.heap.size ≤ n1) (hn2 : n1 ≤ w.heap.size) (s : Src P size tx x m news w) (h1 : n + m ≤ maxLen) (h2 : (n + m) * bytes ≤ 140737488355328)
    (k : ∀ a' c' w1, Own w1 n1 e size (.slice a' (n + m) c') (n + m) (xs ++ news) → Bs w0 w1 → w.heap.size ≤ w1.heap.size → (∀ q, q < w.heap.size → (Value.slice a n c).ownBlock ≠ some q → w1.heap[q]? = w.heap[q]?) → ((Value.slice a' (n + m) c').ownBlock = (Value.slice a n c).ownBlock ∨ ∃ g, (Value.slice a' (n + m) c').ownBlock = some g ∧ w.heap.size ≤ g) → K m a' c' w1) :
    appO P [] w e size bytes tx a n c x K := by
  refine ⟨m, xs, news, o.base_le fun _ _ => Nat.zero_le _, s, h1, h2, fun g hg => (by cases hg), fun a' c' w1 o1 g1 or1 _ => k a' c' w1 (o1.base_le fun q hq => ?_) ?_ g1.size (fun q hq hne => g1.block q hq fun e => hne e.symm) or1⟩
  · rcases or1 with h | ⟨g, h, h3⟩
    · exact (o.lt q (h ▸ hq)).1
    · rw [h] at hq; injection hq with hq; omega
  · exact ⟨g1.os.trans B.os, g1.tape.trans B.tape, g1.output.trans B.output, Nat.le_trans B.size g1.size, fun q hq => (g1.block q (by have := B.size; omega) fun e => by have := (o.lt q e.symm).1; omega).trans (B.block q hq)⟩
theorem readL_one {S : DS} (hW : DWf S) (ho : S.off = false) {q : Nat} (hq : q < S.n) : mayE S (q : Int) ((1 : Nat) : Int) = 0 ∧ readL S (q : Int) ((1 : Nat) : Int) = nowS S q := by
  have hm : mayE S (q : Int) ((1 : Nat) : Int) = 0 := by unfold mayE; rw [ho, if_neg (by decide), if_pos (by omega)]
  refine ⟨hm, ?_⟩
  unfold readL
  rw [if_pos hm, Int.toNat_natCast]
  show readS S q 1 = _
  rw [← readS_take hW (first := q) (n := 1) (by omega), List.take_of_length_le (by rw [readS_len hW]; omega)]
theorem readL_ok {S : DS} (ho : S.off = false) {q m : Nat} (hq : q + m ≤ S.n) : mayE S (q : Int) (m : Int) = 0 ∧ readL S (q : Int) (m : Int) = readS S q m := by
  have hm : mayE S (q : Int) (m : Int) = 0 := by unfold mayE; rw [ho, if_neg (by decide), if_pos (by omega)]
  refine ⟨hm, ?_⟩
  unfold readL
  rw [if_pos hm, Int.toNat_natCast, Int.toNat_natCast]
theorem base_block {a : Option Addr} {c l : Nat} {q : Addr} (h : sliceBase a c l 1 = some q) : ∃ q', a = some q' ∧ q'.block = q.block := by
  unfold sliceBase at h
  split at h
  · exact ⟨q, h, rfl⟩
  · cases a with
    | none => cases h
    | some q' =>
      injection h with h
      subst h
      refine ⟨q', rfl, ?_⟩
      show q'.block = (q'.add (l * 1)).block
      unfold Addr.add
      split <;> rfl
section
variable {w : World} {gl g gd mb : Nat} {L : LG} {S : DS}
theorem next_end (h : LgAt w gl g L) (he : L.used = L.size) : Calls Try.prog 59 #[.pointer (some ⟨gl, 0, none⟩)] w (Ret (.tuple #[.slice none 0 0, .bool false, .int .i64 0]) w) := by
  refine ret_in (GFr.next_calls (some ⟨gl, 0, none⟩) w (fun u w' => u = .tuple #[.slice none 0 0, .bool false, .int .i64 0] ∧ Below w.heap.size w w') ?_)
  unfold GFr.next_vc
  exact drewB (Bs.refl w) fun w2 b2 B2 e2 => ⟨_, (h.bs B2).cl.2.2.2.2.1, _, (h.bs B2).cl.2.2.1, br_y (by rw [he]) ⟨rfl, B2⟩⟩
theorem next_no (h : LgAt w gl g L) (t : DkAt w g gd mb S) (hS : DWf S) (hW : LWf S L) (ho : S.off = false) (hu : L.used < L.size) (hn : (nowS S (L.first + L.used)).take 17 ≠ headP L.gen L.groups) :
    Calls Try.prog 59 #[.pointer (some ⟨gl, 0, none⟩)] w (Ret (.tuple #[.slice none 0 0, .bool false, .int .i64 0]) w) := by
  refine ret_in (GFr.next_calls (some ⟨gl, 0, none⟩) w (fun u w' => u = .tuple #[.slice none 0 0, .bool false, .int .i64 0] ∧ Below w.heap.size w w') ?_)
  unfold GFr.next_vc
  have t1 := hW.top
  have t2 := hS.n2
  obtain ⟨m1, r1⟩ := readL_one hS ho (q := L.first + L.used) (by omega)
  refine drewB (Bs.refl w) fun w2 b2 B2 e2 => ⟨_, (h.bs B2).cl.2.2.2.2.1, _, (h.bs B2).cl.2.2.1, br_n (by omega) ⟨_, (h.bs B2).cl.2.2.2.2.1, ?_⟩⟩
  refine (fread_new (h.bs B2) (t.bs B2) hS hW L.used 1 (by omega)).mono ?_
  rintro e w3 ⟨a3, m3, c3, rfl, hm3, o3, B23⟩
  rw [r1] at hm3 o3
  subst hm3
  rw [m1]
  have B3 := B2.to B23
  have hl := hS.now (L.first + L.used)
  refine ⟨keepG_nil _ _, a3, _, c3, _, rfl, br_n (by decide) (callB B3 (count_ret (h.bs B3) hW t2 o3.row hl (by have := o3.cap.1; omega) (V := .tuple #[.int .i64 0, .bool false]) ⟨fun _ => rfl, fun e => absurd e hn⟩) fun w4 b4 B4 => ⟨_, _, rfl, br_t rfl ⟨rfl, B4⟩⟩)⟩
theorem there_tail {S : DS} {q gen n : Nat} {gr : Grp} (h : There S q gen n gr) : ∀ m, m ≤ secN (grpB gr).length - 1 → readS S (q + 1) m = (List.range m).flatMap (pieceF ((grpB gr).drop 39))
  | 0, _ => rfl
  | m + 1, hm => by
    rw [readS_succ, there_tail h m (by omega), h.2 m (by omega), List.range_succ, List.flatMap_append]
    simp
theorem flat_drop (f : Nat → List UInt8) (hf : ∀ i, (f i).length = 64) : ∀ (m j : Nat), j < m → (((List.range m).flatMap f).drop (64 * j)).take 64 = f j
  | 0, j, h => by omega
  | m + 1, j, h => by
    have hl : ∀ m, ((List.range m).flatMap f).length = 64 * m := fun m => by
      induction m with
      | zero => rfl
      | succ m ih => rw [List.range_succ, List.flatMap_append, List.length_append, ih]; simp [hf]; omega
    rw [List.range_succ, List.flatMap_append]
    by_cases hj : j < m
    · rw [List.drop_append_of_le_length (by rw [hl]; omega), List.take_append_of_le_length (by rw [List.length_drop, hl]; omega)]
      exact flat_drop f hf m j hj
    · obtain rfl : j = m := by omega
      rw [List.drop_append_of_le_length (by rw [hl]; omega), List.drop_of_length_le (by rw [hl]; omega), List.nil_append]
      simp only [List.flatMap_cons, List.flatMap_nil, List.append_nil]
      exact List.take_of_length_le (by rw [hf]; omega)
theorem join_le (f : Nat → List UInt8) : ∀ j, (joinN f j).length ≤ 64 * j
  | 0 => Nat.le_refl _
  | j + 1 => by
    have := join_le f j
    rw [joinN_succ, List.length_append, List.length_take]
    omega
set_option maxHeartbeats 800000 in
theorem next_yes (h : LgAt w gl g L) (t : DkAt w g gd mb S) (hS : DWf S) (hW : LWf S L) (ho : S.off = false) {gr : Grp} (hb : (grpB gr).length ≤ 1000000) (hu : L.used + secN (grpB gr).length ≤ L.size) (hT : There S (L.first + L.used) L.gen L.groups gr) :
    Calls Try.prog 59 #[.pointer (some ⟨gl, 0, none⟩)] w fun e w' => ∃ a' c' xs, e = .returned (.tuple #[.slice a' (xs : List Im).length c', .bool true, .int .i64 0]) ∧ recs xs = gr ∧ OwnR w' w.heap.size a' c' xs ∧ Bs w w' := by
  refine (GFr.next_calls (some ⟨gl, 0, none⟩) w (fun v w' => ∃ a' c' xs, v = .tuple #[.slice a' (xs : List Im).length c', .bool true, .int .i64 0] ∧ recs xs = gr ∧ OwnR w' w.heap.size a' c' xs ∧ Bs w w') ?_).mono (by rintro e w' ⟨v, rfl, a', c', xs, rfl, h⟩; exact ⟨a', c', xs, rfl, h⟩)
  unfold GFr.next_vc
  have t1 := hW.top
  have t2 := hS.n2
  have t3 := hW.gen
  have t4 := hW.groups
  have sp := secN_pos (grpB gr).length
  obtain ⟨m1, r1⟩ := readL_one hS ho (q := L.first + L.used) (by omega)
  obtain ⟨m2, r2⟩ := readL_ok (S := S) ho (q := L.first + (L.used + 1)) (m := secN (grpB gr).length - 1) (by omega)
  refine drewB (Bs.refl w) fun w2 b2 B2 e2 => ⟨_, (h.bs B2).cl.2.2.2.2.1, _, (h.bs B2).cl.2.2.1, br_n (by omega) ⟨_, (h.bs B2).cl.2.2.2.2.1, ?_⟩⟩
  refine (fread_new (h.bs B2) (t.bs B2) hS hW L.used 1 (by omega)).mono ?_
  rintro e w3 ⟨a3, mm, c3, rfl, hm3, o3, B23⟩
  rw [r1, hT.1] at hm3 o3
  have hhl := headF_len L.gen L.groups (grpB gr)
  subst hm3
  rw [m1]
  have B3 := B2.to B23
  have cap3 := o3.cap.1
  refine ⟨keepG_nil _ _, a3, _, c3, _, rfl, br_n (by decide) ?_⟩
  refine callB B3 (count_ret (h.bs B3) hW t2 o3.row hhl (by omega) (V := .tuple #[.int .i64 ((grpB gr).length : Int), .bool (decide (secN (grpB gr).length ≤ L.size - L.used))]) ⟨fun e => absurd (headF_take17 _ _ _) e, fun _ => ⟨grpB gr, rfl, by omega, rfl⟩⟩) fun w4 b4 B4 => ⟨_, _, rfl, ?_⟩
  rw [decide_eq_true (show secN (grpB gr).length ≤ L.size - L.used by omega)]
  refine br_f rfl (newB B4 fun gb w5 gb0 sgb n5 z5 b5 B5 => ⟨by decide, by omega, ?_⟩)
  have o4 := o3.below b4 (Nat.le_refl _)
  have o5 : Own w5 w4.heap.size 5 1 (.slice (some ⟨gb, 0, none⟩) 0 0) 0 (([] : List UInt8).map bV) := own_lit (bs := []) n5 (by omega) (Nat.zero_le _)
  have rh := row_base (c := c3) (bs := headF L.gen L.groups (grpB gr)) (o4.below b5 (Nat.le_refl _)).row cap3 25
  have hdl : ((headF L.gen L.groups (grpB gr)).drop 25).length = 39 := by rw [List.length_drop, hhl]
  have e39 : (headF L.gen L.groups (grpB gr)).length - (25 : Int).toNat = ((headF L.gen L.groups (grpB gr)).drop 25).length := by rw [hdl, hhl]; rfl
  rw [e39]
  refine appF (w0 := w4) ((Bs.refl w4).to b5) o5 (Nat.le_refl _) b5.size (srcB rh) (by rw [hdl]; unfold maxLen; decide) (by rw [hdl]; decide) fun a6 c6 w6 o6 B46 z6 f6 or6 => ?_
  have B6 := B4.to B46
  rw [Nat.zero_add ((headF L.gen L.groups (grpB gr)).drop 25).length] at o6 ⊢
  have o6 : Own w6 w4.heap.size 5 1 (.slice a6 ((headF L.gen L.groups (grpB gr)).drop 25).length c6) ((headF L.gen L.groups (grpB gr)).drop 25).length (((headF L.gen L.groups (grpB gr)).drop 25).map bV) := o6
  refine drewB B6 fun w7 b7 B7 e7 => ⟨_, (h.bs B7).cl.2.2.2.2.1, callB B7 (fsec_ret (grpB gr).length (by omega) w7) fun w8 b8 B8 => ⟨_, rfl, (h.bs B8).cl.2.2.2.2.1, ?_⟩⟩
  rw [wr64 (z := (L.used : Int) + 1) (by omega) (by omega), wr64 (z := ((secN (grpB gr).length : Nat) : Int) - 1) (by omega) (by omega), show (L.used : Int) + 1 = ((L.used + 1 : Nat) : Int) by omega, show ((secN (grpB gr).length : Nat) : Int) - 1 = ((secN (grpB gr).length - 1 : Nat) : Int) by omega]
  refine (fread_new (h.bs B8) (t.bs B8) hS hW (L.used + 1) (secN (grpB gr).length - 1) (by omega)).mono ?_
  rintro e w9 ⟨a9, mm, c9, rfl, hm9, o9, B89⟩
  have etl : readS S (L.first + (L.used + 1)) (secN (grpB gr).length - 1) = (List.range (secN (grpB gr).length - 1)).flatMap (pieceF ((grpB gr).drop 39)) := by
    rw [show L.first + (L.used + 1) = L.first + L.used + 1 by omega]
    exact there_tail hT _ (Nat.le_refl _)
  rw [r2, etl] at hm9 o9
  rw [m2]
  have B9 := B8.to B89
  have B49 : Bs w4 w9 := ((B46.to b7).to b8).to B89
  have o9b := ((o6.below b7 (Nat.le_refl _)).below b8 (Nat.le_refl _)).below B89 (Nat.le_refl _)
  have o9h := o4.below B49 (Nat.le_refl _)
  have htl : ((List.range (secN (grpB gr).length - 1)).flatMap (pieceF ((grpB gr).drop 39))).length = 64 * (secN (grpB gr).length - 1) := by
    rw [← etl, readS_len hS]; omega
  generalize htf : (List.range (secN (grpB gr).length - 1)).flatMap (pieceF ((grpB gr).drop 39)) = tl at hm9 o9 htl
  subst hm9
  have hjoin := group_join L.gen L.groups (grpB gr)
  -- where the tail stands
  obtain ⟨tb, htb, htb2, htb3⟩ : ∃ tb, (∀ q, a9 = some q → q.block = tb) ∧ (Value.slice a6 ((headF L.gen L.groups (grpB gr)).drop 25).length c6).ownBlock ≠ some tb ∧ tb < w9.heap.size := by
    cases ha : a9 with
    | none =>
      have hlt : gl < w9.heap.size := (h.bs B9).lt
      refine ⟨gl, (fun q hq => by cases hq), fun e => ?_, hlt⟩
      have := (o6.lt gl e).1
      have : gl < w.heap.size := Bk.lt h
      have := B4.size
      omega
    | some q =>
      subst ha
      have hq := o9.lt q.block rfl
      refine ⟨q.block, fun q' hq' => by injection hq' with hq'; rw [hq'], fun e => ?_, hq.2⟩
      have := (o6.lt q.block e).2
      have := b7.size
      have := b8.size
      omega
  refine ⟨keepG_nil _ _, a9, _, c9, _, rfl, br_n (by decide) ?_⟩
  refine ⟨fun ab nb cb at' nt ct wx => ∃ j : Nat, j ≤ secN (grpB gr).length - 1 ∧ nb = ((headF L.gen L.groups (grpB gr)).drop 25 ++ joinN (pieceF ((grpB gr).drop 39)) j).length ∧ Own wx w4.heap.size 5 1 (.slice ab nb cb) nb (((headF L.gen L.groups (grpB gr)).drop 25 ++ joinN (pieceF ((grpB gr).drop 39)) j).map bV) ∧
      nt = (tl.drop (64 * j)).length ∧ nt ≤ ct ∧ RowAt wx at' ((tl.drop (64 * j)).map bV) ∧ (∀ q, at' = some q → q.block = tb) ∧ (Value.slice ab nb cb).ownBlock ≠ some tb ∧ tb < wx.heap.size ∧ Bs w4 wx, fun _ _ _ _ nt _ _ => nt,
    ⟨0, Nat.zero_le _, by simp [joinN], by simpa [joinN] using o9b, by simp, o9.cap.1, by simpa using o9.row, htb, htb2, htb3, B49⟩, ?_⟩
  rintro ab nb cb at' nt ct wx ⟨j, hj, rfl, ob, rfl, hct, rt, ht1, ht2, ht3, Bx⟩
  have htdl : (tl.drop (64 * j)).length = 64 * (secN (grpB gr).length - 1 - j) := by rw [List.length_drop, htl]; omega
  have hjl : (joinN (pieceF ((grpB gr).drop 39)) j).length ≤ 64 * j := by
    exact join_le _ _
  have secb := secN_le (grpB gr).length
  have hnb : ((headF L.gen L.groups (grpB gr)).drop 25 ++ joinN (pieceF ((grpB gr).drop 39)) j).length ≤ 39 + 64 * j := by rw [List.length_append, hdl]; omega
  refine br_dec (fun hgt => ?_) fun hz => ?_
  · have hj' : j < secN (grpB gr).length - 1 := by omega
    have e63 : (64 : Int).toNat - (1 : Int).toNat = 63 := rfl
    have hpj : (tl.drop (64 * j)).take 64 = pieceF ((grpB gr).drop 39) j := by
      rw [← htf]
      exact flat_drop _ (pieceF_len _) _ j hj'
    have e1 : ((tl.drop (64 * j)).drop 1).take 63 = ((pieceF ((grpB gr).drop 39) j).drop 1).take 63 := by
      rw [← hpj, List.drop_take, List.take_take]
      rfl
    have rs : RowAt wx (sliceBase at' ct (1 : Int).toNat 1) ((((pieceF ((grpB gr).drop 39) j).drop 1).take 63).map bV) := by
      rw [← e1, List.map_take]
      exact (row_base (c := ct) (bs := tl.drop (64 * j)) rt hct 1).take 63
    have hl63 : (((pieceF ((grpB gr).drop 39) j).drop 1).take 63).length = 63 := by rw [List.length_take, List.length_drop, pieceF_len]; rfl
    have hs := srcB (c := ct - (1 : Int).toNat) rs
    rw [hl63] at hs
    rw [e63]
    refine ⟨by decide, by decide, by omega, appF Bx ob (Nat.le_refl _) Bx.size hs (by unfold maxLen; omega) (by omega) fun a7 c7 w7 o7 B47 z7 f7 or7 => ⟨by decide, by omega, ⟨j + 1, by omega, ?_, ?_, ?_, ?_, ?_, ?_, ?_, by omega, B47⟩, ?_⟩⟩
    · rw [joinN_succ, ← List.append_assoc, List.length_append (bs := ((pieceF ((grpB gr).drop 39) j).drop 1).take 63), hl63]
    · rw [joinN_succ, ← List.append_assoc, List.map_append]
      exact o7
    · rw [show (64 : Int).toNat = 64 from rfl, List.length_drop, List.length_drop]; omega
    · rw [show (64 : Int).toNat = 64 from rfl]; omega
    · rw [show 64 * (j + 1) = 64 * j + 64 by omega, ← List.drop_drop]
      refine (row_base (c := ct) (bs := tl.drop (64 * j)) rt hct 64).keepB fun q hq => ?_
      obtain ⟨q', hq', hqb⟩ := base_block hq
      rw [← hqb, ht1 q' hq']
      exact f7 tb ht3 ht2
    · intro q hq
      obtain ⟨q', hq', hqb⟩ := base_block hq
      rw [← hqb]; exact ht1 q' hq'
    · rcases or7 with h' | ⟨g', h', h3⟩
      · rw [h']; exact ht2
      · rw [h']; intro e; injection e with e; omega
    · dsimp only
      rw [show (64 : Int).toNat = 64 from rfl]
      omega
  · obtain rfl : j = secN (grpB gr).length - 1 := by omega
    have hbl : (grpB gr).length ≤ ((headF L.gen L.groups (grpB gr)).drop 25 ++ joinN (pieceF ((grpB gr).drop 39)) (secN (grpB gr).length - 1)).length := by
      have := congrArg List.length hjoin
      rw [List.length_take] at this
      omega
    have capb := ob.cap.1
    have rb : RowAt wx ab ((grpB gr).map bV) := by
      have := ob.row.take (grpB gr).length
      rw [← List.map_take, hjoin] at this
      exact this
    refine ⟨by omega, by omega, drewB (B4.to Bx) fun w12 b12 B12 e12 => ⟨by decide, by decide, by omega, labelB L.gen L.groups (grpB gr), by rw [labelB_len]; rfl, ?_, _, (h.bs B12).cl.2.2.2.1, _, (h.bs B12).cl.2.2.2.2.2, ?_⟩⟩
    · have := (row_base (c := c3) (bs := headF L.gen L.groups (grpB gr)) (o4.below (Bx.to b12) (Nat.le_refl _)).row cap3 1).take 24
      rw [← List.map_take, headF_label] at this
      exact this
    rw [Int.toNat_natCast]
    have rb12 := rb.bs b12
    refine (label_new L.gen L.groups t3 (by omega) (c := cb) w12 rb12 (by omega) (by omega)).mono ?_
    rintro e w13 ⟨a13, c13, rfl, o13, b13⟩
    have B13 := B12.to b13
    refine ⟨keepG_nil _ _, a13, _, c13, rfl, ?_, labelB L.gen L.groups (grpB gr), rfl, o13.row, br_n (by simp) ?_⟩
    · have := (row_base (c := c3) (bs := headF L.gen L.groups (grpB gr)) (o4.below ((Bx.to b12).to b13) (Nat.le_refl _)).row cap3 1).take 24
      rw [← List.map_take, headF_label] at this
      exact this
    refine (records_new (c := cb) w13 (rb12.bs b13) hb).mono ?_
    rintro e w14 ⟨a14, c14, xs, rfl, hxs, hO, b14⟩
    exact ⟨keepG_nil _ _, a14, _, c14, _, rfl, a14, c14, xs, rfl, hxs, hO.base B13.size, B13.to b14⟩
end
end Go.Proofs.Ytpfmadinijofeaa
end
section
/- The program's log: opened; walked. -/
namespace Go.Proofs.Ytpfmadinijofeaa
open Go.RowKit
theorem fsecx_ret {a : Option Addr} {c : Nat} {xs : List Im} (w : World) (hx : Ims w a xs) (hl : (grpB (recs xs)).length ≤ 1000000) : Calls Try.prog 30 #[.slice a xs.length c] w (Ret (.int .i64 ((secN (grpB (recs xs)).length : Nat) : Int)) w) := by
  refine ret_in (GFr.sectorsX_calls a xs.length c w (fun u w' => u = .int .i64 ((secN (grpB (recs xs)).length : Nat) : Int) ∧ Below w.heap.size w w') ?_)
  unfold GFr.sectorsX_vc
  have hc := grpB_count (recs xs)
  have hrl : (recs xs).length = xs.length := by simp [recs]
  refine (fbody_new w hx (by omega) hl fun x hm => ?_).mono ?_
  · obtain ⟨k, hk, rfl⟩ := List.getElem_of_mem hm
    have := (grpB_one (recs xs) (k := k) (by omega)).1
    have e : (recs xs)[k]'(by omega) = xs[k].bs := by simp [recs]
    rw [e] at this
    omega
  · rintro e w2 ⟨a2, c2, rfl, o2, b2⟩
    exact ⟨keepG_nil _ _, a2, _, c2, rfl, callB b2 (fsec_ret _ (by omega) w2) fun w3 b3 B3 => ⟨_, rfl, rfl, B3⟩⟩
theorem appRs {w0 w : World} {n1 c c2 : Nat} {a a2 : Option Addr} {xs ys : List Im} {K : Nat → Option Addr → Nat → World → Prop} (B : Bs w0 w) (h : OwnR w n1 a c xs) (h2 : OwnR w n1 a2 c2 ys) (h1 : w0.heap.size ≤ n1) (hn : n1 ≤ w.heap.size) (hl : xs.length + ys.length ≤ 1000000000)
    (k : ∀ a' c' w2, OwnR w2 n1 a' c' (xs ++ ys) → OwnR w2 n1 a2 c2 ys ∨ ys = [] ∨ True → Bs w0 w2 → w.heap.size ≤ w2.heap.size → (∀ q, q < w.heap.size → (Value.slice a xs.length c).ownBlock ≠ some q → w2.heap[q]? = w.heap[q]?) → K ys.length a' c' w2) :
    appO Try.prog [] w 22 1 24 44 a xs.length c (.slice a2 ys.length c2) K := by
  have hs := Src.ofRow (P := Try.prog) (tx := 44) (w := w) Try.underlying44 a2 c2 (ys.map slV) h2.own.row (fun u hu => by obtain ⟨x, _, rfl⟩ := List.mem_map.1 hu; rfl)
  rw [List.length_map] at hs
  refine appF B h.own h1 hn hs (by unfold maxLen; omega) (by omega) fun a' c' w2 o2 B2 z2 f2 or2 => ?_
  have hne : ∀ (y : Im), (Own w n1 5 1 (.slice y.a y.bs.length y.c) y.bs.length (y.bs.map bV)) → Own w2 n1 5 1 (.slice y.a y.bs.length y.c) y.bs.length (y.bs.map bV) := fun y hy => hy.keep fun q hq => f2 q (hy.lt q hq).2 fun e => own_kinds h.own hy (by decide) e hq
  refine k a' c' w2 ⟨?_, fun y hy => ?_⟩ (.inr (.inr trivial)) B2 z2 f2
  · rw [List.map_append, List.length_append]; exact o2
  · rcases List.mem_append.1 hy with hy | hy
    · exact hne y (h.rows y hy)
    · exact hne y (h2.rows y hy)
theorem OwnR.not {w : World} {n1 c q : Nat} {a : Option Addr} {xs : List Im} {cs : Array Value} {t : TypeId} (h : OwnR w n1 a c xs) (hb : Bk w q cs t) (ht : t ≠ 22) : (Value.slice a xs.length c).ownBlock ≠ some q := fun e => by
  obtain ⟨cur, k⟩ := h.own.blk e
  have hb : w.heap[q]? = _ := hb
  rw [hb] at k
  injection k with k
  injection k with _ k
  exact ht k
theorem OwnR.fr1 {w w' : World} {n1 c q : Nat} {a : Option Addr} {xs : List Im} {cs : Array Value} {t : TypeId} (h : OwnR w n1 a c xs) (hb : Bk w q cs t) (ht : t ≠ 22) (ht2 : t ≠ 5) (f : Fr [q] w w') : OwnR w' n1 a c xs :=
  ⟨h.own.keep fun k hk => f.block k (h.own.lt k hk).2 fun hm => by rw [List.mem_singleton] at hm; subst hm; exact h.not hb ht hk,
   fun x hx => (h.rows x hx).keep fun k hk => f.block k ((h.rows x hx).lt k hk).2 fun hm => by
    rw [List.mem_singleton] at hm
    subst hm
    obtain ⟨cur, k2⟩ := (h.rows x hx).blk hk
    have hb : w.heap[k]? = _ := hb
    rw [hb] at k2
    injection k2 with k2
    injection k2 with _ k2
    exact ht2 k2⟩
theorem LgAt.turnU {w0 w : World} {gl g m : Nat} {L : LG} {v : Value} {K : World → Prop} (h : LgAt w gl g L) (B : Bs w0 w) (hg : w0.heap.size ≤ gl) (hv : v = .int .i64 ((L.used + m : Nat) : Int)) (k : ∀ w1, LgAt w1 gl g ⟨L.first, L.size, L.gen, L.used + m, L.groups⟩ → Fr [gl] w w1 → Bs w0 w1 → w1.heap.size = w.heap.size → K w1) : stO [] w gl (0 + 4) [v] K := by
  subst hv
  rw [Nat.zero_add]
  exact stB1 B hg (show Bk w gl _ _ from h) (by simp) (fun y hy => by cases hy) fun w1 k1 f1 B1 z1 => k w1 k1 f1 B1 z1
theorem LgAt.turnG {w0 w : World} {gl g : Nat} {L : LG} {v : Value} {K : World → Prop} (h : LgAt w gl g L) (B : Bs w0 w) (hg : w0.heap.size ≤ gl) (hv : v = .int .i64 ((L.groups + 1 : Nat) : Int)) (k : ∀ w1, LgAt w1 gl g ⟨L.first, L.size, L.gen, L.used, L.groups + 1⟩ → Fr [gl] w w1 → Bs w0 w1 → w1.heap.size = w.heap.size → K w1) : stO [] w gl (0 + 5) [v] K := by
  subst hv
  rw [Nat.zero_add]
  exact stB1 B hg (show Bk w gl _ _ from h) (by simp) (fun y hy => by cases hy) fun w1 k1 f1 B1 z1 => k w1 k1 f1 B1 z1
theorem open_nil (first size gen : Int) (w : World) : Calls Try.prog 22 #[.pointer none, .int .i64 first, .int .i64 size, .int .i64 gen] w (Ret (.tuple #[.pointer none, .slice none 0 0, .int .i64 1]) w) := by
  refine ret_in (GFr.open_calls none first size gen w (fun u w' => u = .tuple #[.pointer none, .slice none 0 0, .int .i64 1] ∧ Below w.heap.size w w') ?_)
  unfold GFr.open_vc
  exact ⟨fun _ _ _ _ _ => False, fun _ _ _ _ _ => 0, br_t rfl ⟨rfl, Bs.refl w⟩, fun _ _ _ _ _ h => h.elim⟩
theorem open_no {w : World} {g gd mb : Nat} {S : DS} (t : DkAt w g gd mb S) (hS : DWf S) (first size gen : Int) (h1 : first ≤ 9223372036854775807) (h2 : size ≤ 9223372036854775807) (hb : first < 0 ∨ gen < 0 ∨ size < 1 ∨ size > S.n ∨ first > S.n - size) :
    Calls Try.prog 22 #[.pointer (some ⟨g, 0, none⟩), .int .i64 first, .int .i64 size, .int .i64 gen] w (Ret (.tuple #[.pointer none, .slice none 0 0, .int .i64 1]) w) := by
  refine ret_in (GFr.open_calls (some ⟨g, 0, none⟩) first size gen w (fun u w' => u = .tuple #[.pointer none, .slice none 0 0, .int .i64 1] ∧ Below w.heap.size w w') ?_)
  unfold GFr.open_vc
  have n1 := hS.n1
  have n2 := hS.n2
  refine ⟨fun _ _ _ _ _ => False, fun _ _ _ _ _ => 0, br_f rfl (br_dec (fun _ => ⟨rfl, Bs.refl w⟩) fun q1 => br_dec (fun _ => ⟨rfl, Bs.refl w⟩) fun q2 => br_dec (fun _ => ⟨rfl, Bs.refl w⟩) fun q3 => ?_), fun _ _ _ _ _ h => h.elim⟩
  refine callB (Bs.refl w) (dsize_ret t) fun w2 b2 B2 => ⟨_, rfl, br_dec (fun _ => ⟨rfl, B2⟩) fun q4 => callB B2 (dsize_ret (t.bs B2)) fun w3 b3 B3 => ⟨_, rfl, ?_⟩⟩
  rw [wr64 (by omega) (by omega)]
  exact br_y (by omega) ⟨rfl, B3⟩
/-- What an opened log is. -/
def OpenQ (w : World) (g : Nat) (L : LG) (rs : Grp) (v : Value) (w' : World) : Prop := ∃ gl a c xs, v = .tuple #[.pointer (some ⟨gl, 0, none⟩), .slice a (xs : List Im).length c, .int .i64 0] ∧ recs xs = rs ∧ OwnR w' w.heap.size a c xs ∧ LgAt w' gl g L ∧ w.heap.size ≤ gl ∧ Bs w w'
set_option maxHeartbeats 800000 in
theorem open_new {w : World} {g gd mb : Nat} {S : DS} (t : DkAt w g gd mb S) (hS : DWf S) (ho : S.off = false) {first size gen u : Nat} {gs : List Grp} (h1 : 1 ≤ size) (h2 : first + size ≤ S.n) (h3 : gen < 9223372036854775808) (hC : Chain S first gen 0 0 gs u) (hu : u ≤ size)
    (hstop : u = size ∨ (nowS S (first + u)).take 17 ≠ headP gen gs.length) (hr : gs.flatten.length ≤ 1000000) :
    Calls Try.prog 22 #[.pointer (some ⟨g, 0, none⟩), .int .i64 (first : Int), .int .i64 (size : Int), .int .i64 (gen : Int)] w fun e w' => ∃ v, e = .returned v ∧ OpenQ w g ⟨first, size, gen, u, gs.length⟩ gs.flatten v w' := by
  refine GFr.open_calls (some ⟨g, 0, none⟩) first size gen w (OpenQ w g ⟨first, size, gen, u, gs.length⟩ gs.flatten) ?_
  unfold GFr.open_vc
  have n2 := hS.n2
  -- a pass: what 'next' tells
  have pass : ∀ {wx : World} {gl p : Nat} {done rest : List Grp}, Bs w wx → LgAt wx gl g ⟨first, size, gen, p, done.length⟩ → gs = done ++ rest → Chain S first gen p done.length rest u → done.length ≤ p →
      (rest = [] ∧ Calls Try.prog 59 #[.pointer (some ⟨gl, 0, none⟩)] wx (Ret (.tuple #[.slice none 0 0, .bool false, .int .i64 0]) wx)) ∨
      (∃ gr r, rest = gr :: r ∧ Calls Try.prog 59 #[.pointer (some ⟨gl, 0, none⟩)] wx fun e w' => ∃ a' c' xs, e = .returned (.tuple #[.slice a' (xs : List Im).length c', .bool true, .int .i64 0]) ∧ recs xs = gr ∧ OwnR w' wx.heap.size a' c' xs ∧ Bs wx w') := fun {wx gl p done rest} B hL hg hc hp => by
    obtain ⟨c1, c2⟩ := hc.le
    have hW : LWf S ⟨first, size, gen, p, done.length⟩ := ⟨h2, by show p ≤ size; omega, hp, h3⟩
    cases rest with
    | nil =>
      have hc : u = p := hc
      subst hc
      refine .inl ⟨rfl, ?_⟩
      rcases hstop with e | e
      · exact next_end hL e
      · by_cases e2 : u = size
        · exact next_end hL e2
        · refine next_no hL (t.bs B) hS hW ho (by show u < size; omega) ?_
          rw [hg, List.append_nil] at e
          exact e
    | cons gr r =>
      obtain ⟨q1, q2, q3, q4⟩ := hc
      refine .inr ⟨gr, r, rfl, next_yes hL (t.bs B) hS hW ho q3 ?_ q1⟩
      have := q4.le.1
      show p + secN (grpB gr).length ≤ size
      omega
  refine ⟨fun p a n c wx => ∃ gl p' done rest xs, p = some ⟨gl, 0, none⟩ ∧ n = (xs : List Im).length ∧ recs xs = done.flatten ∧ OwnR wx w.heap.size a c xs ∧ LgAt wx gl g ⟨first, size, gen, p', done.length⟩ ∧ w.heap.size ≤ gl ∧ Bs w wx ∧ gs = done ++ rest ∧ Chain S first gen p' done.length rest u ∧ done.length ≤ p', fun _ _ n _ _ => gs.flatten.length - n, ?_, ?_⟩
  · refine br_f rfl (br_n (by omega) (br_n (by omega) (br_n (by omega) (callB (Bs.refl w) (dsize_ret t) fun w2 b2 B2 => ⟨_, rfl, br_n (by omega) (callB B2 (dsize_ret (t.bs B2)) fun w3 b3 B3 => ⟨_, rfl, ?_⟩)⟩))))
    rw [wr64 (by omega) (by omega)]
    refine br_n (by omega) (newB B3 fun gl w4 gl0 sgl n4 z4 b4 B4 => ?_)
    have hL : LgAt w4 gl g ⟨first, size, gen, 0, ([] : List Grp).length⟩ := n4
    rcases pass B4 hL (done := []) (rest := gs) rfl hC (Nat.zero_le _) with ⟨e0, hcall⟩ | ⟨gr, r, e0, hcall⟩
    · subst e0
      refine callB B4 hcall fun w5 b5 B5 => ⟨_, _, _, _, _, rfl, br_n (by decide) (br_t rfl ⟨gl, none, 0, [], rfl, rfl, OwnR.nil _ _, ?_, gl0, B5⟩)⟩
      have hC : u = 0 := hC
      subst hC
      exact hL.bs b5
    · refine hcall.mono ?_
      rintro e w5 ⟨a5, c5, ys, rfl, hys, hO, b5⟩
      have B5 := B4.to b5
      have hl5 : ys.length ≤ 1000000 := by
        have e1 : ys.length = gr.length := by rw [← hys]; simp [recs]
        rw [e0, List.flatten_cons, List.length_append] at hr
        omega
      rw [e0] at hC
      refine ⟨keepG_nil _ _, a5, _, c5, _, _, rfl, br_n (by decide) (br_f rfl ?_)⟩
      refine appRs (xs := []) B5 (OwnR.nil _ w.heap.size) (hO.base B4.size) (Nat.le_refl _) B5.size (by show 0 + _ ≤ _; omega) fun a6 c6 w6 O6 _ B6 z6 f6 => ?_
      have hL6 : LgAt w6 gl g ⟨first, size, gen, 0, 0⟩ := Bk.keep (hL.bs b5) (f6 gl (Bk.lt (hL.bs b5)) fun e => by cases e)
      have hI5 : Ims w6 a5 ys := (OwnR.keep hO fun q _ h2' => f6 q h2' fun e => by cases e).ims
      have hg3 : (grpB (recs ys)).length ≤ 1000000 := by rw [hys]; exact hC.2.2.1
      refine drewB B6 fun w7 b7 B7 e7 => ⟨_, (hL6.bs b7).cl.2.2.2.2.1, callB B7 (fsecx_ret w7 (hI5.below b7) hg3) fun w8 b8 B8 => ⟨_, rfl, ((hL6.bs b7).bs b8).cl.2.2.2.2.1, ?_⟩⟩
      have hsec := secN_le (grpB (recs ys)).length
      have hL8 := (hL6.bs b7).bs b8
      have O8 := (O6.below b7).below b8
      refine hL8.turnU B8 gl0 (by show Value.int .i64 (IntKind.i64.wrap (((0 : Nat) : Int) + ((secN (grpB (recs ys)).length : Nat) : Int))) = _; rw [wr64 (by omega) (by omega)]; congr 1) fun w9 k9 f9 B9 z9 => ⟨_, k9.cl.2.2.2.2.2, ?_⟩
      refine k9.turnG B9 gl0 (by show Value.int .i64 (IntKind.i64.wrap (((0 : Nat) : Int) + 1)) = _; rw [wr64 (by omega) (by omega)]; rfl) fun w10 k10 f10 B10 z10 => ?_
      have O10 := (O8.fr1 (show Bk w8 gl _ _ from hL8) (by decide) (by decide) f9).fr1 (show Bk w9 gl _ _ from k9) (by decide) (by decide) f10
      rw [hys] at k10
      exact ⟨gl, 0 + secN (grpB gr).length, [gr], r, [] ++ ys, rfl, by simp, by rw [List.nil_append, hys]; simp, O10, k10, gl0, B10, by rw [e0]; rfl, hC.2.2.2, by have := secN_pos (grpB gr).length; show 1 ≤ _; omega⟩
  · rintro p a n c wx ⟨gl, p', done, rest, xs, rfl, rfl, hxs, hO, hL, gl0, Bx, hg, hc, hdp⟩
    have hcl := hc.le
    rcases pass Bx hL hg hc hdp with ⟨e0, hcall⟩ | ⟨gr, r, e0, hcall⟩
    · subst e0
      have hc : u = p' := hc
      subst hc
      rw [List.append_nil] at hg
      subst hg
      exact callB Bx hcall fun w5 b5 B5 => ⟨_, _, _, _, _, rfl, br_n (by decide) (br_t rfl ⟨gl, a, c, xs, rfl, hxs, hO.below b5, hL.bs b5, gl0, B5⟩)⟩
    · refine hcall.mono ?_
      rintro e w5 ⟨a5, c5, ys, rfl, hys, hO5, b5⟩
      have B5 := Bx.to b5
      subst e0
      have hle : xs.length + ys.length ≤ gs.flatten.length ∧ 0 < ys.length := by
        have e1 : ys.length = gr.length := by rw [← hys]; simp [recs]
        have e2 : xs.length = done.flatten.length := by rw [← hxs]; simp [recs]
        have e3 : 0 < gr.length := List.length_pos_iff.2 hc.2.1
        rw [hg, List.flatten_append, List.flatten_cons, List.length_append, List.length_append]
        omega
      refine ⟨keepG_nil _ _, a5, _, c5, _, _, rfl, br_n (by decide) (br_f rfl ?_)⟩
      refine appRs B5 (hO.below b5) (hO5.base Bx.size) (Nat.le_refl _) B5.size (by omega) fun a6 c6 w6 O6 _ B6 z6 f6 => ?_
      have hL5 := hL.bs b5
      have hL6 : LgAt w6 gl g ⟨first, size, gen, p', done.length⟩ := Bk.keep hL5 (f6 gl (Bk.lt hL5) ((hO.below b5).not (show Bk w5 gl _ _ from hL5) (by decide)))
      have hI6 : Ims w6 a5 ys := by
        refine (OwnR.ims ⟨hO5.own.keep fun q hq => f6 q (hO5.own.lt q hq).2 fun e => ?_, fun y hy => (hO5.rows y hy).keep fun q hq => f6 q ((hO5.rows y hy).lt q hq).2 fun e => own_kinds (hO.below b5).own (hO5.rows y hy) (by decide) e hq⟩)
        have := (hO5.own.lt q hq).1
        have := (hO.own.lt q e).2
        omega
      have hg3 : (grpB (recs ys)).length ≤ 1000000 := by rw [hys]; exact hc.2.2.1
      have hsec := secN_le (grpB (recs ys)).length
      have hp8 : p' ≤ 8192 := by omega
      have hd8 : done.length ≤ 8192 := by omega
      refine drewB B6 fun w7 b7 B7 e7 => ⟨_, (hL6.bs b7).cl.2.2.2.2.1, callB B7 (fsecx_ret w7 (hI6.below b7) hg3) fun w8 b8 B8 => ⟨_, rfl, ((hL6.bs b7).bs b8).cl.2.2.2.2.1, ?_⟩⟩
      have hL8 := (hL6.bs b7).bs b8
      have O8 := (O6.below b7).below b8
      refine hL8.turnU B8 gl0 (by show Value.int .i64 (IntKind.i64.wrap ((p' : Int) + ((secN (grpB (recs ys)).length : Nat) : Int))) = _; rw [wr64 (by omega) (by omega)]; congr 1) fun w9 k9 f9 B9 z9 => ⟨_, k9.cl.2.2.2.2.2, ?_⟩
      refine k9.turnG B9 gl0 (by show Value.int .i64 (IntKind.i64.wrap ((done.length : Int) + 1)) = _; rw [wr64 (by omega) (by omega)]; rfl) fun w10 k10 f10 B10 z10 => ?_
      have O10 := (O8.fr1 (show Bk w8 gl _ _ from hL8) (by decide) (by decide) f9).fr1 (show Bk w9 gl _ _ from k9) (by decide) (by decide) f10
      rw [hys] at k10
      refine ⟨⟨gl, p' + secN (grpB gr).length, done ++ [gr], r, xs ++ ys, rfl, by simp, ?_, O10, by simpa using k10, gl0, B10, by rw [hg, List.append_assoc]; rfl, by simpa using hc.2.2.2, by have := secN_pos (grpB gr).length; rw [List.length_append]; show _ + 1 ≤ _; omega⟩, by dsimp only; omega⟩
      show (xs ++ ys).map _ = _
      rw [List.map_append, show xs.map (·.bs) = done.flatten from hxs, show ys.map (·.bs) = gr from hys, List.flatten_append]
      simp
end Go.Proofs.Ytpfmadinijofeaa
end
section
/- The program's log: a group more; walked. -/
namespace Go.Proofs.Ytpfmadinijofeaa
open Go.RowKit
theorem bodyB_app {a b : List UInt8} (h : a.length % 64 = 0) : bodyB (a ++ b) = a ++ bodyB b := by
  unfold bodyB
  rw [List.length_append, List.append_assoc, show (64 - (a.length + b.length) % 64) % 64 = (64 - b.length % 64) % 64 by omega]
theorem drop_step (d : List UInt8) (j : Nat) : d.drop (63 * (j + 1)) = (d.drop (63 * j)).drop (((d.drop (63 * j)).take 63).length) := by
  by_cases h63 : 63 ≤ (d.drop (63 * j)).length
  · rw [List.length_take, Nat.min_eq_left h63, List.drop_drop, Nat.mul_add]
  · rw [List.length_take, Nat.min_eq_right (by omega), List.drop_length, List.drop_of_length_le (by rw [List.length_drop] at h63; omega)]
theorem tail_any {w : World} {gl g gd mb : Nat} {L : LG} {S : DS} (h : LgAt w gl g L) (t : DkAt w g gd mb S) (hS : DWf S) (hW : LWf S L) (hgl : gl ∉ [g, gd, mb]) {a : Option Addr} {c : Nat} {b : List UInt8} (hr : RowAt w a (b.map bV)) (hl : b.length ≤ 1000000) (hc : b.length ≤ c) :
    Calls Try.prog 62 #[.pointer (some ⟨gl, 0, none⟩), .slice a b.length c] w (DDo w g gd mb (.int .i64 (pwE S ((L.first + L.used + 1 : Nat) : Int) (tailF b))) (pwD S ((L.first + L.used + 1 : Nat) : Int) (tailF b))) := by
  refine ddo_in (GFr.tail_calls (some ⟨gl, 0, none⟩) a b.length c w (DDoV w g gd mb (.int .i64 (pwE S ((L.first + L.used + 1 : Nat) : Int) (tailF b))) (pwD S ((L.first + L.used + 1 : Nat) : Int) (tailF b))) ?_)
  unfold GFr.tail_vc
  have t1 := hW.top
  have t2 := hW.used
  have t3 := hS.n2
  have tl := tailF_len b
  refine br_dec (fun hle => ?_) fun hgt => ?_
  · have e : tailF b = [] := List.eq_nil_of_length_eq_zero (by rw [tl]; unfold secN; rw [if_pos (by omega)])
    exact ddo_no t (Bs.refl w) (by unfold pwE; rw [if_pos e]) (by unfold pwD; rw [if_pos e])
  have hsec : secN b.length - 1 = (b.length + 23) / 63 := by unfold secN; rw [if_neg (by omega)]; omega
  have hne : tailF b ≠ [] := fun e => by rw [e, hsec] at tl; simp at tl; omega
  have e39 : (39 : Int).toNat = 39 := rfl
  rw [e39]
  have hdl : (b.drop 39).length = b.length - 39 := List.length_drop
  refine ⟨by decide, by omega, ?_⟩
  refine ⟨fun a1 m1 c1 a5 n5 c5 wx => ∃ j : Nat, m1 = ((b.drop 39).drop (63 * j)).length ∧ m1 ≤ c1 ∧ RowAt w a1 (((b.drop 39).drop (63 * j)).map bV) ∧ n5 = (tailN (b.drop 39) j).length ∧ Own wx w.heap.size 5 1 (.slice a5 n5 c5) n5 ((tailN (b.drop 39) j).map bV) ∧ Bs w wx ∧ (j = 0 ∨ 63 * (j - 1) < b.length - 39), fun _ m1 _ _ _ _ _ => m1,
    ⟨0, by simp, by omega, by simpa using row_base (c := c) (bs := b) hr hc 39, rfl, Own.nil _ _ _ _, Bs.refl w, .inl rfl⟩, ?_⟩
  rintro a1 m1 c1 a5 n5 c5 wx ⟨j, rfl, hc1, r1, rfl, o5, Bx, hj⟩
  have hrl : ((b.drop 39).drop (63 * j)).length = b.length - 39 - 63 * j := by rw [List.length_drop, hdl]
  have htn := tailN_len (b.drop 39) j
  refine br_dec (fun hpos => ?_) fun hz => ?_
  · have hj1 : j ≤ 20000 := by rcases hj with e | e <;> omega
    refine drewB Bx fun w3 b3 B3 e3 => ⟨by omega, by omega, ?_⟩
    have o5' := o5.below b3 (Nat.le_refl _)
    have hck : (((b.drop 39).drop (63 * j)).take 63).length = (min ((((b.drop 39).drop (63 * j)).length : Nat) : Int) 63).toNat := by rw [List.length_take]; omega
    refine appU B3 o5' (Nat.le_refl _) B3.size (by omega) (b := 2) rfl (fun y hy => by cases hy) fun a6 c6 w6 o6 B6 z6 => ?_
    have rc : RowAt w6 a1 ((((b.drop 39).drop (63 * j)).take 63).map bV) := by rw [List.map_take]; exact (r1.bs B6).take 63
    rw [← hck]
    have hcl : (((b.drop 39).drop (63 * j)).take 63).length ≤ 63 := by rw [List.length_take]; omega
    refine appB B6 o6 (Nat.le_refl _) B6.size (srcB rc) (by unfold maxLen; omega) (by omega) (fun y hy => by cases hy) fun a7 c7 w7 o7 g7 B7 z7 => ?_
    have en : (tailN (b.drop 39) j).length + 1 + (((b.drop 39).drop (63 * j)).take 63).length = (tailN (b.drop 39) j ++ (2 :: ((b.drop 39).drop (63 * j)).take 63)).length := by simp; omega
    rw [en] at o7 ⊢
    have o7 : Own w7 w.heap.size 5 1 (.slice a7 (tailN (b.drop 39) j ++ (2 :: ((b.drop 39).drop (63 * j)).take 63)).length c7) (tailN (b.drop 39) j ++ (2 :: ((b.drop 39).drop (63 * j)).take 63)).length ((tailN (b.drop 39) j ++ (2 :: ((b.drop 39).drop (63 * j)).take 63)).map bV) := by
      rw [← List.map_append, List.append_assoc] at o7
      exact o7
    refine (fpad_on B7 o7 (Nat.le_refl _) B7.size (by rw [← en]; omega)).mono ?_
    rintro e w8 ⟨⟨a8, c8, rfl, o8, B8⟩, z8⟩
    rw [bodyB_app (by rw [htn]; omega), show bodyB (2 :: ((b.drop 39).drop (63 * j)).take 63) = pieceF (b.drop 39) j from rfl, ← tailN_succ] at o8 ⊢
    have hdd := drop_step (b.drop 39) j
    refine ⟨keepG_nil _ _, a8, _, c8, rfl, by omega, by omega, ⟨j + 1, ?_, ?_, ?_, rfl, o8, B8, .inr (by omega)⟩, ?_⟩
    · rw [hdd]; exact List.length_drop.symm
    · omega
    · rw [hdd]
      exact row_base (c := c1) (bs := (b.drop 39).drop (63 * j)) r1 hc1 _
    · dsimp only
      omega
  · have hjm : j = secN b.length - 1 := by rw [hsec]; rcases hj with e | e <;> omega
    subst hjm
    have hcl := tailF_len b
    have o5 : Own wx w.heap.size 5 1 (.slice a5 (tailF b).length c5) (tailF b).length ((tailF b).map bV) := o5
    refine drewB Bx fun w8 b8 B8 e8 => ⟨_, (h.bs B8).cl.1, _, (h.bs B8).cl.2.1, _, (h.bs B8).cl.2.2.2.2.1, ?_⟩
    rw [wr64 (z := (L.first : Int) + L.used) (by omega) (by omega), wr64 (by omega) (by omega), show (L.first : Int) + L.used + 1 = ((L.first + L.used + 1 : Nat) : Int) by omega]
    have o8 := o5.below b8 (Nat.le_refl _)
    have hlt := t.lt
    have hs : secN b.length - 1 ≤ 20000 := by rw [hsec]; omega
    refine (dwrite_any (t.bs B8) hS o8.row (by omega) o8.cap.1 (fun q hq hm => ?_) ((L.first + L.used + 1 : Nat) : Int)).mono ?_
    · subst hq
      have := (o8.lt q.block rfl).1
      simp at hm
      omega
    rintro e w9 ⟨rfl, t9, f9⟩
    have F9 : Fr [g, gd, mb] w w9 := (Fr.ofBelow (L := [g, gd, mb]) B8).trans f9 (Gr.refl _ _)
    refine ⟨keepG_nil _ _, _, rfl, br_dec (fun q1 => ⟨?_, ?_, F9⟩) fun q1 => ?_⟩
    · unfold pwE; rw [if_neg hne, if_pos q1]
    · unfold pwD; rw [if_neg hne, if_pos q1]; exact t9
    have q1 := Decidable.not_not.1 q1
    have h9 : LgAt w9 gl g L := Bk.fr (h.bs B8) f9 hgl
    refine ⟨_, h9.cl.1, (dsync_any t9 (hS.write _ _)).mono ?_⟩
    rintro e w10 ⟨rfl, t10, f10⟩
    refine ⟨keepG_nil _ _, _, rfl, ?_, ?_, F9.trans f10 (Gr.refl _ _)⟩
    · unfold pwE; rw [if_neg hne, if_neg (not_not_intro q1)]
    · unfold pwD; rw [if_neg hne, if_neg (not_not_intro q1)]; exact t10
/-- What an Append leaves. -/
structure ApQ (w : World) (gl g gd mb : Nat) (L : LG) (S : DS) (gr : Grp) (v : Value) (w' : World) : Prop where
  val : v = .int .i64 (apE S L gr)
  dk : DkAt w' g gd mb (apD S L gr)
  lg : LgAt w' gl g (apL S L gr)
  fr : Fr [gl, g, gd, mb] w w'
theorem app_nil (a : Option Addr) (n c : Nat) (w : World) : Calls Try.prog 26 #[.pointer none, .slice a n c] w (Ret (.int .i64 1) w) := by
  refine ret_in (GFr.append_calls none a n c w (fun u w' => u = .int .i64 1 ∧ Below w.heap.size w w') ?_)
  unfold GFr.append_vc
  exact br_t rfl ⟨rfl, Bs.refl w⟩
section
variable {w : World} {gl g gd mb : Nat} {L : LG} {S : DS}
theorem append_k1_ok {w0 wx : World} {gr : Grp} {a14 a8 : Option Addr} {c14 c8 n1 : Nat} (h : LgAt w0 gl g L) (t : DkAt w0 g gd mb (pwD S ((L.first + L.used + 1 : Nat) : Int) (tailF (grpB gr)))) (hS : DWf S) (hW : LWf S L) (hgl : gl ∉ [g, gd, mb]) (F : Fr [gl, g, gd, mb] w w0) (B : Bs w0 wx) (hne : gr ≠ []) (hb : (grpB gr).length ≤ 1000000) (hu : secN (grpB gr).length ≤ L.size - L.used) (hT : pwE S ((L.first + L.used + 1 : Nat) : Int) (tailF (grpB gr)) = 0)
    (r14 : RowAt w0 a14 ((grpB gr).map bV)) (hc : (grpB gr).length ≤ c14) (o8 : Own wx n1 5 1 (.slice a8 25 c8) 25 (([1] ++ labelB L.gen L.groups (grpB gr)).map bV)) (h1 : w0.heap.size ≤ n1) (hn1 : n1 ≤ wx.heap.size) :
    GFr.append_k1 (ApQ w gl g gd mb L S gr) (some ⟨gl, 0, none⟩) a14 (grpB gr).length c14 ((secN (grpB gr).length : Nat) : Int) a8 25 c8 wx := by
  unfold GFr.append_k1
  have t1 := hW.top
  have t2 := hW.used
  have t4 := hW.groups
  have t3 := hS.n2
  have hsl := secN_le (grpB gr).length
  have hck : ((grpB gr).take 39).length = (min (((grpB gr).length : Nat) : Int) 39).toNat := by rw [List.length_take]; omega
  have hcl : ((grpB gr).take 39).length ≤ 39 := by rw [List.length_take]; omega
  have hlt := t.lt
  have hgl0 : gl < w0.heap.size := Bk.lt h
  rw [← hck]
  refine drewB B fun w2 b2 B2 e2 => ⟨_, (h.bs B2).cl.1, _, (h.bs B2).cl.2.1, _, (h.bs B2).cl.2.2.2.2.1, by omega, by omega, ?_⟩
  have r2 : RowAt w2 a14 (((grpB gr).take 39).map bV) := by rw [List.map_take]; exact (r14.bs B2).take 39
  refine appB B2 (o8.below b2 (Nat.le_refl _)) h1 (Nat.le_trans hn1 b2.size) (srcB r2) (by unfold maxLen; omega) (by omega) (fun y hy => by cases hy) fun a3 c3 w3 o3 g3 B3 z3 => ⟨(h.bs B3).cl.1, (h.bs B3).cl.2.1, (h.bs B3).cl.2.2.2.2.1, ?_⟩
  have en : 25 + ((grpB gr).take 39).length = (headRaw L.gen L.groups (grpB gr)).length := by rw [headRaw_len, List.length_take]
  rw [en] at o3 ⊢
  have o3 : Own w3 n1 5 1 (.slice a3 (headRaw L.gen L.groups (grpB gr)).length c3) (headRaw L.gen L.groups (grpB gr)).length ((headRaw L.gen L.groups (grpB gr)).map bV) := by
    rw [← List.map_append] at o3
    exact o3
  refine (fpad_on B3 o3 h1 (Nat.le_trans hn1 (Nat.le_trans b2.size z3)) (by rw [← en]; omega)).mono ?_
  rintro e w4 ⟨⟨a4, c4, he, o4, B4⟩, z4⟩
  rw [show bodyB (headRaw L.gen L.groups (grpB gr)) = headF L.gen L.groups (grpB gr) from rfl] at he o4
  subst he
  have hhl := headF_len L.gen L.groups (grpB gr)
  refine ⟨keepG_nil _ _, a4, _, c4, rfl, (h.bs B4).cl.1, (h.bs B4).cl.2.1, (h.bs B4).cl.2.2.2.2.1, ?_⟩
  rw [wr64 (by omega) (by omega), show (L.first : Int) + L.used = ((L.first + L.used : Nat) : Int) by omega]
  have hS1 := hS.pw ((L.first + L.used + 1 : Nat) : Int) (tailF (grpB gr))
  have hhn : headF L.gen L.groups (grpB gr) ≠ [] := fun e => by rw [e] at hhl; cases hhl
  have eE : apE S L gr = pwE (pwD S ((L.first + L.used + 1 : Nat) : Int) (tailF (grpB gr))) ((L.first + L.used : Nat) : Int) (headF L.gen L.groups (grpB gr)) := by unfold apE; rw [if_neg hne, if_neg (by omega), if_neg (not_not_intro hT)]
  have eD : apD S L gr = pwD (pwD S ((L.first + L.used + 1 : Nat) : Int) (tailF (grpB gr))) ((L.first + L.used : Nat) : Int) (headF L.gen L.groups (grpB gr)) := by unfold apD; rw [if_neg hne, if_neg (by omega), if_neg (not_not_intro hT)]
  generalize pwD S ((L.first + L.used + 1 : Nat) : Int) (tailF (grpB gr)) = T at t hS1 eE eD
  refine (dwrite_any (t.bs B4) hS1 o4.row (by omega) o4.cap.1 (fun q hq hm => ?_) ((L.first + L.used : Nat) : Int)).mono ?_
  · subst hq
    have := (o4.lt q.block rfl).1
    simp at hm
    omega
  rintro e w5 ⟨rfl, t5, f5⟩
  have F5 : Fr [gl, g, gd, mb] w w5 := (F.b B4).trans f5 (fun k hk => .inl (List.mem_cons_of_mem _ hk))
  have h5 : LgAt w5 gl g L := Bk.fr (h.bs B4) f5 hgl
  refine ⟨keepG_nil _ _, _, rfl, br_dec (fun q1 => ?_) fun q1 => ?_⟩
  · have e1 : apE S L gr = writeE T ((L.first + L.used : Nat) : Int) (headF L.gen L.groups (grpB gr)) := by rw [eE]; unfold pwE; rw [if_neg hhn, if_pos q1]
    have e2 : apD S L gr = writeD T ((L.first + L.used : Nat) : Int) (headF L.gen L.groups (grpB gr)) := by rw [eD]; unfold pwD; rw [if_neg hhn, if_pos q1]
    exact ⟨by rw [e1], by rw [e2]; exact t5, by unfold apL; rw [if_neg (by rw [e1]; exact fun k => q1 k.2)]; exact h5, F5⟩
  have q1 := Decidable.not_not.1 q1
  refine ⟨_, h5.cl.1, (dsync_any t5 (hS1.write _ _)).mono ?_⟩
  rintro e w6 ⟨rfl, t6, f6⟩
  have F6 : Fr [gl, g, gd, mb] w w6 := F5.trans f6 (fun k hk => .inl (List.mem_cons_of_mem _ hk))
  have h6 : LgAt w6 gl g L := Bk.fr h5 f6 hgl
  have e1 : apE S L gr = syncE (writeD T ((L.first + L.used : Nat) : Int) (headF L.gen L.groups (grpB gr))) := by rw [eE]; unfold pwE; rw [if_neg hhn, if_neg (not_not_intro q1)]
  have e2 : apD S L gr = syncD (writeD T ((L.first + L.used : Nat) : Int) (headF L.gen L.groups (grpB gr))) := by rw [eD]; unfold pwD; rw [if_neg hhn, if_neg (not_not_intro q1)]
  refine ⟨keepG_nil _ _, _, rfl, br_dec (fun q2 => ?_) fun q2 => ?_⟩
  · exact ⟨by rw [e1], by rw [e2]; exact t6, by unfold apL; rw [if_neg (by rw [e1]; exact fun k => q2 k.2)]; exact h6, F6⟩
  have q2 := Decidable.not_not.1 q2
  have hsz := F6.size
  have eL : apL S L gr = ⟨L.first, L.size, L.gen, L.used + secN (grpB gr).length, L.groups + 1⟩ := by unfold apL; rw [if_pos ⟨hne, by rw [e1]; exact q2⟩]
  refine ⟨_, h6.cl.2.2.2.2.1, ?_⟩
  rw [wr64 (by omega) (by omega)]
  refine stO_bk (show Bk w6 gl _ _ from h6) (by simp) (fun y hy => by cases hy) fun w7 k7 f7 z7 => ?_
  have k7 : LgAt w7 gl g ⟨L.first, L.size, L.gen, L.used + secN (grpB gr).length, L.groups⟩ := k7
  refine ⟨_, k7.cl.2.2.2.2.2, ?_⟩
  rw [wr64 (by show _ ≤ (L.groups : Int) + 1; omega) (by show (L.groups : Int) + 1 ≤ _; omega)]
  refine stO_bk (show Bk w7 gl _ _ from k7) (by simp) (fun y hy => by cases hy) fun w8 k8 f8 z8 => ?_
  have k8 : LgAt w8 gl g ⟨L.first, L.size, L.gen, L.used + secN (grpB gr).length, L.groups + 1⟩ := k8
  have hg1 : ∀ k ∈ [gl], k ∉ [g, gd, mb] := fun k hk hm => by rw [List.mem_singleton] at hk; exact hgl (hk ▸ hm)
  have t8 := (t6.fr f7 (fun e => hgl (by rw [List.mem_singleton] at e; rw [← e]; simp)) (fun e => hgl (by rw [List.mem_singleton] at e; rw [← e]; simp)) (fun e => hgl (by rw [List.mem_singleton] at e; rw [← e]; simp))).fr f8 (fun e => hgl (by rw [List.mem_singleton] at e; rw [← e]; simp)) (fun e => hgl (by rw [List.mem_singleton] at e; rw [← e]; simp)) (fun e => hgl (by rw [List.mem_singleton] at e; rw [← e]; simp))
  exact ⟨by rw [e1, q2], by rw [e2]; exact t8, by rw [eL]; exact k8, (F6.trans f7 (fun k hk => .inl (by rw [List.mem_singleton] at hk; rw [hk]; simp))).trans f8 (fun k hk => .inl (by rw [List.mem_singleton] at hk; rw [hk]; simp))⟩
theorem append_any (h : LgAt w gl g L) (t : DkAt w g gd mb S) (hS : DWf S) (hW : LWf S L) (hgl : gl ∉ [g, gd, mb]) {a : Option Addr} {c : Nat} {xs : List Im} (hx : Ims w a xs) (hb : (grpB (recs xs)).length ≤ 1000000) :
    Calls Try.prog 26 #[.pointer (some ⟨gl, 0, none⟩), .slice a xs.length c] w fun e w' => ∃ v, e = .returned v ∧ ApQ w gl g gd mb L S (recs xs) v w' := by
  refine GFr.append_calls (some ⟨gl, 0, none⟩) a xs.length c w (ApQ w gl g gd mb L S (recs xs)) ?_
  unfold GFr.append_vc
  have t1 := hW.top
  have t2 := hW.used
  have t3 := hS.n2
  have t4 := hW.groups
  have hrc := grpB_count (recs xs)
  have hrl : (recs xs).length = xs.length := by simp [recs]
  have hsl := secN_le (grpB (recs xs)).length
  have sp := secN_pos (grpB (recs xs)).length
  have still : ∀ {wy : World}, Bs w wy → apE S L (recs xs) = 0 ∧ recs xs = [] ∨ apE S L (recs xs) = 11 ∧ recs xs ≠ [] ∧ L.size - L.used < secN (grpB (recs xs)).length → ∀ {z : Int}, z = apE S L (recs xs) → ApQ w gl g gd mb L S (recs xs) (.int .i64 z) wy := fun {wy} B hc {z} hz => by
    refine ⟨by rw [hz], ?_, ?_, Fr.ofBelow B⟩
    · have : apD S L (recs xs) = S := by
        unfold apD
        rcases hc with ⟨_, e⟩ | ⟨_, e1, e2⟩
        · rw [if_pos e]
        · rw [if_neg e1, if_pos e2]
      rw [this]; exact t.bs B
    · have : apL S L (recs xs) = L := by
        unfold apL
        rcases hc with ⟨_, e⟩ | ⟨e0, e1, e2⟩
        · rw [if_neg (fun k => k.1 e)]
        · rw [if_neg (fun k => by rw [e0] at k; exact absurd k.2 (by decide))]
      rw [this]; exact h.bs B
  refine br_f rfl ((fbody_new w hx (by omega) hb fun x hm => ?_).mono ?_)
  · obtain ⟨k, hk, rfl⟩ := List.getElem_of_mem hm
    have := (grpB_one (recs xs) (k := k) (by omega)).1
    have e : (recs xs)[k]'(by omega) = xs[k].bs := by simp [recs]
    rw [e] at this
    omega
  rintro e w2 ⟨a2, c2, rfl, o2, B2⟩
  refine ⟨keepG_nil _ _, a2, _, c2, rfl, callB B2 (fsec_ret (grpB (recs xs)).length (by omega) w2) fun w3 b3 B3 => ⟨_, rfl, br_dec (fun q0 => ?_) fun q0 => drewB B3 fun w4 b4 B4 e4 => br_n (by omega) ⟨_, (h.bs B4).cl.2.2.1, _, (h.bs B4).cl.2.2.2.2.1, ?_⟩⟩⟩
  · have e0 : recs xs = [] := List.eq_nil_of_length_eq_zero (by omega)
    have e1 : apE S L (recs xs) = 0 := by unfold apE; rw [if_pos e0]
    exact still B3 (.inl ⟨e1, e0⟩) e1.symm
  have hne : recs xs ≠ [] := fun e => q0 (by rw [e] at hrl; rw [← hrl]; rfl)
  rw [wr64 (by omega) (by omega)]
  refine br_dec (fun q1 => ?_) fun q1 => ?_
  · have hlt : L.size - L.used < secN (grpB (recs xs)).length := by omega
    have e1 : apE S L (recs xs) = 11 := by unfold apE; rw [if_neg hne, if_pos hlt]
    exact still B4 (.inr ⟨e1, hne, hlt⟩) e1.symm
  have hu : secN (grpB (recs xs)).length ≤ L.size - L.used := by omega
  have o4 := (o2.below b3 (Nat.le_refl _)).below b4 (Nat.le_refl _)
  refine (tail_any (h.bs B4) (t.bs B4) hS hW hgl o4.row hb o4.cap.1).mono ?_
  rintro e w5 ⟨rfl, t5, f5⟩
  have F5 : Fr [gl, g, gd, mb] w w5 := (Fr.ofBelow (L := [gl, g, gd, mb]) B4).trans f5 (fun k hk => .inl (List.mem_cons_of_mem _ hk))
  have h5 : LgAt w5 gl g L := Bk.fr (h.bs B4) f5 hgl
  have hlt := t.lt
  refine ⟨keepG_nil _ _, _, rfl, br_dec (fun q2 => ?_) fun q2 => ?_⟩
  · have e1 : apE S L (recs xs) = pwE S ((L.first + L.used + 1 : Nat) : Int) (tailF (grpB (recs xs))) := by unfold apE; rw [if_neg hne, if_neg (by omega), if_pos q2]
    have e2 : apD S L (recs xs) = pwD S ((L.first + L.used + 1 : Nat) : Int) (tailF (grpB (recs xs))) := by unfold apD; rw [if_neg hne, if_neg (by omega), if_pos q2]
    exact ⟨by rw [e1], by rw [e2]; exact t5, by unfold apL; rw [if_neg (by rw [e1]; exact fun k => q2 k.2)]; exact h5, F5⟩
  have q2 := Decidable.not_not.1 q2
  have o5 : RowAt w5 a2 ((grpB (recs xs)).map bV) := o4.row.frL f5 fun q hq hm => by
    subst hq
    have := (o4.lt q.block rfl).1
    simp at hm
    omega
  have hll := labelB_len L.gen L.groups (grpB (recs xs))
  refine drewO_in fun w6 b6 e6 => ⟨_, (h5.bs b6).cl.2.2.2.1, _, (h5.bs b6).cl.2.2.2.2.2, ?_, ?_⟩
  · refine newB b6 fun g7 w7 g70 sg7 n7 z7 b7 B7 => ⟨(h5.bs B7).cl.2.2.2.1, (h5.bs B7).cl.2.2.2.2.2, (label_new L.gen L.groups hW.gen (by omega) (c := c2) w7 (o5.bs B7) (by omega) o4.cap.1).mono ?_⟩
    rintro e w8 ⟨a8, c8, rfl, o8, b8⟩
    have o7 : Own w7 w5.heap.size 5 1 (.slice (some ⟨g7, 0, none⟩) 1 1) 1 (([1] : List UInt8).map bV) := own_lit (bs := [1]) n7 g70 (by unfold maxLen; decide)
    have B8 := B7.to b8
    refine ⟨keepG_nil _ _, a8, _, c8, rfl, appB B8 (o7.below b8 (Nat.le_refl _)) (Nat.le_refl _) B8.size (srcB o8.row) (by unfold maxLen; omega) (by omega) (fun y hy => by cases hy) fun a9 c9 w9 o9 g9 B9 z9 => ?_⟩
    rw [hll, ← List.map_append] at o9
    rw [hll]
    exact append_k1_ok h5 t5 hS hW hgl F5 B9 hne hb hu q2 o5 o4.cap.1 o9 (Nat.le_refl _) B9.size
  · refine (label_new L.gen L.groups hW.gen (by omega) (c := c2) w6 (o5.bs b6) (by omega) o4.cap.1).mono ?_
    rintro e w8 ⟨a8, c8, rfl, o8, b8⟩
    have B8 := Bs.to b6 b8
    refine ⟨keepG_nil _ _, a8, _, c8, rfl, newB B8 fun g7 w7 g70 sg7 n7 z7 b7 B7 => ?_⟩
    have o7 : Own w7 w5.heap.size 5 1 (.slice (some ⟨g7, 0, none⟩) 1 1) 1 (([1] : List UInt8).map bV) := own_lit (bs := [1]) n7 g70 (by unfold maxLen; decide)
    refine appB B7 o7 (Nat.le_refl _) B7.size (srcB (o8.below b7 (Nat.le_refl _)).row) (by unfold maxLen; omega) (by omega) (fun y hy => by cases hy) fun a9 c9 w9 o9 g9 B9 z9 => ?_
    rw [hll, ← List.map_append] at o9
    rw [hll]
    exact append_k1_ok h5 t5 hS hW hgl F5 B9 hne hb hu q2 o5 o4.cap.1 o9 (Nat.le_refl _) B9.size
end
end Go.Proofs.Ytpfmadinijofeaa
end
section
/- The laws' small functions: Few, a group's bytes and sectors as the document has them, Same, a log at the start; walked. -/
namespace Go.Proofs.Ytpfmadinijofeaa
open Go.RowKit
def fewG (g : Grp) (most size : Nat) : Grp := (g.take most).map (·.take size)
theorem few_new {a : Option Addr} {c : Nat} {xs : List Im} (w : World) (hx : Ims w a xs) (most size : Nat) (hm : most ≤ 1000000) (hs : size ≤ 1000000) :
    Calls Try.prog 23 #[.slice a xs.length c, .int .i64 (most : Int), .int .i64 (size : Int)] w fun e w' => ∃ a' c' ys, e = .returned (.slice a' (ys : List Im).length c') ∧ recs ys = fewG (recs xs) most size ∧ OwnR w' w.heap.size a' c' ys ∧ Bs w w' := by
  refine (GFr.rfew_calls a xs.length c most size w (fun v w' => ∃ a' c' ys, v = .slice a' (ys : List Im).length c' ∧ recs ys = fewG (recs xs) most size ∧ OwnR w' w.heap.size a' c' ys ∧ Bs w w') ?_).mono (by rintro e w' ⟨v, rfl, a', c', ys, rfl, h⟩; exact ⟨a', c', ys, rfl, h⟩)
  unfold GFr.rfew_vc
  have hrl : (recs xs).length = xs.length := by simp [recs]
  refine ⟨fun a7 n7 c7 x wx => ∃ (k : Nat) (ys : List Im), x = k ∧ k ≤ most ∧ k ≤ xs.length ∧ n7 = ys.length ∧ recs ys = fewG ((recs xs).take k) most size ∧ OwnR wx w.heap.size a7 c7 ys ∧ Bs w wx, fun _ _ _ x _ => (most - x).toNat, ⟨0, [], rfl, Nat.zero_le _, Nat.zero_le _, rfl, by simp [recs, fewG], OwnR.nil _ _, Bs.refl w⟩, ?_⟩
  rintro a7 n7 c7 x wx ⟨k, ys, rfl, hkm, hkl, rfl, hys, hO, Bx⟩
  have hyl : ys.length = k := by
    have := congrArg List.length hys
    simp [recs, fewG] at this
    omega
  have fin : ¬ (k < xs.length ∧ k < most) → recs ys = fewG (recs xs) most size := fun hc => by
    rw [hys]
    unfold fewG
    by_cases h : k < xs.length
    · have : k = most := by omega
      subst this
      rw [List.take_take, Nat.min_self]
    · rw [List.take_of_length_le (l := recs xs) (i := k) (by omega)]
  refine br_dec (fun h1 => br_dec (fun h2 => ?_) fun h2 => ⟨a7, c7, ys, rfl, fin (by omega), hO, Bx⟩) fun h1 => ⟨a7, c7, ys, rfl, fin (by omega), hO, Bx⟩
  have hk : k < xs.length := by omega
  refine drewB Bx fun w3 b3 B3 e3 => ?_
  obtain ⟨b, off, ha, hi⟩ := ims_get hx k hk B3
  have hcell : w3.cell? ⟨b, off + (k : Int).toNat * 1, none⟩ = some (.slice xs[k].a xs[k].bs.length xs[k].c) := by rw [Int.toNat_natCast]; exact cellsAt_get hi.cell 0 _ rfl
  have hcap := hi.cap
  refine withP_mk b off ha ⟨by omega, by omega, _, _, _, hcell, withP_mk b off ha ⟨by omega, by omega, _, _, _, hcell, by omega, by omega, ?_⟩⟩
  refine newB B3 fun g w4 g0 sg n4 z4 b4 B4 => ?_
  obtain ⟨b', off', ha', hi4⟩ := ims_get hx k hk B4
  rw [ha] at ha'
  injection ha' with ha'
  injection ha' with e1 e2
  subst e1; subst e2
  have hcell4 : w4.cell? ⟨b, off + (k : Int).toNat * 1, none⟩ = some (.slice xs[k].a xs[k].bs.length xs[k].c) := by rw [Int.toNat_natCast]; exact cellsAt_get hi4.cell 0 _ rfl
  have o4 : Own w4 w.heap.size 5 1 (.slice (some ⟨g, 0, none⟩) 0 0) 0 (([] : List UInt8).map bV) := own_lit (bs := []) n4 g0 (Nat.zero_le _)
  have hl : (xs[k].bs.take size).length = (min ((xs[k].bs.length : Nat) : Int) size).toNat := by rw [List.length_take]; omega
  have r4 : RowAt w4 xs[k].a ((xs[k].bs.take size).map bV) := by rw [List.map_take]; exact hi4.row.take size
  have hls : (xs[k].bs.take size).length ≤ size := by rw [List.length_take]; omega
  refine ⟨hcell4, hcell4, ?_⟩
  rw [← hl]
  refine appF B4 o4 (Nat.le_refl _) B4.size (srcB r4) (by unfold maxLen; omega) (by omega) fun a5 c5 w5 o5 B5 z5 f5 or5 => ?_
  have hO5 : OwnR w5 w.heap.size a7 c7 ys := ⟨((hO.below b3).below b4).own.keep fun q hq => f5 q (((hO.below b3).below b4).own.lt q hq).2 fun e => by injection e with e; subst e; have := (hO.own.lt g hq).2; have := b3.size; omega,
    fun y hy => (((hO.below b3).below b4).rows y hy).keep fun q hq => f5 q ((((hO.below b3).below b4).rows y hy).lt q hq).2 fun e => by injection e with e; subst e; have := ((hO.rows y hy).lt g hq).2; have := b3.size; omega⟩
  rw [Nat.zero_add (xs[k].bs.take size).length] at o5 ⊢
  have hk1 : IntKind.i64.wrap ((k : Int) + 1) = ((k + 1 : Nat) : Int) := by rw [wr64 (by omega) (by omega)]; omega
  refine appR (x := ⟨a5, c5, xs[k].bs.take size⟩) B5 hO5 o5 (Nat.le_refl _) B5.size (by omega) rfl (fun q hq => by cases hq) fun a6 c6 w6 O6 B6 z6 k6 => ⟨⟨k + 1, ys ++ [⟨a5, c5, xs[k].bs.take size⟩], hk1, by omega, by omega, by simp, ?_, O6, B6⟩, by dsimp only; rw [hk1]; omega⟩
  have hgk : (recs xs)[k]'(by omega) = xs[k].bs := by simp [recs]
  show (ys ++ [_]).map _ = _
  rw [List.map_append, show ys.map (·.bs) = fewG ((recs xs).take k) most size from hys]
  unfold fewG
  rw [List.take_of_length_le (l := (recs xs).take k) (by rw [List.length_take]; omega), List.take_of_length_le (l := (recs xs).take (k + 1)) (by rw [List.length_take]; omega), List.take_add_one, List.getElem?_eq_getElem (by omega), hgk, List.map_append]
  rfl
theorem textR_ret (bs : List UInt8) (hl : bs.length ≤ 1000000) (w : World) : Calls Try.prog 70 #[.string (strOf bs)] w (Ret (.string (strOf (textB bs))) w) := fText_any bs (by omega) w
theorem rbytes_ret {a : Option Addr} {c : Nat} {xs : List Im} (w : World) (hx : Ims w a xs) (hl : (grpB (recs xs)).length ≤ 1000000) : Calls Try.prog 42 #[.slice a xs.length c] w (Ret (.string (strOf (grpB (recs xs)))) w) := by
  refine ret_in (GFr.rbytes_calls a xs.length c w (fun u w' => u = .string (strOf (grpB (recs xs))) ∧ Below w.heap.size w w') ?_)
  unfold GFr.rbytes_vc
  have hrl : (recs xs).length = xs.length := by simp [recs]
  have hgc := grpB_count (recs xs)
  refine ⟨fun s x wx => ∃ k : Nat, x = k ∧ k ≤ xs.length ∧ s = strOf (grpB ((recs xs).take k)) ∧ Bs w wx, fun _ x _ => (xs.length - x).toNat, ⟨0, rfl, Nat.zero_le _, rfl, Bs.refl w⟩, ?_⟩
  rintro s x wx ⟨k, rfl, hk, rfl, Bx⟩
  refine br_dec (fun h1 => ?_) fun h1 => ?_
  · have hkl : k < xs.length := by omega
    obtain ⟨b, off, ha, hi⟩ := ims_get hx k hkl Bx
    have hgk : (recs xs)[k]'(by omega) = xs[k].bs := by simp [recs]
    have h1' := (grpB_one (recs xs) (k := k) (by omega)).1
    rw [hgk] at h1'
    have hk1 : IntKind.i64.wrap ((k : Int) + 1) = ((k + 1 : Nat) : Int) := by rw [wr64 (by omega) (by omega)]; omega
    have hle := grpB_le (recs xs) (k + 1)
    have htk := grpB_take (recs xs) (k := k) (by omega)
    rw [hgk] at htk
    refine withP_mk b off ha ⟨by omega, by omega, _, _, _, by rw [Int.toNat_natCast]; exact cellsAt_get hi.cell 0 _ rfl, xs[k].bs, rfl, hi.row, callB Bx (textR_ret xs[k].bs (by omega) wx) fun w3 b3 B3 => ⟨_, rfl, ?_, ⟨k + 1, hk1, by omega, ?_, B3⟩, by dsimp only; rw [hk1]; omega⟩⟩
    · rw [htk, List.length_append] at hle
      rw [strOf_size, strOf_size]; omega
    · rw [strOf_cat, htk]
  · obtain rfl : k = xs.length := by omega
    rw [List.take_of_length_le (by omega)]
    exact ⟨rfl, Bx⟩
theorem rsecs_ret {a : Option Addr} {c : Nat} {xs : List Im} (w : World) (hx : Ims w a xs) (hl : (grpB (recs xs)).length ≤ 1000000) : Calls Try.prog 31 #[.slice a xs.length c] w (Ret (.int .i64 ((secN (grpB (recs xs)).length : Nat) : Int)) w) := by
  refine ret_in (GFr.rsectors_calls a xs.length c w (fun u w' => u = .int .i64 ((secN (grpB (recs xs)).length : Nat) : Int) ∧ Below w.heap.size w w') ?_)
  unfold GFr.rsectors_vc
  refine callB (Bs.refl w) (rbytes_ret w hx hl) fun w2 b2 B2 => ⟨_, rfl, ?_⟩
  rw [strOf_size]
  generalize (grpB (recs xs)).length = n at hl
  refine ⟨fun x y wx => ∃ j : Nat, x = 1 + (j : Int) ∧ y = (n : Int) - 39 - 63 * j ∧ j ≤ 1000000 ∧ (j = 0 ∨ 63 * ((j : Int) - 1) < (n : Int) - 39) ∧ wx = w2, fun _ y _ => y.toNat, ⟨0, rfl, by rw [wr64 (by omega) (by omega)]; omega, by omega, .inl rfl, rfl⟩, ?_⟩
  rintro x y wx ⟨j, rfl, rfl, hj, hc, rfl⟩
  refine br_dec (fun h1 => ⟨⟨j + 1, by rw [wr64 (by omega) (by omega)]; omega, by rw [wr64 (by omega) (by omega)]; omega, by omega, .inr (by omega), rfl⟩, by dsimp only; rw [wr64 (by omega) (by omega)]; omega⟩) fun h1 => ⟨?_, B2⟩
  congr 1
  unfold secN
  split <;> omega
theorem rsame_ret {a1 a2 : Option Addr} {c1 c2 : Nat} {xs ys : List Im} (w : World) (hx : Ims w a1 xs) (hy : Ims w a2 ys) (hl : xs.length ≤ 1000000) : Calls Try.prog 44 #[.slice a1 xs.length c1, .slice a2 ys.length c2] w (Ret (.bool (decide (recs xs = recs ys))) w) := by
  refine ret_in (GFr.rsame_calls a1 xs.length c1 a2 ys.length c2 w (fun u w' => u = .bool (decide (recs xs = recs ys)) ∧ Below w.heap.size w w') ?_)
  unfold GFr.rsame_vc
  have hrx : (recs xs).length = xs.length := by simp [recs]
  have hry : (recs ys).length = ys.length := by simp [recs]
  refine br_dec (fun h0 => ⟨by rw [decide_eq_false fun e => h0 (by rw [← hrx, ← hry, e])], Bs.refl w⟩) fun h0 => ?_
  have hlen : xs.length = ys.length := by omega
  refine ⟨fun x wx => ∃ k : Nat, x = k ∧ k ≤ xs.length ∧ (recs xs).take k = (recs ys).take k ∧ Bs w wx, fun x _ => (xs.length - x).toNat, ⟨0, rfl, Nat.zero_le _, rfl, Bs.refl w⟩, ?_⟩
  rintro x wx ⟨k, rfl, hk, hs, Bx⟩
  refine br_dec (fun h1 => drewB Bx fun w3 b3 B3 e3 => ?_) fun h1 => ?_
  · have hkx : k < xs.length := by omega
    have hky : k < ys.length := by omega
    obtain ⟨b, off, ha, hi⟩ := ims_get hx k hkx B3
    obtain ⟨b', off', ha', hi'⟩ := ims_get hy k hky B3
    have gx : (recs xs)[k]'(by omega) = xs[k].bs := by simp [recs]
    have gy : (recs ys)[k]'(by omega) = ys[k].bs := by simp [recs]
    have hk1 : IntKind.i64.wrap ((k : Int) + 1) = ((k + 1 : Nat) : Int) := by rw [wr64 (by omega) (by omega)]; omega
    refine withP_mk b off ha ⟨by omega, by omega, _, _, _, by rw [Int.toNat_natCast]; exact cellsAt_get hi.cell 0 _ rfl, xs[k].bs, rfl, hi.row, withP_mk b' off' ha' ⟨by omega, by omega, _, _, _, by rw [Int.toNat_natCast]; exact cellsAt_get hi'.cell 0 _ rfl, ys[k].bs, rfl, hi'.row, br_dec (fun hne => ⟨?_, B3⟩) fun heq => ⟨⟨k + 1, hk1, by omega, ?_, B3⟩, by dsimp only; rw [hk1]; omega⟩⟩⟩
    · rw [decide_eq_false fun e => hne ?_]
      have e2 : (recs xs)[k]'(by omega) = (recs ys)[k]'(by omega) := by simp only [e]
      rw [gx, gy] at e2
      rw [e2]
    · rw [List.take_add_one, List.take_add_one, hs, List.getElem?_eq_getElem (by omega), List.getElem?_eq_getElem (by omega), gx, gy, strOf_inj (Decidable.not_not.1 heq)]
  · obtain rfl : k = xs.length := by omega
    rw [List.take_of_length_le (by omega), List.take_of_length_le (by omega)] at hs
    exact ⟨by rw [decide_eq_true hs], Bx⟩
/-! A log at the start. -/
structure D2 (w wx : World) (gl g gd mb : Nat) (L : LG) (S : DS) : Prop where
  d : D1 w wx g gd mb S
  lg : LgAt wx gl g L
  l0 : w.heap.size ≤ gl
theorem lg_not {w : World} {gl g gd mb : Nat} {L : LG} {S : DS} (h : LgAt w gl g L) (t : DkAt w g gd mb S) : gl ∉ [g, gd, mb] := fun hm => by
  obtain ⟨m, hm', _⟩ := t.map
  simp at hm
  rcases hm with e | e | e
  · exact Bk.ne (show Bk w gl _ _ from h) t.blk (by decide) e
  · exact Bk.ne (show Bk w gl _ _ from h) t.lst (by decide) e
  · exact hm'.ne_cells (show Bk w gl _ _ from h) e
section
variable {w wx wy : World} {gl g gd mb : Nat} {L : LG} {S : DS}
theorem D2.below (h : D2 w wx gl g gd mb L S) (b : Below wx.heap.size wx wy) : D2 w wy gl g gd mb L S := ⟨h.d.below b, h.lg.below b, h.l0⟩
theorem D2.not (h : D2 w wx gl g gd mb L S) : gl ∉ [g, gd, mb] := lg_not h.lg h.d.t
theorem D2.g0 (h : D2 w wx gl g gd mb L S) : ∀ k ∈ [gl, g, gd, mb], w.heap.size ≤ k := fun k hk => by
  rcases List.mem_cons.1 hk with rfl | hk
  · exact h.l0
  · exact h.d.g0 k hk
end
theorem start_new (size gen : Nat) (h1 : 1 ≤ size) (h2 : size + 5 ≤ 8192) (h3 : gen < 9223372036854775808) (w : World) : Calls Try.prog 40 #[.int .i64 (size : Int), .int .i64 (gen : Int)] w fun e w' => ∃ gl g gd mb, e = .returned (.tuple #[.pointer (some ⟨gl, 0, none⟩), .pointer (some ⟨g, 0, none⟩), .bool true]) ∧ D2 w w' gl g gd mb ⟨3, size, gen, 0, 0⟩ (newS (size + 5)) := by
  refine (GFr.start_calls size gen w (fun v w' => ∃ gl g gd mb, v = .tuple #[.pointer (some ⟨gl, 0, none⟩), .pointer (some ⟨g, 0, none⟩), .bool true] ∧ D2 w w' gl g gd mb ⟨3, size, gen, 0, 0⟩ (newS (size + 5))) ?_).mono (by rintro e w' ⟨v, rfl, gl, g, gd, mb, rfl, h⟩; exact ⟨gl, g, gd, mb, rfl, h⟩)
  unfold GFr.start_vc
  rw [wr64 (by omega) (by omega), show (size : Int) + 5 = ((size + 5 : Nat) : Int) by omega]
  refine d1_new (size + 5) (by omega) h2 w fun g gd mb w2 hd => ⟨_, _, rfl, ?_⟩
  have hlog := log_new (n := size + 5) (first := 3) (size := size) (gen := gen) (by omega) h2 h1 (by omega) h3
  refine (open_new hd.t hd.wf hlog.off (first := 3) h1 (by show 3 + size ≤ size + 5; omega) h3 hlog.chain hlog.used hlog.stop (by simp)).mono ?_
  rintro e w3 ⟨v, rfl, gl, a, c, xs, rfl, hxs, hO, hL, gl0, b3⟩
  have hx0 : xs = [] := by
    have := congrArg List.length hxs
    simp [recs] at this
    exact this
  subst hx0
  exact ⟨keepG_nil _ _, _, a, _, c, _, rfl, br_y rfl (br_y rfl ⟨gl, g, gd, mb, rfl, hd.below b3, hL, Nat.le_trans hd.bs.size gl0⟩)⟩
end Go.Proofs.Ytpfmadinijofeaa
end
