/- The reader of the codec, walked. -/
import Derived.Test.YtjjmhmbmjpedkaaCodecRef
import Derived.Test.YtjjmhmbmjpedkaaCodecTk
import Derived.ScopeJumps
import Derived.WalkMore
namespace Go.Proofs.Ytjjmhmbmjpedkaa
open Go.RowKit
/-- A reader. -/
structure RdAt (w : World) (L : List Nat) (g : Nat) (bs : List UInt8) (e : Int) : Prop where
  ex : ∃ a c, Bk w g #[.slice a bs.length c, .int .i64 e] 120 ∧ In w L a bs ∧ bs.length ≤ c
  mem : g ∈ L
  under : Under L w.heap.size
theorem RdAt.keep {w w' : World} {L : List Nat} {g : Nat} {bs : List UInt8} {e : Int} (h : RdAt w L g bs e) (hk : ∀ k ∈ L, w'.heap[k]? = w.heap[k]?) (hs : w.heap.size ≤ w'.heap.size) : RdAt w' L g bs e := by
  obtain ⟨⟨a, c, h1, h2, h3⟩, h4, h5⟩ := h
  exact ⟨⟨a, c, h1.keep (hk g h4), h2.keep hk, h3⟩, h4, h5.mono hs⟩
theorem RdAt.fr {w w' : World} {L M : List Nat} {g : Nat} {bs : List UInt8} {e : Int} (h : RdAt w L g bs e) (hf : Fr M w w') (ha : Apart L M) : RdAt w' L g bs e := h.keep (hf.keep ha h.under) hf.size
theorem RdAt.below {w w' : World} {L : List Nat} {g : Nat} {bs : List UInt8} {e : Int} (h : RdAt w L g bs e) (hb : Below w.heap.size w w') : RdAt w' L g bs e := h.keep (fun k hk => hb.block k (h.under k hk)) hb.size
/-- The bytes are not in the reader's own block. -/
theorem in_other {w : World} {L : List Nat} {a : Option Addr} {bs : List UInt8} {g i : Nat} {cs : Array Value} {v : Value} (hb : Bk w g cs 120) (h : In w L a bs) : In (w.setCell ⟨g, i, none⟩ v) L a bs ∨ ∃ (j : Nat) (x : UInt8), cs[j]? = some (bV x) := by
  rcases h.1 with h1 | ⟨b, off, rfl, h1⟩
  · left; exact ⟨.inl h1, h.2⟩
  · by_cases hg : b = g
    · subst hg
      cases bs with
      | nil => left; exact ⟨.inl rfl, h.2⟩
      | cons x r =>
        right
        have := h1 0 (bV x) rfl
        rw [hb.cell] at this
        exact ⟨_, _, this⟩
    · left
      refine ⟨.inr ⟨b, off, rfl, fun j u hj => ?_⟩, h.2⟩
      rw [← h1 j u hj]
      exact World.cell?_of_block (a := ⟨b, off + j, none⟩) (Below.heap_setCell _ _ _ _ hg)
theorem in_set {w : World} {L : List Nat} {a a0 : Option Addr} {bs : List UInt8} {n0 c0 g i : Nat} {e : Int} {v : Value} (hb : Bk w g #[.slice a0 n0 c0, .int .i64 e] 120) (h : In w L a bs) : In (w.setCell ⟨g, i, none⟩ v) L a bs := by
  rcases in_other (i := i) (v := v) hb h with h | ⟨j, x, hj⟩
  · exact h
  · match j with
    | 0 => cases hj
    | 1 => cases hj
    | j + 2 => simp at hj
theorem RdAt.setErr {w : World} {L : List Nat} {g : Nat} {bs : List UInt8} {e : Int} (h : RdAt w L g bs e) (e' : Int) : RdAt (w.setCell ⟨g, 1, none⟩ (.int .i64 e')) L g bs e' := by
  obtain ⟨⟨a, c, h1, h2, h3⟩, h4, h5⟩ := h
  exact ⟨⟨a, c, h1.setCell 1 (.int .i64 e'), in_set h1 h2, h3⟩, h4, by simpa [Under] using h5⟩
theorem RdAt.setBytes {w : World} {L : List Nat} {g : Nat} {bs bs2 : List UInt8} {e : Int} (h : RdAt w L g bs e) {a2 : Option Addr} {c2 : Nat} (h2 : In w L a2 bs2) (hc : bs2.length ≤ c2) : RdAt (w.setCell ⟨g, 0, none⟩ (.slice a2 bs2.length c2)) L g bs2 e := by
  obtain ⟨⟨a, c, h1, _, h3⟩, h4, h5⟩ := h
  exact ⟨⟨a2, c2, h1.setCell 0 (.slice a2 bs2.length c2), in_set h1 h2, hc⟩, h4, by simpa [Under] using h5⟩
/-- 'b[n:]'. -/
theorem slice_from {w : World} {L : List Nat} {a : Option Addr} {bs : List UInt8} {c n : Nat} (hn : n ≤ bs.length) (hc : bs.length ≤ c) (h : In w L a bs) :
    ∃ a' c', (∀ W : World, (Instr.slice 30 (.slice a bs.length c) (some (.int .i64 (n : Int))) none none).run Try.prog W = .ok (.slice a' (bs.drop n).length c') W) ∧ In w L a' (bs.drop n) ∧ (bs.drop n).length ≤ c' := by
  have hsz : ∀ W : World, (sizeOf 5).run Try.prog W = .ok 1 W := fun W => by kernel_rfl
  refine ⟨if c = n then a else a.map (·.add (n * 1)), c - n, fun W => ?_, ?_, by simp; omega⟩
  · have h1 : (0 : Int) ≤ (n : Int) ∧ (n : Int) ≤ (bs.length : Int) := by omega
    have h2 : ¬ bs.length < n := by omega
    simp [Instr.slice, run_underlying Try.underlying30, Instr.sliceBounds, Instr.sliceBound, asIntOf, h1, h2, hsz]
  · by_cases hcn : c = n
    · rw [if_pos hcn]
      have : bs.drop n = [] := List.drop_eq_nil_of_le (by omega)
      rw [this]
      exact ⟨.inl rfl, fun _ _ h => absurd rfl h⟩
    · rw [if_neg hcn]
      rcases h.1 with h1 | ⟨b, off, rfl, h1⟩
      · have h2 : bs = [] := by simpa using h1
        subst h2
        exact ⟨.inl (by simp), fun _ _ h => absurd (by simp) h⟩
      · refine ⟨?_, fun ad had hne => ?_⟩
        · have := RowAt.drop (w := w) (b := b) (off := off) (vs := bs.map bV) (.inr ⟨b, off, rfl, h1⟩) n
          rw [List.map_drop] 
          simpa [Addr.add_lit] using this
        · simp [Addr.add_lit] at had
          subst had
          exact h.2 ⟨b, off, none⟩ rfl (fun h0 => hne (by rw [h0]; simp))
set_option maxRecDepth 100000 in
set_option maxHeartbeats 2000000 in
theorem cRead_any (a : Option Addr) (c : Nat) (bs : List UInt8) (w : World) (h : RowAt w a (bs.map bV)) (hl : bs.length ≤ 100000000) :
    Calls Try.prog 41 #[.slice a bs.length c] w fun e w' => ∃ g L, e = .returned (.pointer (some ⟨g, 0, none⟩)) ∧ RdAt w' L g bs 0 ∧ From w.heap.size L ∧ Below w.heap.size w w' := by
  have HC := Bx.mk (bClone_any a c bs w h hl)
  clear h hl
  go_enter Try.func41, Try.ntmps41
  go_wp2_with fail
  refine HC.out.mono ?_
  rintro e w1 ⟨v, rfl, ho, hb⟩
  obtain ⟨a1, c1, rfl⟩ := ho.isSlice
  have HO := Bx.mk ho; have HB := Bx.mk hb
  clear ho hb
  go_wp2
  go_ret
  refine ⟨w1.heap.size, w1.heap.size :: (Value.ownBlock (.slice a1 bs.length c1)).toList, rfl, ⟨⟨a1, c1, Bk.new rfl, ?_, HO.out.cap.1⟩, by simp, ?_⟩, ?_, HB.out.alloc HB.out.size _⟩
  · have h1 := In.ofOwn (HO.out.alloc (.cells #[.slice a1 bs.length c1, .int .i64 0] 120))
    exact ⟨h1.1, fun ad had hne => by simp only [List.mem_cons]; exact .inr (h1.2 ad had hne)⟩
  · intro k hk
    rcases List.mem_cons.1 hk with rfl | hk
    · simp
    · have := (HO.out.lt k (by simpa using hk)).2; simp; omega
  · intro k hk
    rcases List.mem_cons.1 hk with rfl | hk
    · exact HB.out.size
    · exact (HO.out.lt k (by simpa using hk)).1
theorem rdead0 {w : World} {L : List Nat} {g : Nat} {bs : List UInt8} (h : RdAt w L g bs 0) : Calls Try.prog 69 #[.pointer (some ⟨g, 0, none⟩)] w fun e w' => e = .returned (.bool false) ∧ w' = w := by
  obtain ⟨⟨a, c, h1, _, _⟩, _, _⟩ := h
  have c1 : w.cell? ⟨g, 1, none⟩ = some (.int .i64 0) := by rw [h1.cell]; rfl
  clear h1
  go_enter Try.func69, Try.ntmps69
  go_wp2
  go_ret
  exact ⟨rfl, rfl⟩
theorem rdead1 {w : World} {L : List Nat} {g : Nat} {bs : List UInt8} {e : Int} (h : RdAt w L g bs e) (he : e ≠ 0) : Calls Try.prog 69 #[.pointer (some ⟨g, 0, none⟩)] w fun r w' => r = .returned (.bool true) ∧ w' = w := by
  obtain ⟨⟨a, c, h1, _, _⟩, _, _⟩ := h
  have c1 : w.cell? ⟨g, 1, none⟩ = some (.int .i64 e) := by rw [h1.cell]; rfl
  have he2 : (e != 0) = true := by simpa using he
  clear h1 he
  go_enter Try.func69, Try.ntmps69
  go_wp2
  go_ret
  exact ⟨rfl, rfl⟩
theorem and127B : ((List.range 256).all fun x => bits BinOp.andNot IntKind.u8 (x : Int) 128 == ((x % 128 : Nat) : Int)) = true := by kernel_rfl
theorem and127 (x : UInt8) : bits BinOp.andNot IntKind.u8 (x.toNat : Int) 128 = ((x.toNat % 128 : Nat) : Int) :=
  eq_of_beq (List.all_eq_true.1 and127B x.toNat (List.mem_range.2 x.toNat_lt))
theorem or_next {u y i : Nat} (hu : u < 128 ^ i) (hs : u + y * 128 ^ i < 18446744073709551616) : bits BinOp.or IntKind.u64 (u : Int) ((y * 128 ^ i : Nat) : Int) = ((u + y * 128 ^ i : Nat) : Int) := by
  have hy : y * 128 ^ i < 18446744073709551616 := by omega
  have e : (128 : Nat) ^ i = 2 ^ (7 * i) := by rw [Nat.pow_mul]
  rw [u64_or_nat _ _ (by omega) hy, Nat.or_comm, nat_join (7 * i) _ _ (by rw [e]; exact Nat.mul_mod_left _ _) (by rw [← e]; exact hu), Nat.add_comm]
set_option maxRecDepth 100000 in
set_option maxHeartbeats 4000000 in
theorem rtake_any (g : Nat) (most : Nat) (hm0 : 0 < most) (hm : most ≤ 10) (bs : List UInt8) (L : List Nat) (w : World) (h : RdAt w L g bs 0) (hl : bs.length ≤ 100000000) (u0 n0 : Nat) (e0 : Int) (hr : tk most 0 0 bs = (u0, n0, e0)) :
    Calls Try.prog 70 #[.pointer (some ⟨g, 0, none⟩), .int .i64 most] w fun e w' => (e0 = 0 ∧ e = .returned (.tuple #[.int .u64 u0, .int .i64 n0]) ∧ w' = w) ∨ (e0 ≠ 0 ∧ e = .returned (.tuple #[.int .u64 0, .int .i64 0]) ∧ w' = w.setCell ⟨g, 1, none⟩ (.int .i64 e0)) := by
  obtain ⟨⟨a, c, h1, h2, h3⟩, h4, h5⟩ := h
  have HI := Bx.mk h2; have HR := Bx.mk hr; have HM := Bx.mk hm; have HL := Bx.mk hl
  have c0 : w.cell? ⟨g, 0, none⟩ = some (.slice a bs.length c) := by rw [h1.cell]; rfl
  have c1 : w.cell? ⟨g, 1, none⟩ = some (.int .i64 0) := by rw [h1.cell]; rfl
  have c2 : w.frozen? ⟨g, 1, none⟩ = false := h1.frozen 1
  have M0 := Bx.mk hm0
  have hmb : ((0 : Int) == (most : Int)) = false := by simp; omega
  clear h1 h2 h3 h4 h5 hr hm hl hm0
  go_enter Try.func70, Try.ntmps70
  go_wp2
  refine wp_scope_jumps 0 (fun a' w' => w' = w ∧ ∃ (i u : Nat) (x8 x9 x10 x11 x12 x13 x14 x15 x16 x17 x18 x19 x20 x21 x22 x23 x24 x25 x26 x27 x28 x29 x30 x31 x32 x33 x34 x35 x36 x37 x38 x39 x40 x41 x42 x43 x44 x45 x46 x47 x48 x49 x50 x51 x52 x53 x54 x55 x56 x57 x58 x59 x60 x61 : Value), a' = { tmps := #[.pointer (some ⟨g, 0, none⟩), .int .i64 most, undef, undef, .int .u64 0, .int .i64 0, .int .u64 u, .int .i64 i, x8, x9, x10, x11, x12, x13, x14, x15, x16, x17, x18, x19, x20, x21, x22, x23, x24, x25, x26, x27, x28, x29, x30, x31, x32, x33, x34, x35, x36, x37, x38, x39, x40, x41, x42, x43, x44, x45, x46, x47, x48, x49, x50, x51, x52, x53, x54, x55, x56, x57, x58, x59, x60, x61], defers := [] } ∧ Bx (tk most i u (bs.drop i) = (u0, n0, e0) ∧ u < 128 ^ i ∧ i ≤ 9 ∧ i ≤ bs.length)) (fun a' _ => 10 - (intOf (a'.tmps.getD 7 undef)).toNat) rfl ?first ?pass
  case first =>
    go_wp2
    go_step3
    by_cases hb0 : bs.length = 0
    · have h0 : bs = [] := List.eq_nil_of_length_eq_zero hb0
      have HE := Bx.mk (show ((0, 0, 3) : Nat × Nat × Int) = (u0, n0, e0) by rw [← HR.out, h0]; rfl)
      have hl0 : ((0 : Int) == (bs.length : Int)) = true := by rw [hb0]; rfl
      clear HR HI h0 hb0
      go_wp2
      dsimp only [Exit.jump]
      go_ret2
      have h := HE.out
      injection h with h1 h2
      injection h2 with h2 h3
      subst h1; subst h2; subst h3
      exact .inr ⟨by decide, rfl, rfl⟩
    · obtain ⟨b, off, rfl, hc⟩ := RowAt.byte HI.out.1 (k := 0) (by omega)
      rw [Nat.add_zero] at hc
      have hd : bs = bs[0] :: bs.drop 1 := by rw [← List.drop_eq_getElem_cons (by omega)]; rfl
      have HD := Bx.mk hd
      have hn0 : ((0 : Int) == (bs.length : Int)) = false := by simp; omega
      have l0 : (0 : Int) < (bs.length : Int) := by omega
      have hx : bs[0].toNat < 256 := bs[0].toNat_lt
      obtain ⟨y, hy⟩ : ∃ y, y = bs[0].toNat % 128 := ⟨_, rfl⟩
      have ha := and127 bs[0]
      rw [← hy] at ha
      have hor : bits BinOp.or IntKind.u64 0 (y : Int) = (y : Int) := by
        have := u64_or_nat 0 y (by omega) (by omega)
        simpa using this
      have hyw : IntKind.u64.wrap (y : Int) = (y : Int) := by rw [IntKind.wrap_u64]; omega
      generalize bs[0] = x at *
      clear hd
      have HX := Bx.mk hx; have HY := Bx.mk hy; have HY2 := Bx.mk (show y < 128 by omega)
      by_cases h2 : (128 : Int) ≤ (x.toNat : Int)
      · have ht : tk most 1 y (bs.drop 1) = (u0, n0, e0) := by
          have h := HR.out
          rw [HD.out, tk_more (by have := M0.out; omega) (by omega), ← hy] at h
          simpa using h
        have HT := Bx.mk ht
        have HL1 := Bx.mk (show 1 ≤ bs.length by omega)
        have hxb : ((x.toNat : Int) == 0) = false := by simp; omega
        clear ht HR hy hx
        go_wp2
        go_step3
        refine ⟨rfl, rfl, ?_⟩
        refine ⟨1, y, ?_⟩
        repeat apply Exists.intro
        exact ⟨rfl, ⟨HT.out, by have := HY2.out; simpa using this, by omega, HL1.out⟩⟩
      · have ht : (y, 1, (0 : Int)) = (u0, n0, e0) := by
          have h := HR.out
          rw [HD.out, tk_last (by have := M0.out; omega) (by omega), ← hy] at h
          simpa using h
        injection ht with h1 h3
        injection h3 with h3 h4
        subst h1; subst h3; subst h4
        by_cases hx0 : x.toNat = 0
        · have hy0 : y = 0 := by omega
          subst hy0
          rw [hx0] at hc ha
          have ha0 : bits BinOp.andNot IntKind.u8 0 128 = 0 := ha
          have hor0 : bits BinOp.or IntKind.u64 0 0 = 0 := hor
          clear HR hy hx ha hor h2 hx0
          go_wp2
          dsimp only [Exit.jump]
          go_ret2
          exact .inl ⟨rfl, rfl, rfl⟩
        · have hxb : ((x.toNat : Int) == 0) = false := by simpa using hx0
          clear HR hy hx hx0
          go_wp2
          dsimp only [Exit.jump]
          go_ret2
          exact .inl ⟨rfl, rfl, rfl⟩
  case pass =>
    rintro a' w' ⟨hw, i, u, hx⟩
    subst hw
    obtain ⟨x8, hx⟩ := hx
    obtain ⟨x9, hx⟩ := hx
    obtain ⟨x10, hx⟩ := hx
    obtain ⟨x11, hx⟩ := hx
    obtain ⟨x12, hx⟩ := hx
    obtain ⟨x13, hx⟩ := hx
    obtain ⟨x14, hx⟩ := hx
    obtain ⟨x15, hx⟩ := hx
    obtain ⟨x16, hx⟩ := hx
    obtain ⟨x17, hx⟩ := hx
    obtain ⟨x18, hx⟩ := hx
    obtain ⟨x19, hx⟩ := hx
    obtain ⟨x20, hx⟩ := hx
    obtain ⟨x21, hx⟩ := hx
    obtain ⟨x22, hx⟩ := hx
    obtain ⟨x23, hx⟩ := hx
    obtain ⟨x24, hx⟩ := hx
    obtain ⟨x25, hx⟩ := hx
    obtain ⟨x26, hx⟩ := hx
    obtain ⟨x27, hx⟩ := hx
    obtain ⟨x28, hx⟩ := hx
    obtain ⟨x29, hx⟩ := hx
    obtain ⟨x30, hx⟩ := hx
    obtain ⟨x31, hx⟩ := hx
    obtain ⟨x32, hx⟩ := hx
    obtain ⟨x33, hx⟩ := hx
    obtain ⟨x34, hx⟩ := hx
    obtain ⟨x35, hx⟩ := hx
    obtain ⟨x36, hx⟩ := hx
    obtain ⟨x37, hx⟩ := hx
    obtain ⟨x38, hx⟩ := hx
    obtain ⟨x39, hx⟩ := hx
    obtain ⟨x40, hx⟩ := hx
    obtain ⟨x41, hx⟩ := hx
    obtain ⟨x42, hx⟩ := hx
    obtain ⟨x43, hx⟩ := hx
    obtain ⟨x44, hx⟩ := hx
    obtain ⟨x45, hx⟩ := hx
    obtain ⟨x46, hx⟩ := hx
    obtain ⟨x47, hx⟩ := hx
    obtain ⟨x48, hx⟩ := hx
    obtain ⟨x49, hx⟩ := hx
    obtain ⟨x50, hx⟩ := hx
    obtain ⟨x51, hx⟩ := hx
    obtain ⟨x52, hx⟩ := hx
    obtain ⟨x53, hx⟩ := hx
    obtain ⟨x54, hx⟩ := hx
    obtain ⟨x55, hx⟩ := hx
    obtain ⟨x56, hx⟩ := hx
    obtain ⟨x57, hx⟩ := hx
    obtain ⟨x58, hx⟩ := hx
    obtain ⟨x59, hx⟩ := hx
    obtain ⟨x60, hx⟩ := hx
    obtain ⟨x61, hx⟩ := hx
    obtain ⟨ha, hJ⟩ := hx
    subst ha
    obtain ⟨hr, hu, hi9, hil⟩ := hJ.out
    clear hJ HR hmb
    have HR := Bx.mk hr; have HU := Bx.mk hu
    clear hr hu
    by_cases hb0 : i = bs.length
    · have HE := Bx.mk (show ((0, 0, 3) : Nat × Nat × Int) = (u0, n0, e0) by rw [← HR.out, hb0, List.drop_length]; rfl)
      have hl0 : ((i : Int) == (bs.length : Int)) = true := by rw [hb0]; simp
      clear HR HI hb0
      go_wp2
      dsimp only [Exit.jump]
      go_ret2
      have h := HE.out
      injection h with h1 h2
      injection h2 with h2 h3
      subst h1; subst h2; subst h3
      exact .inr ⟨by decide, rfl, rfl⟩
    · have hlt : i < bs.length := by omega
      obtain ⟨b, off, rfl, hc⟩ := RowAt.byte HI.out.1 (k := i) hlt
      have HD := Bx.mk (List.drop_eq_getElem_cons hlt)
      have hn0 : ((i : Int) == (bs.length : Int)) = false := by simp; omega
      have l0 : (i : Int) < (bs.length : Int) := by omega
      have i0 : (0 : Int) ≤ (i : Int) := by omega
      have hx : bs[i].toNat < 256 := bs[i].toNat_lt
      have ha := and127 bs[i]
      generalize bs[i] = x at *
      obtain ⟨z, hz⟩ : ∃ z, z = x.toNat := ⟨_, rfl⟩
      rw [← hz] at hc ha hx
      have HZ := Bx.mk hz
      clear hz
      obtain ⟨bad, hbad⟩ : ∃ bad, bad = decide (i = most ∨ (z = 0 ∧ 0 < i) ∨ (i = 9 ∧ 1 < z)) := ⟨_, rfl⟩
      have HBD := Bx.mk hbad
      go_upto_region 7 with fail
      go_cut [44] (fun t44 wx => t44 = .bool bad ∧ w' = wx)
      case first =>
        clear HR HD HU ha
        by_cases h1 : i = most
        · have h1b : ((i : Int) == (most : Int)) = true := by simp; omega
          rw [decide_eq_true (.inl h1)] at hbad
          clear h1 HBD
          go_wp2
          go_meet
          case rel => exact ⟨by rw [hbad], rfl⟩
        · have h1b : ((i : Int) == (most : Int)) = false := by simp; omega
          by_cases h2 : z = 0
          · subst h2
            by_cases h3 : (0 : Int) < (i : Int)
            · rw [decide_eq_true (.inr (.inl ⟨rfl, by omega⟩))] at hbad
              clear h1 HBD
              go_wp2
              go_meet
              case rel => exact ⟨by rw [hbad], rfl⟩
            · rw [decide_eq_false (by omega)] at hbad
              obtain rfl : i = 0 := by omega
              clear h1 HBD h3 h1b
              have h1c : ((0 : Int) == (most : Int)) = false := by have := M0.out; simp; omega
              go_wp2
              go_meet
              case rel => exact ⟨by rw [hbad], rfl⟩
          · have h2b : ((z : Int) == 0) = false := by simp; omega
            by_cases h4 : i = 9
            · have h4b : ((i : Int) == 9) = true := by simp; omega
              by_cases h5 : (1 : Int) < (z : Int)
              · rw [decide_eq_true (.inr (.inr ⟨h4, by omega⟩))] at hbad
                clear h1 HBD h2 h4
                go_wp2
                go_meet
                case rel => exact ⟨by rw [hbad], rfl⟩
              · rw [decide_eq_false (by omega)] at hbad
                clear h1 HBD h2 h4
                go_wp2
                go_meet
                case rel => exact ⟨by rw [hbad], rfl⟩
            · have h4b : ((i : Int) == 9) = false := by simp; omega
              rw [decide_eq_false (by omega)] at hbad
              clear h1 HBD h2 h4
              go_wp2
              go_meet
              case rel => exact ⟨by rw [hbad], rfl⟩
      case rest =>
        obtain ⟨rfl, rfl⟩ := hcut
        clear hbad
        cases bad with
        | true =>
          have hb := of_decide_eq_true HBD.out.symm
          have hE : ((0, 0, 2) : Nat × Nat × Int) = (u0, n0, e0) := by rw [← HR.out, HD.out, tk_bad (by rw [← HZ.out]; exact hb)]
          injection hE with h1 h2
          injection h2 with h2 h3
          subst h1; subst h2; subst h3
          clear HR HD HU HI hb ha
          go_wp2
          dsimp only [Exit.jump]
          go_ret2
          exact .inr ⟨by decide, rfl, rfl⟩
        | false =>
          have hb := of_decide_eq_false HBD.out.symm
          obtain ⟨y, hy⟩ : ∃ y, y = z % 128 := ⟨_, rfl⟩
          rw [← hy] at ha
          obtain ⟨p, hp⟩ : ∃ p, p = y * 128 ^ i := ⟨_, rfl⟩
          have hpow : 128 ^ i ≤ 128 ^ 9 := Nat.pow_le_pow_right (by omega) hi9
          have hpb : u + p < 18446744073709551616 := by
            by_cases h9 : i = 9
            · subst h9
              have h1 : y ≤ 1 := by omega
              have h2 : y * 128 ^ 9 ≤ 1 * 128 ^ 9 := Nat.mul_le_mul_right _ h1
              have := HU.out
              omega
            · have h3 : 128 ^ i ≤ 128 ^ 8 := Nat.pow_le_pow_right (by omega) (by omega)
              have h2 : y * 128 ^ i ≤ 127 * 128 ^ i := Nat.mul_le_mul_right _ (by omega)
              have := HU.out
              omega
          have hpi : IntKind.u64.wrap (IntKind.u64.wrap (y : Int) * 2 ^ (7 * i)) = (p : Int) := by
            have e : ((y : Int) * 2 ^ (7 * i)) = (p : Int) := by
              have e2 : ((2 : Int) ^ (7 * i)) = ((128 ^ i : Nat) : Int) := by
                rw [show (128 : Nat) = 2 ^ 7 from rfl, ← Nat.pow_mul]; exact (Int.natCast_pow 2 (7 * i)).symm
              rw [hp, e2, ← Int.natCast_mul]
            rw [show IntKind.u64.wrap (y : Int) = (y : Int) by rw [IntKind.wrap_u64]; omega, e, IntKind.wrap_u64]; omega
          have hor : bits BinOp.or IntKind.u64 (u : Int) (p : Int) = ((u + p : Nat) : Int) := by
            rw [hp]; exact or_next HU.out (by rw [← hp]; exact hpb)
          obtain ⟨q, hq⟩ : ∃ q, q = u + p := ⟨_, rfl⟩
          rw [← hq] at hor
          have HB2 := Bx.mk hb; have HY := Bx.mk hy; have HP := Bx.mk hp; have HQ := Bx.mk hq
          have s0 : (0 : Int) ≤ 7 * (i : Int) := by omega
          clear hb hy hp hq hpow hpb
          by_cases hmore : (128 : Int) ≤ (z : Int)
          · have hne9 : i ≠ 9 := fun h => by have := HB2.out; omega
            have ht : tk most (i + 1) q (bs.drop (i + 1)) = (u0, n0, e0) := by
              have h := HR.out
              rw [HD.out, tk_more (by rw [← HZ.out]; exact HB2.out) (by rw [← HZ.out]; omega), ← HZ.out, ← HY.out, ← HP.out, ← HQ.out] at h
              exact h
            have hq2 : q < 128 ^ (i + 1) := by
              have h2 : y * 128 ^ i ≤ 127 * 128 ^ i := Nat.mul_le_mul_right _ (by have := HY.out; omega)
              have h3 := HU.out
              rw [HQ.out, HP.out, Nat.pow_succ]; omega
            have HT := Bx.mk ht; have HQ2 := Bx.mk hq2
            clear ht hq2
            go_wp2
            go_step3
            rw [show ((i : Int) + 1) = ((i + 1 : Nat) : Int) by omega]
            refine ⟨rfl, ⟨rfl, ?_⟩, by simp [intOf]; omega⟩
            refine ⟨i + 1, q, ?_⟩
            repeat apply Exists.intro
            exact ⟨rfl, ⟨HT.out, HQ2.out, by omega, by omega⟩⟩
          · have ht : (q, i + 1, (0 : Int)) = (u0, n0, e0) := by
              have h := HR.out
              rw [HD.out, tk_last (by rw [← HZ.out]; exact HB2.out) (by rw [← HZ.out]; omega), ← HZ.out, ← HY.out, ← HP.out, ← HQ.out] at h
              exact h
            injection ht with h1 h3
            injection h3 with h3 h4
            subst h1; subst h3; subst h4
            go_wp2
            dsimp only [Exit.jump]
            go_ret2
            exact .inl ⟨rfl, rfl, rfl⟩
end Go.Proofs.Ytjjmhmbmjpedkaa
