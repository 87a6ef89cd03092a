/- Small words for using printed conditions. No program in sight. -/
import Derived.Test.YtjjmhmbmjpedkaaVcAnn
namespace Go.Proofs.Ytjjmhmbmjpedkaa
open Go.RowKit
theorem keepG_nil (w w1 : World) : KeepG [] w w1 := fun _ g hg => by cases hg
theorem keepG_below {gs : List Nat} {w w1 : World} (h : Below w.heap.size w w1) : KeepG gs w w1 := fun hu g hg => h.block g (hu g hg)
theorem keepG_fr {gs L : List Nat} {w w1 : World} (h : Fr L w w1) (ha : ∀ g ∈ gs, g ∉ L) : KeepG gs w w1 := fun hu g hg => h.block g (hu g hg) (ha g hg)
/-- A call whose contract tells one value. -/
theorem wr64 {z : Int} (h1 : -9223372036854775808 ≤ z) (h2 : z ≤ 9223372036854775807) : IntKind.i64.wrap z = z := IntWalk.i64_in z ⟨h1, h2⟩
theorem wru64 {z : Int} (h1 : 0 ≤ z) (h2 : z ≤ 18446744073709551615) : IntKind.u64.wrap z = z := by rw [IntKind.wrap_u64]; omega
theorem wru8 {z : Int} (h1 : 0 ≤ z) (h2 : z ≤ 255) : IntKind.u8.wrap z = z := by rw [IntKind.wrap_u8]; omega
theorem u64_mod (z : Int) (k : Nat) (hk : 0 < k) : ∃ m : Nat, m < k ∧ Int.tmod (IntKind.u64.wrap z) (k : Int) = (m : Int) := by
  have h0 : 0 ≤ IntKind.u64.wrap z := by rw [IntKind.wrap_u64]; omega
  have h1 := Int.emod_nonneg (IntKind.u64.wrap z) (show (k : Int) ≠ 0 by omega)
  have h2 := Int.emod_lt_of_pos (IntKind.u64.wrap z) (show (0 : Int) < (k : Int) by omega)
  exact ⟨(IntKind.u64.wrap z % (k : Int)).toNat, by omega, by rw [Int.tmod_eq_emod_of_nonneg h0]; omega⟩
theorem br_t {b : Bool} {A B : Prop} (hb : b = true) (h : A) : br b A B := by rw [br_true hb]; exact h
theorem br_f {b : Bool} {A B : Prop} (hb : b = false) (h : B) : br b A B := by rw [br_false hb]; exact h
theorem br_y {p : Prop} [Decidable p] {A B : Prop} (hp : p) (h : A) : br (decide p) A B := br_t (decide_eq_true hp) h
theorem br_n {p : Prop} [Decidable p] {A B : Prop} (hp : ¬ p) (h : B) : br (decide p) A B := br_f (decide_eq_false hp) h
theorem br_not {b : Bool} {A B : Prop} (h : br b B A) : br (!b) A B := by cases b <;> exact h
/-- A new block. -/
theorem newO_mk {w : World} {o : Obj} {K : Nat → World → Prop} (h : K w.heap.size (w.alloc o)) : newO w o K := by rintro g w1 rfl rfl; exact h
theorem newO_in {w : World} {o : Obj} {K : Nat → World → Prop} (h : ∀ w1, w1.heap[w.heap.size]? = some o → Below w.heap.size w w1 → w1.heap.size = w.heap.size + 1 → K w.heap.size w1) : newO w o K := by
  rintro g w1 rfl rfl; exact h _ (al_new rfl) (Below_one o) (by simp)
theorem drewO_in {w : World} {K : World → Prop} (h : ∀ w1, Below w.heap.size w w1 → w1.heap = w.heap → K w1) : drewO w K := fun w1 h1 h2 => h w1 h2 h1
theorem cellsAt_row {w : World} {g : Nat} {cs : Array Value} {t : TypeId} {fr : Nat × Nat} (h : w.heap[g]? = some (.cells cs t fr)) {off : Nat} {vs : List Value} (hv : (cs.toList.drop off).take vs.length = vs) : cellsAt w g off vs :=
  cellsAt_of fun j v hj => by
    rw [cell_of_row _ _ _ _ _ _ h]
    rw [← hv, List.getElem?_take] at hj
    split at hj
    · rw [List.getElem?_drop] at hj; simpa using hj
    · cases hj
theorem row_of_block {w : World} {g : Nat} {bs : List UInt8} {t : TypeId} {fr : Nat × Nat} (h : w.heap[g]? = some (.cells (bs.map bV).toArray t fr)) : RowAt w (some ⟨g, 0, none⟩) (bs.map bV) := RowAt.ofWhole h
/-- A block's cells, as what is appended. -/
theorem src_block {P : Program} {W : World} {tx e' : TypeId} (hk : P.underlying tx = some (.slice e')) {g n c size : Nat} {cs : List Value} {t : TypeId} {fr : Nat × Nat} (h : W.heap[g]? = some (.cells cs.toArray t fr)) (hl : cs.length = n * size) (h1 : allOne cs = true) :
    Src P size tx (.slice (some ⟨g, 0, none⟩) n c) n cs W :=
  Src.ofSlice _ hk _ n c _ hl (fun j u hj => by
    rw [Addr.add_lit, Nat.zero_add, cell_of_row _ _ _ _ _ _ h]
    simpa using hj) (allOne_spec h1)
theorem own_cell {w : World} {b : Nat} {e : TypeId} {a : Option Addr} {n c : Nat} {xs : List Value} (h : Own w b e 1 (.slice a n c) n xs) {i : Nat} {v : Value} (hi : xs[i]? = some v) : ∃ g off, a = some ⟨g, off, none⟩ ∧ w.cell? ⟨g, off + i * 1, none⟩ = some v := by
  have hlt : i < xs.length := (List.getElem?_eq_some_iff.1 hi).1
  have hl := h.1
  rcases h.2 with ⟨h0, h1⟩ | ⟨g, off, cap, cur, hv, _⟩
  · omega
  · injection hv with h1 h2 h3
    subst h1
    exact ⟨g, off, rfl, by rw [Nat.mul_one]; exact h.cells g off _ rfl i v hi⟩
theorem Bk.there {w : World} {g : Nat} {cs : Array Value} {t : TypeId} (h : Bk w g cs t) {i n : Nat} (hi : i + n ≤ cs.size) : w.there g i n := fun j hj => by
  refine ⟨?_, h.frozen _⟩
  rw [h.cell]
  rw [Array.getElem?_eq_getElem (by omega)]
  rfl
theorem stO_bk {gs : List Nat} {w : World} {g i : Nat} {cs : Array Value} {t : TypeId} {v : Value} {K : World → Prop} (h : Bk w g cs t) (hi : i < cs.size) (hg : ∀ x ∈ gs, x ≠ g) (hk : ∀ w1, Bk w1 g (cs.setIfInBounds i v) t → Fr [g] w w1 → w1.heap.size = w.heap.size → K w1) : stO gs w g i [v] K :=
  ⟨hg, h.there (by simp; omega), fun w1 e => by
    subst e
    exact hk _ (h.setCell i v) ((Fr.refl [g] w).setCell (p := ⟨g, i, none⟩) (.inl (by simp)) v) (by simp [World.setCells, World.setCell])⟩
theorem sliceBase_cell {w : World} {b off c l s j : Nat} {v : Value} (hlt : l ≠ c) (h : w.cell? ⟨b, off + l * s + j, none⟩ = some v) : ∃ b' off', sliceBase (some ⟨b, off, none⟩) c l s = some ⟨b', off', none⟩ ∧ w.cell? ⟨b', off' + j, none⟩ = some v := by
  refine ⟨b, off + l * s, ?_, h⟩
  unfold sliceBase
  rw [if_neg (fun e => hlt e.symm)]
  simp [Addr.add_lit]
theorem own_empty {w : World} {g : Nat} {e : TypeId} (s : Nat) (h : w.heap[g]? = some (.cells #[] e (0, 0))) : Own w 0 e s (.slice (some ⟨g, 0, none⟩) 0 0) 0 [] :=
  ⟨by simp, .inr ⟨g, 0, 0, #[], rfl, Nat.zero_le _, h, Nat.le_refl _, Nat.zero_le _, by simp, by simp⟩⟩
theorem Own.store {w : World} {b : Nat} {e : TypeId} {a : Option Addr} {n c : Nat} {xs : List Value} (h : Own w b e 1 (.slice a n c) n xs) {i : Nat} (hi : i < n) {gs : List Nat} {v : Value} {K : World → Prop} (hgs : ∀ k, (Value.slice a n c).ownBlock = some k → ∀ x ∈ gs, x ≠ k)
    (hk : ∀ w1, Own w1 b e 1 (.slice a n c) n (xs.set i v) → Fr (Value.slice a n c).ownBlock.toList w w1 → w1.heap.size = w.heap.size → K w1) : ∃ g off, a = some ⟨g, off, none⟩ ∧ stO gs w g (off + i * 1) [v] K := by
  rcases h.2 with ⟨h0, h1⟩ | ⟨g, off, cap, cur, hv, hb, hg, hn, hm, hs, ht⟩
  · omega
  · injection hv with h1 h2 h3
    subst h1; subst h3
    have hB : Bk w g cur e := hg
    refine ⟨g, off, rfl, ?_⟩
    rw [Nat.mul_one]
    refine stO_bk hB (by omega) (fun x hx => hgs g rfl x hx) fun w1 hb1 hf hsz => ?_
    refine hk w1 ⟨by rw [List.length_set]; exact h.1, .inr ⟨g, off, c, _, rfl, hb, hb1, hn, hm, by simpa using hs, ?_⟩⟩ hf hsz
    rw [← ht, Array.toList_setIfInBounds, List.drop_set]
    rw [if_neg (by omega), show off + i - off = i by omega, List.take_set]
theorem Own.storeAt {w : World} {b : Nat} {e : TypeId} {g off n c : Nat} {xs : List Value} (h : Own w b e 1 (.slice (some ⟨g, off, none⟩) n c) n xs) {i : Nat} (hi : i < n) {gs : List Nat} {v : Value} {K : World → Prop} (hgs : ∀ x ∈ gs, x ≠ g)
    (hk : ∀ w1, Own w1 b e 1 (.slice (some ⟨g, off, none⟩) n c) n (xs.set i v) → Fr [g] w w1 → w1.heap.size = w.heap.size → K w1) : stO gs w g (off + i * 1) [v] K := by
  obtain ⟨g', off', he, hst⟩ := Own.store (K := K) (v := v) h hi (fun k hk x hx => by injection hk with hk; subst hk; exact hgs x hx) hk
  injection he with he
  injection he with e1 e2
  subst e1; subst e2
  exact hst
/-- One byte more or other. -/
theorem bits_byte (op : BinOp) (x y : Int) : ∃ b : UInt8, bitsV op .u8 x y = (b.toNat : Int) := by
  have key : ∀ z : Int, ∃ b : UInt8, IntKind.u8.wrap z = (b.toNat : Int) := fun z => by
    have h : 0 ≤ IntKind.u8.wrap z ∧ IntKind.u8.wrap z < 256 := by rw [IntKind.wrap_u8]; omega
    refine ⟨UInt8.ofNat (IntKind.u8.wrap z).toNat, ?_⟩
    rw [show (UInt8.ofNat (IntKind.u8.wrap z).toNat).toNat = (IntKind.u8.wrap z).toNat % 256 from rfl, Nat.mod_eq_of_lt (by omega)]
    omega
  unfold bitsV
  cases op <;> exact key _
theorem strOf_app (xs ys : List UInt8) : strOf xs ++ strOf ys = strOf (xs ++ ys) := by
  apply ByteArray.ext
  simp [strOf, ByteArray.data_append]
theorem strOf_extract (xs : List UInt8) (i j : Nat) : (strOf xs).extract i j = strOf ((xs.drop i).take (j - i)) := by
  apply ByteArray.ext
  simp [strOf, ByteArray.data_extract, List.take_drop]
theorem byteAt_strOf (xs : List UInt8) (i : Nat) : byteAt (strOf xs) (i : Int) = ((xs.getD i 0).toNat : Int) := by unfold byteAt; rw [strOf_list]; rfl
end Go.Proofs.Ytjjmhmbmjpedkaa
