import Derived.Test.YtbcafgglgjhckaaMRh2
import Derived.Deep.Slices
import Derived.OpenShut
import Derived.Test.YtbcafgglgjhckaaMRh1
import Derived.Laws.BitsAllLaws
import Derived.Test.YtbcafgglgjhckaaRows
import Derived.Deep.Cut
import Derived.Lib.Mul64
import Derived.Laws.Bits64b
import Derived.Laws.Externs
set_option linter.unusedVariables false
section
/- Data that came in, opened by their shape. No program in sight. -/
namespace Go.Proofs.Ytbcafgglgjhckaa
open Go.RowKit Go.WideShapes Go.ChangeShapes
/-- What a type looks like; a struct's fields one behind the other: offset, cells, shape. -/
inductive Sh where
  | int (k : IntKind)
  | bool
  | str
  | slice (e : Sh) (n : Nat)
  | arr (len : Nat) (e : Sh) (n : Nat)
  | agg (fs : Sh)
  | fnil
  | fcons (off n : Nat) (f r : Sh)
mutual
def fitsB (P : Program) : Sh → TypeId → Bool
  | .int k, t => match P.underlying t with | some (.int k') => k == k' | _ => false
  | .bool, t => match P.underlying t with | some .bool => true | _ => false
  | .str, t => match P.underlying t with | some .string => true | _ => false
  | .slice e n, t => match P.underlying t with | some (.slice et) => P.cellsOf et == n && fitsB P e et | _ => false
  | .arr len e n, t => match P.underlying t with | some (.array l et) => l == len && P.cellsOf et == n && fitsB P e et | _ => false
  | .agg fs, t => match P.underlying t with | some (.struct fl) => fitsF P fs fl 0 | _ => false
  | .fnil, _ => false
  | .fcons _ _ _ _, _ => false
def fitsF (P : Program) : Sh → Array Field → Nat → Bool
  | .fnil, _, _ => true
  | .fcons off n f r, fl, i => (match fl[i]? with | some fd => fd.offset == off && P.cellsOf fd.type == n && fitsB P f fd.type | none => false) && fitsF P r fl (i + 1)
  | _, _, _ => false
end
/-- What the cells of a shape hold, in a world. -/
def Sh.Has (w : World) : Sh → List Value → Prop
  | .int k, cs => ∃ z, cs = [.int k z] ∧ (Lit.int k z).wf = true
  | .bool, cs => ∃ b, cs = [.bool b]
  | .str, cs => ∃ s : ByteArray, cs = [.string s] ∧ s.size ≤ maxLen
  | .slice e n, cs => cs = [.slice none 0 0] ∨ ∃ a len cap, cs = [.slice (some a) len cap] ∧ len ≤ cap ∧ cap ≤ maxLen ∧ ∀ i, i < len → ∃ cs', (cs'.length = n ∧ ∀ j, j < n → w.cell? (a.add (i * n + j)) = cs'[j]?) ∧ e.Has w cs'
  | .arr len e n, cs => ∀ i, i < len → e.Has w ((cs.drop (i * n)).take n)
  | .agg fs, cs => fs.Has w cs
  | .fnil, _ => True
  | .fcons off n f r, cs => f.Has w ((cs.drop off).take n) ∧ r.Has w cs
section
variable {H : Type} {enc : TypeId × Value → H} {P : Program} {W : World}
mutual
theorem has_of (sh : Sh) : ∀ (t : TypeId) (fuel : Nat) (cs : List Value) (x : DataW H × List MemPlace), fitsB P sh t = true → DataW.trod enc P W 0 (fun _ => true) true fuel t cs = some x → sh.Has W cs := by
  intro t fuel cs x hf h
  cases sh with
  | int k =>
    simp only [fitsB] at hf
    split at hf
    · rename_i k' hu
      have : k = k' := eq_of_beq hf
      subst this
      obtain ⟨n, h1, _, h2⟩ := DataW.trod_int hu h
      exact ⟨n, h1, h2⟩
    · cases hf
  | bool =>
    simp only [fitsB] at hf
    split at hf
    · rename_i hu
      obtain ⟨b, h1, _⟩ := DataW.trod_bool hu h
      exact ⟨b, h1⟩
    · cases hf
  | str =>
    simp only [fitsB] at hf
    split at hf
    · rename_i hu
      obtain ⟨s, h1, _, h2⟩ := DataW.trod_string hu h
      exact ⟨s, h1, h2⟩
    · cases hf
  | slice e n =>
    simp only [fitsB] at hf
    split at hf
    · rename_i et hu
      rw [Bool.and_eq_true] at hf
      have hn : P.cellsOf et = n := eq_of_beq hf.1
      rcases Deep.open_slice hu h with ⟨h1, _⟩ | ⟨a, len, cap, m, nf, D, Pl, h1, _, hl, hm, hmm, _, hall⟩
      · exact .inl h1
      · refine .inr ⟨a, len, cap, h1, hl, hm, fun i hi => ?_⟩
        simp only [if_true] at hmm
        obtain ⟨cs', hc, ht⟩ := hall i (by omega)
        rw [hn] at hc
        obtain ⟨_, c1, c2⟩ := World.cells?_some hc
        refine ⟨cs', ⟨c1, fun j hj => ?_⟩, has_of e et _ _ _ hf.2 ht⟩
        rw [← c2 j hj, Addr.add_add]
    · cases hf
  | arr len e n =>
    simp only [fitsB] at hf
    split at hf
    · rename_i l et hu
      rw [Bool.and_eq_true, Bool.and_eq_true] at hf
      have hl : l = len := eq_of_beq hf.1.1
      have hn : P.cellsOf et = n := eq_of_beq hf.1.2
      subst hl
      obtain ⟨xs, m, _, _, _, hxl, hall⟩ := DataW.trod_array hu h
      intro i hi
      have := hall i hi
      rw [hn] at this
      rw [List.getElem?_eq_getElem (by omega)] at this
      exact has_of e et _ _ _ hf.2 this
    · cases hf
  | agg fs =>
    simp only [fitsB] at hf
    split at hf
    · rename_i fl hu
      obtain ⟨xs, n, _, _, _, hxl, hall⟩ := DataW.trod_struct hu h
      exact hasF_of fs fl 0 n cs xs hf hxl hall
    · cases hf
  | fnil => simp [fitsB] at hf
  | fcons off n f r => simp [fitsB] at hf
theorem hasF_of (sh : Sh) : ∀ (fl : Array Field) (i n : Nat) (cs : List Value) (xs : List (DataW H × List MemPlace)), fitsF P sh fl i = true → xs.length = fl.size →
    (∀ (i : Nat) (f : Field), fl[i]? = some f → DataW.trod enc P W 0 (fun _ => true) true n f.type ((cs.drop f.offset).take (P.cellsOf f.type)) = xs[i]?) → sh.Has W cs := by
  intro fl i n cs xs hf hl hall
  cases sh with
  | fnil => trivial
  | fcons off m f r =>
    simp only [fitsF, Bool.and_eq_true] at hf
    obtain ⟨h1, h2⟩ := hf
    refine ⟨?_, hasF_of r fl (i + 1) n cs xs h2 hl hall⟩
    split at h1
    · rename_i fd hfd
      rw [Bool.and_eq_true, Bool.and_eq_true] at h1
      have ho : fd.offset = off := eq_of_beq h1.1.1
      have hm : P.cellsOf fd.type = m := eq_of_beq h1.1.2
      have ht := hall i fd hfd
      have hi : i < xs.length := by rw [hl]; exact (Array.getElem?_eq_some_iff.1 hfd).1
      rw [List.getElem?_eq_getElem hi, ho, hm] at ht
      exact has_of f fd.type _ _ _ h1.2 ht
    · cases h1
  | int k => simp [fitsF] at hf
  | bool => simp [fitsF] at hf
  | str => simp [fitsF] at hf
  | slice e n => simp [fitsF] at hf
  | arr l e n => simp [fitsF] at hf
  | agg fs => simp [fitsF] at hf
end
theorem open_sh {sh : Sh} {t : TypeId} {v : Value} {d : DataW H} {p : List MemPlace} (hf : fitsB P sh t = true) (h : DataW.Trod enc P W 0 (fun _ => true) true t v d p) : sh.Has W v.cells.toList := by
  obtain ⟨fuel, hf'⟩ := h
  exact has_of sh t fuel _ _ hf hf'
end
theorem exists_list {α : Type} {p : Nat → α → Prop} : ∀ (n : Nat), (∀ i, i < n → ∃ x, p i x) → ∃ l : List α, l.length = n ∧ ∀ i x, l[i]? = some x → p i x := by
  intro n
  induction n with
  | zero => intro _; exact ⟨[], rfl, fun i x h => by cases h⟩
  | succ n ih =>
    intro h
    obtain ⟨l, hl, hp⟩ := ih fun i hi => h i (by omega)
    obtain ⟨x, hx⟩ := h n (by omega)
    refine ⟨l ++ [x], by simp [hl], fun i y hy => ?_⟩
    by_cases hi : i < l.length
    · rw [List.getElem?_append_left hi] at hy; exact hp i y hy
    · rw [List.getElem?_append_right (by omega)] at hy
      have h0 : i - l.length = 0 := by
        have := (List.getElem?_eq_some_iff.1 hy).1; simp at this; omega
      rw [h0] at hy
      simp at hy
      subst hy
      rw [show i = n by omega]; exact hx
/-- Where a slice's elements lie. -/
theorem slice_addr {w : World} {a : Addr} {v : Value} (h : w.cell? (a.add 0) = some v) : a = ⟨a.block, a.off, none⟩ := addr_plain h
def shBytes : Sh := .slice (.int .u8) 1
theorem has_bytes {w : World} {cs : List Value} (h : shBytes.Has w cs) : ∃ (bs : List UInt8) (a : Option Addr) (c : Nat), cs = [.slice a bs.length c] ∧ bs.length ≤ c ∧ c ≤ maxLen ∧ RowAt w a (bs.map bV) := by
  rcases h with rfl | ⟨a, len, cap, rfl, hl, hm, hall⟩
  · exact ⟨[], none, 0, rfl, Nat.le_refl _, by decide, .inl rfl⟩
  · obtain ⟨zs, hz, hp⟩ := exists_list (p := fun i z => w.cell? (a.add i) = some (.int .u8 z) ∧ (Lit.int .u8 z).wf = true) len (fun i hi => by
      obtain ⟨cs', ⟨h1, h2⟩, z, rfl, hw⟩ := hall i hi
      have := h2 0 (by omega)
      simp at this
      exact ⟨z, this, hw⟩)
    obtain ⟨h1, h2⟩ := row_of_cells (W := w) (a := a) (zs := zs) (len := len) (by omega) (fun i hi => by
      have := (hp i zs[i] (List.getElem?_eq_getElem hi)).1
      rw [this]; congr 2; simp [List.getD, List.getElem?_eq_getElem hi]) (fun n hn => by
      obtain ⟨i, hi⟩ := List.getElem?_of_mem hn
      exact (hp i n hi).2)
    exact ⟨ofI (zs.take len), some a, cap, by rw [h1], by rw [h1]; exact hl, hm, h2⟩
theorem has_int {w : World} {k : IntKind} {cs : List Value} (h : (Sh.int k).Has w cs) : ∃ z, cs = [.int k z] ∧ (Lit.int k z).wf = true := h
end Go.Proofs.Ytbcafgglgjhckaa
end
section
/- Small words for using printed conditions. No program in sight. -/
namespace Go.Proofs.Ytbcafgglgjhckaa
open Go.RowKit
theorem keepG_nil (w w1 : World) : KeepG [] w w1 := fun _ g hg => by cases hg
theorem keepG_below {gs : List Nat} {w w1 : World} (h : Below w.heap.size w w1) : KeepG gs w w1 := fun hu g hg => h.block g (hu g hg)
theorem keepG_fr {gs L : List Nat} {w w1 : World} (h : Fr L w w1) (ha : ∀ g ∈ gs, g ∉ L) : KeepG gs w w1 := fun hu g hg => h.block g (hu g hg) (ha g hg)
/-- A call whose contract tells one value. -/
theorem wr64 {z : Int} (h1 : -9223372036854775808 ≤ z) (h2 : z ≤ 9223372036854775807) : IntKind.i64.wrap z = z := IntWalk.i64_in z ⟨h1, h2⟩
theorem wru64 {z : Int} (h1 : 0 ≤ z) (h2 : z ≤ 18446744073709551615) : IntKind.u64.wrap z = z := by rw [IntKind.wrap_u64]; omega
theorem wru8 {z : Int} (h1 : 0 ≤ z) (h2 : z ≤ 255) : IntKind.u8.wrap z = z := by rw [IntKind.wrap_u8]; omega
theorem u64_mod (z : Int) (k : Nat) (hk : 0 < k) : ∃ m : Nat, m < k ∧ Int.tmod (IntKind.u64.wrap z) (k : Int) = (m : Int) := by
  have h0 : 0 ≤ IntKind.u64.wrap z := by rw [IntKind.wrap_u64]; omega
  have h1 := Int.emod_nonneg (IntKind.u64.wrap z) (show (k : Int) ≠ 0 by omega)
  have h2 := Int.emod_lt_of_pos (IntKind.u64.wrap z) (show (0 : Int) < (k : Int) by omega)
  exact ⟨(IntKind.u64.wrap z % (k : Int)).toNat, by omega, by rw [Int.tmod_eq_emod_of_nonneg h0]; omega⟩
theorem br_t {b : Bool} {A B : Prop} (hb : b = true) (h : A) : br b A B := by rw [br_true hb]; exact h
theorem br_f {b : Bool} {A B : Prop} (hb : b = false) (h : B) : br b A B := by rw [br_false hb]; exact h
theorem br_y {p : Prop} [Decidable p] {A B : Prop} (hp : p) (h : A) : br (decide p) A B := br_t (decide_eq_true hp) h
theorem br_n {p : Prop} [Decidable p] {A B : Prop} (hp : ¬ p) (h : B) : br (decide p) A B := br_f (decide_eq_false hp) h
theorem br_not {b : Bool} {A B : Prop} (h : br b B A) : br (!b) A B := by cases b <;> exact h
/-- A new block. -/
theorem newO_mk {w : World} {o : Obj} {K : Nat → World → Prop} (h : K w.heap.size (w.alloc o)) : newO w o K := by rintro g w1 rfl rfl; exact h
theorem newO_in {w : World} {o : Obj} {K : Nat → World → Prop} (h : ∀ w1, w1.heap[w.heap.size]? = some o → Below w.heap.size w w1 → w1.heap.size = w.heap.size + 1 → K w.heap.size w1) : newO w o K := by
  rintro g w1 rfl rfl; exact h _ (al_new rfl) (Below_one o) (by simp)
theorem drewO_in {w : World} {K : World → Prop} (h : ∀ w1, Below w.heap.size w w1 → w1.heap = w.heap → K w1) : drewO w K := fun w1 h1 h2 => h w1 h2 h1
theorem cellsAt_row {w : World} {g : Nat} {cs : Array Value} {t : TypeId} {fr : Nat × Nat} (h : w.heap[g]? = some (.cells cs t fr)) {off : Nat} {vs : List Value} (hv : (cs.toList.drop off).take vs.length = vs) : cellsAt w g off vs :=
  cellsAt_of fun j v hj => by
    rw [cell_of_row _ _ _ _ _ _ h]
    rw [← hv, List.getElem?_take] at hj
    split at hj
    · rw [List.getElem?_drop] at hj; simpa using hj
    · cases hj
theorem row_of_block {w : World} {g : Nat} {bs : List UInt8} {t : TypeId} {fr : Nat × Nat} (h : w.heap[g]? = some (.cells (bs.map bV).toArray t fr)) : RowAt w (some ⟨g, 0, none⟩) (bs.map bV) := RowAt.ofWhole h
/-- A block's cells, as what is appended. -/
theorem src_block {P : Program} {W : World} {tx e' : TypeId} (hk : P.underlying tx = some (.slice e')) {g n c size : Nat} {cs : List Value} {t : TypeId} {fr : Nat × Nat} (h : W.heap[g]? = some (.cells cs.toArray t fr)) (hl : cs.length = n * size) (h1 : allOne cs = true) :
    Src P size tx (.slice (some ⟨g, 0, none⟩) n c) n cs W :=
  Src.ofSlice _ hk _ n c _ hl (fun j u hj => by
    rw [Addr.add_lit, Nat.zero_add, cell_of_row _ _ _ _ _ _ h]
    simpa using hj) (allOne_spec h1)
theorem own_cell {w : World} {b : Nat} {e : TypeId} {a : Option Addr} {n c : Nat} {xs : List Value} (h : Own w b e 1 (.slice a n c) n xs) {i : Nat} {v : Value} (hi : xs[i]? = some v) : ∃ g off, a = some ⟨g, off, none⟩ ∧ w.cell? ⟨g, off + i * 1, none⟩ = some v := by
  have hlt : i < xs.length := (List.getElem?_eq_some_iff.1 hi).1
  have hl := h.1
  rcases h.2 with ⟨h0, h1⟩ | ⟨g, off, cap, cur, hv, _⟩
  · omega
  · injection hv with h1 h2 h3
    subst h1
    exact ⟨g, off, rfl, by rw [Nat.mul_one]; exact h.cells g off _ rfl i v hi⟩
theorem Bk.there {w : World} {g : Nat} {cs : Array Value} {t : TypeId} (h : Bk w g cs t) {i n : Nat} (hi : i + n ≤ cs.size) : w.there g i n := fun j hj => by
  refine ⟨?_, h.frozen _⟩
  rw [h.cell]
  rw [Array.getElem?_eq_getElem (by omega)]
  rfl
theorem stO_bk {gs : List Nat} {w : World} {g i : Nat} {cs : Array Value} {t : TypeId} {v : Value} {K : World → Prop} (h : Bk w g cs t) (hi : i < cs.size) (hg : ∀ x ∈ gs, x ≠ g) (hk : ∀ w1, Bk w1 g (cs.setIfInBounds i v) t → Fr [g] w w1 → w1.heap.size = w.heap.size → K w1) : stO gs w g i [v] K :=
  ⟨hg, h.there (by simp; omega), fun w1 e => by
    subst e
    exact hk _ (h.setCell i v) ((Fr.refl [g] w).setCell (p := ⟨g, i, none⟩) (.inl (by simp)) v) (by simp [World.setCells, World.setCell])⟩
theorem stO_set {gs : List Nat} {w : World} {g i : Nat} {cs : Array Value} {t : TypeId} {v : Value} {K : World → Prop} (h : Bk w g cs t) (hi : i < cs.size) (hg : ∀ x ∈ gs, x ≠ g) (hk : K (w.setCell ⟨g, i, none⟩ v)) : stO gs w g i [v] K :=
  ⟨hg, h.there (by simp; omega), fun w1 e => by subst e; exact hk⟩
theorem sliceBase_cell {w : World} {b off c l s j : Nat} {v : Value} (hlt : l ≠ c) (h : w.cell? ⟨b, off + l * s + j, none⟩ = some v) : ∃ b' off', sliceBase (some ⟨b, off, none⟩) c l s = some ⟨b', off', none⟩ ∧ w.cell? ⟨b', off' + j, none⟩ = some v := by
  refine ⟨b, off + l * s, ?_, h⟩
  unfold sliceBase
  rw [if_neg (fun e => hlt e.symm)]
  simp [Addr.add_lit]
theorem own_empty {w : World} {g : Nat} {e : TypeId} (s : Nat) (h : w.heap[g]? = some (.cells #[] e (0, 0))) : Own w 0 e s (.slice (some ⟨g, 0, none⟩) 0 0) 0 [] :=
  ⟨by simp, .inr ⟨g, 0, 0, #[], rfl, Nat.zero_le _, h, Nat.le_refl _, Nat.zero_le _, by simp, by simp⟩⟩
theorem Own.store {w : World} {b : Nat} {e : TypeId} {a : Option Addr} {n c : Nat} {xs : List Value} (h : Own w b e 1 (.slice a n c) n xs) {i : Nat} (hi : i < n) {gs : List Nat} {v : Value} {K : World → Prop} (hgs : ∀ k, (Value.slice a n c).ownBlock = some k → ∀ x ∈ gs, x ≠ k)
    (hk : ∀ w1, Own w1 b e 1 (.slice a n c) n (xs.set i v) → Fr (Value.slice a n c).ownBlock.toList w w1 → w1.heap.size = w.heap.size → K w1) : ∃ g off, a = some ⟨g, off, none⟩ ∧ stO gs w g (off + i * 1) [v] K := by
  rcases h.2 with ⟨h0, h1⟩ | ⟨g, off, cap, cur, hv, hb, hg, hn, hm, hs, ht⟩
  · omega
  · injection hv with h1 h2 h3
    subst h1; subst h3
    have hB : Bk w g cur e := hg
    refine ⟨g, off, rfl, ?_⟩
    rw [Nat.mul_one]
    refine stO_bk hB (by omega) (fun x hx => hgs g rfl x hx) fun w1 hb1 hf hsz => ?_
    refine hk w1 ⟨by rw [List.length_set]; exact h.1, .inr ⟨g, off, c, _, rfl, hb, hb1, hn, hm, by simpa using hs, ?_⟩⟩ hf hsz
    rw [← ht, Array.toList_setIfInBounds, List.drop_set]
    rw [if_neg (by omega), show off + i - off = i by omega, List.take_set]
theorem Own.storeAt {w : World} {b : Nat} {e : TypeId} {g off n c : Nat} {xs : List Value} (h : Own w b e 1 (.slice (some ⟨g, off, none⟩) n c) n xs) {i : Nat} (hi : i < n) {gs : List Nat} {v : Value} {K : World → Prop} (hgs : ∀ x ∈ gs, x ≠ g)
    (hk : ∀ w1, Own w1 b e 1 (.slice (some ⟨g, off, none⟩) n c) n (xs.set i v) → Fr [g] w w1 → w1.heap.size = w.heap.size → K w1) : stO gs w g (off + i * 1) [v] K := by
  obtain ⟨g', off', he, hst⟩ := Own.store (K := K) (v := v) h hi (fun k hk x hx => by injection hk with hk; subst hk; exact hgs x hx) hk
  injection he with he
  injection he with e1 e2
  subst e1; subst e2
  exact hst
/-- One byte more or other. -/
theorem bits_byte (op : BinOp) (x y : Int) : ∃ b : UInt8, bitsV op .u8 x y = (b.toNat : Int) := by
  have key : ∀ z : Int, ∃ b : UInt8, IntKind.u8.wrap z = (b.toNat : Int) := fun z => by
    have h : 0 ≤ IntKind.u8.wrap z ∧ IntKind.u8.wrap z < 256 := by rw [IntKind.wrap_u8]; omega
    refine ⟨UInt8.ofNat (IntKind.u8.wrap z).toNat, ?_⟩
    rw [show (UInt8.ofNat (IntKind.u8.wrap z).toNat).toNat = (IntKind.u8.wrap z).toNat % 256 from rfl, Nat.mod_eq_of_lt (by omega)]
    omega
  unfold bitsV
  cases op <;> exact key _
theorem strOf_cat (xs ys : List UInt8) : strOf xs ++ strOf ys = strOf (xs ++ ys) := by
  apply ByteArray.ext
  simp [strOf, ByteArray.data_append]
theorem strOf_extract (xs : List UInt8) (i j : Nat) : (strOf xs).extract i j = strOf ((xs.drop i).take (j - i)) := by
  apply ByteArray.ext
  simp [strOf, ByteArray.data_extract, List.take_drop]
theorem byteAt_strOf (xs : List UInt8) (i : Nat) : byteAt (strOf xs) (i : Int) = ((xs.getD i 0).toNat : Int) := by unfold byteAt; rw [strOf_list]; rfl
end Go.Proofs.Ytbcafgglgjhckaa
end
section
/- Slices of structs that came in: their elements, one behind the other. No program in sight. -/
namespace Go.Proofs.Ytbcafgglgjhckaa
open Go.RowKit Go.WideShapes Go.ChangeShapes
/-- Elements of n cells each, of which R tells where they lie. -/
def RowsAt {α : Type} (R : World → Nat → Nat → α → Prop) (n : Nat) (w : World) (a : Option Addr) (xs : List α) : Prop := xs = [] ∨ ∃ b off, a = some ⟨b, off, none⟩ ∧ ∀ i x, xs[i]? = some x → R w b (off + i * n) x
theorem RowsAt.mono {α : Type} {R : World → Nat → Nat → α → Prop} {n : Nat} {w w' : World} {a : Option Addr} {xs : List α} (h : RowsAt R n w a xs) (hm : ∀ b off x, R w b off x → R w' b off x) : RowsAt R n w' a xs := by
  rcases h with h | ⟨b, off, ha, h⟩
  · exact .inl h
  · exact .inr ⟨b, off, ha, fun i x hx => hm _ _ _ (h i x hx)⟩
theorem RowsAt.get {α : Type} {R : World → Nat → Nat → α → Prop} {n : Nat} {w : World} {a : Option Addr} {xs : List α} (h : RowsAt R n w a xs) {i : Nat} (hi : i < xs.length) : ∃ b off, a = some ⟨b, off, none⟩ ∧ R w b (off + i * n) xs[i] := by
  rcases h with rfl | ⟨b, off, ha, h⟩
  · simp at hi
  · exact ⟨b, off, ha, h i _ (List.getElem?_eq_getElem hi)⟩
theorem has_rows {α : Type} {e : Sh} {n : Nat} (hn : 0 < n) {R : World → Nat → Nat → α → Prop} {w : World} (elem : ∀ (cs' : List Value) (b off : Nat), cs'.length = n → cellsAt w b off cs' → e.Has w cs' → ∃ x, R w b off x) {cs : List Value} (h : (Sh.slice e n).Has w cs) :
    ∃ (xs : List α) (a : Option Addr) (c : Nat), cs = [.slice a xs.length c] ∧ xs.length ≤ c ∧ c ≤ maxLen ∧ RowsAt R n w a xs := by
  rcases h with rfl | ⟨a, len, cap, rfl, hl, hm, hall⟩
  · exact ⟨[], none, 0, rfl, Nat.le_refl _, by decide, .inl rfl⟩
  · obtain ⟨xs, hz, hp⟩ := exists_list (p := fun i (x : α) => R w a.block (a.off + i * n) x ∧ a = ⟨a.block, a.off, none⟩) len (fun i hi => by
      obtain ⟨cs0, ⟨h01, h02⟩, _⟩ := hall 0 (by omega)
      have ha : a = ⟨a.block, a.off, none⟩ := by
        have := h02 0 (by omega)
        rw [List.getElem?_eq_getElem (by omega)] at this
        simp only [Nat.zero_mul, Nat.zero_add] at this
        exact addr_plain this
      obtain ⟨cs', ⟨h1, h2⟩, h3⟩ := hall i hi
      obtain ⟨x, hx⟩ := elem cs' a.block (a.off + i * n) h1 (cellsAt_of fun j v hj => by
        have hjn : j < n := by have := (List.getElem?_eq_some_iff.1 hj).1; omega
        have := h2 j hjn
        rw [ha, Addr.add_lit, ← Nat.add_assoc, hj] at this
        exact this) h3
      exact ⟨x, hx, ha⟩)
    refine ⟨xs, some a, cap, by rw [hz], by omega, hm, ?_⟩
    by_cases h0 : xs = []
    · exact .inl h0
    · have h1 : 0 < xs.length := List.length_pos_iff.2 h0
      have ha := (hp 0 _ (List.getElem?_eq_getElem h1)).2
      exact .inr ⟨a.block, a.off, by rw [← ha], fun i p hi => (hp i p hi).1⟩
theorem cellsAt_below {w w' : World} {b off : Nat} {vs : List Value} (h : cellsAt w b off vs) {B : Nat} (hb : Below B w w') (hB : w.heap.size ≤ B) : cellsAt w' b off vs :=
  cellsAt_of fun j v hj => by
    have h1 := cellsAt_get h j v hj
    exact (hb.cell (p := ⟨b, off + j, none⟩) (Nat.lt_of_lt_of_le (block_lt_of_cell h1) hB)).trans h1
theorem open_rows {P : Program} {α : Type} {e : Sh} {n : Nat} {R : World → Nat → Nat → α → Prop} {H : Type} {enc : TypeId × Value → H} {W : World} {t : TypeId} {v : Value} {d : DataW H} {p : List MemPlace} (hn : 0 < n) (elem : ∀ (cs' : List Value) (b off : Nat), cs'.length = n → cellsAt W b off cs' → e.Has W cs' → ∃ x, R W b off x)
    (hf : fitsB P (.slice e n) t = true) (hv : ∃ a l c, v = .slice a l c) (h : DataW.Trod enc P W 0 (fun _ => true) true t v d p) : ∃ (xs : List α) (a : Option Addr) (c : Nat), v = .slice a xs.length c ∧ RowsAt R n W a xs ∧ xs.length ≤ c ∧ c ≤ maxLen := by
  obtain ⟨a, l, c, rfl⟩ := hv
  obtain ⟨xs, a', c', h1, h2, h3, h4⟩ := has_rows hn elem (open_sh hf h)
  simp [Value.cells] at h1
  obtain ⟨rfl, rfl, rfl⟩ := h1
  exact ⟨xs, a, c, rfl, h4, h2, h3⟩
end Go.Proofs.Ytbcafgglgjhckaa
end
section
/- An object with a list of its own: each element so many cells, what an element refers to in blocks that the object owns. No program in sight. -/
namespace Go.Proofs.Ytbcafgglgjhckaa
open Go.RowKit
theorem cell_keep {w w' : World} {b : Nat} (hk : w'.heap[b]? = w.heap[b]?) (o : Nat) : w'.cell? ⟨b, o, none⟩ = w.cell? ⟨b, o, none⟩ := by unfold World.cell?; simp only [hk]
theorem cellsAt_keep {w w' : World} {b : Nat} (hk : w'.heap[b]? = w.heap[b]?) : ∀ {vs : List Value} {off : Nat}, cellsAt w b off vs → cellsAt w' b off vs
  | [], _, _ => trivial
  | _ :: _, _, h => ⟨(cell_keep hk _).trans h.1, cellsAt_keep hk h.2⟩
theorem cellsAt_list {w : World} {b : Nat} : ∀ {vs : List Value} {off : Nat}, (∀ j v, vs[j]? = some v → w.cell? ⟨b, off + j, none⟩ = some v) → cellsAt w b off vs
  | [], _, _ => trivial
  | v :: r, off, h => ⟨by simpa using h 0 v rfl, cellsAt_list fun j u hu => by have := h (j + 1) u (by simpa using hu); rwa [show off + (j + 1) = off + 1 + j by omega] at this⟩
structure RStable {α : Type} (R : World → List Nat → α → List Value → Prop) (k : Nat) : Prop where
  len : ∀ {w : World} {M : List Nat} {e : α} {cs : List Value}, R w M e cs → cs.length = k
  keep : ∀ {w w' : World} {M : List Nat} {e : α} {cs : List Value}, R w M e cs → (∀ b ∈ M, w'.heap[b]? = w.heap[b]?) → R w' M e cs
  mono : ∀ {w : World} {M K : List Nat} {e : α} {cs : List Value}, R w M e cs → (∀ b ∈ M, b ∈ K) → R w K e cs
def ElsOk {α : Type} (R : World → List Nat → α → List Value → Prop) (k : Nat) (w : World) (M : List Nat) (es : List α) (xs : List Value) : Prop :=
  xs.length = es.length * k ∧ ∀ (i : Nat) (e : α), es[i]? = some e → R w M e ((xs.drop (i * k)).take k)
section
variable {α : Type} {R : World → List Nat → α → List Value → Prop} {k : Nat} {w w' : World} {M K : List Nat} {es : List α} {xs : List Value}
theorem ElsOk.nil : ElsOk R k w M [] [] := ⟨by simp, fun i e h => by cases h⟩
theorem ElsOk.keep (hR : RStable R k) (h : ElsOk R k w M es xs) (hk : ∀ b ∈ M, w'.heap[b]? = w.heap[b]?) : ElsOk R k w' M es xs := ⟨h.1, fun i e he => hR.keep (h.2 i e he) hk⟩
theorem ElsOk.mono (hR : RStable R k) (h : ElsOk R k w M es xs) (hs : ∀ b ∈ M, b ∈ K) : ElsOk R k w K es xs := ⟨h.1, fun i e he => hR.mono (h.2 i e he) hs⟩
theorem ElsOk.app (hR : RStable R k) (h : ElsOk R k w M es xs) {e : α} {cs : List Value} (he : R w M e cs) : ElsOk R k w M (es ++ [e]) (xs ++ cs) := by
  have hc := hR.len he
  refine ⟨by rw [List.length_append, List.length_append, h.1, hc, List.length_singleton, Nat.add_mul, Nat.one_mul], fun i x hx => ?_⟩
  by_cases hi : i < es.length
  · rw [List.getElem?_append_left hi] at hx
    have := h.2 i x hx
    have hm : i * k + k ≤ xs.length := by
      rw [h.1]
      have := Nat.mul_le_mul_right k (show i + 1 ≤ es.length from hi)
      rw [Nat.add_mul, Nat.one_mul] at this
      exact this
    rwa [List.drop_append_of_le_length (by omega), List.take_append_of_le_length (by rw [List.length_drop]; omega)]
  · have hlt := (List.getElem?_eq_some_iff.1 hx).1
    rw [List.length_append, List.length_singleton] at hlt
    obtain rfl : i = es.length := by omega
    rw [List.getElem?_append_right (Nat.le_refl _), Nat.sub_self] at hx
    injection hx with hx; subst hx
    rw [← h.1, List.drop_left, List.take_of_length_le (by omega)]
    exact he
theorem ElsOk.erase (h : ElsOk R k w M es xs) {i : Nat} (hi : i < es.length) : ElsOk R k w M (es.eraseIdx i) (xs.take (i * k) ++ xs.drop ((i + 1) * k)) := by
  have e1 : (i + 1) * k = i * k + k := by rw [Nat.add_mul, Nat.one_mul]
  have e2 : (es.length - 1) * k + k = es.length * k := by
    rw [← Nat.add_one_mul]; congr 1; omega
  have hm : i * k + k ≤ xs.length := by
    rw [h.1]
    have := Nat.mul_le_mul_right k (show i + 1 ≤ es.length from hi)
    omega
  have hxl := h.1
  refine ⟨by rw [List.length_append, List.length_take, List.length_drop, List.length_eraseIdx_of_lt hi]; omega, fun j x hx => ?_⟩
  rw [List.getElem?_eraseIdx] at hx
  split at hx
  · rename_i hj
    have := h.2 j x hx
    have hjk : j * k + k ≤ i * k := by
      have := Nat.mul_le_mul_right k (show j + 1 ≤ i from hj)
      rw [Nat.add_mul, Nat.one_mul] at this; exact this
    rw [List.drop_append_of_le_length (by rw [List.length_take]; omega), List.take_append_of_le_length (by rw [List.length_drop, List.length_take]; omega), List.drop_take, List.take_take]
    rwa [Nat.min_eq_left (by omega)]
  · rename_i hj
    have := h.2 (j + 1) x hx
    have hjk : i * k ≤ j * k := Nat.mul_le_mul_right k (by omega)
    have e3 : (j + 1) * k = j * k + k := by rw [Nat.add_mul, Nat.one_mul]
    have hlt : (xs.take (i * k)).length = i * k := by rw [List.length_take]; omega
    rw [List.drop_append, hlt, List.drop_eq_nil_of_le (by omega), List.nil_append, List.drop_drop]
    rwa [show (i + 1) * k + (j * k - i * k) = (j + 1) * k by omega]
theorem ElsOk.cells (hR : RStable R k) (h : ElsOk R k w M es xs) {te : TypeId} {b0 c : Nat} {a : Option Addr} (hO : Own w b0 te k (.slice a es.length c) es.length xs) {i : Nat} {e : α} (he : es[i]? = some e) :
    ∃ cs, R w M e cs ∧ ∃ b off, a = some ⟨b, off, none⟩ ∧ (b0 ≤ b ∧ b < w.heap.size) ∧ cellsAt w b (off + i * k) cs := by
  have hr := h.2 i e he
  refine ⟨_, hr, ?_⟩
  have hlt := (List.getElem?_eq_some_iff.1 he).1
  rcases hO.2 with ⟨_, h0⟩ | ⟨g, off, cap, cur, hv, hb, hg, _⟩
  · omega
  · injection hv with q1 q2 q3
    subst q1
    refine ⟨g, off, rfl, ⟨hb, heap_lt hg⟩, cellsAt_list fun j v hv => ?_⟩
    rw [List.getElem?_take] at hv
    split at hv
    · rw [List.getElem?_drop] at hv
      rw [Nat.add_assoc]
      exact hO.cells g off c rfl _ v hv
    · cases hv
/-- The object under way: what it owns lies in L, or is new. -/
structure LRaw (R : World → List Nat → α → List Value → Prop) (k : Nat) (te tp : TypeId) (w : World) (L : List Nat) (n0 p : Nat) (f : Value → Array Value) (es : List α) (kv : Value) (xs : List Value) (M : List Nat) : Prop where
  bk : Bk w p (f kv) tp
  own : Own w 0 te k kv es.length xs
  els : ElsOk R k w M es xs
  far : ∀ b ∈ M, (b ∈ L ∨ n0 ≤ b) ∧ b ≠ p ∧ kv.ownBlock ≠ some b
  mine : ∀ b, kv.ownBlock = some b → b ∈ L ∨ n0 ≤ b
  under : Under M w.heap.size
variable {te tp : TypeId} {L : List Nat} {n0 p : Nat} {f : Value → Array Value} {kv : Value}
theorem own_apart {g : Nat} {cs : Array Value} {t e : TypeId} {size n b0 : Nat} {v : Value} {xs : List Value} (h1 : Bk w g cs t) (h2 : Own w b0 e size v n xs) (hne : t ≠ e) : v.ownBlock ≠ some g := by
  intro h
  rcases h2.2 with ⟨rfl, _⟩ | ⟨g', off, cap, cur, rfl, hb, hg, _⟩
  · cases h
  · simp [Value.ownBlock] at h
    subst h
    unfold Bk at h1
    rw [h1] at hg
    injection hg with hg
    injection hg with h3 h4 h5
    exact hne h4
theorem LRaw.keep (hR : RStable R k) (h : LRaw R k te tp w L n0 p f es kv xs M) (hk : ∀ b, (b = p ∨ kv.ownBlock = some b ∨ b ∈ M) → w'.heap[b]? = w.heap[b]?) (hs : w.heap.size ≤ w'.heap.size) : LRaw R k te tp w' L n0 p f es kv xs M :=
  ⟨h.bk.keep (hk p (.inl rfl)), h.own.keep fun b hb => hk b (.inr (.inl hb)), h.els.keep hR fun b hb => hk b (.inr (.inr hb)), h.far, h.mine, h.under.mono hs⟩
theorem LRaw.lt (h : LRaw R k te tp w L n0 p f es kv xs M) {b : Nat} (hb : b = p ∨ kv.ownBlock = some b ∨ b ∈ M) : b < w.heap.size := by
  rcases hb with rfl | hb | hb
  · exact h.bk.lt
  · exact (h.own.lt b hb).2
  · exact h.under b hb
theorem LRaw.below (hR : RStable R k) (h : LRaw R k te tp w L n0 p f es kv xs M) (hb : Below w.heap.size w w') : LRaw R k te tp w' L n0 p f es kv xs M := h.keep hR (fun b hb' => hb.block b (h.lt hb')) hb.size
theorem LRaw.more (hR : RStable R k) (h : LRaw R k te tp w L n0 p f es kv xs M) (B : List Nat) (hB : ∀ b ∈ B, (b ∈ L ∨ n0 ≤ b) ∧ b < w.heap.size ∧ b ≠ p ∧ kv.ownBlock ≠ some b) : LRaw R k te tp w L n0 p f es kv xs (M ++ B) :=
  ⟨h.bk, h.own, h.els.mono hR fun _ hk => List.mem_append_left _ hk, fun b hb => (List.mem_append.1 hb).elim (h.far b) fun hb => ⟨(hB b hb).1, (hB b hb).2.2⟩, h.mine, fun b hb => (List.mem_append.1 hb).elim (h.under b) fun hb => (hB b hb).2.1⟩
theorem LRaw.wider (h : LRaw R k te tp w L n0 p f es kv xs M) (hs : ∀ b ∈ L, b ∈ K) : LRaw R k te tp w K n0 p f es kv xs M :=
  ⟨h.bk, h.own, h.els, fun b hb => ⟨(h.far b hb).1.imp (hs b) id, (h.far b hb).2⟩, fun b hb => (h.mine b hb).imp (hs b) id, h.under⟩
/-- The list has turned, and is stored: appended to, cut, or new. -/
theorem LRaw.turn (hR : RStable R k) (hne : tp ≠ te) (h : LRaw R k te tp w L n0 p f es kv xs M) (hn : n0 ≤ w.heap.size) {es' : List α} {xs' : List Value} (he : ElsOk R k w M es' xs') {v1 : Value} (ho : Own w' 0 te k v1 es'.length xs') (hp : w'.heap[p]? = w.heap[p]?) (hM : ∀ b ∈ M, w'.heap[b]? = w.heap[b]?) (hs : w.heap.size ≤ w'.heap.size)
    (hn1 : v1.ownBlock = kv.ownBlock ∨ ∃ g, v1.ownBlock = some g ∧ w.heap.size ≤ g) {j : Nat} (hj : (f kv).setIfInBounds j v1 = f v1) : LRaw R k te tp (w'.setCell ⟨p, j, none⟩ v1) L n0 p f es' v1 xs' M := by
  have b1 := h.bk.keep hp
  have hk1 : ∀ b, b ≠ p → (w'.setCell ⟨p, j, none⟩ v1).heap[b]? = w'.heap[b]? := fun b hb => Below.heap_setCell _ _ _ _ hb
  have hfar : ∀ b ∈ M, v1.ownBlock ≠ some b := fun b hb e => by
    rcases hn1 with h1 | ⟨g, h1, hg1⟩
    · exact (h.far b hb).2.2 (h1 ▸ e)
    · rw [h1] at e; injection e with e; have := h.under b hb; omega
  refine ⟨hj ▸ b1.setCell j v1, ho.keep fun b hb => hk1 b fun e2 => own_apart b1 ho hne (e2 ▸ hb), (he.keep hR hM).keep hR fun b hb => hk1 b (h.far b hb).2.1, fun b hb => ⟨(h.far b hb).1, (h.far b hb).2.1, hfar b hb⟩, fun b hb => ?_, (h.under.mono hs).mono (by simp)⟩
  rcases hn1 with h1 | ⟨g, h1, hg1⟩
  · exact h.mine b (h1 ▸ hb)
  · rw [h1] at hb; injection hb with hb; exact .inr (by omega)
/-- Another cell of the object is stored. -/
theorem LRaw.cell (hR : RStable R k) (hne : tp ≠ te) (h : LRaw R k te tp w L n0 p f es kv xs M) {j : Nat} {v : Value} {f' : Value → Array Value} (hj : (f kv).setIfInBounds j v = f' kv) : LRaw R k te tp (w.setCell ⟨p, j, none⟩ v) L n0 p f' es kv xs M := by
  have hk1 : ∀ b, b ≠ p → (w.setCell ⟨p, j, none⟩ v).heap[b]? = w.heap[b]? := fun b hb => Below.heap_setCell _ _ _ _ hb
  exact ⟨hj ▸ h.bk.setCell j v, h.own.keep fun b hb => hk1 b fun e2 => own_apart h.bk h.own hne (e2 ▸ hb), h.els.keep hR fun b hb => hk1 b (h.far b hb).2.1, h.far, h.mine, h.under.mono (by simp)⟩
/-- The object, with all that it owns. -/
structure LAt (R : World → List Nat → α → List Value → Prop) (k : Nat) (te tp : TypeId) (w : World) (L : List Nat) (p : Nat) (f : Value → Array Value) (es : List α) : Prop where
  ex : ∃ kv xs M, Bk w p (f kv) tp ∧ Own w 0 te k kv es.length xs ∧ ElsOk R k w M es xs ∧ (∀ b ∈ M, b ∈ L ∧ b ≠ p ∧ kv.ownBlock ≠ some b) ∧ ∀ b, kv.ownBlock = some b → b ∈ L
  mem : p ∈ L
  under : Under L w.heap.size
theorem LAt.raw (h : LAt R k te tp w L p f es) (n0 : Nat) : ∃ kv xs M, LRaw R k te tp w L n0 p f es kv xs M := by
  obtain ⟨⟨kv, xs, M, h1, h2, h3, h4, h5⟩, hm, hu⟩ := h
  exact ⟨kv, xs, M, h1, h2, h3, fun b hb => ⟨.inl (h4 b hb).1, (h4 b hb).2⟩, fun b hb => .inl (h5 b hb), fun b hb => hu b (h4 b hb).1⟩
theorem LRaw.at (h : LRaw R k te tp w L n0 p f es kv xs M) (hp : p ∈ L) : ∃ L', LAt R k te tp w L' p f es ∧ Gr L L' n0 := by
  refine ⟨p :: (kv.ownBlock.toList ++ M), ⟨⟨kv, xs, M, h.bk, h.own, h.els, fun b hb => ⟨by simp [hb], (h.far b hb).2⟩, fun b hb => by simp [hb]⟩, by simp, fun b hb => ?_⟩, fun b hb => ?_⟩
  · rcases List.mem_cons.1 hb with rfl | hb
    · exact h.bk.lt
    · rcases List.mem_append.1 hb with hb | hb
      · exact (h.own.lt b (by simpa using hb)).2
      · exact h.under b hb
  · rcases List.mem_cons.1 hb with rfl | hb
    · exact .inl hp
    · rcases List.mem_append.1 hb with hb | hb
      · exact h.mine b (by simpa using hb)
      · exact (h.far b hb).1
theorem LAt.keep (hR : RStable R k) (h : LAt R k te tp w L p f es) (hk : ∀ b ∈ L, w'.heap[b]? = w.heap[b]?) (hs : w.heap.size ≤ w'.heap.size) : LAt R k te tp w' L p f es := by
  obtain ⟨⟨kv, xs, M, h1, h2, h3, h4, h5⟩, hm, hu⟩ := h
  exact ⟨⟨kv, xs, M, h1.keep (hk p hm), h2.keep (fun b e => hk b (h5 b e)), h3.keep hR (fun b e => hk b (h4 b e).1), h4, h5⟩, hm, hu.mono hs⟩
theorem LAt.fr (hR : RStable R k) (h : LAt R k te tp w L p f es) (hf : Fr K w w') (ha : Apart L K) : LAt R k te tp w' L p f es := h.keep hR (hf.keep ha h.under) hf.size
theorem LAt.below (hR : RStable R k) (h : LAt R k te tp w L p f es) (hb : Below w.heap.size w w') : LAt R k te tp w' L p f es := h.keep hR (fun b hk => hb.block b (h.under b hk)) hb.size
end
end Go.Proofs.Ytbcafgglgjhckaa
end
section
/- One element less: what 'slices.Delete' does to a list that is owned. No program in sight. -/
namespace Go.Proofs.Ytbcafgglgjhckaa
open Go.RowKit
variable {P : Program} {w : World} {b : Nat} {e : TypeId} {k : Nat} {xs : List Value}
theorem Own.pre {a : Option Addr} {n c i : Nat} (h : Own w b e k (.slice a n c) n xs) (hi : i ≤ n) : Own w b e k (.slice a i c) i (xs.take (i * k)) := by
  obtain ⟨hl, h⟩ := h
  have hm : i * k ≤ n * k := Nat.mul_le_mul_right k hi
  refine ⟨by rw [List.length_take]; omega, ?_⟩
  rcases h with ⟨h0, h1⟩ | ⟨g, off, cap, cur, hv, hb, hg, hn, hm2, hs, ht⟩
  · injection h0 with q1 q2 q3
    subst q1; subst q3
    obtain rfl : i = 0 := by omega
    exact .inl ⟨rfl, rfl⟩
  · injection hv with q1 q2 q3
    subst q1; subst q3
    refine .inr ⟨g, off, c, cur, rfl, hb, hg, by omega, hm2, hs, ?_⟩
    rw [← ht, List.take_take, Nat.min_eq_left hm]
theorem own_somewhere {a : Option Addr} {n c : Nat} (h : Own w b e k (.slice a n c) n xs) (hn : 0 < n) : ∃ g off, a = some ⟨g, off, none⟩ ∧ n ≤ c := by
  rcases h.2 with ⟨_, h0⟩ | ⟨g, off, cap, cur, hv, _, _, hc, _⟩
  · omega
  · injection hv with q1 q2 q3
    subst q1; subst q3
    exact ⟨g, off, rfl, hc⟩
theorem Own.tail {a : Option Addr} {n c i : Nat} (h : Own w b e k (.slice a n c) n xs) (hi : i < n) {tx e' : TypeId} (hk : P.underlying tx = some (.slice e')) (h1 : ∀ v ∈ xs, v.oneCell' = true) :
    Src P k tx (.slice (sliceBase a c (i + 1) k) (n - (i + 1)) (c - (i + 1))) (n - (i + 1)) (xs.drop ((i + 1) * k)) w := by
  obtain ⟨g, off, rfl, hc⟩ := own_somewhere h (by omega)
  have hx := h.1
  have e1 : (n - (i + 1)) * k + (i + 1) * k = n * k := by rw [← Nat.add_mul]; congr 1; omega
  have hl : (xs.drop ((i + 1) * k)).length = (n - (i + 1)) * k := by rw [List.length_drop]; omega
  have h1' : ∀ v ∈ xs.drop ((i + 1) * k), v.oneCell' = true := fun v hv => h1 v (List.mem_of_mem_drop hv)
  unfold sliceBase
  split
  · rename_i hce
    have h0 : n - (i + 1) = 0 := by omega
    have hd : xs.drop ((i + 1) * k) = [] := List.eq_nil_of_length_eq_zero (by rw [hl, h0, Nat.zero_mul])
    rw [hd] at hl h1' ⊢
    exact Src.ofSlice w hk _ _ _ _ hl (fun j u hu => by cases hu) h1'
  · refine Src.ofSlice w hk _ _ _ _ hl (fun j u hu => ?_) h1'
    rw [List.getElem?_drop] at hu
    have := h.cells g off c rfl _ u hu
    show w.cell? (((⟨g, off, none⟩ : Addr).add ((i + 1) * k)).add j) = some u
    rw [Addr.add_lit, Addr.add_lit, Nat.add_assoc]
    exact this
theorem own_beyond1 {g off n c j : Nat} (h : Own w b e k (.slice (some ⟨g, off, none⟩) n c) n xs) (hj : n * k ≤ j) (hc : j < c * k) (v : Value) :
    (w.cell? ⟨g, off + j, none⟩).isSome = true ∧ w.frozen? ⟨g, off + j, none⟩ = false ∧ Own (w.setCell ⟨g, off + j, none⟩ v) b e k (.slice (some ⟨g, off, none⟩) n c) n xs := by
  obtain ⟨hl, h⟩ := h
  rcases h with ⟨h0, h1⟩ | ⟨g', off', cap, cur, hv, hb, hg, hn, hm2, hs, ht⟩
  · cases h0
  · injection hv with q1 q2 q3
    injection q1 with q1
    injection q1 with q1 q4
    subst q1; subst q3; subst q4
    have hB : Bk w g cur e := hg
    refine ⟨?_, hB.frozen _, hl, .inr ⟨g, off, c, _, rfl, hb, hB.setCell (off + j) v, hn, hm2, by simpa using hs, ?_⟩⟩
    · rw [hB.cell, Array.getElem?_eq_getElem (by omega)]; rfl
    · rw [← ht, Array.toList_setIfInBounds, List.drop_set]
      rw [if_neg (by omega), show off + j - off = j by omega, List.take_set, List.set_eq_of_length_le (by rw [List.length_take]; omega)]
theorem own_beyond {g off n c : Nat} : ∀ (vs : List Value) (j : Nat) (w : World), Own w b e k (.slice (some ⟨g, off, none⟩) n c) n xs → n * k ≤ j → j + vs.length ≤ c * k →
    w.there g (off + j) vs.length ∧ Own (w.setCells g (off + j) vs) b e k (.slice (some ⟨g, off, none⟩) n c) n xs ∧ Fr [g] w (w.setCells g (off + j) vs) ∧ (w.setCells g (off + j) vs).heap.size = w.heap.size
  | [], j, w, h, _, _ => ⟨fun i hi => by simp at hi, h, Fr.refl _ _, rfl⟩
  | v :: r, j, w, h, hj, hc => by
    rw [List.length_cons] at hc
    obtain ⟨h1, h2, h3⟩ := own_beyond1 h hj (by omega) v
    obtain ⟨k1, k2, k3, k4⟩ := own_beyond r (j + 1) _ h3 (by omega) (by omega)
    rw [← Nat.add_assoc] at k1 k2 k3 k4
    refine ⟨fun i hi => ?_, k2, ((Fr.refl [g] w).setCell (p := ⟨g, off + j, none⟩) (.inl (by simp)) v).trans k3 (Gr.refl _ _), k4.trans (by simp)⟩
    rw [List.length_cons] at hi
    refine ⟨?_, ?_⟩
    · obtain ⟨a1, a2, _⟩ := own_beyond1 h (j := j + i) (by omega) (by omega) v
      rw [Nat.add_assoc]; exact a1
    · obtain ⟨a1, a2, _⟩ := own_beyond1 h (j := j + i) (by omega) (by omega) v
      rw [Nat.add_assoc]; exact a2
theorem els_one {α : Type} {R : World → List Nat → α → List Value → Prop} {M : List Nat} {es : List α} (h : ElsOk R k w M es xs) (hR : ∀ w M e cs, R w M e cs → ∀ v ∈ cs, v.oneCell' = true) : ∀ v ∈ xs, v.oneCell' = true := by
  intro v hv
  obtain ⟨j, hj⟩ := List.getElem?_of_mem hv
  have hlt := (List.getElem?_eq_some_iff.1 hj).1
  have hl := h.1
  have hk : 0 < k := by
    rcases Nat.eq_zero_or_pos k with h0 | h0
    · subst h0; omega
    · exact h0
  have hi : j / k < es.length := Nat.div_lt_of_lt_mul (by rw [Nat.mul_comm]; omega)
  have := h.2 _ _ (List.getElem?_eq_getElem hi)
  refine hR _ _ _ _ this v ?_
  have hm : j = j / k * k + j % k := by rw [Nat.mul_comm]; exact (Nat.div_add_mod j k).symm
  have hmod := Nat.mod_lt j hk
  refine List.mem_iff_getElem?.2 ⟨j % k, ?_⟩
  rw [List.getElem?_take, if_pos hmod, List.getElem?_drop, ← hm]
  exact hj
end Go.Proofs.Ytbcafgglgjhckaa
end
section
/- One element of an owned list is written over. No program in sight. -/
namespace Go.Proofs.Ytbcafgglgjhckaa
open Go.RowKit
variable {w : World} {b : Nat} {e : TypeId} {k : Nat} {xs : List Value}
def setL : List Value → Nat → List Value → List Value
  | xs, _, [] => xs
  | xs, j, v :: r => setL (xs.set j v) (j + 1) r
theorem setL_len : ∀ (vs : List Value) (xs : List Value) (j : Nat), (setL xs j vs).length = xs.length
  | [], _, _ => rfl
  | v :: r, xs, j => by rw [setL, setL_len r, List.length_set]
theorem setL_get : ∀ (vs : List Value) (xs : List Value) (j i : Nat), j + vs.length ≤ xs.length → (setL xs j vs)[i]? = if j ≤ i ∧ i < j + vs.length then vs[i - j]? else xs[i]?
  | [], xs, j, i, _ => by rw [setL, if_neg (by simp only [List.length_nil]; omega)]
  | v :: r, xs, j, i, h => by
    rw [List.length_cons] at h
    rw [setL, setL_get r (xs.set j v) (j + 1) i (by rw [List.length_set]; omega), List.length_cons]
    by_cases h1 : i = j
    · subst h1
      rw [if_neg (by omega), if_pos (by omega), Nat.sub_self, List.getElem?_set_self (by omega)]
      rfl
    · by_cases h2 : j + 1 ≤ i ∧ i < j + 1 + r.length
      · rw [if_pos h2, if_pos (by omega), show i - j = (i - (j + 1)) + 1 by omega, List.getElem?_cons_succ]
      · rw [if_neg h2, if_neg (by omega), List.getElem?_set_ne (by omega)]
theorem own_in1 {g off n c j : Nat} (h : Own w b e k (.slice (some ⟨g, off, none⟩) n c) n xs) (hj : j < n * k) (v : Value) :
    (w.cell? ⟨g, off + j, none⟩).isSome = true ∧ w.frozen? ⟨g, off + j, none⟩ = false ∧ Own (w.setCell ⟨g, off + j, none⟩ v) b e k (.slice (some ⟨g, off, none⟩) n c) n (xs.set j v) := by
  obtain ⟨hl, h⟩ := h
  rcases h with ⟨h0, h1⟩ | ⟨g', off', cap, cur, hv, hb, hg, hn, hm2, hs, ht⟩
  · cases h0
  · injection hv with q1 q2 q3
    injection q1 with q1
    injection q1 with q1 q4
    subst q1; subst q3; subst q4
    have hB : Bk w g cur e := hg
    have hm : n * k ≤ c * k := Nat.mul_le_mul_right k hn
    refine ⟨?_, hB.frozen _, by rw [List.length_set]; exact hl, .inr ⟨g, off, c, _, rfl, hb, hB.setCell (off + j) v, hn, hm2, by simpa using hs, ?_⟩⟩
    · rw [hB.cell, Array.getElem?_eq_getElem (by omega)]; rfl
    · rw [← ht, Array.toList_setIfInBounds, List.drop_set]
      rw [if_neg (by omega), show off + j - off = j by omega, List.take_set]
theorem own_setL {g off n c : Nat} : ∀ (vs : List Value) (j : Nat) (w : World) (xs : List Value), Own w b e k (.slice (some ⟨g, off, none⟩) n c) n xs → j + vs.length ≤ n * k →
    w.there g (off + j) vs.length ∧ Own (w.setCells g (off + j) vs) b e k (.slice (some ⟨g, off, none⟩) n c) n (setL xs j vs) ∧ Fr [g] w (w.setCells g (off + j) vs) ∧ (w.setCells g (off + j) vs).heap.size = w.heap.size
  | [], j, w, xs, h, _ => ⟨fun i hi => by simp at hi, h, Fr.refl _ _, rfl⟩
  | v :: r, j, w, xs, h, hc => by
    rw [List.length_cons] at hc
    obtain ⟨h1, h2, h3⟩ := own_in1 h (j := j) (by omega) v
    obtain ⟨k1, k2, k3, k4⟩ := own_setL r (j + 1) _ _ h3 (by omega)
    rw [← Nat.add_assoc] at k1 k2 k3 k4
    refine ⟨fun i hi => ?_, k2, ((Fr.refl [g] w).setCell (p := ⟨g, off + j, none⟩) (.inl (by simp)) v).trans k3 (Gr.refl _ _), k4.trans (by simp)⟩
    rw [List.length_cons] at hi
    obtain ⟨a1, a2, _⟩ := own_in1 h (j := j + i) (by omega) v
    rw [Nat.add_assoc]
    exact ⟨a1, a2⟩
/-- An element of so many cells is stored. -/
theorem Own.storeK {g off n c i : Nat} (h : Own w b e k (.slice (some ⟨g, off, none⟩) n c) n xs) (hi : i < n) {vs : List Value} (hv : vs.length = k) {gs : List Nat} (hgs : ∀ x ∈ gs, x ≠ g) {K : World → Prop}
    (hk : ∀ w1, Own w1 b e k (.slice (some ⟨g, off, none⟩) n c) n (setL xs (i * k) vs) → Fr [g] w w1 → w1.heap.size = w.heap.size → K w1) : stO gs w g (off + i * k) vs K := by
  have hm : i * k + k ≤ n * k := by
    have := Nat.mul_le_mul_right k (show i + 1 ≤ n from hi)
    rw [Nat.add_mul, Nat.one_mul] at this; exact this
  obtain ⟨k1, k2, k3, k4⟩ := own_setL vs (i * k) w xs h (by omega)
  exact ⟨hgs, k1, fun w1 e1 => by subst e1; exact hk _ k2 k3 k4⟩
theorem ElsOk.set {α : Type} {R : World → List Nat → α → List Value → Prop} {M : List Nat} {es : List α} (hR : RStable R k) (h : ElsOk R k w M es xs) {i : Nat} (hi : i < es.length) {x : α} {cs : List Value} (hx : R w M x cs) : ElsOk R k w M (es.set i x) (setL xs (i * k) cs) := by
  have hl := h.1
  have hc := hR.len hx
  have hm : ∀ j, j < es.length → j * k + k ≤ xs.length := fun j hj => by
    rw [hl]
    have := Nat.mul_le_mul_right k (show j + 1 ≤ es.length from hj)
    rw [Nat.add_mul, Nat.one_mul] at this; exact this
  refine ⟨by rw [setL_len, List.length_set, hl], fun j y hy => ?_⟩
  have hj : j < es.length := by have := (List.getElem?_eq_some_iff.1 hy).1; rwa [List.length_set] at this
  have key : ((setL xs (i * k) cs).drop (j * k)).take k = if i = j then cs else (xs.drop (j * k)).take k := by
    apply List.ext_getElem?
    intro q
    rw [List.getElem?_take]
    by_cases hq : q < k
    · rw [if_pos hq, List.getElem?_drop, setL_get _ _ _ _ (by have := hm i hi; omega)]
      by_cases hij : i = j
      · subst hij
        rw [if_pos rfl, if_pos (by omega)]
        congr 1; omega
      · rw [if_neg hij]
        have hne : ¬ (i * k ≤ j * k + q ∧ j * k + q < i * k + cs.length) := by
          rintro ⟨h1, h2⟩
          rcases Nat.lt_or_gt_of_ne hij with h3 | h3
          · have := Nat.mul_le_mul_right k (show i + 1 ≤ j from h3)
            rw [Nat.add_mul, Nat.one_mul] at this; omega
          · have := Nat.mul_le_mul_right k (show j + 1 ≤ i from h3)
            rw [Nat.add_mul, Nat.one_mul] at this; omega
        rw [if_neg hne, List.getElem?_take, if_pos hq, List.getElem?_drop]
    · rw [if_neg hq]
      symm
      split
      · rw [List.getElem?_eq_none (by omega)]
      · rw [List.getElem?_take, if_neg hq]
  rw [key]
  by_cases hij : i = j
  · subst hij
    rw [List.getElem?_set_self hi] at hy
    injection hy with hy; subst hy
    rw [if_pos rfl]; exact hx
  · rw [List.getElem?_set_ne hij] at hy
    rw [if_neg hij]
    exact h.2 j y hy
end Go.Proofs.Ytbcafgglgjhckaa
end
section
/- Functions that write nothing but blocks of their own: their steps, seen from the world that they began in. No program in sight. -/
namespace Go.Proofs.Ytbcafgglgjhckaa
open Go.RowKit
theorem box_below {w w1 w2 : World} {g : Nat} (h : Below w.heap.size w w1) (hg : w.heap.size ≤ g) (hb : BoxSt g w1 w2) : Below w.heap.size w w2 := h.trans (hb.1.below (fun k hk => by rw [List.mem_singleton] at hk; omega) h.size)
/-- One value comes back, and what was there is as it was. -/
def Ret (v : Value) (w : World) : Ending → World → Prop := fun e w' => e = .returned v ∧ Below w.heap.size w w'
theorem ret_in {P : Program} {f : FuncId} {av : Array Value} {w : World} {v : Value} (h : Calls P f av w fun e w' => ∃ u, e = .returned u ∧ (u = v ∧ Below w.heap.size w w')) : Calls P f av w (Ret v w) :=
  h.mono (by rintro e w' ⟨u, rfl, rfl, b⟩; exact ⟨rfl, b⟩)
theorem ret_same {P : Program} {f : FuncId} {av : Array Value} {w : World} {v : Value} (h : Calls P f av w fun e w' => e = .returned v ∧ w' = w) : Calls P f av w (Ret v w) :=
  h.mono (by rintro e w' ⟨rfl, rfl⟩; exact ⟨rfl, Below.refl _ _⟩)
section
variable {w0 w : World}
abbrev Bs (w0 w : World) : Prop := Below w0.heap.size w0 w
theorem Bs.refl (w : World) : Bs w w := Below.refl _ _
theorem Bs.to {w1 : World} (B : Bs w0 w) (b : Below w.heap.size w w1) : Bs w0 w1 := Below.trans B (b.mono B.size)
theorem Bs.box {g : Nat} {w1 : World} (B : Bs w0 w) (hg : w0.heap.size ≤ g) (h : BoxSt g w w1) : Bs w0 w1 := box_below B hg h
theorem newB (B : Bs w0 w) {o : Obj} {K : Nat → World → Prop} (h : ∀ g w1, w0.heap.size ≤ g → w.heap.size = g → w1.heap[g]? = some o → w1.heap.size = g + 1 → Below w.heap.size w w1 → Bs w0 w1 → K g w1) : newO w o K := by
  rintro g w1 rfl rfl
  exact h _ _ B.size rfl (al_new rfl) (by simp) (Below_one o) (B.to (Below_one o))
theorem drewB (B : Bs w0 w) {K : World → Prop} (h : ∀ w1, Below w.heap.size w w1 → Bs w0 w1 → w1.heap = w.heap → K w1) : drewO w K := fun w1 h1 h2 => h w1 h2 (B.to h2) h1
theorem boxB {g : Nat} (B : Bs w0 w) (hg : w0.heap.size ≤ g) {K : World → Prop} (h : ∀ w1, BoxSt g w w1 → Bs w0 w1 → w1.heap.size = w.heap.size → K w1) : ∀ w1, BoxSt g w w1 → K w1 := fun w1 h1 => h w1 h1 (B.box hg h1) h1.2
theorem callB {P : Program} {f : FuncId} {av : Array Value} {v : Value} {gs : List Nat} {R : Ending → World → Prop} (B : Bs w0 w) (h : Calls P f av w (Ret v w)) (k : ∀ w1, Below w.heap.size w w1 → Bs w0 w1 → R (.returned v) w1) :
    Calls P f av w (fun e w1 => KeepG gs w w1 ∧ R e w1) := h.mono (by rintro e w1 ⟨rfl, b⟩; exact ⟨keepG_below b, k w1 b (B.to b)⟩)
theorem callQ {P : Program} {f : FuncId} {av : Array Value} {gs : List Nat} {Q R : Ending → World → Prop} (B : Bs w0 w) (h : Calls P f av w (fun e w1 => Q e w1 ∧ Below w.heap.size w w1)) (k : ∀ e w1, Q e w1 → Below w.heap.size w w1 → Bs w0 w1 → R e w1) :
    Calls P f av w (fun e w1 => KeepG gs w w1 ∧ R e w1) := h.mono (by rintro e w1 ⟨q, b⟩; exact ⟨keepG_below b, k e w1 q b (B.to b)⟩)
end
/-- Elements of k cells each, one behind the other, in a block from n0 on. -/
def Rws {α : Type} (enc : α → List Value) (k n0 : Nat) (w : World) (a : Option Addr) (xs : List α) : Prop := xs = [] ∨ ∃ b off, a = some ⟨b, off, none⟩ ∧ n0 ≤ b ∧ ∀ i x, xs[i]? = some x → cellsAt w b (off + i * k) (enc x)
section
variable {α : Type} {enc : α → List Value} {k n0 : Nat} {w w' : World} {a : Option Addr} {xs : List α}
theorem Rws.nil : Rws enc k n0 w a [] := .inl rfl
theorem Rws.ofRows (h : RowsAt (fun w b off x => cellsAt w b off (enc x)) k w a xs) : Rws enc k 0 w a xs := h.elim .inl fun ⟨b, off, h1, h2⟩ => .inr ⟨b, off, h1, Nat.zero_le _, h2⟩
theorem Rws.low {n1 : Nat} (h : Rws enc k n0 w a xs) (hn : n1 ≤ n0) : Rws enc k n1 w a xs := h.elim .inl fun ⟨b, off, h1, h2, h3⟩ => .inr ⟨b, off, h1, Nat.le_trans hn h2, h3⟩
theorem Rws.keep (h : Rws enc k n0 w a xs) (hk : ∀ b, n0 ≤ b → b < w.heap.size → w'.heap[b]? = w.heap[b]?) : Rws enc k n0 w' a xs := by
  rcases h with h | ⟨b, off, ha, hb, h⟩
  · exact .inl h
  · refine .inr ⟨b, off, ha, hb, fun i x hx => cellsAt_of fun j v hj => ?_⟩
    have h1 := cellsAt_get (h i x hx) j v hj
    have h2 := block_lt_of_cell h1
    rw [cell_keep (hk b hb h2)]
    exact h1
theorem Rws.below (h : Rws enc k n0 w a xs) (hb : Below w.heap.size w w') : Rws enc k n0 w' a xs := h.keep fun b _ h2 => hb.block b h2
theorem Rws.box {g : Nat} (h : Rws enc k n0 w a xs) (hb : BoxSt g w w') (hg : g < n0) : Rws enc k n0 w' a xs := h.keep fun b h1 h2 => hb.1.block b h2 (by rw [List.mem_singleton]; omega)
theorem Rws.newbox {g : Nat} {w1 w2 : World} (h : Rws enc k n0 w a xs) (hb : Below w.heap.size w w1) (sg : w.heap.size = g) (hx : BoxSt g w1 w2) : Rws enc k n0 w2 a xs := h.keep fun b _ h2 => (hx.1.block b (by have := hb.size; omega) (by rw [List.mem_singleton]; omega)).trans (hb.block b h2)
theorem Rws.grown {r : Option Nat} (h : Rws enc k n0 w a xs) (hg : w.grownBy w' r) (hr : ∀ b, r = some b → b < n0) : Rws enc k n0 w' a xs := h.keep fun b h1 h2 => hg.block b h2 fun e => by have := hr b e.symm; omega
theorem Rws.get (h : Rws enc k n0 w a xs) {i : Nat} (hi : i < xs.length) : ∃ b off, a = some ⟨b, off, none⟩ ∧ cellsAt w b (off + i * k) (enc xs[i]) := by
  rcases h with rfl | ⟨b, off, ha, _, h⟩
  · simp at hi
  · exact ⟨b, off, ha, h i _ (List.getElem?_eq_getElem hi)⟩
theorem Rws.take (h : Rws enc k n0 w a xs) (n : Nat) : Rws enc k n0 w a (xs.take n) := by
  rcases h with rfl | ⟨b, off, ha, h0, h⟩
  · exact .inl (by simp)
  · refine .inr ⟨b, off, ha, h0, fun i x hx => h i x ?_⟩
    rw [List.getElem?_take] at hx
    split at hx
    · exact hx
    · cases hx
theorem flatK_len (hk : ∀ x, (enc x).length = k) : ∀ es : List α, (es.flatMap enc).length = es.length * k
  | [] => by simp
  | e :: r => by rw [List.flatMap_cons, List.length_append, flatK_len hk r, hk, List.length_cons, Nat.add_mul]; omega
theorem flatK_get (hk : ∀ x, (enc x).length = k) : ∀ (es : List α) (i : Nat) (e : α) (j : Nat), es[i]? = some e → j < k → (es.flatMap enc)[i * k + j]? = (enc e)[j]?
  | x :: r, 0, e, j, h, hj => by
    cases h
    rw [List.flatMap_cons, List.getElem?_append_left (by rw [hk]; omega)]
    congr 1; omega
  | x :: r, i + 1, e, j, h, hj => by
    have e1 : (i + 1) * k = i * k + k := by rw [Nat.add_mul, Nat.one_mul]
    rw [List.flatMap_cons, List.getElem?_append_right (by rw [hk]; omega), hk, show (i + 1) * k + j - k = i * k + j by omega]
    exact flatK_get hk r i e j (by simpa using h) hj
theorem Rws.ofOwn {t : TypeId} {n c : Nat} (hkp : 0 < k) (hk : ∀ x, (enc x).length = k) (h : Own w n0 t k (.slice a n c) n (xs.flatMap enc)) : Rws enc k n0 w a xs := by
  by_cases h0 : xs = []
  · exact .inl h0
  rcases h.2 with ⟨h1, h2⟩ | ⟨g, off, cap, cur, hv, hb, hg, hn, hm, hs, ht⟩
  · have h3 := h.1
    rw [flatK_len hk, h2, Nat.zero_mul] at h3
    exact absurd (List.length_eq_zero_iff.1 ((Nat.mul_eq_zero.1 h3).resolve_right (by omega))) h0
  · injection hv with h1 h2 h3
    subst h1; subst h3
    refine .inr ⟨g, off, rfl, hb, fun i x hx => cellsAt_list fun j v hv => ?_⟩
    have hj : j < k := by have := (List.getElem?_eq_some_iff.1 hv).1; rw [hk] at this; exact this
    have := flatK_get hk xs i x j hx hj
    rw [Nat.add_assoc]
    exact h.cells g off c rfl _ v (by rw [this]; exact hv)
theorem Rws.src {P : Program} {tx e' : TypeId} {c : Nat} (hT : P.underlying tx = some (.slice e')) (hkp : 0 < k) (hk : ∀ x, (enc x).length = k) (h1 : ∀ x, ∀ v ∈ enc x, v.oneCell' = true) (h : Rws enc k n0 w a xs) : Src P k tx (.slice a xs.length c) xs.length (xs.flatMap enc) w := by
  have hone : ∀ v ∈ xs.flatMap enc, v.oneCell' = true := fun v hv => by
    obtain ⟨x, _, hx⟩ := List.mem_flatMap.1 hv
    exact h1 x v hx
  cases a with
  | none =>
    rcases h with rfl | ⟨b, off, ha, _⟩
    · exact Src.ofNil w hT c
    · cases ha
  | some ad =>
    refine Src.ofSlice w hT ad _ _ _ (flatK_len hk xs) (fun j u hu => ?_) hone
    rcases h with rfl | ⟨b, off, ha, _, h⟩
    · cases hu
    · injection ha with ha; subst ha
      have hlt := (List.getElem?_eq_some_iff.1 hu).1
      rw [flatK_len hk] at hlt
      have hi : j / k < xs.length := (Nat.div_lt_iff_lt_mul hkp).2 hlt
      have hm : j % k < k := Nat.mod_lt _ hkp
      have hx := List.getElem?_eq_getElem hi
      have h1 := flatK_get hk xs (j / k) _ (j % k) hx hm
      have hd : j / k * k + j % k = j := by rw [Nat.mul_comm]; exact Nat.div_add_mod j k
      rw [hd, hu] at h1
      have := cellsAt_get (h _ _ hx) (j % k) u h1.symm
      rw [Addr.add_lit]
      rwa [Nat.add_assoc, hd] at this
end
theorem Rws.one {α : Type} {enc : α → List Value} {k n0 g : Nat} {w : World} {x : α} {t : TypeId} {fr : Nat × Nat} (h : w.heap[g]? = some (.cells (enc x).toArray t fr)) (hg : n0 ≤ g) : Rws enc k n0 w (some ⟨g, 0, none⟩) [x] := by
  refine .inr ⟨g, 0, rfl, hg, fun i y hy => ?_⟩
  have hi : i = 0 := by have := (List.getElem?_eq_some_iff.1 hy).1; simp at this; omega
  subst hi
  simp at hy
  subst hy
  rw [Nat.zero_mul]
  exact cellsAt_row h (by simp)
theorem Own.box {w w1 : World} {n1 size n g : Nat} {e : TypeId} {v : Value} {xs : List Value} (h : Own w n1 e size v n xs) (hb : BoxSt g w w1) (hg : ∀ k, v.ownBlock = some k → k ≠ g) : Own w1 n1 e size v n xs := h.keep fun k hk => hb.1.block k (h.lt k hk).2 (by rw [List.mem_singleton]; exact hg k hk)
/-- A new box was made and filled. -/
theorem Own.newbox {w w1 w2 : World} {n1 size n g : Nat} {e : TypeId} {v : Value} {xs : List Value} (h : Own w n1 e size v n xs) (hb : Below w.heap.size w w1) (sg : w.heap.size = g) (hx : BoxSt g w1 w2) : Own w2 n1 e size v n xs := (h.below hb (Nat.le_refl _)).box hx fun k hk => by have := (h.lt k hk).2; omega
/-- What is appended to, is one's own. -/
theorem appB {P : Program} {gs : List Nat} {w0 w : World} {e : TypeId} {size bytes n1 n c m : Nat} {tx : TypeId} {a : Option Addr} {x : Value} {xs news : List Value} {K : Nat → Option Addr → Nat → World → Prop}
    (B : Bs w0 w) (o : Own w n1 e size (.slice a n c) n xs) (hn1 : w0.heap.size ≤ n1) (hn2 : n1 ≤ w.heap.size) (s : Src P size tx x m news w) (h1 : n + m ≤ maxLen) (h2 : (n + m) * bytes ≤ 140737488355328)
    (hg : ∀ g ∈ gs, (Value.slice a n c).ownBlock ≠ some g)
    (k : ∀ a' c' w1, Own w1 n1 e size (.slice a' (n + m) c') (n + m) (xs ++ news) → w.grownBy w1 (Value.slice a n c).ownBlock → Bs w0 w1 → w.heap.size ≤ w1.heap.size → K m a' c' w1) :
    appO P gs w e size bytes tx a n c x K := by
  refine ⟨m, xs, news, o.base_le fun _ _ => Nat.zero_le _, s, h1, h2, hg, fun a' c' w1 o1 g1 or1 _ => k a' c' w1 (o1.base_le fun q hq => ?_) g1 ?_ g1.size⟩
  · rcases or1 with h | ⟨g, h, h3⟩
    · exact (o.lt q (h ▸ hq)).1
    · rw [h] at hq; injection hq with hq; omega
  · exact ⟨g1.os.trans B.os, g1.tape.trans B.tape, g1.output.trans B.output, Nat.le_trans B.size g1.size, fun q hq => (g1.block q (by have := B.size; omega) fun e => by have := (o.lt q e.symm).1; omega).trans (B.block q hq)⟩
end Go.Proofs.Ytbcafgglgjhckaa
end
section
/- Numbers in ten parts of 32 bits: what one part of a sum, a difference, a product is. No program in sight. -/
namespace Go.Proofs.Ytbcafgglgjhckaa
open Go.RowKit
def limb (n i : Nat) : Nat := n / 2 ^ (32 * i) % 4294967296
def uV (n : Nat) : Value := .int .u64 n
def arr (f : Nat → Nat) (neg : Bool) : Array Value := #[uV (f 0), uV (f 1), uV (f 2), uV (f 3), uV (f 4), uV (f 5), uV (f 6), uV (f 7), uV (f 8), uV (f 9), .bool neg]
def bigM (n : Nat) (neg : Bool) : Value := .agg (arr (limb n) neg)
def bigOf (z : Int) : Value := bigM z.natAbs (decide (z < 0))
theorem limb_lt (n i : Nat) : limb n i < 4294967296 := Nat.mod_lt _ (by omega)
theorem cases10 {P : Nat → Prop} (h0 : P 0) (h1 : P 1) (h2 : P 2) (h3 : P 3) (h4 : P 4) (h5 : P 5) (h6 : P 6) (h7 : P 7) (h8 : P 8) (h9 : P 9) : ∀ i, i < 10 → P i := by
  intro i hi
  match i, hi with
  | 0, _ => exact h0
  | 1, _ => exact h1
  | 2, _ => exact h2
  | 3, _ => exact h3
  | 4, _ => exact h4
  | 5, _ => exact h5
  | 6, _ => exact h6
  | 7, _ => exact h7
  | 8, _ => exact h8
  | 9, _ => exact h9
  | n + 10, h => omega
theorem arr_get (f : Nat → Nat) (neg : Bool) : ∀ i, i < 10 → (arr f neg)[i]? = some (.int .u64 (f i)) := cases10 rfl rfl rfl rfl rfl rfl rfl rfl rfl rfl
theorem arr_neg (f : Nat → Nat) (neg : Bool) : (arr f neg)[10]? = some (.bool neg) := rfl
theorem arr_size (f : Nat → Nat) (neg : Bool) : (arr f neg).size = 11 := rfl
theorem arr_congr {f g : Nat → Nat} (neg : Bool) (h : ∀ i, i < 10 → f i = g i) : arr f neg = arr g neg := by
  unfold arr
  rw [h 0 (by omega), h 1 (by omega), h 2 (by omega), h 3 (by omega), h 4 (by omega), h 5 (by omega), h 6 (by omega), h 7 (by omega), h 8 (by omega), h 9 (by omega)]
theorem arr_set (f : Nat → Nat) (neg : Bool) (v : Nat) : ∀ i, i < 10 → (arr f neg).setIfInBounds i (.int .u64 v) = arr (fun k => if k = i then v else f k) neg := cases10 rfl rfl rfl rfl rfl rfl rfl rfl rfl rfl
theorem arr_setNeg (f : Nat → Nat) (neg b : Bool) : (arr f neg).setIfInBounds 10 (.bool b) = arr f b := rfl
theorem arr_one (f : Nat → Nat) (neg : Bool) : (arr f neg).all (·.oneCell') = true := by simp [arr, uV, Value.oneCell']
theorem arr_zero : arr (fun _ => 0) false = #[.int .u64 0, .int .u64 0, .int .u64 0, .int .u64 0, .int .u64 0, .int .u64 0, .int .u64 0, .int .u64 0, .int .u64 0, .int .u64 0, .bool false] := rfl
theorem limb_zero (i : Nat) : limb 0 i = 0 := by unfold limb; rw [Nat.zero_div]
theorem bigOf_zero : bigOf 0 = .agg (arr (fun _ => 0) false) := by
  show Value.agg (arr (limb 0) false) = _
  rw [arr_congr false (g := fun _ => 0) (fun i _ => limb_zero i)]

/-! One step of a sum. -/
def carry (n m i : Nat) : Nat := (n % 2 ^ (32 * i) + m % 2 ^ (32 * i)) / 2 ^ (32 * i)
theorem pow_succ32 (i : Nat) : 2 ^ (32 * (i + 1)) = 2 ^ (32 * i) * 4294967296 := by rw [Nat.mul_add, Nat.pow_add]
theorem mod_limb (n i : Nat) : n % 2 ^ (32 * (i + 1)) = n % 2 ^ (32 * i) + 2 ^ (32 * i) * limb n i := by
  rw [pow_succ32, Nat.mod_mul]; rfl
theorem carry_zero (n m : Nat) : carry n m 0 = 0 := by unfold carry; simp [Nat.mod_one]
theorem carry_le (n m i : Nat) : carry n m i ≤ 1 := by
  unfold carry
  have hp : 0 < 2 ^ (32 * i) := Nat.pow_pos (by omega)
  have h1 := Nat.mod_lt n hp
  have h2 := Nat.mod_lt m hp
  have : (n % 2 ^ (32 * i) + m % 2 ^ (32 * i)) / 2 ^ (32 * i) < 2 := by rw [Nat.div_lt_iff_lt_mul hp]; omega
  omega
theorem add_step (n m i : Nat) : (limb n i + limb m i + carry n m i) / 4294967296 = carry n m (i + 1) ∧ (limb n i + limb m i + carry n m i) % 4294967296 = limb (n + m) i := by
  have hp : 0 < 2 ^ (32 * i) := Nat.pow_pos (by omega)
  constructor
  · unfold carry
    rw [mod_limb, mod_limb, pow_succ32]
    generalize 2 ^ (32 * i) = p at *
    rw [← Nat.div_div_eq_div_mul]
    congr 1
    rw [show n % p + p * limb n i + (m % p + p * limb m i) = (n % p + m % p) + p * (limb n i + limb m i) by rw [Nat.mul_add]; omega, Nat.add_mul_div_left _ _ hp]
    omega
  · unfold carry limb
    generalize 2 ^ (32 * i) = p at *
    have h : (n + m) / p = n / p + m / p + (n % p + m % p) / p := by
      conv => lhs; rw [← Nat.div_add_mod n p, ← Nat.div_add_mod m p]
      rw [show p * (n / p) + n % p + (p * (m / p) + m % p) = (n % p + m % p) + p * (n / p + m / p) by rw [Nat.mul_add]; omega, Nat.add_mul_div_left _ _ hp]
      omega
    rw [h]
    omega
theorem u64_mask (s : Nat) (h : s < 18446744073709551616) : bits BinOp.and IntKind.u64 (s : Int) 4294967295 = ((s % 4294967296 : Nat) : Int) := by
  rw [show (4294967295 : Int) = ((4294967295 : Nat) : Int) from rfl, u64_and_nat _ _ h (by omega), show (4294967295 : Nat) = 2 ^ 32 - 1 from rfl, Nat.and_two_pow_sub_one_eq_mod]
/-! One step of a difference. -/
def borrow (n m i : Nat) : Nat := if n % 2 ^ (32 * i) < m % 2 ^ (32 * i) then 1 else 0
theorem borrow_zero (n m : Nat) : borrow n m 0 = 0 := by unfold borrow; simp [Nat.mod_one]
theorem borrow_le (n m i : Nat) : borrow n m i ≤ 1 := by unfold borrow; split <;> omega
theorem sub_step (n m i : Nat) (h : m ≤ n) : 1 - (limb n i + 4294967296 - limb m i - borrow n m i) / 4294967296 = borrow n m (i + 1) ∧ (limb n i + 4294967296 - limb m i - borrow n m i) % 4294967296 = limb (n - m) i := by
  have hp : 0 < 2 ^ (32 * i) := Nat.pow_pos (by omega)
  constructor
  · unfold borrow
    rw [mod_limb, mod_limb]
    have lx := limb_lt n i
    have ly := limb_lt m i
    have r1 := Nat.mod_lt n hp
    have r2 := Nat.mod_lt m hp
    generalize limb n i = x at *
    generalize limb m i = y at *
    generalize 2 ^ (32 * i) = p at *
    generalize n % p = r at *
    generalize m % p = s at *
    rcases Nat.lt_trichotomy x y with hxy | hxy | hxy
    · have h1 : p * (x + 1) ≤ p * y := Nat.mul_le_mul_left p hxy
      rw [Nat.mul_add, Nat.mul_one] at h1
      rw [if_pos (show r + p * x < s + p * y by omega)]
      split <;> omega
    · subst hxy
      by_cases hrs : r < s
      · rw [if_pos hrs, if_pos (by omega)]; omega
      · rw [if_neg hrs, if_neg (by omega)]; omega
    · have h1 : p * (y + 1) ≤ p * x := Nat.mul_le_mul_left p hxy
      rw [Nat.mul_add, Nat.mul_one] at h1
      rw [if_neg (show ¬ (r + p * x < s + p * y) by omega)]
      split <;> omega
  · unfold borrow limb
    have r1 := Nat.mod_lt n hp
    have r2 := Nat.mod_lt m hp
    generalize 2 ^ (32 * i) = p at *
    have e1 := Nat.div_add_mod n p
    have e2 := Nat.div_add_mod m p
    have hd : m / p ≤ n / p := Nat.div_le_div_right h
    have key : (n - m) / p = n / p - m / p - (if n % p < m % p then 1 else 0) := by
      split
      · rename_i hlt
        have hne : m / p < n / p := by
          rcases Nat.lt_or_ge (m / p) (n / p) with h1 | h1
          · exact h1
          · have : n / p = m / p := by omega
            rw [this] at e1
            omega
        have hm : p * (m / p + 1) ≤ p * (n / p) := Nat.mul_le_mul_left p hne
        rw [Nat.mul_add, Nat.mul_one] at hm
        have e3 : n - m = (p + n % p - m % p) + p * (n / p - m / p - 1) := by
          rw [Nat.mul_sub, Nat.mul_sub]
          omega
        rw [e3, Nat.add_mul_div_left _ _ hp, Nat.div_eq_of_lt (by omega)]
        omega
      · have hm : p * (m / p) ≤ p * (n / p) := Nat.mul_le_mul_left p hd
        have e3 : n - m = (n % p - m % p) + p * (n / p - m / p) := by
          rw [Nat.mul_sub]
          omega
        rw [e3, Nat.add_mul_div_left _ _ hp, Nat.div_eq_of_lt (by omega)]
        omega
    rw [key]
    have hb : n % p < m % p → m / p < n / p := fun hlt => by
      rcases Nat.lt_or_ge (m / p) (n / p) with h1 | h1
      · exact h1
      · have : n / p = m / p := by omega
        rw [this] at e1
        omega
    generalize n / p = a at *
    generalize m / p = b at *
    split
    · rename_i hlt
      have := hb hlt
      omega
    · omega
/-! From the top: the first part that parts them decides. -/
theorem div_limb (n i : Nat) : n / 2 ^ (32 * i) = 4294967296 * (n / 2 ^ (32 * (i + 1))) + limb n i := by
  rw [pow_succ32, ← Nat.div_div_eq_div_mul]
  unfold limb
  omega
theorem less_same {n m i : Nat} (h : n / 2 ^ (32 * (i + 1)) = m / 2 ^ (32 * (i + 1))) (h2 : limb n i = limb m i) : n / 2 ^ (32 * i) = m / 2 ^ (32 * i) := by rw [div_limb n, div_limb m, h, h2]
theorem less_apart {n m i : Nat} (h : n / 2 ^ (32 * (i + 1)) = m / 2 ^ (32 * (i + 1))) (h2 : limb n i ≠ limb m i) : decide (limb n i < limb m i) = decide (n < m) := by
  have e1 := div_limb n i
  have e2 := div_limb m i
  rw [h] at e1
  have hp : 0 < 2 ^ (32 * i) := Nat.pow_pos (by omega)
  have f1 := Nat.div_add_mod n (2 ^ (32 * i))
  have f2 := Nat.div_add_mod m (2 ^ (32 * i))
  have r1 := Nat.mod_lt n hp
  have r2 := Nat.mod_lt m hp
  generalize 2 ^ (32 * i) = p at *
  generalize limb n i = x at *
  generalize limb m i = y at *
  rcases Nat.lt_or_gt_of_ne h2 with hxy | hxy
  · have h3 : n / p + 1 ≤ m / p := by omega
    have h4 := Nat.mul_le_mul_left p h3
    rw [Nat.mul_add, Nat.mul_one] at h4
    rw [decide_eq_true hxy, decide_eq_true (by omega)]
  · have h3 : m / p + 1 ≤ n / p := by omega
    have h4 := Nat.mul_le_mul_left p h3
    rw [Nat.mul_add, Nat.mul_one] at h4
    rw [decide_eq_false (by omega), decide_eq_false (by omega)]
/-- More than all ten parts hold. (A name: the number itself is never to be reckoned.) -/
def lim : Nat := 2 ^ (32 * 10)
theorem lim_eq : lim = 2 ^ (32 * 10) := by unfold lim; rfl
theorem lim_div {n : Nat} (h : n < lim) : n / 2 ^ (32 * 10) = 0 := by rw [← lim_eq]; exact Nat.div_eq_of_lt h
theorem lim_big {n k : Nat} (hk : k ≤ 32 * 10) (h : n < 2 ^ k) : n < lim := by
  have h2 := Nat.pow_le_pow_right (n := 2) (by omega) hk
  rw [← lim_eq] at h2
  exact Nat.lt_of_lt_of_le h h2
theorem top_zero {n : Nat} (h : n < lim) : n / 2 ^ (32 * (9 + 1)) = 0 := by
  rw [show 9 + 1 = 10 from rfl]; exact lim_div h
theorem all_same {n m : Nat} (h : n / 2 ^ (32 * 0) = m / 2 ^ (32 * 0)) : n = m := by simpa using h
/-- Nought has no part. -/
theorem limb_all_zero {n : Nat} (h : n < lim) (h0 : ∀ i, i < 10 → limb n i = 0) : n = 0 := by
  have e : ∀ k, k ≤ 10 → n / 2 ^ (32 * (10 - k)) = 0 := by
    intro k
    induction k with
    | zero => intro _; rw [Nat.sub_zero]; exact lim_div h
    | succ k ih =>
      intro hk
      have h1 := ih (by omega)
      rw [div_limb, show 10 - (k + 1) + 1 = 10 - k by omega, h1, h0 _ (by omega)]
  have := e 10 (by omega)
  simpa using this
theorem limb_small {n i : Nat} (h : n < 2 ^ (32 * i)) : limb n i = 0 := by unfold limb; rw [Nat.div_eq_of_lt h]
end Go.Proofs.Ytbcafgglgjhckaa
end
section
/- 'add' of the reference, walked. -/
namespace Go.Proofs.Ytbcafgglgjhckaa
open Go.RowKit
/-- A block that holds a row, whole. -/
def Blk (w : World) (g : Nat) (cs : Array Value) (t : TypeId) : Prop := w.heap[g]? = some (.cells cs t (0, 0))
theorem Blk.cell {w : World} {g : Nat} {cs : Array Value} {t : TypeId} (h : Blk w g cs t) (i : Nat) : w.cell? ⟨g, i, none⟩ = cs[i]? := cell_of_row _ _ _ _ _ _ h
theorem Blk.frozen {w : World} {g : Nat} {cs : Array Value} {t : TypeId} (h : Blk w g cs t) (i : Nat) : w.frozen? ⟨g, i, none⟩ = false := frozen_of_row _ _ _ _ _ h
theorem Blk.setCell {w : World} {g : Nat} {cs : Array Value} {t : TypeId} (h : Blk w g cs t) (i : Nat) (v : Value) : Blk (w.setCell ⟨g, i, none⟩ v) g (cs.setIfInBounds i v) t := heap_setCell_same _ _ _ _ _ _ h
theorem Blk.other {w : World} {g k i : Nat} {cs : Array Value} {t : TypeId} {v : Value} (h : Blk w g cs t) (hne : g ≠ k) : Blk (w.setCell ⟨k, i, none⟩ v) g cs t := (heap_setCell_other _ _ _ _ hne).trans h
theorem Blk.new {w : World} {cs : Array Value} {t : TypeId} {k : Nat} (h : k = w.heap.size) : Blk (w.alloc (.cells cs t)) k cs t := al_new h
theorem Blk.alloc {w : World} {g : Nat} {cs : Array Value} {t : TypeId} (h : Blk w g cs t) (o : Obj) : Blk (w.alloc o) g cs t := al_old h
theorem Blk.setRow {w : World} {g : Nat} {cs : Array Value} {t : TypeId} (h : Blk w g cs t) (ds : Array Value) : Blk (w.setRow g ds) g ds t := setRow_heap _ _ _ _ _ _ h
theorem Blk.otherRow {w : World} {g k : Nat} {cs : Array Value} {t : TypeId} (h : Blk w g cs t) (ds : Array Value) (hne : g ≠ k) : Blk (w.setRow k ds) g cs t := by
  unfold Blk at *
  simp only [World.setRow, Array.getElem?_modify]
  rw [if_neg (fun e => hne e.symm)]
  exact h
theorem Blk.lt {w : World} {g : Nat} {cs : Array Value} {t : TypeId} (h : Blk w g cs t) : g < w.heap.size := heap_lt h
theorem Blk.below {w w' : World} {g B : Nat} {cs : Array Value} {t : TypeId} (h : Blk w g cs t) (hb : Below B w w') (hB : w.heap.size ≤ B) : Blk w' g cs t := Below.kept hb (Nat.lt_of_lt_of_le h.lt hB) h
theorem al3 (w : World) (A B C : Obj) : ((w.alloc A).alloc B |>.alloc C).heap[w.heap.size]? = some A ∧ ((w.alloc A).alloc B |>.alloc C).heap[w.heap.size + 1]? = some B ∧ ((w.alloc A).alloc B |>.alloc C).heap[w.heap.size + 1 + 1]? = some C ∧
    Below w.heap.size w ((w.alloc A).alloc B |>.alloc C) :=
  ⟨al_old (al_old (al_new rfl)), al_old (al_new (by simp)), al_new (by simp), ((Below_one A).alloc (by simp) B).alloc (by simp; omega) C⟩
def mix (n m i k : Nat) : Nat := if k < i then limb (n + m) k else limb n k
set_option maxRecDepth 100000 in
set_option maxHeartbeats 1000000 in
theorem radd_any (n m : Nat) (na nb : Bool) (w : World) :
    Calls Try.prog 32 #[bigM n na, bigM m nb] w fun e w' => e = .returned (bigM (n + m) na) ∧ Below w.heap.size w w' := by
  unfold bigM
  go_enter Try.func32, Try.ntmps32
  go_wp2
  rw [← arr_zero]
  obtain ⟨h1, h2, h3, hb⟩ := al3 w (.cells (arr (limb n) na) 57) (.cells (arr (limb m) nb) 57) (.cells (arr (fun _ => 0) false) 57)
  generalize ((w.alloc (.cells (arr (limb n) na) 57)).alloc (.cells (arr (limb m) nb) 57)).alloc (.cells (arr (fun _ => 0) false) 57) = W at *
  have H1 := hid h1; have H2 := hid h2; have H3 := hid h3; have HB := hid hb
  clear h1 h2 h3 hb
  go_loopw [5,6,7,8,9,10,11,12,13,14,15,16,17,18,19,20,21,22,23,24,25,26,27,28,29] (fun t5 t6 _ _ _ _ _ _ _ _ _ _ _ _ _ _ _ _ _ _ _ _ _ _ _ wr => ∃ i : Nat, i ≤ 10 ∧ t6 = .int .i64 i ∧ t5 = uV (carry n m i) ∧ Blk wr w.heap.size (arr (mix n m i) na) 57 ∧ Blk wr (w.heap.size + 1) (arr (limb m) nb) 57 ∧ Blk wr (w.heap.size + 1 + 1) (arr (fun _ => 0) false) 57 ∧ Below w.heap.size w wr) (fun t5 t6 _ _ _ _ _ _ _ _ _ _ _ _ _ _ _ _ _ _ _ _ _ _ _ wr => 10 - (intOf t6).toNat)
  case atStart => exact ⟨0, by omega, rfl, by rw [carry_zero]; rfl, by rw [arr_congr (g := limb n) na (fun i _ => by unfold mix; rw [if_neg (by omega)])]; exact H1.out, H2.out, H3.out, HB.out⟩
  case round =>
    obtain ⟨i, hi, rfl, rfl, hA, hB, hC, hW⟩ := hrel
    have HA := hid hA; have HBb := hid hB; have HC := hid hC; have HW := hid hW
    clear hA hB hC hW
    by_cases hlt : i < 10
    · have c1 : wr.cell? ⟨w.heap.size, i, none⟩ = some (.int .u64 (limb n i : Nat)) := by rw [HA.out.cell, arr_get _ _ i hlt]; unfold mix; rw [if_neg (by omega)]
      have c2 : wr.cell? ⟨w.heap.size + 1, i, none⟩ = some (.int .u64 (limb m i : Nat)) := by rw [HBb.out.cell, arr_get _ _ i hlt]
      have hst := add_step n m i
      have l1 := limb_lt n i
      have l2 := limb_lt m i
      have l3 := carry_le n m i
      generalize limb n i = x at *
      generalize limb m i = y at *
      generalize carry n m i = o at *
      obtain ⟨s1, s2⟩ := hst
      have S1 := hid s1; have S2 := hid s2
      clear s1 s2
      have q1 : IntKind.u64.wrap ((x : Int) + (y : Int)) = (x : Int) + (y : Int) := by rw [IntKind.wrap_u64]; omega
      have q2 : IntKind.u64.wrap ((x : Int) + (y : Int) + (o : Int)) = (x : Int) + (y : Int) + (o : Int) := by rw [IntKind.wrap_u64]; omega
      have q3 : bits BinOp.and IntKind.u64 ((x : Int) + (y : Int) + (o : Int)) 4294967295 = (((x + y + o) % 4294967296 : Nat) : Int) := by rw [← u64_mask (x + y + o) (by omega)]; simp
      have i0 : (0 : Int) ≤ (i : Int) := by omega
      have i1 : (i : Int) < 10 := by omega
      unfold uV
      go_wp2
      refine wp_region_early [0, 1, 2, 3, 4, 5, 6, 7, 8, 9, 10, 11] [] [] (fun wx => wx.cell? ⟨w.heap.size, i, none⟩ = some (.int .u64 (x : Int)) ∧ wx.cell? ⟨w.heap.size + 1, i, none⟩ = some (.int .u64 (y : Int))) (by kernel_rfl) (by kernel_rfl) (by kernel_rfl) (by rfl) ⟨c1, c2⟩ ?_
      apply Exists.intro
      refine ⟨fun wx hx => ?_, ?_⟩
      · obtain ⟨x1, x2⟩ := hx
        repeat (refine seI_step rfl (fun K hK => ?_); go_simp; refine hK _ ?_; clear hK K)
        exact seI_nil rfl
      refine wpTA_nil .nil ?_
      go_wp2
      refine NoPanic.normal ?_
      have f1 : wr.frozen? ⟨w.heap.size, i, none⟩ = false := HA.out.frozen i
      go_wp2
      go_roundw
      case rel =>
        refine ⟨i + 1, by omega, by go_num, by rw [← S1.out]; rfl, ?_, HBb.out.other (by omega), HC.out.other (by omega), (HW.out.setCell (p := ⟨w.heap.size, i, none⟩) (Nat.le_refl _) _).drew⟩
        have h1 := HA.out.setCell i (.int .u64 (((x + y + o) % 4294967296 : Nat) : Int))
        rw [arr_set _ _ _ i hlt, S2.out] at h1
        rw [arr_congr (g := fun k => if k = i then limb (n + m) i else mix n m i k) na (fun k _ => by
          unfold mix
          by_cases hk : k = i
          · subst hk; simp
          · by_cases hk2 : k < i
            · simp [hk, hk2, show k < i + 1 by omega]
            · simp [hk, hk2, show ¬ k < i + 1 by omega])]
        have q4 : ((x : Int) + (y : Int) + (o : Int)) % 4294967296 = ((limb (n + m) i : Nat) : Int) := by rw [← S2.out]; omega
        rw [q4]
        exact h1
      case measure => simp [intOf]; omega
    · obtain rfl : i = 10 := by omega
      have hA : Blk wr w.heap.size (arr (limb (n + m)) na) 57 := by
        have := HA.out
        rw [arr_congr (g := limb (n + m)) na (fun k hk => by unfold mix; rw [if_pos hk])] at this
        exact this
      have HA := hid hA
      clear hA
      go_wp2_with (first | (refine wpList_load_row rfl 57 (.tmp 2) rfl w.heap.size rfl 57 (arr (limb (n + m)) na) (0, 0) _ HA.out Try.underlying57 rfl (by kernel_rfl) ?_) | (refine wpList_store_row rfl 57 (.tmp 4) (.tmp 30) rfl (w.heap.size + 1 + 1) (arr (limb (n + m)) na) rfl rfl 57 (arr (fun _ => 0) false) HC.out (by kernel_rfl) rfl (arr_one _ _) ?_))
      refine bodyPost_ret (results_cell_row rfl _ _ (w.heap.size + 1 + 1) 57 (arr (limb (n + m)) na) (0, 0) _ rfl (HC.out.setRow _) Try.underlying57 rfl (by kernel_rfl)) rfl ⟨rfl, ?_⟩
      exact HW.out.trans (Below_setRow (Below.refl _ _) (by omega) _)
end Go.Proofs.Ytbcafgglgjhckaa
end
section
/- '==' of two arrays of integers. No program in sight. -/
namespace Go.Proofs.Ytbcafgglgjhckaa
open Go.RowKit
variable {P : Program}
theorem run_part1 {e : TypeId} {k : IntKind} (he : P.underlying e = some (.int k)) (w : World) (cs : Array Value) (i : Nat) (v : Value) (h : cs[i]? = some v) : (part e cs i).run P w = .ok v w := by
  simp [part, isAgg, run_underlying he, h]
theorem run_eqRange {e : TypeId} {k : IntKind} (he : P.underlying e = some (.int k)) (w : World) (xs ys : Array Value) (d : Nat) (f g : Nat → Int) : ∀ (l : List Nat), (∀ i ∈ l, xs[i]? = some (.int k (f i)) ∧ ys[i]? = some (.int k (g i))) →
    (forIn (m := Sem) l ((none, ()) : Option Bool × Unit) fun i (_ : Option Bool × Unit) => do
      let a ← part e xs (i * 1)
      let b ← part e ys (i * 1)
      let r ← Op.equalIn (d + 1) e a b
      if (!r) = true then pure (ForInStep.done (some false, ())) else pure (ForInStep.yield (none, ()))).run P w =
      .ok (if l.all (fun i => f i == g i) then (none, ()) else (some false, ())) w := by
  intro l
  induction l with
  | nil => intro _; rfl
  | cons i l ih =>
    intro h
    obtain ⟨h1, h2⟩ := h i (by simp)
    have e1 := run_part1 he w xs (i * 1) _ (by rw [Nat.mul_one]; exact h1)
    have e2 := run_part1 he w ys (i * 1) _ (by rw [Nat.mul_one]; exact h2)
    have e3 := run_equalIn_int (P := P) w d e k k (f i) (g i) he
    simp only [List.forIn_cons, Sem.run_bind, e1, e2, e3, Result.andThen_ok]
    cases hq : (f i == g i)
    · simp [hq]
    · simp only [Bool.not_true, Bool.false_eq_true, if_false, Sem.run_pure, Result.andThen_ok, List.all_cons, hq, Bool.true_and]
      exact ih fun j hj => h j (by simp [hj])
theorem run_equalIn_arr {t e : TypeId} {k : IntKind} {n : Nat} (d : Nat) (ht : P.underlying t = some (.array n e)) (he : P.underlying e = some (.int k)) (hs : ∀ w, (sizeOf e).run P w = .ok 1 w) (xs ys : Array Value) (f g : Nat → Int)
    (h : ∀ i, i < n → xs[i]? = some (.int k (f i)) ∧ ys[i]? = some (.int k (g i))) (w : World) : (Op.equalIn (d + 2) t (.agg xs) (.agg ys)).run P w = .ok ((List.range n).all fun i => f i == g i) w := by
  unfold Op.equalIn
  simp only [Sem.run_bind, run_underlying ht, Result.andThen_ok, hs]
  rw [Std.Legacy.Range.forIn_eq_forIn_range']
  have hr := run_eqRange (P := P) he w xs ys d f g (List.range n) (fun i hi => h i (List.mem_range.1 hi))
  simp only [Std.Legacy.Range.size, Nat.sub_zero, Nat.add_sub_cancel, Nat.div_one, ← List.range_eq_range']
  rw [hr]
  split
  · rename_i hq
    simp [hq]
  · rename_i hq
    simp [hq]
end Go.Proofs.Ytbcafgglgjhckaa
end
section
/- 'sub', 'less', 'zero' of the reference, walked. -/
namespace Go.Proofs.Ytbcafgglgjhckaa
open Go.RowKit
def mixS (n m i k : Nat) : Nat := if k < i then limb (n - m) k else limb n k
set_option maxRecDepth 100000 in
set_option maxHeartbeats 1000000 in
theorem rsub_any (n m : Nat) (na nb : Bool) (hmn : m ≤ n) (w : World) :
    Calls Try.prog 34 #[bigM n na, bigM m nb] w fun e w' => e = .returned (bigM (n - m) na) ∧ Below w.heap.size w w' := by
  unfold bigM
  have HMN := hid hmn; clear hmn
  go_enter Try.func34, Try.ntmps34
  go_wp2
  rw [← arr_zero]
  obtain ⟨h1, h2, h3, hb⟩ := al3 w (.cells (arr (limb n) na) 57) (.cells (arr (limb m) nb) 57) (.cells (arr (fun _ => 0) false) 57)
  generalize ((w.alloc (.cells (arr (limb n) na) 57)).alloc (.cells (arr (limb m) nb) 57)).alloc (.cells (arr (fun _ => 0) false) 57) = W at *
  have H1 := hid h1; have H2 := hid h2; have H3 := hid h3; have HB := hid hb
  clear h1 h2 h3 hb
  go_loopw [5,6,7,8,9,10,11,12,13,14,15,16,17,18,19,20,21,22,23,24,25,26,27,28,29,30,31] (fun t5 t6 _ _ _ _ _ _ _ _ _ _ _ _ _ _ _ _ _ _ _ _ _ _ _ _ _ wr => ∃ i : Nat, i ≤ 10 ∧ t6 = .int .i64 i ∧ t5 = uV (borrow n m i) ∧ Blk wr w.heap.size (arr (mixS n m i) na) 57 ∧ Blk wr (w.heap.size + 1) (arr (limb m) nb) 57 ∧ Blk wr (w.heap.size + 1 + 1) (arr (fun _ => 0) false) 57 ∧ Below w.heap.size w wr) (fun t5 t6 _ _ _ _ _ _ _ _ _ _ _ _ _ _ _ _ _ _ _ _ _ _ _ _ _ wr => 10 - (intOf t6).toNat)
  case atStart => exact ⟨0, by omega, rfl, by rw [borrow_zero]; rfl, by rw [arr_congr (g := limb n) na (fun i _ => by unfold mixS; rw [if_neg (by omega)])]; exact H1.out, H2.out, H3.out, HB.out⟩
  case round =>
    obtain ⟨i, hi, rfl, rfl, hA, hB, hC, hW⟩ := hrel
    have HA := hid hA; have HBb := hid hB; have HC := hid hC; have HW := hid hW
    clear hA hB hC hW
    by_cases hlt : i < 10
    · have c1 : wr.cell? ⟨w.heap.size, i, none⟩ = some (.int .u64 (limb n i : Nat)) := by rw [HA.out.cell, arr_get _ _ i hlt]; unfold mixS; rw [if_neg (by omega)]
      have c2 : wr.cell? ⟨w.heap.size + 1, i, none⟩ = some (.int .u64 (limb m i : Nat)) := by rw [HBb.out.cell, arr_get _ _ i hlt]
      have hst := sub_step n m i HMN.out
      have l1 := limb_lt n i
      have l2 := limb_lt m i
      have l3 := borrow_le n m i
      generalize limb n i = x at *
      generalize limb m i = y at *
      generalize borrow n m i = o at *
      obtain ⟨s1, s2⟩ := hst
      have S1 := hid s1; have S2 := hid s2
      clear s1 s2
      have q0 : IntKind.u64.wrap ((x : Int) + 4294967296) = (x : Int) + 4294967296 := by rw [IntKind.wrap_u64]; omega
      have q1 : IntKind.u64.wrap ((x : Int) + 4294967296 - (y : Int)) = (x : Int) + 4294967296 - (y : Int) := by rw [IntKind.wrap_u64]; omega
      have q2 : IntKind.u64.wrap ((x : Int) + 4294967296 - (y : Int) - (o : Int)) = (x : Int) + 4294967296 - (y : Int) - (o : Int) := by rw [IntKind.wrap_u64]; omega
      have i0 : (0 : Int) ≤ (i : Int) := by omega
      have i1 : (i : Int) < 10 := by omega
      unfold uV
      go_wp2
      refine wp_region_early [0, 1, 2, 3, 4, 5, 6, 7, 8, 9, 10, 11, 12] [] [] (fun wx => wx.cell? ⟨w.heap.size, i, none⟩ = some (.int .u64 (x : Int)) ∧ wx.cell? ⟨w.heap.size + 1, i, none⟩ = some (.int .u64 (y : Int))) (by kernel_rfl) (by kernel_rfl) (by kernel_rfl) (by rfl) ⟨c1, c2⟩ ?_
      apply Exists.intro
      refine ⟨fun wx hx => ?_, ?_⟩
      · obtain ⟨x1, x2⟩ := hx
        repeat (refine seI_step rfl (fun K hK => ?_); go_simp; refine hK _ ?_; clear hK K)
        exact seI_nil rfl
      refine wpTA_nil .nil ?_
      go_wp2
      refine NoPanic.normal ?_
      have f1 : wr.frozen? ⟨w.heap.size, i, none⟩ = false := HA.out.frozen i
      clear q0 q1 q2
      go_wp2
      go_roundw
      case rel =>
        refine ⟨i + 1, by omega, by go_num, by rw [← S1.out]; congr 1; omega, ?_, HBb.out.other (by omega), HC.out.other (by omega), (HW.out.setCell (p := ⟨w.heap.size, i, none⟩) (Nat.le_refl _) _).drew⟩
        have h1 := HA.out.setCell i (.int .u64 (((x + 4294967296 - y - o) % 4294967296 : Nat) : Int))
        rw [arr_set _ _ _ i hlt, S2.out] at h1
        rw [arr_congr (g := fun k => if k = i then limb (n - m) i else mixS n m i k) na (fun k _ => by
          unfold mixS
          by_cases hk : k = i
          · subst hk; simp
          · by_cases hk2 : k < i
            · simp [hk, hk2, show k < i + 1 by omega]
            · simp [hk, hk2, show ¬ k < i + 1 by omega])]
        have q4 : bits BinOp.and IntKind.u64 ((x : Int) + 4294967296 - (y : Int) - (o : Int)) 4294967295 = ((limb (n - m) i : Nat) : Int) := by rw [show (x : Int) + 4294967296 - (y : Int) - (o : Int) = ((x + 4294967296 - y - o : Nat) : Int) by omega, u64_mask _ (by omega), S2.out]
        rw [q4]
        exact h1
      case measure => simp [intOf]; omega
    · obtain rfl : i = 10 := by omega
      have hA : Blk wr w.heap.size (arr (limb (n - m)) na) 57 := by
        have := HA.out
        rw [arr_congr (g := limb (n - m)) na (fun k hk => by unfold mixS; rw [if_pos hk])] at this
        exact this
      have HA := hid hA
      clear hA
      go_wp2_with (first | (refine wpList_load_row rfl 57 (.tmp 2) rfl w.heap.size rfl 57 (arr (limb (n - m)) na) (0, 0) _ HA.out Try.underlying57 rfl (by kernel_rfl) ?_) | (refine wpList_store_row rfl 57 (.tmp 4) (.tmp 32) rfl (w.heap.size + 1 + 1) (arr (limb (n - m)) na) rfl rfl 57 (arr (fun _ => 0) false) HC.out (by kernel_rfl) rfl (arr_one _ _) ?_))
      refine bodyPost_ret (results_cell_row rfl _ _ (w.heap.size + 1 + 1) 57 (arr (limb (n - m)) na) (0, 0) _ rfl (HC.out.setRow _) Try.underlying57 rfl (by kernel_rfl)) rfl ⟨rfl, ?_⟩
      exact HW.out.trans (Below_setRow (Below.refl _ _) (by omega) _)
theorem al2 (w : World) (A B : Obj) : ((w.alloc A).alloc B).heap[w.heap.size]? = some A ∧ ((w.alloc A).alloc B).heap[w.heap.size + 1]? = some B ∧ Below w.heap.size w ((w.alloc A).alloc B) :=
  ⟨al_old (al_new rfl), al_new (by simp), (Below_one A).alloc (by simp) B⟩
set_option maxRecDepth 100000 in
set_option maxHeartbeats 1000000 in
theorem rless_any (n m : Nat) (na nb : Bool) (hn : n < lim) (hm : m < lim) (w : World) :
    Calls Try.prog 33 #[bigM n na, bigM m nb] w fun e w' => e = .returned (.bool (decide (n < m))) ∧ Below w.heap.size w w' := by
  unfold bigM
  have HT := hid (show n / 2 ^ (32 * (9 + 1)) = m / 2 ^ (32 * (9 + 1)) by rw [top_zero hn, top_zero hm])
  clear hn hm
  go_enter Try.func33, Try.ntmps33
  go_wp2
  obtain ⟨h1, h2, hb⟩ := al2 w (.cells (arr (limb n) na) 57) (.cells (arr (limb m) nb) 57)
  generalize (w.alloc (.cells (arr (limb n) na) 57)).alloc (.cells (arr (limb m) nb) 57) = W at *
  have H1 := hid h1; have H2 := hid h2; have HB := hid hb
  clear h1 h2 hb
  go_loopw [5,6,7,8,9,10,11,12,13,14,15,16,17,18,19,20,21,22,23,24,25,26,27] (fun t5 _ _ _ _ _ _ _ _ _ _ _ _ _ _ _ _ _ _ _ _ _ _ wr => ∃ j : Int, -1 ≤ j ∧ j ≤ 9 ∧ t5 = .int .i64 j ∧ n / 2 ^ (32 * (j + 1).toNat) = m / 2 ^ (32 * (j + 1).toNat) ∧ Blk wr w.heap.size (arr (limb n) na) 57 ∧ Blk wr (w.heap.size + 1) (arr (limb m) nb) 57 ∧ Below w.heap.size w wr) (fun t5 _ _ _ _ _ _ _ _ _ _ _ _ _ _ _ _ _ _ _ _ _ _ wr => (intOf t5 + 1).toNat)
  case atStart => exact ⟨9, by omega, by omega, rfl, (by rw [show ((9 : Int) + 1).toNat = 9 + 1 from rfl]; exact HT.out), H1.out, H2.out, HB.out⟩
  case round =>
    obtain ⟨j, hj1, hj2, rfl, hup, hA, hB, hW⟩ := hrel
    have HU := hid hup; have HA := hid hA; have HBb := hid hB; have HW := hid hW
    clear hup hA hB hW
    by_cases hlt : 0 ≤ j
    · obtain ⟨i, rfl⟩ := Int.eq_ofNat_of_zero_le hlt
      have hU := HU.out
      rw [show ((i : Int) + 1).toNat = i + 1 by omega] at hU
      have hlt : i < 10 := by omega
      have c1 : wr.cell? ⟨w.heap.size, i, none⟩ = some (.int .u64 (limb n i : Nat)) := by rw [HA.out.cell, arr_get _ _ i hlt]
      have c2 : wr.cell? ⟨w.heap.size + 1, i, none⟩ = some (.int .u64 (limb m i : Nat)) := by rw [HBb.out.cell, arr_get _ _ i hlt]
      have i0 : (0 : Int) ≤ (i : Int) := by omega
      have i1 : (i : Int) < 10 := by omega
      have HU2 := hid hU
      clear hU HU
      by_cases hxy : limb n i = limb m i
      · have hs := hid (less_same HU2.out hxy)
        rw [hxy] at c1
        clear hxy
        generalize limb m i = y at *
        have hne : ((y : Int) != (y : Int)) = false := by simp
        go_wp2
        refine wp_region_early [0, 1, 2, 3, 4, 5, 6, 7, 8] [] [] (fun wx => wx.cell? ⟨w.heap.size, i, none⟩ = some (.int .u64 (y : Int)) ∧ wx.cell? ⟨w.heap.size + 1, i, none⟩ = some (.int .u64 (y : Int))) (by kernel_rfl) (by kernel_rfl) (by kernel_rfl) (by rfl) ⟨c1, c2⟩ ?_
        apply Exists.intro
        refine ⟨fun wx hx => ?_, ?_⟩
        · obtain ⟨x1, x2⟩ := hx
          repeat (refine seI_step rfl (fun K hK => ?_); go_simp; refine hK _ ?_; clear hK K)
          exact seI_nil rfl
        refine wpTA_nil .nil ?_
        go_wp2
        refine NoPanic.normal ?_
        go_wp2
        go_roundw
        case rel => exact ⟨(i : Int) - 1, by omega, by omega, rfl, by rw [show ((i : Int) - 1 + 1).toNat = i by omega]; exact hs.out, HA.out, HBb.out, HW.out.drew⟩
        case measure => simp [intOf]
      · have hs := hid (less_apart HU2.out hxy)
        have hne : ((limb n i : Int) != (limb m i : Int)) = true := by simp; omega
        generalize limb n i = x at *
        generalize limb m i = y at *
        clear hxy
        go_wp2
        refine wp_region_early [0, 1, 2, 3, 4, 5, 6, 7, 8] [] [] (fun wx => wx.cell? ⟨w.heap.size, i, none⟩ = some (.int .u64 (x : Int)) ∧ wx.cell? ⟨w.heap.size + 1, i, none⟩ = some (.int .u64 (y : Int))) (by kernel_rfl) (by kernel_rfl) (by kernel_rfl) (by rfl) ⟨c1, c2⟩ ?_
        apply Exists.intro
        refine ⟨fun wx hx => ?_, ?_⟩
        · obtain ⟨x1, x2⟩ := hx
          repeat (refine seI_step rfl (fun K hK => ?_); go_simp; refine hK _ ?_; clear hK K)
          exact seI_nil rfl
        refine wpTA_nil .nil ?_
        go_wp2
        refine NoPanic.normal ?_
        go_wp2
        refine wp_region_early [0, 1, 2, 3, 4, 5, 6, 7, 8, 9] [] [] (fun wx => wx.cell? ⟨w.heap.size, i, none⟩ = some (.int .u64 (x : Int)) ∧ wx.cell? ⟨w.heap.size + 1, i, none⟩ = some (.int .u64 (y : Int))) (by kernel_rfl) (by kernel_rfl) (by kernel_rfl) (by rfl) ⟨c1, c2⟩ ?_
        apply Exists.intro
        refine ⟨fun wx hx => ?_, ?_⟩
        · obtain ⟨x1, x2⟩ := hx
          repeat (refine seI_step rfl (fun K hK => ?_); go_simp; refine hK _ ?_; clear hK K)
          exact seI_nil rfl
        refine wpTA_nil .nil ?_
        go_wp2
        refine NoPanic.normal ?_
        go_wp2
        go_ret
        exact ⟨by rw [← hs.out]; simp, HW.out.drew.drew⟩
    · obtain rfl : j = -1 := by omega
      have hs := hid (show n = m from all_same HU.out)
      go_wp2
      go_ret
      exact ⟨by rw [hs.out]; simp, HW.out⟩
theorem all_limbs (n : Nat) (hn : n < lim) : ((List.range 10).all fun i => ((limb n i : Nat) : Int) == 0) = decide (n = 0) := by
  by_cases h : n = 0
  · subst h
    rw [decide_eq_true rfl, List.all_eq_true]
    intro i _
    rw [limb_zero]; rfl
  · rw [decide_eq_false h, List.all_eq_false]
    refine Classical.byContradiction fun hc => h (limb_all_zero hn fun i hi => Classical.byContradiction fun h0 => hc ⟨i, List.mem_range.2 hi, ?_⟩)
    simp; omega
set_option maxRecDepth 100000 in
set_option maxHeartbeats 1000000 in
theorem rzero_any (n : Nat) (na : Bool) (hn : n < lim) (w : World) :
    Calls Try.prog 35 #[bigM n na] w fun e w' => e = .returned (.bool (decide (n = 0))) ∧ Below w.heap.size w w' := by
  have heq : ∀ W : World, (Op.equalIn 10000 55 (.agg #[uV (limb n 0), uV (limb n 1), uV (limb n 2), uV (limb n 3), uV (limb n 4), uV (limb n 5), uV (limb n 6), uV (limb n 7), uV (limb n 8), uV (limb n 9)])
      (.agg #[.int .u64 0, .int .u64 0, .int .u64 0, .int .u64 0, .int .u64 0, .int .u64 0, .int .u64 0, .int .u64 0, .int .u64 0, .int .u64 0])).run Try.prog W = .ok (decide (n = 0)) W := fun W => by
    have h := run_equalIn_arr (P := Try.prog) 9998 Try.underlying55 Try.underlying31 (fun w => by kernel_rfl) #[uV (limb n 0), uV (limb n 1), uV (limb n 2), uV (limb n 3), uV (limb n 4), uV (limb n 5), uV (limb n 6), uV (limb n 7), uV (limb n 8), uV (limb n 9)]
      #[.int .u64 0, .int .u64 0, .int .u64 0, .int .u64 0, .int .u64 0, .int .u64 0, .int .u64 0, .int .u64 0, .int .u64 0, .int .u64 0] (fun i => ((limb n i : Nat) : Int)) (fun _ => 0) (cases10 ⟨rfl, rfl⟩ ⟨rfl, rfl⟩ ⟨rfl, rfl⟩ ⟨rfl, rfl⟩ ⟨rfl, rfl⟩ ⟨rfl, rfl⟩ ⟨rfl, rfl⟩ ⟨rfl, rfl⟩ ⟨rfl, rfl⟩ ⟨rfl, rfl⟩) W
    rw [all_limbs n hn] at h
    exact h
  unfold bigM arr
  clear hn
  generalize decide (n = 0) = r at *
  go_enter Try.func35, Try.ntmps35
  go_wp2
  go_ret
  exact ⟨by simp, Below_one _⟩
end Go.Proofs.Ytbcafgglgjhckaa
end
section
/- 'Plus', 'Of', 'Minus', 'Int' of the reference, walked. -/
namespace Go.Proofs.Ytbcafgglgjhckaa
open Go.RowKit
theorem loadBig {ops : Array Oper} {rest : List Oper} {o : Oper} {a : Act} {w : World} {Q : Exit → Act → World → Prop} (hgd : o.guard = none) (x : Operand) (ho : o.op = .load 57 x) (g : Nat) (hx : a.eval x = .pointer (some ⟨g, 0, none⟩))
    (f : Nat → Nat) (neg : Bool) (hg : Blk w g (arr f neg) 57) (h : wpList Try.prog ops Q rest (a.put o.dst (.agg (arr f neg))) w) : wpList Try.prog ops Q (o :: rest) a w :=
  wpList_load_row hgd 57 x ho g hx 57 (arr f neg) (0, 0) _ hg Try.underlying57 rfl (by kernel_rfl) h
theorem storeBig {ops : Array Oper} {rest : List Oper} {o : Oper} {a : Act} {w : World} {Q : Exit → Act → World → Prop} (hgd : o.guard = none) (x y : Operand) (ho : o.op = .store 57 x y) (g : Nat) (f : Nat → Nat) (neg : Bool) (hx : a.eval x = .pointer (some ⟨g, 0, none⟩)) (hy : a.eval y = .agg (arr f neg))
    (old : Array Value) (hg : Blk w g old 57) (ho2 : old.size = 11) (h : wpList Try.prog ops Q rest (a.put o.dst undef) (w.setRow g (arr f neg))) : wpList Try.prog ops Q (o :: rest) a w :=
  wpList_store_row hgd 57 x y ho g (arr f neg) hx hy 57 old hg (by kernel_rfl) ho2 (arr_one _ _) h
theorem retBig {fn : Func} {p : Tmp} (h : fn.results = #[.cell p 57]) (tmps : Array Value) (w : World) (g : Nat) (f : Nat → Nat) (neg : Bool) (hp : tmps.getD p undef = .pointer (some ⟨g, 0, none⟩)) (hg : Blk w g (arr f neg) 57) : (results fn tmps).run Try.prog w = .ok (.agg (arr f neg)) w :=
  results_cell_row h tmps w g 57 (arr f neg) (0, 0) _ hp hg Try.underlying57 rfl (by kernel_rfl)
set_option maxRecDepth 100000 in
set_option maxHeartbeats 1000000 in
theorem plus_same (n m : Nat) (na : Bool) (w : World) :
    Calls Try.prog 27 #[bigM n na, bigM m na] w fun e w' => e = .returned (bigM (n + m) na) ∧ Below w.heap.size w w' := by
  unfold bigM
  have hn := arr_neg (limb n) na
  have hm := arr_neg (limb m) na
  go_enter Try.func27, Try.ntmps27
  have hbool : ((na == na) = true) := by simp
  obtain ⟨h1, h2, h3, hb⟩ := al3 w (.cells (arr (limb n) na) 57) (.cells (arr (limb m) na) 57) (.cells (arr (fun _ => 0) false) 57)
  rw [arr_zero] at h1 h2 h3 hb
  have H1 := hid h1; have H2 := hid h2; have H3 := hid h3; have HB := hid hb
  clear h1 h2 h3 hb
  go_wp2_with (first
    | (refine loadBig rfl (.tmp 2) rfl w.heap.size rfl (limb n) na H1.out ?_)
    | (refine loadBig rfl (.tmp 3) rfl (w.heap.size + 1) rfl (limb m) na H2.out ?_))
  refine (radd_any n m na na _).mono ?_
  rintro e W1 ⟨rfl, hb1⟩
  have K3 := hid (Blk.below (show Blk _ (w.heap.size + 1 + 1) _ 57 from H3.out) hb1 (Nat.le_refl _))
  have B1 := hid (HB.out.trans (hb1.mono HB.out.size))
  clear hb1 hn hm hbool H1 H2 H3 HB
  go_wp2_with (refine storeBig rfl (.tmp 4) (.tmp 13) rfl (w.heap.size + 1 + 1) (limb (n + m)) na rfl rfl _ (K3.out) rfl ?_)
  refine bodyPost_ret (retBig rfl _ _ (w.heap.size + 1 + 1) (limb (n + m)) na rfl (K3.out.setRow _)) rfl ⟨rfl, ?_⟩
  exact B1.out.trans (Below_setRow (Below.refl _ _) (by omega) _)
/-- What is left of two numbers of unlike signs. -/
def diffM (n m : Nat) (na nb : Bool) : Value := if n < m then bigM (m - n) nb else bigM (n - m) (if n = m then false else na)
set_option maxRecDepth 100000 in
set_option maxHeartbeats 2000000 in
theorem plus_less (n m : Nat) (na nb : Bool) (hne : na ≠ nb) (hn3 : n < lim) (hm3 : m < lim) (hlt : n < m) (w : World) :
    Calls Try.prog 27 #[bigM n na, bigM m nb] w fun e w' => e = .returned (bigM (m - n) nb) ∧ Below w.heap.size w w' := by
  unfold bigM
  have hn := arr_neg (limb n) na
  have hm := arr_neg (limb m) nb
  have hbool : ((na == nb) = false) := by simpa using hne
  have HN := hid hn3; have HM := hid hm3; have HL := hid hlt
  clear hn3 hm3 hne hlt
  go_enter Try.func27, Try.ntmps27
  obtain ⟨h1, h2, h3, hb⟩ := al3 w (.cells (arr (limb n) na) 57) (.cells (arr (limb m) nb) 57) (.cells (arr (fun _ => 0) false) 57)
  rw [arr_zero] at h1 h2 h3 hb
  have H1 := hid h1; have H2 := hid h2; have H3 := hid h3; have HB := hid hb
  clear h1 h2 h3 hb
  go_wp2_with (first
    | (refine loadBig rfl (.tmp 2) rfl w.heap.size rfl (limb n) na H1.out ?_)
    | (refine loadBig rfl (.tmp 3) rfl (w.heap.size + 1) rfl (limb m) nb H2.out ?_))
  refine (rless_any n m na nb HN.out HM.out _).mono ?_
  rintro e W1 ⟨rfl, hb1⟩
  rw [decide_eq_true HL.out]
  have K1 := hid (Blk.below (show Blk _ w.heap.size _ 57 from H1.out) hb1 (Nat.le_refl _))
  have K2 := hid (Blk.below (show Blk _ (w.heap.size + 1) _ 57 from H2.out) hb1 (Nat.le_refl _))
  have K3 := hid (Blk.below (show Blk _ (w.heap.size + 1 + 1) _ 57 from H3.out) hb1 (Nat.le_refl _))
  have B1 := hid (HB.out.trans (hb1.mono HB.out.size))
  clear hb1 hn hm hbool H1 H2 H3 HB
  have L2 := hid ((K2.out.otherRow (k := w.heap.size) (arr (limb m) nb) (by omega)).setRow (arr (limb n) na))
  have L1 := hid ((K1.out.setRow (arr (limb m) nb)).otherRow (k := w.heap.size + 1) (arr (limb n) na) (by omega))
  have L3 := hid ((K3.out.otherRow (k := w.heap.size) (arr (limb m) nb) (by omega)).otherRow (k := w.heap.size + 1) (arr (limb n) na) (by omega))
  have LB := hid (Below_setRow (Below_setRow B1.out (Nat.le_refl _) (arr (limb m) nb)) (show w.heap.size ≤ w.heap.size + 1 by omega) (arr (limb n) na))
  go_wp2_with (first
    | (refine loadBig rfl (.tmp 3) rfl (w.heap.size + 1) rfl (limb m) nb K2.out ?_)
    | (refine loadBig rfl (.tmp 2) rfl w.heap.size rfl (limb n) na K1.out ?_)
    | (refine storeBig rfl (.tmp 2) (.tmp 17) rfl w.heap.size (limb m) nb rfl rfl _ (K1.out) rfl ?_)
    | (refine storeBig rfl (.tmp 3) (.tmp 18) rfl (w.heap.size + 1) (limb n) na rfl rfl _ ((K2.out.otherRow _ (by omega))) rfl ?_)
    | (refine loadBig rfl (.tmp 2) rfl w.heap.size rfl (limb m) nb L1.out ?_)
    | (refine loadBig rfl (.tmp 3) rfl (w.heap.size + 1) rfl (limb n) na L2.out ?_))
  generalize (W1.setRow w.heap.size (arr (limb m) nb)).setRow (w.heap.size + 1) (arr (limb n) na) = W2 at *
  refine (rsub_any m n nb na (Nat.le_of_lt HL.out) _).mono ?_
  rintro e W3 ⟨rfl, hb3⟩
  clear K1 K2 K3 L1 L2
  have M3 := hid (L3.out.below hb3 (Nat.le_refl _))
  have MB := hid (LB.out.trans (hb3.mono LB.out.size))
  clear hb3 L3
  have hsz : ∀ k, k < w.heap.size + 1 + 1 + 1 → k < W3.heap.size ∨ k = w.heap.size + 1 + 1 := fun k hk => by have := M3.out.lt; omega
  have HS := hid hsz; clear hsz
  go_wp2_with (first
    | (refine storeBig rfl (.tmp 5) (.tmp 21) rfl W3.heap.size (limb (m - n)) nb rfl rfl _ (.new rfl) rfl ?_)
    | (refine loadBig rfl (.tmp 5) rfl W3.heap.size rfl (limb (m - n)) nb ((Blk.new rfl).setRow _) ?_))
  refine (rzero_any (m - n) nb (by have := HM.out; omega) _).mono ?_
  rintro e W4 ⟨rfl, hb4⟩
  rw [decide_eq_false (show ¬ (m - n = 0) by have := HL.out; omega)]
  have N5 := hid (Blk.below ((Blk.new (w := W3) rfl).setRow (arr (limb (m - n)) nb)) hb4 (Nat.le_refl _))
  have N3 := hid (Blk.below ((M3.out.alloc _).otherRow (arr (limb (m - n)) nb) (by have := M3.out.lt; omega)) hb4 (Nat.le_refl _))
  have NB := hid ((Below_setRow (MB.out.alloc MB.out.size _) (g := W3.heap.size) MB.out.size (arr (limb (m - n)) nb)).trans (hb4.mono (by have := MB.out.size; simp; omega)))
  clear hb4
  go_wp2_with (first
    | (refine loadBig rfl (.tmp 5) rfl W3.heap.size rfl (limb (m - n)) nb N5.out ?_)
    | (refine storeBig rfl (.tmp 4) (.tmp 25) rfl (w.heap.size + 1 + 1) (limb (m - n)) nb rfl rfl _ N3.out rfl ?_))
  refine bodyPost_ret (retBig rfl _ _ (w.heap.size + 1 + 1) (limb (m - n)) nb rfl (N3.out.setRow _)) rfl ⟨rfl, ?_⟩
  exact NB.out.trans (Below_setRow (Below.refl _ _) (by omega) _)
set_option maxRecDepth 100000 in
set_option maxHeartbeats 2000000 in
theorem plus_ge (n m : Nat) (na nb : Bool) (hne : na ≠ nb) (hn3 : n < lim) (hm3 : m < lim) (hlt : m ≤ n) (r : Bool) (hr0 : r = if n = m then false else na) (w : World) :
    Calls Try.prog 27 #[bigM n na, bigM m nb] w fun e w' => e = .returned (bigM (n - m) r) ∧ Below w.heap.size w w' := by
  unfold bigM
  have hn := arr_neg (limb n) na
  have hm := arr_neg (limb m) nb
  have hbool : ((na == nb) = false) := by simpa using hne
  have HN := hid hn3; have HM := hid hm3; have HL := hid hlt; have HR := hid hr0
  clear hn3 hm3 hne hlt hr0
  go_enter Try.func27, Try.ntmps27
  obtain ⟨h1, h2, h3, hb⟩ := al3 w (.cells (arr (limb n) na) 57) (.cells (arr (limb m) nb) 57) (.cells (arr (fun _ => 0) false) 57)
  rw [arr_zero] at h1 h2 h3 hb
  have H1 := hid h1; have H2 := hid h2; have H3 := hid h3; have HB := hid hb
  clear h1 h2 h3 hb
  go_wp2_with (first
    | (refine loadBig rfl (.tmp 2) rfl w.heap.size rfl (limb n) na H1.out ?_)
    | (refine loadBig rfl (.tmp 3) rfl (w.heap.size + 1) rfl (limb m) nb H2.out ?_))
  refine (rless_any n m na nb HN.out HM.out _).mono ?_
  rintro e W1 ⟨rfl, hb1⟩
  rw [decide_eq_false (show ¬ n < m by have := HL.out; omega)]
  have K1 := hid (Blk.below (show Blk _ w.heap.size _ 57 from H1.out) hb1 (Nat.le_refl _))
  have K2 := hid (Blk.below (show Blk _ (w.heap.size + 1) _ 57 from H2.out) hb1 (Nat.le_refl _))
  have K3 := hid (Blk.below (show Blk _ (w.heap.size + 1 + 1) _ 57 from H3.out) hb1 (Nat.le_refl _))
  have B1 := hid (HB.out.trans (hb1.mono HB.out.size))
  clear hb1 hn hm hbool H1 H2 H3 HB
  go_wp2_with (first
    | (refine loadBig rfl (.tmp 2) rfl w.heap.size rfl (limb n) na K1.out ?_)
    | (refine loadBig rfl (.tmp 3) rfl (w.heap.size + 1) rfl (limb m) nb K2.out ?_))
  refine (rsub_any n m na nb HL.out _).mono ?_
  rintro e W3 ⟨rfl, hb3⟩
  have M3 := hid (K3.out.below hb3 (Nat.le_refl _))
  have MB := hid (B1.out.trans (hb3.mono B1.out.size))
  clear hb3 K1 K2 K3
  go_wp2_with (first
    | (refine storeBig rfl (.tmp 5) (.tmp 21) rfl W3.heap.size (limb (n - m)) na rfl rfl _ (.new rfl) rfl ?_)
    | (refine loadBig rfl (.tmp 5) rfl W3.heap.size rfl (limb (n - m)) na ((Blk.new rfl).setRow _) ?_))
  refine (rzero_any (n - m) na (by have := HN.out; omega) _).mono ?_
  rintro e W4 ⟨rfl, hb4⟩
  have N5 := hid (Blk.below ((Blk.new (w := W3) rfl).setRow (arr (limb (n - m)) na)) hb4 (Nat.le_refl _))
  have N3 := hid (Blk.below ((M3.out.alloc _).otherRow (arr (limb (n - m)) na) (by have := M3.out.lt; omega)) hb4 (Nat.le_refl _))
  have NB := hid ((Below_setRow (MB.out.alloc MB.out.size _) (g := W3.heap.size) MB.out.size (arr (limb (n - m)) na)).trans (hb4.mono (by have := MB.out.size; simp; omega)))
  have hl5 := M3.out.lt
  have HL5 := hid hl5
  clear hb4 hl5
  by_cases heq : n = m
  · have hl := HL.out
    obtain rfl : r = false := by rw [HR.out, if_pos heq]
    rw [decide_eq_true (show n - m = 0 by omega)]
    clear heq hl
    have hc : W4.cell? ⟨W3.heap.size, 10, none⟩ = some (.bool na) := N5.out.cell 10
    have hf := N5.out.frozen 10
    have P5 := hid ((N5.out.setCell 10 (.bool false)))
    have P3 := hid (N3.out.other (k := W3.heap.size) (i := 10) (v := .bool false) (by have := HL5.out; omega))
    have PB := hid (NB.out.setCell (p := ⟨W3.heap.size, 10, none⟩) MB.out.size (.bool false))
    rw [arr_setNeg] at P5
    go_wp2_with (first
      | (refine loadBig rfl (.tmp 5) rfl W3.heap.size rfl (limb (n - m)) false P5.out ?_)
      | (refine storeBig rfl (.tmp 4) (.tmp 25) rfl (w.heap.size + 1 + 1) (limb (n - m)) false rfl rfl _ P3.out rfl ?_))
    refine bodyPost_ret (retBig rfl _ _ (w.heap.size + 1 + 1) (limb (n - m)) false rfl (P3.out.setRow _)) rfl ⟨rfl, ?_⟩
    exact PB.out.trans (Below_setRow (Below.refl _ _) (by omega) _)
  · have hl := HL.out
    obtain rfl : na = r := by rw [HR.out, if_neg heq]
    rw [decide_eq_false (show ¬ n - m = 0 by omega)]
    clear heq hl
    go_wp2_with (first
      | (refine loadBig rfl (.tmp 5) rfl W3.heap.size rfl (limb (n - m)) na N5.out ?_)
      | (refine storeBig rfl (.tmp 4) (.tmp 25) rfl (w.heap.size + 1 + 1) (limb (n - m)) na rfl rfl _ N3.out rfl ?_))
    refine bodyPost_ret (retBig rfl _ _ (w.heap.size + 1 + 1) (limb (n - m)) na rfl (N3.out.setRow _)) rfl ⟨rfl, ?_⟩
    exact NB.out.trans (Below_setRow (Below.refl _ _) (by omega) _)
theorem rPlus_any (x y : Int) (hx : 2 * x.natAbs < lim) (hy : 2 * y.natAbs < lim) (w : World) :
    Calls Try.prog 27 #[bigOf x, bigOf y] w fun e w' => e = .returned (bigOf (x + y)) ∧ Below w.heap.size w w' := by
  have p1 : x.natAbs < lim := by omega
  have p2 : y.natAbs < lim := by omega
  by_cases h : decide (x < 0) = decide (y < 0)
  · refine (show Calls Try.prog 27 #[bigM x.natAbs (decide (x < 0)), bigM y.natAbs (decide (y < 0))] w _ from ?_)
    rw [← h]
    refine (plus_same x.natAbs y.natAbs (decide (x < 0)) w).mono ?_
    rintro e w' ⟨rfl, hb⟩
    refine ⟨?_, hb⟩
    unfold bigOf
    have h2 : (x < 0) ↔ (y < 0) := by simpa using h
    rw [show (x + y).natAbs = x.natAbs + y.natAbs by omega, show decide (x + y < 0) = decide (x < 0) by rw [decide_eq_decide]; omega]
  · have h2 : ¬ ((x < 0) ↔ (y < 0)) := by simpa using h
    by_cases hlt : x.natAbs < y.natAbs
    · refine (plus_less x.natAbs y.natAbs _ _ h p1 p2 hlt w).mono ?_
      rintro e w' ⟨rfl, hb⟩
      refine ⟨?_, hb⟩
      unfold bigOf
      rw [show (x + y).natAbs = y.natAbs - x.natAbs by omega, show decide (x + y < 0) = decide (y < 0) by rw [decide_eq_decide]; omega]
    · refine (plus_ge x.natAbs y.natAbs _ _ h p1 p2 (by omega) _ rfl w).mono ?_
      rintro e w' ⟨rfl, hb⟩
      refine ⟨?_, hb⟩
      unfold bigOf
      rw [show (x + y).natAbs = x.natAbs - y.natAbs by omega]
      split
      · rw [show decide (x + y < 0) = false by rw [decide_eq_false_iff_not]; omega]
      · rw [show decide (x + y < 0) = decide (x < 0) by rw [decide_eq_decide]; omega]
end Go.Proofs.Ytbcafgglgjhckaa
end
section
/- 'Of', 'Minus', 'Int' of the reference, walked. -/
namespace Go.Proofs.Ytbcafgglgjhckaa
open Go.RowKit
theorem ofArr (u : Nat) (h : u < 18446744073709551616) (neg : Bool) : arr (limb u) neg = #[.int .u64 ((u % 4294967296 : Nat) : Int), .int .u64 ((u / 4294967296 : Nat) : Int), .int .u64 0, .int .u64 0, .int .u64 0, .int .u64 0, .int .u64 0, .int .u64 0, .int .u64 0, .int .u64 0, .bool neg] := by
  have hz : ∀ i, 2 ≤ i → limb u i = 0 := fun i hi => limb_small (Nat.lt_of_lt_of_le h (Nat.pow_le_pow_right (n := 2) (by omega) (show 64 ≤ 32 * i by omega)))
  have h0 : limb u 0 = u % 4294967296 := by unfold limb; simp
  have h1 : limb u 1 = u / 4294967296 := by unfold limb; rw [show 2 ^ (32 * 1) = 4294967296 from rfl]; omega
  unfold arr uV
  rw [h0, h1, hz 2 (by omega), hz 3 (by omega), hz 4 (by omega), hz 5 (by omega), hz 6 (by omega), hz 7 (by omega), hz 8 (by omega), hz 9 (by omega)]
  rfl
set_option maxRecDepth 100000 in
set_option maxHeartbeats 1000000 in
theorem rOf_any (n : Int) (w : World) (h1 : -9223372036854775808 ≤ n) (h2 : n ≤ 9223372036854775807) :
    Calls Try.prog 29 #[.int .i64 n] w fun e w' => e = .returned (bigOf n) ∧ Below w.heap.size w w' := by
  by_cases hn : 0 ≤ n
  · obtain ⟨u, rfl⟩ := Int.eq_ofNat_of_zero_le hn
    have ha := hid (ofArr u (by omega) false)
    have hm := u64_mask u (by omega)
    have hf : ¬ ((u : Int) < 0) := by omega
    go_enter Try.func29, Try.ntmps29
    go_wp2
    refine bodyPost_ret (retBig rfl _ _ w.heap.size (limb u) false rfl ?_) rfl ⟨?_, (Below_one _).alloc (by simp) _⟩
    · rw [ha.out]
      exact al_old (al_new rfl)
    · unfold bigOf bigM
      rw [show ((u : Int)).natAbs = u by omega, show decide ((u : Int) < 0) = false by simp]
  · obtain ⟨u, rfl⟩ : ∃ u : Nat, n = -(u : Int) := ⟨n.natAbs, by omega⟩
    have ha := hid (ofArr u (by omega) true)
    have hm := u64_mask u (by omega)
    have hw : IntKind.u64.wrap (-(u : Int)) = 18446744073709551616 - (u : Int) := by rw [IntKind.wrap_u64]; omega
    have hw2 : IntKind.u64.wrap (-(18446744073709551616 - (u : Int))) = (u : Int) := by rw [IntKind.wrap_u64]; omega
    have hlt : (-(u : Int) < 0) = True := by simp; omega
    go_enter Try.func29, Try.ntmps29
    go_wp2
    refine bodyPost_ret (retBig rfl _ _ w.heap.size (limb u) true rfl ?_) rfl ⟨?_, (Below_one _).alloc (by simp) _⟩
    · rw [ha.out]
      exact al_old (al_new rfl)
    · unfold bigOf bigM
      rw [show (-(u : Int)).natAbs = u by omega, show decide (-(u : Int) < 0) = true by simp; omega]
def fitB (z : Int) : Bool := decide (-9223372036854775808 ≤ z ∧ z ≤ 9223372036854775807)
/-- A number and whether it is an int. -/
def fitV (z : Int) : Value := .tuple #[.int .i64 (if fitB z = true then z else 0), .bool (fitB z)]
theorem fitV_yes {z : Int} (h1 : -9223372036854775808 ≤ z) (h2 : z ≤ 9223372036854775807) : fitV z = .tuple #[.int .i64 z, .bool true] := by
  have : fitB z = true := by unfold fitB; simp [h1, h2]
  unfold fitV; rw [this]; rfl
theorem fitV_no {z : Int} (h : z < -9223372036854775808 ∨ 9223372036854775807 < z) : fitV z = .tuple #[.int .i64 0, .bool false] := by
  have : fitB z = false := by unfold fitB; simp; omega
  unfold fitV; rw [this]; rfl
theorem high_zero {n : Nat} (hn : n < lim) (h : ∀ k, 2 ≤ k → k < 10 → limb n k = 0) : n < 18446744073709551616 := by
  have e : ∀ k, k ≤ 8 → n / 2 ^ (32 * (10 - k)) = 0 := by
    intro k
    induction k with
    | zero => intro _; rw [Nat.sub_zero]; exact lim_div hn
    | succ k ih =>
      intro hk
      rw [div_limb, show 10 - (k + 1) + 1 = 10 - k by omega, ih (by omega), h _ (by omega) (by omega)]
  have := e 8 (by omega)
  have h2 : n / 18446744073709551616 = 0 := this
  omega
theorem or_limbs (n : Nat) (h : n < 18446744073709551616) : bits BinOp.or IntKind.u64 ((limb n 0 : Nat) : Int) (((limb n 1 : Nat) : Int) * 4294967296) = (n : Int) := by
  have h0 : limb n 0 = n % 4294967296 := by unfold limb; simp
  have h1 : limb n 1 = n / 4294967296 := by unfold limb; rw [show 2 ^ (32 * 1) = 4294967296 from rfl]; omega
  rw [h0, h1, show ((n / 4294967296 : Nat) : Int) * 4294967296 = ((n / 4294967296 * 4294967296 : Nat) : Int) by omega, u64_or_nat _ _ (by omega) (by omega), Nat.or_comm, nat_join 32 _ _ (by omega) (by omega)]
  omega
set_option maxRecDepth 100000 in
set_option maxHeartbeats 1000000 in
theorem rInt_any (n : Nat) (neg : Bool) (hn : n < lim) (w : World) (v : Value) (hv : v = fitV (if neg = true then -(n : Int) else n)) :
    Calls Try.prog 26 #[bigM n neg] w fun e w' => e = .returned v ∧ Below w.heap.size w w' := by
  unfold bigM
  have HV := hid hv; have HN := hid hn
  clear hv hn
  go_enter Try.func26, Try.ntmps26
  go_wp2
  have hB := hid (Blk.new (w := w) (cs := arr (limb n) neg) (t := 57) rfl)
  have hb := hid (Below_one (w := w) (.cells (arr (limb n) neg) 57))
  generalize w.alloc (.cells (arr (limb n) neg) 57) = W at *
  go_loop [4,6,7,8,9,10,11,12,13,14] (fun t4 _ _ _ _ _ _ _ _ _ => ∃ i : Nat, 2 ≤ i ∧ i ≤ 10 ∧ t4 = .int .i64 i ∧ ∀ k, 2 ≤ k → k < i → limb n k = 0) (fun t4 _ _ _ _ _ _ _ _ _ => 10 - (intOf t4).toNat)
  case atStart => exact ⟨2, by omega, by omega, rfl, fun k _ _ => by omega⟩
  case round =>
    obtain ⟨i, hi2, hi, rfl, hz⟩ := hrel
    have HZ := hid hz; clear hz
    by_cases hlt : i < 10
    · have hc : W.cell? ⟨w.heap.size, i, none⟩ = some (.int .u64 (limb n i : Nat)) := by rw [hB.out.cell, arr_get _ _ i hlt]
      by_cases h0 : limb n i = 0
      · rw [h0] at hc
        have H0 := hid h0; clear h0
        go_wp2
        go_round
        case rel => exact ⟨i + 1, by omega, by omega, by go_num, fun k hk hk2 => by
          by_cases hki : k = i
          · rw [hki]; exact H0.out
          · exact HZ.out k hk (by omega)⟩
        case measure => simp [intOf]; omega
      · have hne : (((limb n i : Nat) : Int) != 0) = true := by simp; omega
        have hbig : 18446744073709551616 ≤ n := by
          refine Classical.byContradiction fun hc => h0 (limb_small (Nat.lt_of_lt_of_le (show n < 2 ^ 64 by omega) (Nat.pow_le_pow_right (by omega) (by omega))))
        obtain rfl : v = .tuple #[.int .i64 0, .bool false] := by rw [HV.out]; split <;> exact fitV_no (by omega)
        clear HV h0 hbig
        generalize limb n i = x at *
        go_wp2
        go_ret2
        exact ⟨rfl, hb.out⟩
    · obtain rfl : i = 10 := by omega
      have hsm := high_zero HN.out HZ.out
      have c0 : W.cell? ⟨w.heap.size, 0, none⟩ = some (.int .u64 (limb n 0 : Nat)) := by rw [hB.out.cell, arr_get _ _ 0 (by omega)]
      have c1 : W.cell? ⟨w.heap.size, 1, none⟩ = some (.int .u64 (limb n 1 : Nat)) := by rw [hB.out.cell, arr_get _ _ 1 (by omega)]
      have c2 : W.cell? ⟨w.heap.size, 10, none⟩ = some (.bool neg) := by rw [hB.out.cell, arr_neg]
      have l0 := limb_lt n 0
      have l1 := limb_lt n 1
      have hor := or_limbs n hsm
      have HSM := hid hsm; clear hsm
      generalize limb n 0 = x0 at *
      generalize limb n 1 = x1 at *
      cases neg with
      | true =>
        by_cases hbig : (9223372036854775808 : Int) < (n : Int)
        · obtain rfl : v = .tuple #[.int .i64 0, .bool false] := by rw [HV.out]; simp; exact fitV_no (by omega)
          go_wp2
          go_ret2
          exact ⟨rfl, hb.out⟩
        · obtain rfl : v = .tuple #[.int .i64 (-(n : Int)), .bool true] := by rw [HV.out]; simp; exact fitV_yes (by omega) (by omega)
          have hw : wrap64 (IntKind.u64.wrap (-(n : Int))) = -(n : Int) := by rw [IntKind.wrap_u64]; unfold wrap64; omega
          go_wp2
          go_ret2
          exact ⟨rfl, hb.out⟩
      | false =>
        by_cases hbig : (9223372036854775808 : Int) ≤ (n : Int)
        · obtain rfl : v = .tuple #[.int .i64 0, .bool false] := by rw [HV.out]; simp; exact fitV_no (by omega)
          go_wp2
          go_ret2
          exact ⟨rfl, hb.out⟩
        · obtain rfl : v = .tuple #[.int .i64 (n : Int), .bool true] := by rw [HV.out]; simp; exact fitV_yes (by omega) (by omega)
          go_wp2
          go_ret2
          exact ⟨rfl, hb.out⟩
theorem rIntZ_any (z : Int) (hz : z.natAbs < lim) (w : World) : Calls Try.prog 26 #[bigOf z] w fun e w' => e = .returned (fitV z) ∧ Below w.heap.size w w' :=
  rInt_any z.natAbs (decide (z < 0)) hz w (fitV z) (by
    by_cases h : z < 0
    · rw [decide_eq_true h, if_pos rfl, show -((z.natAbs : Nat) : Int) = z by omega]
    · rw [decide_eq_false h, if_neg (by simp), show ((z.natAbs : Nat) : Int) = z by omega])
/-- The same load behind a guard that lets it run. -/
theorem loadBigG {ops : Array Oper} {rest : List Oper} {o : Oper} {a : Act} {w : World} {Q : Exit → Act → World → Prop} (hgd : Region.wanted o (yielded ops a.tmps) = true) (x : Operand) (ho : o.op = .load 57 x) (g : Nat) (hx : a.eval x = .pointer (some ⟨g, 0, none⟩))
    (f : Nat → Nat) (neg : Bool) (hg : Blk w g (arr f neg) 57) (h : wpList Try.prog ops Q rest (a.put o.dst (.agg (arr f neg))) w) : wpList Try.prog ops Q (o :: rest) a w :=
  wpList_step fun _ hK => by
    rw [if_pos hgd]
    exact wp_load_row 57 x ho g hx 57 (arr f neg) (0, 0) _ hg Try.underlying57 rfl (by kernel_rfl) (hK _ _ h)
end Go.Proofs.Ytbcafgglgjhckaa
end
section
/- 'Add', 'Sub', 'Mul' of the code, walked. -/
namespace Go.Proofs.Ytbcafgglgjhckaa
open Go.RowKit
set_option maxRecDepth 100000 in
set_option maxHeartbeats 2000000 in
theorem aAdd_any (a b : Int) (ha1 : -9223372036854775808 ≤ a) (ha2 : a ≤ 9223372036854775807) (hb1 : -9223372036854775808 ≤ b) (hb2 : b ≤ 9223372036854775807) (w : World) (v : Value) (hv : v = fitV (a + b)) :
    Calls Try.prog 25 #[.int .i64 a, .int .i64 b] w fun e w' => e = .returned v ∧ w' = w := by
  have HV := hid hv; clear hv
  have HS := hid (show (wrap64 (a + b) = a + b ∨ wrap64 (a + b) = a + b - 18446744073709551616 ∨ wrap64 (a + b) = a + b + 18446744073709551616) ∧ -9223372036854775808 ≤ wrap64 (a + b) ∧ wrap64 (a + b) ≤ 9223372036854775807 by unfold wrap64; omega)
  by_cases hE : wrap64 (a + b) = a + b
  · have HE := hid hE
    obtain rfl : v = .tuple #[.int .i64 (a + b), .bool true] := by have := HS.out; rw [HV.out]; exact fitV_yes (by omega) (by omega)
    clear hE HV
    by_cases hA : a < 0 <;> by_cases hB : b < 0 <;> by_cases hS : wrap64 (a + b) < 0
    all_goals first
      | (exfalso; have h1 := HS.out; have h2 := HE.out; omega)
      | (go_enter Try.func25, Try.ntmps25
         go_wp2
         go_ret2
         refine ⟨?_, rfl⟩
         first
           | rfl
           | (show Ending.returned (.tuple #[.int .i64 (wrap64 (a + b)), .bool true]) = _
              rw [HE.out]))
  · have HE := hid hE
    obtain rfl : v = .tuple #[.int .i64 0, .bool false] := by have := HS.out; rw [HV.out]; exact fitV_no (by omega)
    clear hE HV
    by_cases hA : a < 0 <;> by_cases hB : b < 0 <;> by_cases hS : wrap64 (a + b) < 0
    all_goals first
      | (exfalso; have h1 := HS.out; have h2 := HE.out; omega)
      | (go_enter Try.func25, Try.ntmps25
         go_wp2
         go_ret2
         exact ⟨rfl, rfl⟩)
set_option maxHeartbeats 2000000 in
theorem asize_any (a : Int) (ha1 : -9223372036854775808 ≤ a) (ha2 : a ≤ 9223372036854775807) (w : World) :
    Calls Try.prog 38 #[.int .i64 a] w fun e w' => e = .returned (.int .u64 a.natAbs) ∧ w' = w := by
  by_cases hA : a < 0
  · have hw : IntKind.u64.wrap a = a + 18446744073709551616 := by rw [IntKind.wrap_u64]; omega
    have hw2 : IntKind.u64.wrap (-(a + 18446744073709551616)) = ((a.natAbs : Nat) : Int) := by rw [IntKind.wrap_u64]; omega
    go_enter Try.func38, Try.ntmps38
    go_wp2
    go_ret
    exact ⟨rfl, rfl⟩
  · have hw : IntKind.u64.wrap a = ((a.natAbs : Nat) : Int) := by rw [IntKind.wrap_u64]; omega
    go_enter Try.func38, Try.ntmps38
    go_wp2
    go_ret
    exact ⟨rfl, rfl⟩
theorem maskN (a : Nat) (ha : a < 18446744073709551616) : bits .and .u64 (a : Int) 4294967295 = ((a % 4294967296 : Nat) : Int) := u64_mask a ha
theorem divN (a : Nat) : (a : Int) / 4294967296 = ((a / 4294967296 : Nat) : Int) := by omega
theorem mulN (a b : Nat) : (a : Int) * (b : Int) = ((a * b : Nat) : Int) := (Int.natCast_mul a b).symm
theorem addN (a b : Nat) : (a : Int) + (b : Int) = ((a + b : Nat) : Int) := (Int.natCast_add a b).symm
theorem wrapN (a : Nat) (ha : a < 18446744073709551616) : IntKind.u64.wrap (a : Int) = (a : Int) := by rw [IntKind.wrap_u64]; omega
theorem wrapM (a : Nat) : IntKind.u64.wrap (a : Int) = ((a % 18446744073709551616 : Nat) : Int) := by rw [IntKind.wrap_u64]; omega
set_option maxHeartbeats 2000000 in
theorem Mul64_any (x y : Nat) (hx : x < 18446744073709551616) (hy : y < 18446744073709551616) (w : World) :
    Calls Try.prog 37 #[.int .u64 x, .int .u64 y] w fun e w' => e = .returned (.tuple #[.int .u64 ((x * y / 18446744073709551616 : Nat) : Int), .int .u64 ((x * y % 18446744073709551616 : Nat) : Int)]) ∧ w' = w := by
  obtain ⟨bd, bt, bw, hhi⟩ := Lib.mul64_hi x y hx hy
  have ba := Lib.half_mul_le (a := x / 4294967296) (b := y / 4294967296) (by omega) (by omega)
  have bb := Lib.half_mul_le (a := x / 4294967296) (b := y % 4294967296) (by omega) (by omega)
  have bc := Lib.half_mul_le (a := x % 4294967296) (b := y / 4294967296) (by omega) (by omega)
  have ba' : x / 4294967296 * (y / 4294967296) < 18446744073709551616 := by omega
  have bb' : x / 4294967296 * (y % 4294967296) < 18446744073709551616 := by omega
  have bc' : x % 4294967296 * (y / 4294967296) < 18446744073709551616 := by omega
  have bh1 : x / 4294967296 * (y / 4294967296) + (x / 4294967296 * (y % 4294967296) + x % 4294967296 * (y % 4294967296) / 4294967296) / 4294967296 < 18446744073709551616 := by omega
  have bh : x / 4294967296 * (y / 4294967296) + (x / 4294967296 * (y % 4294967296) + x % 4294967296 * (y % 4294967296) / 4294967296) / 4294967296 + ((x / 4294967296 * (y % 4294967296) + x % 4294967296 * (y % 4294967296) / 4294967296) % 4294967296 + x % 4294967296 * (y / 4294967296)) / 4294967296 < 18446744073709551616 := by omega
  go_enter Try.func37, Try.ntmps37
  go_wp2
  simp only [maskN x hx, maskN y hy, divN, mulN, addN, wrapN _ bd, wrapN _ bb', wrapN _ bt, maskN _ bt, wrapN _ bc', wrapN _ bw, wrapN _ ba', wrapN _ bh1, wrapN _ bh, wrapM (x * y)]
  rw [hhi]
  go_ret2
  exact ⟨rfl, rfl⟩
set_option maxRecDepth 100000 in
set_option maxHeartbeats 2000000 in
theorem aMul_any (a b : Int) (ha1 : -9223372036854775808 ≤ a) (ha2 : a ≤ 9223372036854775807) (hb1 : -9223372036854775808 ≤ b) (hb2 : b ≤ 9223372036854775807) (w : World) (v : Value) (hv : v = fitV (a * b)) :
    Calls Try.prog 31 #[.int .i64 a, .int .i64 b] w fun e w' => e = .returned v ∧ w' = w := by
  have HV := hid hv; clear hv
  have HA := hid (show a.natAbs < 18446744073709551616 by omega)
  have HB := hid (show b.natAbs < 18446744073709551616 by omega)
  have HN := hid (Int.natAbs_mul a b)
  have HS : Hid ((a < 0 ∧ 0 ≤ b → a * b ≤ 0) ∧ (0 ≤ a ∧ b < 0 → a * b ≤ 0) ∧ (a < 0 ∧ b < 0 → 0 ≤ a * b) ∧ (0 ≤ a ∧ 0 ≤ b → 0 ≤ a * b)) := by
    refine ⟨fun h => ?_, fun h => ?_, fun h => ?_, fun h => ?_⟩
    · exact Int.mul_nonpos_of_nonpos_of_nonneg (by omega) h.2
    · exact Int.mul_nonpos_of_nonneg_of_nonpos h.1 (by omega)
    · exact Int.mul_nonneg_of_nonpos_of_nonpos (by omega) (by omega)
    · exact Int.mul_nonneg h.1 h.2
  generalize a * b = p at *
  go_enter Try.func31, Try.ntmps31
  go_wp2_with fail
  refine (asize_any a ha1 ha2 w).mono ?_
  rintro e W ⟨rfl, rfl⟩
  go_wp2_with fail
  refine (asize_any b hb1 hb2 _).mono ?_
  rintro e W ⟨rfl, rfl⟩
  go_wp2_with fail
  refine (Mul64_any a.natAbs b.natAbs HA.out HB.out _).mono ?_
  rintro e W ⟨rfl, rfl⟩
  generalize a.natAbs * b.natAbs = m at *
  have mul0 : ((m / 18446744073709551616 : Nat) : Int) = 0 → IntKind.u64.wrap 0 = 0 := fun _ => rfl
  clear mul0
  obtain ⟨H, hH⟩ : ∃ H, H = m / 18446744073709551616 := ⟨_, rfl⟩
  obtain ⟨L, hL⟩ : ∃ L, L = m % 18446744073709551616 := ⟨_, rfl⟩
  rw [← hH, ← hL]
  have M := hid (show m = H * 18446744073709551616 + L ∧ L < 18446744073709551616 by omega)
  clear hH hL HA HB
  by_cases hz : H = 0
  · subst hz
    have T := hid (show p = (m : Int) ∨ p = -(m : Int) by have := HN.out; omega)
    have G := hid (show (a < 0 ∧ 0 ≤ b ∨ 0 ≤ a ∧ b < 0 → p = -(L : Int)) ∧ (¬ (a < 0 ∧ 0 ≤ b ∨ 0 ≤ a ∧ b < 0) → p = (L : Int)) by
      have h1 := HS.out; have h2 := T.out; have h3 := M.out
      obtain ⟨g1, g2, g3, g4⟩ := h1
      constructor <;> intro h <;> omega)
    have HL := hid (show (0 : Int) ≤ ((L : Nat) : Int) by omega)
    clear HN HS T
    obtain ⟨z, hz⟩ : ∃ z : Int, z = ((L : Nat) : Int) := ⟨_, rfl⟩
    rw [← hz] at HL G ⊢
    clear hz
    by_cases hb : (9223372036854775808 : Int) ≤ z
    · by_cases hm : a < 0 ∧ 0 ≤ b ∨ 0 ≤ a ∧ b < 0
      · have P := G.out.1 hm
        by_cases he : z = 9223372036854775808
        · obtain rfl : v = .tuple #[.int .i64 (-9223372036854775808), .bool true] := by rw [HV.out, P, he]; exact fitV_yes (by have := HL.out; omega) (by have := HL.out; omega)
          clear P HV G
          rcases hm with ⟨h1, h2⟩ | ⟨h1, h2⟩
          · have h2' : decide (b < 0) = false := by simp; omega
            go_wp2
            go_ret2
            exact ⟨rfl, rfl⟩
          · have h1' : decide (a < 0) = false := by simp; omega
            go_wp2
            go_ret2
            exact ⟨rfl, rfl⟩
        · obtain rfl : v = .tuple #[.int .i64 0, .bool false] := by rw [HV.out]; exact fitV_no (by omega)
          clear P HV G
          have he2 : (z == 9223372036854775808) = false := by simp; omega
          rcases hm with ⟨h1, h2⟩ | ⟨h1, h2⟩
          · have h2' : decide (b < 0) = false := by simp; omega
            go_wp2
            go_ret2
            exact ⟨rfl, rfl⟩
          · have h1' : decide (a < 0) = false := by simp; omega
            go_wp2
            go_ret2
            exact ⟨rfl, rfl⟩
      · have P := G.out.2 hm
        obtain rfl : v = .tuple #[.int .i64 0, .bool false] := by rw [HV.out]; exact fitV_no (by omega)
        have hm2 : (a < 0 ∧ b < 0) ∨ (¬ a < 0 ∧ ¬ b < 0) := by omega
        clear P HV G hm
        rcases hm2 with ⟨h1, h2⟩ | ⟨h1, h2⟩
        · go_wp2
          go_ret2
          exact ⟨rfl, rfl⟩
        · go_wp2
          go_ret2
          exact ⟨rfl, rfl⟩
    · have hc : wrap64 z = z := by have := HL.out; unfold wrap64; omega
      have HC := hid (show wrap64 (-z) = -z by have := HL.out; unfold wrap64; omega)
      have HD := hid hc
      clear hc
      have hge : decide (9223372036854775808 ≤ z) = false := by simp; omega
      by_cases hm : a < 0 ∧ 0 ≤ b ∨ 0 ≤ a ∧ b < 0
      · have P := G.out.1 hm
        obtain rfl : v = .tuple #[.int .i64 (-z), .bool true] := by rw [HV.out, P]; exact fitV_yes (by have := HL.out; omega) (by have := HL.out; omega)
        have he2 : (z == 9223372036854775808) = false := by simp; omega
        clear P HV G
        rcases hm with ⟨h1, h2⟩ | ⟨h1, h2⟩
        · have h2' : decide (b < 0) = false := by simp; omega
          go_wp2
          go_ret2
          refine ⟨?_, rfl⟩
          show Ending.returned (.tuple #[.int .i64 (wrap64 (-wrap64 z)), .bool true]) = _
          rw [HD.out, HC.out]
        · have h1' : decide (a < 0) = false := by simp; omega
          go_wp2
          go_ret2
          refine ⟨?_, rfl⟩
          show Ending.returned (.tuple #[.int .i64 (wrap64 (-wrap64 z)), .bool true]) = _
          rw [HD.out, HC.out]
      · have P := G.out.2 hm
        obtain rfl : v = .tuple #[.int .i64 z, .bool true] := by rw [HV.out, P]; exact fitV_yes (by have := HL.out; omega) (by have := HL.out; omega)
        have hm2 : (a < 0 ∧ b < 0) ∨ (¬ a < 0 ∧ ¬ b < 0) := by omega
        clear P HV G hm
        rcases hm2 with ⟨h1, h2⟩ | ⟨h1, h2⟩
        · go_wp2
          go_ret2
          refine ⟨?_, rfl⟩
          show Ending.returned (.tuple #[.int .i64 (wrap64 z), .bool true]) = _
          rw [HD.out]
        · go_wp2
          go_ret2
          refine ⟨?_, rfl⟩
          show Ending.returned (.tuple #[.int .i64 (wrap64 z), .bool true]) = _
          rw [HD.out]
  · obtain rfl : v = .tuple #[.int .i64 0, .bool false] := by
      have h2 := HN.out; have h3 := M.out
      rw [HV.out]; exact fitV_no (by omega)
    have hz2 : (((H : Nat) : Int) != 0) = true := by simp; omega
    clear HV HN HS M
    by_cases h1 : a < 0 <;> by_cases h2 : b < 0
    all_goals
      go_wp2
      go_ret2
      exact ⟨rfl, rfl⟩
end Go.Proofs.Ytbcafgglgjhckaa
end
section
/- Rows of ints. No program in sight. -/
namespace Go.Proofs.Ytbcafgglgjhckaa
open Go.RowKit Go.ChangeShapes
def iV (z : Int) : Value := .int .i64 z
def ints (zs : List Int) : Prop := ∀ z ∈ zs, -9223372036854775808 ≤ z ∧ z ≤ 9223372036854775807
theorem RowAt.int {w : World} {a : Option Addr} {zs : List Int} (h : RowAt w a (zs.map iV)) {k : Nat} (hk : k < zs.length) : ∃ b off, a = some ⟨b, off, none⟩ ∧ w.cell? ⟨b, off + k, none⟩ = some (.int .i64 zs[k]) := by
  rcases h with h | ⟨b, off, ha, h⟩
  · rw [List.map_eq_nil_iff] at h; subst h; simp at hk
  · exact ⟨b, off, ha, h k _ (by rw [List.getElem?_map, List.getElem?_eq_getElem hk]; rfl)⟩
theorem one_iV {zs : List Int} : ∀ u ∈ zs.map iV, u.oneCell' = true := by
  intro u hu
  obtain ⟨x, _, rfl⟩ := List.mem_map.1 hu
  rfl
theorem min_takeI (zs : List Int) (n : Nat) : min (zs.length : Int) (n : Int) = ((zs.take n).length : Int) := by
  rw [List.length_take]; omega
variable {P : Program} {W : World} {H : Type} {enc : TypeId × Value → H}
theorem row_of_ints {a : Addr} {zs : List Int} {len : Nat} (hl : len ≤ zs.length) (hc : ∀ i, i < zs.length → W.cell? (a.add i) = some (.int .i64 (zs.getD i 0))) : (zs.take len).length = len ∧ RowAt W (some a) ((zs.take len).map iV) := by
  refine ⟨by simp; omega, ?_⟩
  cases hz : zs with
  | nil => exact .inl (by simp)
  | cons z0 r =>
    rw [← hz]
    have h0 := hc 0 (by rw [hz]; simp)
    have ha := addr_plain h0
    refine .inr ⟨a.block, a.off, by rw [← ha], fun i v hv => ?_⟩
    rw [List.getElem?_map, List.getElem?_take] at hv
    split at hv
    · rcases hq : zs[i]? with _ | z
      · rw [hq] at hv; cases hv
      · rw [hq] at hv
        simp only [Option.map_some, Option.some.injEq] at hv
        have hi : i < zs.length := (List.getElem?_eq_some_iff.1 hq).1
        have h1 := hc i hi
        rw [ha, Addr.add_lit, List.getD_eq_getElem?_getD, hq] at h1
        rw [← hv]
        exact h1
    · cases hv
theorem open_i64s {t e : TypeId} {v : Value} {d : DataW H} {p : List MemPlace} (ht : P.underlying t = some (.slice e)) (he : P.underlying e = some (.int .i64)) (hc : P.cellsOf e = 1)
    (hv : ∃ a l c, v = .slice a l c) (h : DataW.Trod enc P W 0 (fun _ => true) true t v d p) : ∃ (zs : List Int) (a : Option Addr) (c : Nat), v = .slice a zs.length c ∧ zs.length ≤ c ∧ c ≤ maxLen ∧ RowAt W a (zs.map iV) ∧ ints zs := by
  obtain ⟨a, l, c, rfl⟩ := hv
  obtain ⟨fuel, hf⟩ := h
  rcases open_ints ht he hc hf with ⟨hcs, _⟩ | ⟨x, l', c', zs, hcs, _, hl, hm, hz, _, hcell, hwz⟩
  · simp [Value.cells] at hcs
    obtain ⟨rfl, rfl, rfl⟩ := hcs
    exact ⟨[], none, 0, rfl, Nat.le_refl _, by decide, .inl rfl, fun _ h => by cases h⟩
  · simp [Value.cells] at hcs
    obtain ⟨rfl, rfl, rfl⟩ := hcs
    simp only [if_true] at hz
    obtain ⟨h1, h2⟩ := row_of_ints (len := l) (by omega) hcell
    exact ⟨zs.take l, some x, c, by rw [h1], by rw [h1]; exact hl, hm, h2, fun z hz => i64_range (hwz z (List.mem_of_mem_take hz))⟩
end Go.Proofs.Ytbcafgglgjhckaa
end
section
/- Lists of ints: 'Sum' of the code and of the reference, 'Same'. -/
namespace Go.Proofs.Ytbcafgglgjhckaa
open Go.RowKit
theorem seI_load_row {P : Program} {ops : Array Oper} {wx : World} {Q : Act → Prop} {i : Nat} {r : List Nat} {a : Act} {o : Oper} (ho : ops[i]? = some o) (hgd : o.guard = none) (ty : TypeId) (x : Operand) (hop : o.op = .load ty x)
    (g : Nat) (hx : a.eval x = .pointer (some ⟨g, 0, none⟩)) (t : TypeId) (cs : Array Value) (fr : Nat × Nat) (d : TypeDesc) (hg : wx.heap[g]? = some (.cells cs t fr))
    (hu : P.underlying ty = some d) (hd : (match d with | .struct _ | .array _ _ => true | _ => false) = true) (hi : (P.info? ty).map (·.size) = some cs.size)
    (h : seI P ops wx Q r (a.put o.dst (.agg cs))) : seI P ops wx Q (i :: r) a := by
  refine seI_step ho fun K hK => ?_
  rw [if_pos (by simp [Region.wanted, hgd])]
  unfold Oper.still execOp
  simp only [hop, hx, Instr.loadAt, Instr.sureAddr, Sem.run_bind, Sem.run_pure, Result.andThen_ok, run_loadVar_row wx g t ty cs fr d hg hu hd hi]
  rw [Oper.stillUpon_value]
  exact hK _ h
theorem seI_loadBig {ops : Array Oper} {wx : World} {Q : Act → Prop} {i : Nat} {r : List Nat} {a : Act} {o : Oper} (ho : ops[i]? = some o) (hgd : o.guard = none) (x : Operand) (hop : o.op = .load 57 x) (g : Nat) (hx : a.eval x = .pointer (some ⟨g, 0, none⟩))
    (f : Nat → Nat) (neg : Bool) (hg : Blk wx g (arr f neg) 57) (h : seI Try.prog ops wx Q r (a.put o.dst (.agg (arr f neg)))) : seI Try.prog ops wx Q (i :: r) a :=
  seI_load_row ho hgd 57 x hop g hx 57 (arr f neg) (0, 0) _ hg Try.underlying57 rfl (by kernel_rfl) h
def total (zs : List Int) : Int := zs.foldl (· + ·) 0
theorem total_take_succ {zs : List Int} {k : Nat} (h : k < zs.length) : total (zs.take (k + 1)) = total (zs.take k) + zs[k] := by
  unfold total
  rw [List.take_succ_eq_append_getElem h, List.foldl_append]
  rfl
theorem total_bound {zs : List Int} (h : ints zs) : ∀ k, k ≤ zs.length → -9223372036854775808 * (k : Int) ≤ total (zs.take k) ∧ total (zs.take k) ≤ 9223372036854775808 * (k : Int) := by
  intro k
  induction k with
  | zero => intro _; simp [total]
  | succ k ih =>
    intro hk
    have := ih (by omega)
    have hz := h zs[k] (List.getElem_mem _)
    rw [total_take_succ (by omega)]
    omega
theorem add64 (x y : Int) (hx : 0 ≤ x) (hy : 0 ≤ y) (w : World) : (callFunc 36 #[.int .u64 x, .int .u64 y, .int .u64 0]).run Try.prog w =
    .ok (.value (.tuple #[.int .u64 ((x + y) % 18446744073709551616), .int .u64 ((x + y) / 18446744073709551616)])) w := by
  rw [run_callFunc_extern Try.func36 (by kernel_rfl) (by kernel_rfl) (by kernel_rfl) (e := add64Entry) (by kernel_rfl), run_add64 x y 0 hx hy (by omega) (by omega)]
  simp [Result.andThen]
def sLo (z : Int) : Int := z % 18446744073709551616
def sHi (z : Int) : Int := z / 18446744073709551616 % 18446744073709551616
theorem lo_step (s n : Int) : (sLo s + IntKind.u64.wrap n) % 18446744073709551616 = sLo (s + n) := by rw [IntKind.wrap_u64]; unfold sLo; omega
theorem hi_step (s n : Int) (h1 : -9223372036854775808 ≤ n) (h2 : n ≤ 9223372036854775807) :
    IntKind.u64.wrap (sHi s + IntKind.u64.wrap (IntKind.u64.wrap (n / 9223372036854775808) + (sLo s + IntKind.u64.wrap n) / 18446744073709551616)) = sHi (s + n) := by
  simp only [IntKind.wrap_u64]
  have e1 : n = n % 18446744073709551616 + 18446744073709551616 * (n / 9223372036854775808) := by omega
  have e2 : s = sLo s + 18446744073709551616 * (s / 18446744073709551616) := by unfold sLo; omega
  have e3 : (s + n) / 18446744073709551616 = s / 18446744073709551616 + n / 9223372036854775808 + (sLo s + n % 18446744073709551616) / 18446744073709551616 := by
    have e4 : s + n = (sLo s + n % 18446744073709551616) + 18446744073709551616 * (s / 18446744073709551616 + n / 9223372036854775808) := by omega
    generalize sLo s + n % 18446744073709551616 = z at *
    generalize s / 18446744073709551616 = q at *
    generalize n / 9223372036854775808 = r at *
    omega
  unfold sHi
  rw [e3]
  generalize (sLo s + n % 18446744073709551616) / 18446744073709551616 = z
  generalize s / 18446744073709551616 = q
  generalize n / 9223372036854775808 = r
  omega
set_option maxRecDepth 100000 in
set_option maxHeartbeats 2000000 in
theorem aSum_any (a : Option Addr) (cap : Nat) (zs : List Int) (w : World) (v : Value) (hv : v = fitV (total zs)) (hi : ints zs) (hl : zs.length ≤ 1000000) (hr : RowAt w a (zs.map iV)) :
    Calls Try.prog 30 #[.slice a zs.length cap] w fun e w' => e = .returned v ∧ w' = w := by
  have HR := hid hr; have HI := hid hi; have HV := hid hv; have HL := hid hl
  clear hr hi hv
  go_enter Try.func30, Try.ntmps30
  go_wp2
  go_loop [4,5,7,8,11,12,13,14,15,16,17,18,19,20,21,22,23,24,25,26,27,28,29] (fun t4 t5 _ _ t11 _ _ _ _ _ _ _ _ _ _ _ _ _ _ _ _ _ _ => ∃ k : Nat, k ≤ zs.length ∧ t11 = .int .i64 k ∧ t4 = .int .u64 (sHi (total (zs.take k))) ∧ t5 = .int .u64 (sLo (total (zs.take k)))) (fun _ _ _ _ t11 _ _ _ _ _ _ _ _ _ _ _ _ _ _ _ _ _ _ => zs.length - (intOf t11).toNat)
  case atStart => exact ⟨0, by omega, rfl, rfl, rfl⟩
  case round =>
    obtain ⟨k, hk, rfl, rfl, rfl⟩ := hrel
    by_cases hlt : k < zs.length
    · obtain ⟨b, off, rfl, hc⟩ := HR.out.int hlt
      have hz := HI.out zs[k] (List.getElem_mem _)
      have HT := hid (total_take_succ hlt)
      have hB := hid (total_bound HI.out k (by omega))
      have hB2 := hid (total_bound HI.out (k + 1) (by omega))
      generalize zs[k] = n at *
      obtain ⟨s, hs⟩ : ∃ s, s = total (zs.take k) := ⟨_, rfl⟩
      rw [← hs] at HT hB ⊢
      clear hs
      obtain ⟨x, hx⟩ : ∃ x, x = sLo s := ⟨_, rfl⟩
      obtain ⟨y, hy⟩ : ∃ y, y = sHi s := ⟨_, rfl⟩
      rw [← hx, ← hy]
      have x1 : 0 ≤ x := by rw [hx]; unfold sLo; omega
      obtain ⟨u, hu⟩ : ∃ u, u = IntKind.u64.wrap n := ⟨_, rfl⟩
      have hn := hu.symm
      have u1 : 0 ≤ u := by rw [hu, IntKind.wrap_u64]; omega
      have HX := hid hx; have HY := hid hy; have HU := hid hu; have HZ := hid hz
      clear hx hy hu hz
      have hadd := fun w => add64 x u x1 u1 w
      go_wp2_with (simp only [hadd])
      go_round
      case rel =>
        refine ⟨k + 1, by omega, by go_num, ?_, ?_⟩
        · rw [HT.out, ← hi_step s n HZ.out.1 HZ.out.2, HX.out, HY.out, HU.out]
        · rw [HT.out, ← lo_step, HX.out, HU.out]
      case measure => simp [intOf]; omega
    · obtain rfl : k = zs.length := by omega
      have hB := hid (total_bound HI.out zs.length (by omega))
      rw [List.take_length] at hB ⊢
      generalize total zs = s at *
      obtain ⟨x, hx⟩ : ∃ x, x = sLo s := ⟨_, rfl⟩
      obtain ⟨y, hy⟩ : ∃ y, y = sHi s := ⟨_, rfl⟩
      rw [← hx, ← hy]
      by_cases hf : fitB s = true
      · have hf2 : -9223372036854775808 ≤ s ∧ s ≤ 9223372036854775807 := by simpa [fitB] using hf
        obtain rfl : v = .tuple #[.int .i64 s, .bool true] := by rw [HV.out]; exact fitV_yes hf2.1 hf2.2
        have hw : wrap64 x = s := by rw [hx]; unfold sLo wrap64; omega
        have hy2 : (y != IntKind.u64.wrap (s / 9223372036854775808)) = false := by rw [hy, IntKind.wrap_u64]; unfold sHi; simp; omega
        clear HV hf hf2 hx hy hB
        have HW := hid hw
        go_wp2
        go_ret2
        exact ⟨rfl, rfl⟩
      · have hf2 : s < -9223372036854775808 ∨ 9223372036854775807 < s := by simp [fitB] at hf; omega
        obtain rfl : v = .tuple #[.int .i64 0, .bool false] := by rw [HV.out]; exact fitV_no hf2
        have hy2 : (y != IntKind.u64.wrap (wrap64 x / 9223372036854775808)) = true := by
          have := hB.out; rw [hy, hx, IntKind.wrap_u64]; unfold sHi sLo wrap64; simp; omega
        clear HV hf hf2 hx hy hB
        go_wp2
        go_ret2
        exact ⟨rfl, rfl⟩
end Go.Proofs.Ytbcafgglgjhckaa
end
section
/- The vector of a rhythm: two whole numbers; walked. -/
namespace Go.Proofs.Ytbcafgglgjhckaa
open Go.RowKit
def qV (q0 q1 q2 q3 : Int) : Value := .agg #[.int .i64 q0, .int .i64 q1, .int .i64 q2, .int .i64 q3]
def In50 (z : Int) : Prop := 0 ≤ z ∧ z ≤ 1125899906842624
instance (z : Int) : Decidable (In50 z) := by unfold In50; infer_instance
def QOk (q0 q1 q2 q3 : Int) : Prop := In50 q0 ∧ In50 q1 ∧ In50 q2 ∧ In50 q3
instance (q0 q1 q2 q3 : Int) : Decidable (QOk q0 q1 q2 q3) := by unfold QOk; infer_instance
theorem right_ret (q0 q1 q2 q3 : Int) (w : World) : Calls Try.prog 21 #[qV q0 q1 q2 q3] w (Ret (.bool (decide (QOk q0 q1 q2 q3))) w) := by
  refine ret_in (GRh.right_calls q0 q1 q2 q3 w (fun u w' => u = .bool (decide (QOk q0 q1 q2 q3)) ∧ Below w.heap.size w w') ?_)
  unfold GRh.right_vc
  refine newB (Bs.refl w) fun g w2 g0 sg n2 z2 b2 B2 => ⟨fun x wx => ∃ i : Nat, x = i ∧ i ≤ 4 ∧ (∀ j : Nat, j < i → In50 ([q0, q1, q2, q3].getD j 0)) ∧ Bs w wx, fun x _ => 4 - x.toNat, ⟨0, rfl, by omega, fun j hj => absurd hj (Nat.not_lt_zero _), B2⟩, ?_⟩
  rintro x wx ⟨i, rfl, hi, hj, B⟩
  refine br_dec (fun hlt => ?_) fun hge => ?_
  · have hi4 : i = 0 ∨ i = 1 ∨ i = 2 ∨ i = 3 := by omega
    have hz : ([.int .i64 q0, .int .i64 q1, .int .i64 q2, .int .i64 q3] : List Value)[i]? = some (.int .i64 ([q0, q1, q2, q3].getD i 0)) := by rcases hi4 with rfl | rfl | rfl | rfl <;> rfl
    have hbad : ¬ In50 ([q0, q1, q2, q3].getD i 0) → ¬ QOk q0 q1 q2 q3 := fun h k => h (by rcases hi4 with rfl | rfl | rfl | rfl; exact k.1; exact k.2.1; exact k.2.2.1; exact k.2.2.2)
    generalize hzz : [q0, q1, q2, q3].getD i 0 = z at *
    refine ⟨by omega, by omega, z, by rw [Int.toNat_natCast]; exact hz, br_dec (fun h1 => ⟨by rw [decide_eq_false (hbad fun k => by have := k.1; omega)], B⟩) fun h1 => br_dec (fun h2 => ⟨by rw [decide_eq_false (hbad fun k => by have := k.2; omega)], B⟩) fun h2 => ?_⟩
    rw [wr64 (by omega) (by omega)]
    refine ⟨⟨i + 1, by omega, by omega, fun j hj' => ?_, B⟩, by dsimp only; omega⟩
    by_cases h : j = i
    · subst h; rw [hzz]; exact ⟨by omega, by omega⟩
    · exact hj j (by omega)
  · obtain rfl : i = 4 := by omega
    exact ⟨by rw [decide_eq_true (show QOk q0 q1 q2 q3 from ⟨hj 0 (by omega), hj 1 (by omega), hj 2 (by omega), hj 3 (by omega)⟩)], B⟩
/-- The sum of the first quarters' parts. -/
def sumX (q0 q1 q2 q3 : Int) : Nat → Int
  | 0 => 0
  | i + 1 => sumX q0 q1 q2 q3 i + [q0, q1, q2, q3].getD i 0 * wayX i
def sumY (q0 q1 q2 q3 : Int) : Nat → Int
  | 0 => 0
  | i + 1 => sumY q0 q1 q2 q3 i + [q0, q1, q2, q3].getD i 0 * wayY i
def vecX (q0 q1 q2 q3 : Int) : Int := if QOk q0 q1 q2 q3 then q0 - q2 else 0
def vecY (q0 q1 q2 q3 : Int) : Int := if QOk q0 q1 q2 q3 then q1 - q3 else 0
theorem fl_zero : Fl 0 0 := by
  obtain ⟨q, hq⟩ : ∃ q : Nat, (-1074 : Int) = -(q : Int) := ⟨1074, rfl⟩
  exact ⟨false, 0, q, by rw [← hq]; exact read_zero false, by rw [Int.natAbs_zero, Nat.zero_mul], fun h => absurd rfl h⟩
theorem fl_one : Fl 4607182418800017408 1 := by
  have : Ieee.double.write (.number false 1 (-((0 : Nat) : Int))) = 4607182418800017408 := by decide +kernel
  rw [← this]
  exact write_fl (k := 0) (by decide) (by decide) fun _ => by decide
theorem vector_ret (q0 q1 q2 q3 : Int) (w : World) : Calls Try.prog 10 #[qV q0 q1 q2 q3] w fun e w' => (∃ re im, e = .returned (.complex .f64 re im) ∧ Cx re im (vecX q0 q1 q2 q3) (vecY q0 q1 q2 q3)) ∧ Below w.heap.size w w' := by
  refine (GRh.vector_calls q0 q1 q2 q3 w (fun u w' => (∃ re im, u = .complex .f64 re im ∧ Cx re im (vecX q0 q1 q2 q3) (vecY q0 q1 q2 q3)) ∧ Below w.heap.size w w') ?_).mono (by rintro e w' ⟨v, rfl, ⟨re, im, rfl, h⟩, h2⟩; exact ⟨⟨re, im, rfl, h⟩, h2⟩)
  unfold GRh.vector_vc
  refine newB (Bs.refl w) fun g w2 g0 sg n2 z2 b2 B2 => callB B2 (right_ret q0 q1 q2 q3 w2) fun w3 b3 B3 => ⟨_, rfl, br_not (br_dec (fun hok => ?_) fun hok => ⟨⟨0, 0, rfl, by unfold vecX vecY; rw [if_neg hok, if_neg hok]; exact ⟨fl_zero, fl_zero⟩⟩, B3⟩)⟩
  refine ⟨fun a b c d x wx => ∃ i : Nat, x = i ∧ i ≤ 4 ∧ Cx a b (sumX q0 q1 q2 q3 i) (sumY q0 q1 q2 q3 i) ∧ Cx c d (wayX i) (wayY i) ∧ Bs w wx, fun _ _ _ _ x _ => 4 - x.toNat, ⟨0, rfl, by omega, ⟨fl_zero, fl_zero⟩, ⟨fl_one, fl_zero⟩, B3⟩, ?_⟩
  rintro a b c d x wx ⟨i, rfl, hi, hs, hw, B⟩
  obtain ⟨⟨a0, b0⟩, ⟨a1, b1⟩, ⟨a2, b2'⟩, ⟨a3, b3'⟩⟩ := id hok
  refine br_dec (fun hlt => ?_) fun hge => ?_
  · have hi4 : i = 0 ∨ i = 1 ∨ i = 2 ∨ i = 3 := by omega
    have hz : ([.int .i64 q0, .int .i64 q1, .int .i64 q2, .int .i64 q3] : List Value)[i]? = some (.int .i64 ([q0, q1, q2, q3].getD i 0)) := by rcases hi4 with rfl | rfl | rfl | rfl <;> rfl
    have hq : In50 ([q0, q1, q2, q3].getD i 0) := by rcases hi4 with rfl | rfl | rfl | rfl; exact ⟨a0, b0⟩; exact ⟨a1, b1⟩; exact ⟨a2, b2'⟩; exact ⟨a3, b3'⟩
    have hb : (sumX q0 q1 q2 q3 i + [q0, q1, q2, q3].getD i 0 * wayX i).natAbs < 9007199254740992 ∧ (sumY q0 q1 q2 q3 i + [q0, q1, q2, q3].getD i 0 * wayY i).natAbs < 9007199254740992 := by
      rcases hi4 with rfl | rfl | rfl | rfl
      · show (0 + q0 * 1).natAbs < _ ∧ (0 + q0 * 0).natAbs < _; omega
      · show (0 + q0 * 1 + q1 * 0).natAbs < _ ∧ (0 + q0 * 0 + q1 * 1).natAbs < _; omega
      · show (0 + q0 * 1 + q1 * 0 + q2 * -1).natAbs < _ ∧ (0 + q0 * 0 + q1 * 1 + q2 * 0).natAbs < _; omega
      · show (0 + q0 * 1 + q1 * 0 + q2 * -1 + q3 * 0).natAbs < _ ∧ (0 + q0 * 0 + q1 * 1 + q2 * 0 + q3 * -1).natAbs < _; omega
    obtain ⟨h0, h1⟩ := hq
    obtain ⟨r1, i1, e1, c1⟩ := cx_part (i := i) (by omega) (n := [q0, q1, q2, q3].getD i 0) (by omega) ⟨fb_int (by omega), fl_zero⟩ hw
    obtain ⟨r2, i2, e2, c2⟩ := cx_add hs c1 hb.1 hb.2
    obtain ⟨r3, i3, e3, c3⟩ := cx_turn (i := i) (by omega) hw ⟨fl_zero, fl_one⟩
    refine ⟨by omega, by omega, _, by rw [Int.toNat_natCast]; exact hz, r1, i1, e1, r2, i2, e2, r3, i3, e3, ?_⟩
    rw [wr64 (by omega) (by omega)]
    exact ⟨⟨i + 1, by omega, by omega, c2, c3, B⟩, by dsimp only; omega⟩
  · obtain rfl : i = 4 := by omega
    refine ⟨⟨a, b, rfl, ?_⟩, B⟩
    have e1 : sumX q0 q1 q2 q3 4 = vecX q0 q1 q2 q3 := by
      unfold vecX; rw [if_pos hok]
      show 0 + q0 * 1 + q1 * 0 + q2 * -1 + q3 * 0 = _; omega
    have e2 : sumY q0 q1 q2 q3 4 = vecY q0 q1 q2 q3 := by
      unfold vecY; rw [if_pos hok]
      show 0 + q0 * 0 + q1 * 1 + q2 * 0 + q3 * -1 = _; omega
    rw [← e1, ← e2]
    exact hs
end Go.Proofs.Ytbcafgglgjhckaa
end
section
/- Where a rhythm points to; its total; walked. -/
namespace Go.Proofs.Ytbcafgglgjhckaa
open Go.RowKit
section
variable {x y : Nat} {a b : Int}
theorem ordF_lt (hx : Fl x a) (hy : Fl y b) : (ordF x y == some .lt) = decide (a < b) := by unfold ordF; rw [ord_cmp hx hy]; exact cmp_lt a b
theorem ordF_gt (hx : Fl x a) (hy : Fl y b) : (ordF x y == some .gt) = decide (a > b) := by unfold ordF; rw [ord_cmp hx hy]; exact cmp_gt a b
theorem ordF_eq (hx : Fl x a) (hy : Fl y b) : (ordF x y == some .eq) = decide (a = b) := by unfold ordF; rw [ord_cmp hx hy]; exact cmp_eq a b
theorem ordF_ge (hx : Fl x a) (hy : Fl y b) : (ordF x y == some .gt || ordF x y == some .eq) = decide (a ≥ b) := by
  rw [ordF_gt hx hy, ordF_eq hx hy, ← Bool.decide_or]
  exact decide_eq_decide.2 (by omega)
end
theorem size_ret (b : Nat) (z : Int) (h : Fl b z) (w : World) : Calls Try.prog 22 #[.float .f64 b] w fun e w' => (∃ r, e = .returned (.float .f64 r) ∧ Fl r (z.natAbs : Int)) ∧ Below w.heap.size w w' := by
  refine (GRh.rsize_calls b w (fun u w' => (∃ r, u = .float .f64 r ∧ Fl r (z.natAbs : Int)) ∧ Below w.heap.size w w') ?_).mono (by rintro e w' ⟨v, rfl, ⟨r, rfl, h⟩, h2⟩; exact ⟨⟨r, rfl, h⟩, h2⟩)
  unfold GRh.rsize_vc
  rw [ordF_lt h fl_zero]
  refine br_dec (fun hz => ⟨⟨_, rfl, ?_⟩, Bs.refl _⟩) fun hz => ⟨⟨_, rfl, ?_⟩, Bs.refl _⟩
  · have := fl_neg h
    rwa [show -z = (z.natAbs : Int) by omega] at this
  · rwa [show z = (z.natAbs : Int) by omega] at h
/-- Where a vector points to. -/
def peakP (x y : Int) : Int × Bool := if x = 0 ∧ y = 0 then (0, false) else if (x.natAbs : Int) ≥ (y.natAbs : Int) then (if x > 0 then (0, true) else (2, true)) else if y > 0 then (1, true) else (3, true)
theorem peak_ret (q0 q1 q2 q3 : Int) (w : World) : Calls Try.prog 12 #[qV q0 q1 q2 q3] w (Ret (.tuple #[.int .i64 (peakP (vecX q0 q1 q2 q3) (vecY q0 q1 q2 q3)).1, .bool (peakP (vecX q0 q1 q2 q3) (vecY q0 q1 q2 q3)).2]) w) := by
  refine ret_in (GRh.peak_calls q0 q1 q2 q3 w (fun u w' => u = .tuple #[.int .i64 (peakP (vecX q0 q1 q2 q3) (vecY q0 q1 q2 q3)).1, .bool (peakP (vecX q0 q1 q2 q3) (vecY q0 q1 q2 q3)).2] ∧ Below w.heap.size w w') ?_)
  unfold GRh.peak_vc
  refine newB (Bs.refl w) fun g w2 g0 sg n2 z2 b2 B2 => callQ B2 (vector_ret q0 q1 q2 q3 w2) ?_
  generalize vecX q0 q1 q2 q3 = x
  generalize vecY q0 q1 q2 q3 = y
  rintro e w3 ⟨re, im, rfl, hx, hy⟩ b3 B3
  refine ⟨_, _, rfl, callQ B3 (size_ret re x hx w3) ?_⟩
  rintro e w4 ⟨r1, rfl, h1⟩ b4 B4
  refine ⟨_, rfl, callQ B4 (size_ret im y hy w4) ?_⟩
  rintro e w5 ⟨r2, rfl, h2⟩ b5 B5
  refine ⟨_, rfl, ?_⟩
  rw [ordF_eq hx fl_zero, ordF_eq hy fl_zero, ordF_ge h1 h2, ordF_gt hx fl_zero, ordF_gt hy fl_zero, ← Bool.decide_and]
  unfold peakP
  refine br_dec (fun k0 => ?_) fun k0 => ?_
  · rw [if_pos k0]; exact ⟨rfl, B5⟩
  rw [if_neg k0]
  refine br_dec (fun k1 => ?_) fun k1 => ?_
  · rw [if_pos k1]
    refine br_dec (fun k2 => ?_) fun k2 => br_y k1 ?_
    · rw [if_pos k2]; exact ⟨rfl, B5⟩
    · rw [if_neg k2]; exact ⟨rfl, B5⟩
  · rw [if_neg k1]
    refine br_n k1 (br_dec (fun k2 => ?_) fun k2 => ?_)
    · rw [if_pos k2]; exact ⟨rfl, B5⟩
    · rw [if_neg k2]; exact ⟨rfl, B5⟩
end Go.Proofs.Ytbcafgglgjhckaa
end
section
/- A rhythm's total; the quarter of a time; walked. -/
namespace Go.Proofs.Ytbcafgglgjhckaa
open Go.RowKit
theorem total4 (a b c d : Int) : total [a, b, c, d] = a + b + c + d := by
  unfold total
  simp only [List.foldl_cons, List.foldl_nil]
  omega
def totQ (q0 q1 q2 q3 : Int) : Int := if QOk q0 q1 q2 q3 then q0 + q1 + q2 + q3 else 0
theorem total_ret (q0 q1 q2 q3 : Int) (w : World) : Calls Try.prog 17 #[qV q0 q1 q2 q3] w (Ret (.int .i64 (totQ q0 q1 q2 q3)) w) := by
  refine ret_in (GRh.total_calls q0 q1 q2 q3 w (fun u w' => u = .int .i64 (totQ q0 q1 q2 q3) ∧ Below w.heap.size w w') ?_)
  unfold GRh.total_vc totQ
  refine newB (Bs.refl w) fun g w2 g0 sg n2 z2 b2 B2 => ⟨q0, q1, q2, q3, cellsAt_row n2 (by simp), callB B2 (right_ret q0 q1 q2 q3 w2) fun w3 b3 B3 => ⟨_, rfl, br_not (br_dec (fun hok => ?_) fun hok => ⟨by rw [if_neg hok], B3⟩)⟩⟩
  rw [if_pos hok]
  obtain ⟨⟨a0, b0⟩, ⟨a1, b1⟩, ⟨a2, b2'⟩, ⟨a3, b3'⟩⟩ := hok
  have hr : RowAt w3 (some ⟨g, 0, none⟩) ([q0, q1, q2, q3].map iV) := (RowAt.ofWhole (vs := [q0, q1, q2, q3].map iV) n2).below b3 (Nat.le_refl _)
  refine callB B3 (ret_same (aSum_any (some ⟨g, 0, none⟩) 4 [q0, q1, q2, q3] w3 (.tuple #[.int .i64 (q0 + q1 + q2 + q3), .bool true]) (by rw [total4, fitV_yes (by omega) (by omega)]) (fun y hy => ?_) (by simp) hr)) fun w4 b4 B4 => ⟨_, _, rfl, rfl, B4⟩
  simp only [List.mem_cons, List.not_mem_nil, or_false] at hy
  rcases hy with rfl | rfl | rfl | rfl <;> omega
def quE (now day : Int) : Int := if now < 0 ∨ day < 4 ∨ day > 1073741824 then 1 else 0
def quV (now day : Int) : Int := if now < 0 ∨ day < 4 ∨ day > 1073741824 then 0 else now % day * 4 / day
theorem quV_range {now day : Int} (h : quE now day = 0) : 0 ≤ quV now day ∧ quV now day ≤ 3 := by
  unfold quE at h
  unfold quV
  split at h
  · cases h
  · rename_i k
    rw [if_neg k]
    have h1 := Int.emod_nonneg now (show day ≠ 0 by omega)
    have h2 := Int.emod_lt_of_pos now (show 0 < day by omega)
    refine ⟨Int.ediv_nonneg (by omega) (by omega), ?_⟩
    have : now % day * 4 / day < 4 := (Int.ediv_lt_iff_lt_mul (by omega)).2 (by omega)
    omega
theorem quarter_ret (now day : Int) (hn : now ≤ 9223372036854775807) (w : World) : Calls Try.prog 19 #[.int .i64 now, .int .i64 day] w (Ret (.tuple #[.int .i64 (quV now day), .int .i64 (quE now day)]) w) := by
  refine ret_in (GRh.quarter_calls now day w (fun u w' => u = .tuple #[.int .i64 (quV now day), .int .i64 (quE now day)] ∧ Below w.heap.size w w') ?_)
  unfold GRh.quarter_vc quV quE
  refine br_dec (fun h => ⟨by rw [if_pos (.inl h), if_pos (.inl h)], Bs.refl _⟩) fun h1 => br_dec (fun h => ⟨by rw [if_pos (.inr (.inl h)), if_pos (.inr (.inl h))], Bs.refl _⟩) fun h2 => br_dec (fun h => ⟨by rw [if_pos (.inr (.inr h)), if_pos (.inr (.inr h))], Bs.refl _⟩) fun h3 => ⟨by omega, by omega, ?_, Bs.refl _⟩
  have k : ¬ (now < 0 ∨ day < 4 ∨ day > 1073741824) := fun k => k.elim h1 fun k => k.elim h2 h3
  rw [if_neg k, if_neg k]
  have m1 := Int.emod_nonneg now (show day ≠ 0 by omega)
  have m2 := Int.emod_lt_of_pos now (show 0 < day by omega)
  have d1 : 0 ≤ now % day * 4 / day := Int.ediv_nonneg (by omega) (by omega)
  have d2 : now % day * 4 / day < 4 := (Int.ediv_lt_iff_lt_mul (by omega)).2 (by omega)
  rw [Int.tmod_eq_emod_of_nonneg (by omega), wr64 (z := now % day * 4) (by omega) (by omega), Int.tdiv_eq_ediv_of_nonneg (by omega), wr64 (by omega) (by omega)]
end Go.Proofs.Ytbcafgglgjhckaa
end
section
/- Usage more, in a quarter; walked. -/
namespace Go.Proofs.Ytbcafgglgjhckaa
open Go.RowKit
def qAt (q0 q1 q2 q3 k : Int) : Int := [q0, q1, q2, q3].getD k.toNat 0
def addQ (k : Int) (j : Nat) (n q : Int) : Int := if k = j then q + n else q
def addE (q0 q1 q2 q3 k n : Int) : Int := if ¬ QOk q0 q1 q2 q3 ∨ k < 0 ∨ k ≥ 4 ∨ n < 0 then 1 else if n > 1125899906842624 - qAt q0 q1 q2 q3 k then 6 else 0
def addV (q0 q1 q2 q3 k n : Int) : Value := if addE q0 q1 q2 q3 k n = 0 then qV (addQ k 0 n q0) (addQ k 1 n q1) (addQ k 2 n q2) (addQ k 3 n q3) else qV 0 0 0 0
theorem add_ret (q0 q1 q2 q3 k n : Int) (hn9 : n ≤ 9223372036854775807) (w : World) : Calls Try.prog 20 #[qV q0 q1 q2 q3, .int .i64 k, .int .i64 n] w (Ret (.tuple #[addV q0 q1 q2 q3 k n, .int .i64 (addE q0 q1 q2 q3 k n)]) w) := by
  refine ret_in (GRh.radd_calls q0 q1 q2 q3 k n w (fun u w' => u = .tuple #[addV q0 q1 q2 q3 k n, .int .i64 (addE q0 q1 q2 q3 k n)] ∧ Below w.heap.size w w') ?_)
  unfold GRh.radd_vc
  have bad : ∀ z, z ≠ 0 → addE q0 q1 q2 q3 k n = z → ∀ {g : Nat} {wx : World}, Bs w wx → w.heap.size ≤ g → ∀ wy, BoxSt g wx wy → Value.tuple #[.agg #[.int .i64 0, .int .i64 0, .int .i64 0, .int .i64 0], .int .i64 z] = .tuple #[addV q0 q1 q2 q3 k n, .int .i64 (addE q0 q1 q2 q3 k n)] ∧ Below w.heap.size w wy := fun z hz he g wx B hg => boxB B hg fun wy hy By _ => by
    unfold addV
    rw [he, if_neg hz]
    exact ⟨rfl, By⟩
  refine newB (Bs.refl w) fun g w2 g0 sg n2 z2 b2 B2 => newB B2 fun g2 w3 g20 sg2 n3 z3 b3 B3 => ?_
  have hB : Bk w3 g #[.int .i64 q0, .int .i64 q1, .int .i64 q2, .int .i64 q3] 24 := Bk.keep (show Bk w2 g _ 24 from n2) (b3.block g (by omega))
  refine ⟨q0, q1, q2, q3, cellsAt_row hB (by simp), callB B3 (right_ret q0 q1 q2 q3 w3) fun w4 b4 B4 => ⟨_, rfl, br_not (br_dec (fun hok => ?_) fun hok => bad 1 (by decide) (by unfold addE; rw [if_pos (.inl hok)]) B4 g20)⟩⟩
  refine br_dec (fun h => bad 1 (by decide) (by unfold addE; rw [if_pos (.inr (.inl h))]) B4 g20) fun h1 => br_dec (fun h => bad 1 (by decide) (by unfold addE; rw [if_pos (.inr (.inr (.inl h)))]) B4 g20) fun h2 => br_dec (fun h => bad 1 (by decide) (by unfold addE; rw [if_pos (.inr (.inr (.inr h)))]) B4 g20) fun h3 => ?_
  have hgood : ¬ (¬ QOk q0 q1 q2 q3 ∨ k < 0 ∨ k ≥ 4 ∨ n < 0) := fun q => q.elim (fun q => q hok) fun q => q.elim h1 fun q => q.elim h2 h3
  have hB4 := hB.keep (b4.block g (by omega))
  rw [show 0 + k.toNat * 1 = k.toNat by omega]
  have hz : (#[.int .i64 q0, .int .i64 q1, .int .i64 q2, .int .i64 q3] : Array Value)[k.toNat]? = some (.int .i64 (qAt q0 q1 q2 q3 k)) ∧ In50 (qAt q0 q1 q2 q3 k) ∧ (#[.int .i64 q0, .int .i64 q1, .int .i64 q2, .int .i64 q3] : Array Value).setIfInBounds k.toNat (.int .i64 (qAt q0 q1 q2 q3 k + n)) = #[.int .i64 (addQ k 0 n q0), .int .i64 (addQ k 1 n q1), .int .i64 (addQ k 2 n q2), .int .i64 (addQ k 3 n q3)] := by
    obtain ⟨a0, a1, a2, a3⟩ := hok
    have : k = 0 ∨ k = 1 ∨ k = 2 ∨ k = 3 := by omega
    rcases this with rfl | rfl | rfl | rfl
    · exact ⟨rfl, a0, rfl⟩
    · exact ⟨rfl, a1, rfl⟩
    · exact ⟨rfl, a2, rfl⟩
    · exact ⟨rfl, a3, rfl⟩
  obtain ⟨hz, ⟨k0, k1⟩, hset⟩ := hz
  have hc : w4.cell? ⟨g, k.toNat, none⟩ = some (.int .i64 (qAt q0 q1 q2 q3 k)) := by rw [hB4.cell]; exact hz
  refine ⟨by omega, by omega, qAt q0 q1 q2 q3 k, hc, ?_⟩
  rw [wr64 (by omega) (by omega)]
  refine br_dec (fun h => bad 6 (by decide) (by unfold addE; rw [if_neg hgood, if_pos h]) B4 g20) fun h4 => ⟨by omega, by omega, _, hc, by omega, by omega, ?_⟩
  rw [wr64 (by omega) (by omega)]
  have he : addE q0 q1 q2 q3 k n = 0 := by unfold addE; rw [if_neg hgood, if_neg h4]
  refine stO_bk hB4 (by simp; omega) (fun x hx => by rw [List.mem_singleton] at hx; omega) fun w10 B10 f10 z10 => ?_
  rw [hset] at B10
  have C10 : Bs w w10 := B4.trans (f10.below (fun k hk => by rw [List.mem_singleton] at hk; omega) B4.size)
  refine ⟨addQ k 0 n q0, addQ k 1 n q1, addQ k 2 n q2, addQ k 3 n q3, cellsAt_row B10 (by simp), boxB C10 g20 fun w11 h11 B11 _ => ⟨?_, B11⟩⟩
  unfold addV
  rw [he, if_pos rfl]
  rfl
end Go.Proofs.Ytbcafgglgjhckaa
end
section
/- How far a rhythm points; walked. -/
namespace Go.Proofs.Ytbcafgglgjhckaa
open Go.RowKit
def strV (x y : Int) : Value := if fitB (x * x) = true ∧ fitB (y * y) = true then fitV (x * x + y * y) else .tuple #[.int .i64 0, .bool false]
theorem square_ret (b : Nat) (z : Int) (h : Fl b z) (hz : -9223372036854775808 ≤ z ∧ z ≤ 9223372036854775807) (w : World) : Calls Try.prog 24 #[.float .f64 b] w (Ret (fitV (z * z)) w) := by
  refine ret_in (GRh.square_calls b w (fun u w' => u = fitV (z * z) ∧ Below w.heap.size w w') ?_)
  unfold GRh.square_vc
  have hi := fb_toInt h hz
  exact ⟨z, hi, z, hi, callB (Bs.refl w) (ret_same (aMul_any z z hz.1 hz.2 hz.1 hz.2 w _ rfl)) fun w2 b2 B2 => ⟨_, _, rfl, rfl, B2⟩⟩
def strQ (q0 q1 q2 q3 : Int) : Value := if QOk q0 q1 q2 q3 then strV (vecX q0 q1 q2 q3) (vecY q0 q1 q2 q3) else .tuple #[.int .i64 0, .bool false]
theorem fitB_range {z : Int} (h : fitB z = true) : -9223372036854775808 ≤ z ∧ z ≤ 9223372036854775807 := by
  unfold fitB at h
  simpa using h
theorem vec_range (q0 q1 q2 q3 : Int) : (-1125899906842624 ≤ vecX q0 q1 q2 q3 ∧ vecX q0 q1 q2 q3 ≤ 1125899906842624) ∧ -1125899906842624 ≤ vecY q0 q1 q2 q3 ∧ vecY q0 q1 q2 q3 ≤ 1125899906842624 := by
  unfold vecX vecY
  by_cases h : QOk q0 q1 q2 q3
  · rw [if_pos h, if_pos h]
    obtain ⟨⟨a, b⟩, ⟨c, d⟩, ⟨e, f⟩, g, i⟩ := h
    omega
  · rw [if_neg h, if_neg h]; omega
theorem strength_ret (q0 q1 q2 q3 : Int) (w : World) : Calls Try.prog 14 #[qV q0 q1 q2 q3] w (Ret (strQ q0 q1 q2 q3) w) := by
  refine ret_in (GRh.strength_calls q0 q1 q2 q3 w (fun u w' => u = strQ q0 q1 q2 q3 ∧ Below w.heap.size w w') ?_)
  unfold GRh.strength_vc strQ
  refine newB (Bs.refl w) fun g w2 g0 sg n2 z2 b2 B2 => callB B2 (right_ret q0 q1 q2 q3 w2) fun w3 b3 B3 => ⟨_, rfl, br_not (br_dec (fun hok => ?_) fun hok => ⟨by rw [if_neg hok], B3⟩)⟩
  rw [if_pos hok]
  refine callQ B3 (vector_ret q0 q1 q2 q3 w3) ?_
  obtain ⟨r1, r2⟩ := vec_range q0 q1 q2 q3
  generalize vecX q0 q1 q2 q3 = x at *
  generalize vecY q0 q1 q2 q3 = y at *
  rintro e w4 ⟨re, im, rfl, hx, hy⟩ b4 B4
  refine ⟨_, _, rfl, callB B4 (square_ret re x hx (by omega) w4) fun w5 b5 B5 => ⟨_, _, rfl, callB B5 (square_ret im y hy (by omega) w5) fun w6 b6 B6 => ⟨_, _, rfl, ?_⟩⟩⟩
  unfold strV
  cases h1 : fitB (x * x) with
  | false => exact br_t rfl ⟨by rw [if_neg (fun k => by cases k.1)], B6⟩
  | true =>
    cases h2 : fitB (y * y) with
    | false => exact br_f rfl (br_t rfl ⟨by rw [if_neg (fun k => by cases k.2)], B6⟩)
    | true =>
      have f1 := fitB_range h1
      have f2 := fitB_range h2
      refine br_f rfl (br_f rfl ?_)
      simp only [if_true]
      exact callB B6 (ret_same (aAdd_any (x * x) (y * y) f1.1 f1.2 f2.1 f2.2 w6 _ rfl)) fun w7 b7 B7 => ⟨_, _, rfl, by simp [fitV], B7⟩
end Go.Proofs.Ytbcafgglgjhckaa
end
section
/- What is tried of rhythms once; walked. -/
namespace Go.Proofs.Ytbcafgglgjhckaa
open Go.RowKit
theorem fl_three : Fl 4613937818241073152 3 := by
  have : Ieee.double.write (.number false 3 (-((0 : Nat) : Int))) = 4613937818241073152 := by decide +kernel
  rw [← this]
  exact write_fl (k := 0) (by decide) (by decide) fun _ => by decide
theorem beat_facts : vecX 0 5 0 2 = 0 ∧ vecY 0 5 0 2 = 3 ∧ peakP 0 3 = (1, true) ∧ strQ 0 5 0 2 = .tuple #[.int .i64 9, .bool true] := by
  have hq : QOk 0 5 0 2 := by decide
  refine ⟨by unfold vecX; rw [if_pos hq]; rfl, by unfold vecY; rw [if_pos hq]; rfl, by decide, ?_⟩
  unfold strQ vecX vecY
  rw [if_pos hq, if_pos hq, if_pos hq]
  rfl
theorem beats_ret (w : World) : Calls Try.prog 9 #[] w (Ret (.bool true) w) := by
  refine ret_in (GRh.beats_calls w (fun u w' => u = .bool true ∧ Below w.heap.size w w') ?_)
  unfold GRh.beats_vc
  obtain ⟨f1, f2, f3, f4⟩ := beat_facts
  have hp := fun w => peak_ret 0 5 0 2 w
  have hs := fun w => strength_ret 0 5 0 2 w
  have hv := fun w => vector_ret 0 5 0 2 w
  rw [f1, f2, f3] at hp
  rw [f4] at hs
  rw [f1, f2] at hv
  refine newB (Bs.refl w) fun g w2 g0 sg n2 z2 b2 B2 => boxB B2 g0 fun w3 h3 B3 _ => callB B3 (hp w3) fun w4 b4 B4 => ⟨_, _, rfl, callB B4 (hs w4) fun w5 b5 B5 => ⟨_, _, rfl, callQ B5 (hv w5) ?_⟩⟩
  rintro e w6 ⟨re, im, rfl, hx, hy⟩ b6 B6
  refine ⟨_, _, rfl, ?_⟩
  rw [ordF_eq hx fl_zero, ordF_eq hy fl_three]
  exact br_t (by decide) (br_t rfl (br_y rfl (br_t rfl ⟨rfl, B6⟩)))
end Go.Proofs.Ytbcafgglgjhckaa
end
section
/- 'Times' of the reference, walked. -/
namespace Go.Proofs.Ytbcafgglgjhckaa
open Go.RowKit
/-- A fact put by so that no search comes upon it. -/
structure Box (p : Prop) : Prop where
  out : p
theorem lim_mul {n m k : Nat} (hn : n < 2 ^ k) (hm : m < 2 ^ k) : n * m < 2 ^ (k + k) := by rw [Nat.pow_add]; exact Nat.mul_lt_mul'' hn hm
/-! One part set to another value. -/
theorem limb_div {n p j : Nat} (h : p ≤ j) : limb n j = limb (n / 2 ^ (32 * p)) (j - p) := by
  unfold limb
  rw [Nat.div_div_eq_div_mul, ← Nat.pow_add, ← Nat.mul_add, show p + (j - p) = j by omega]
theorem limb_mod {n p j : Nat} (h : j < p) : limb (n % 2 ^ (32 * p)) j = limb n j := by
  unfold limb
  rw [show 2 ^ (32 * p) = 2 ^ (32 * j) * (4294967296 * 2 ^ (32 * (p - j - 1))) by
    rw [← Nat.mul_assoc, ← pow_succ32, ← Nat.pow_add, ← Nat.mul_add, show j + 1 + (p - j - 1) = p by omega]]
  rw [Nat.mod_mul_right_div_self, Nat.mod_mul_right_mod]
/-- The number with another part. -/
def put (n p v : Nat) : Nat := (n / 2 ^ (32 * (p + 1)) * 4294967296 + v) * 2 ^ (32 * p) + n % 2 ^ (32 * p)
theorem put_div {n p v : Nat} : put n p v / 2 ^ (32 * p) = n / 2 ^ (32 * (p + 1)) * 4294967296 + v := by
  have hp : 0 < 2 ^ (32 * p) := Nat.pow_pos (by omega)
  unfold put
  rw [Nat.add_comm, Nat.add_mul_div_right _ _ hp, Nat.div_eq_of_lt (Nat.mod_lt _ hp), Nat.zero_add]
theorem put_mod {n p v : Nat} : put n p v % 2 ^ (32 * p) = n % 2 ^ (32 * p) := by
  unfold put
  rw [Nat.add_comm, Nat.add_mul_mod_self_right, Nat.mod_mod]
theorem limb_put {n p v : Nat} (hv : v < 4294967296) (j : Nat) : limb (put n p v) j = if j = p then v else limb n j := by
  by_cases h : j = p
  · subst h
    rw [if_pos rfl]
    unfold limb
    rw [put_div]
    omega
  · rw [if_neg h]
    by_cases hl : j < p
    · rw [← limb_mod hl, put_mod, limb_mod hl]
    · rw [limb_div (show p + 1 ≤ j by omega), limb_div (n := n) (show p + 1 ≤ j by omega)]
      congr 1
      rw [pow_succ32, ← Nat.div_div_eq_div_mul, put_div, ← Nat.div_div_eq_div_mul]
      have : (n / 2 ^ (32 * (p + 1)) * 4294967296 + v) / 4294967296 = n / 2 ^ (32 * (p + 1)) := by omega
      rw [this, pow_succ32, Nat.div_div_eq_div_mul]
theorem put_eq (n p v : Nat) : put n p v + limb n p * 2 ^ (32 * p) = n + v * 2 ^ (32 * p) := by
  have h1 := Nat.div_add_mod n (2 ^ (32 * p))
  have h2 := div_limb n p
  unfold put
  rw [Nat.add_mul]
  have h3 : n = (n / 2 ^ (32 * (p + 1)) * 4294967296) * 2 ^ (32 * p) + limb n p * 2 ^ (32 * p) + n % 2 ^ (32 * p) := by
    conv => lhs; rw [← h1, h2, Nat.mul_add, Nat.mul_comm, Nat.mul_comm 4294967296, Nat.mul_comm (2 ^ (32 * p)) (limb n p)]
  omega
/-- What is in the sum behind i rows and k parts of the next one. -/
def part (n m i k : Nat) : Nat := n % 2 ^ (32 * i) * m + limb n i * 2 ^ (32 * i) * (m % 2 ^ (32 * k))
theorem part_zero (n m i : Nat) : part n m i 0 = n % 2 ^ (32 * i) * m := by unfold part; simp [Nat.mod_one]
theorem part_next (n m i k : Nat) : part n m i (k + 1) = part n m i k + limb n i * limb m k * 2 ^ (32 * (i + k)) := by
  unfold part
  rw [mod_limb m k, Nat.mul_add, Nat.mul_add 32 i k, Nat.pow_add 2 (32 * i)]
  have : limb n i * 2 ^ (32 * i) * (2 ^ (32 * k) * limb m k) = limb n i * limb m k * (2 ^ (32 * i) * 2 ^ (32 * k)) := by
    generalize 2 ^ (32 * i) = a; generalize 2 ^ (32 * k) = b
    rw [Nat.mul_assoc, Nat.mul_assoc]
    congr 1
    rw [← Nat.mul_assoc a b, Nat.mul_comm (a * b)]
  omega
theorem part_row (n m i : Nat) (hm : m < 2 ^ (32 * 5)) : part n m i 5 = n % 2 ^ (32 * (i + 1)) * m := by
  unfold part
  rw [Nat.mod_eq_of_lt hm, mod_limb n i, Nat.add_mul, Nat.mul_comm (limb n i)]
theorem times_step {n m i k C over x : Nat} (hI : C + over * 2 ^ (32 * (i + k)) = part n m i k) (hx : x = limb C (i + k)) :
    put C (i + k) ((x + limb n i * limb m k + over) % 4294967296) + (x + limb n i * limb m k + over) / 4294967296 * 2 ^ (32 * (i + (k + 1))) = part n m i (k + 1) := by
  rw [part_next, ← hI]
  have h := put_eq C (i + k) ((x + limb n i * limb m k + over) % 4294967296)
  rw [← hx] at h
  rw [show i + (k + 1) = i + k + 1 by omega, pow_succ32]
  generalize 2 ^ (32 * (i + k)) = B at *
  generalize hq : limb n i * limb m k = q at *
  have e1 : (x + q + over) / 4294967296 * (B * 4294967296) + (x + q + over) % 4294967296 * B = (x + q + over) * B := by
    rw [Nat.mul_comm B, ← Nat.mul_assoc, ← Nat.add_mul]
    congr 1
    omega
  rw [Nat.add_mul, Nat.add_mul] at e1
  omega
theorem row_lt {n m i : Nat} (hm : m < 2 ^ (32 * 5)) (j : Nat) (hj : i + 5 ≤ j) : limb (n % 2 ^ (32 * i) * m) j = 0 := by
  refine limb_small ?_
  have h1 : n % 2 ^ (32 * i) < 2 ^ (32 * i) := Nat.mod_lt _ (Nat.pow_pos (by omega))
  have h2 : n % 2 ^ (32 * i) * m < 2 ^ (32 * i) * 2 ^ (32 * 5) := Nat.mul_lt_mul'' h1 hm
  rw [← Nat.pow_add, ← Nat.mul_add] at h2
  exact Nat.lt_of_lt_of_le h2 (Nat.pow_le_pow_right (by omega) (by omega))
set_option maxRecDepth 100000 in
set_option maxHeartbeats 4000000 in
theorem rTimes_nat (n m p : Nat) (hp : p = n * m) (na nb : Bool) (r : Bool) (hr : r = ((na != nb) && !(decide (p = 0)))) (hn : n < 2 ^ (32 * 5)) (hm : m < 2 ^ (32 * 5)) (w : World) :
    Calls Try.prog 28 #[bigM n na, bigM m nb] w fun e w' => e = .returned (bigM p r) ∧ Below w.heap.size w w' := by
  have HR := hid hr; have HN := hid hn; have HM := hid hm; have HPP := Box.mk hp; clear hr hn hm hp
  unfold bigM
  go_enter Try.func28, Try.ntmps28
  go_upto_region 2 with (fail)
  rw [← arr_zero]
  obtain ⟨h1, h2, h3, hb⟩ := al3 w (.cells (arr (limb n) na) 57) (.cells (arr (limb m) nb) 57) (.cells (arr (fun _ => 0) false) 57)
  have h4 := Blk.new (w := ((w.alloc (.cells (arr (limb n) na) 57)).alloc (.cells (arr (limb m) nb) 57)).alloc (.cells (arr (fun _ => 0) false) 57)) (cs := arr (fun _ => 0) false) (t := 57) (k := w.heap.size + 1 + 1 + 1) (by simp)
  replace h1 := Blk.alloc h1 (.cells (arr (fun _ => 0) false) 57)
  replace h2 := Blk.alloc h2 (.cells (arr (fun _ => 0) false) 57)
  replace h3 := Blk.alloc h3 (.cells (arr (fun _ => 0) false) 57)
  replace hb := hb.alloc (by simp; omega) (.cells (arr (fun _ => 0) false) 57)
  generalize (((w.alloc (.cells (arr (limb n) na) 57)).alloc (.cells (arr (limb m) nb) 57)).alloc (.cells (arr (fun _ => 0) false) 57)).alloc _ = W at *
  have H1 := hid h1; have H2 := hid h2; have H3 := hid h3; have H4 := hid h4; have HB := hid hb
  clear h1 h2 h3 h4 hb
  go_wp2
  go_loopw [6,7,8,9,10,11,12,13,14,15,16,17,18,19,20,21,22,23,24,25,26,27,28,29,30,31,32,33,34,35,36,37,38,39,40,41,42,43,44,45,46,47,48,49] (fun t6 _ _ _ _ _ _ _ _ _ _ _ _ _ _ _ _ _ _ _ _ _ _ _ _ _ _ _ _ _ _ _ _ _ _ _ _ _ _ _ _ _ _ _ wr => ∃ i : Nat, i ≤ 5 ∧ t6 = .int .i64 i ∧ Blk wr w.heap.size (arr (limb n) na) 57 ∧ Blk wr (w.heap.size + 1) (arr (limb m) nb) 57 ∧ Blk wr (w.heap.size + 1 + 1) (arr (fun _ => 0) false) 57 ∧ Blk wr (w.heap.size + 1 + 1 + 1) (arr (limb (n % 2 ^ (32 * i) * m)) false) 57 ∧ Below w.heap.size w wr) (fun t6 _ _ _ _ _ _ _ _ _ _ _ _ _ _ _ _ _ _ _ _ _ _ _ _ _ _ _ _ _ _ _ _ _ _ _ _ _ _ _ _ _ _ _ wr => 5 - (intOf t6).toNat)
  case atStart => exact ⟨0, by omega, rfl, H1.out, H2.out, H3.out, by rw [show n % 2 ^ (32 * 0) * m = 0 by simp [Nat.mod_one], arr_congr false (g := fun _ => 0) (fun i _ => limb_zero i)]; exact H4.out, HB.out⟩
  case round =>
    obtain ⟨i, hi, rfl, hA, hB, hC, hD, hW⟩ := hrel
    have HA := hid hA; have HBb := hid hB; have HC := hid hC; have HD := hid hD; have HW := hid hW
    clear hA hB hC hD hW
    by_cases hlt : i < 5
    · have ca : wr.cell? ⟨w.heap.size, i, none⟩ = some (.int .u64 (limb n i : Nat)) := by rw [HA.out.cell, arr_get _ _ i (by omega)]
      have CA := hid ca; clear ca
      go_wp2
      rw [show decide ((i : Int) < 5) = true by simp; omega]
      go_loopw [7,8,9,14,15,16,17,18,19,20,21,22,23,24,25,26,27,28,29,30,31,32,33,34,35,36,37,38,39,40,41,42,43,44] (fun t7 t8 _ _ _ _ _ _ _ _ _ _ _ _ _ _ _ _ _ _ _ _ _ _ _ _ _ _ _ _ _ _ _ _ wr => ∃ (k C over : Nat), k ≤ 5 ∧ t8 = .int .i64 k ∧ t7 = .int .u64 over ∧ over < 4294967296 ∧ C + over * 2 ^ (32 * (i + k)) = part n m i k ∧ (∀ j, i + 5 ≤ j → limb C j = 0) ∧ Blk wr w.heap.size (arr (limb n) na) 57 ∧ Blk wr (w.heap.size + 1) (arr (limb m) nb) 57 ∧ Blk wr (w.heap.size + 1 + 1) (arr (fun _ => 0) false) 57 ∧ Blk wr (w.heap.size + 1 + 1 + 1) (arr (limb C) false) 57 ∧ Below w.heap.size w wr) (fun _ t8 _ _ _ _ _ _ _ _ _ _ _ _ _ _ _ _ _ _ _ _ _ _ _ _ _ _ _ _ _ _ _ _ wr => 5 - (intOf t8).toNat)
      case atStart => exact ⟨0, n % 2 ^ (32 * i) * m, 0, by omega, rfl, rfl, by omega, by rw [part_zero]; omega, fun j hj => row_lt HM.out j hj, HA.out, HBb.out, HC.out, HD.out, HW.out⟩
      case round =>
        clear HA HBb HC HD HW CA
        obtain ⟨k, C, over, hk, rfl, rfl, ho, hI, hZ, hA, hB, hC, hD, hW⟩ := hrel
        have HA := hid hA; have HBb := hid hB; have HC := hid hC; have HD := hid hD; have HW := hid hW; have HI := Box.mk hI; have HZ := Box.mk hZ
        clear hA hB hC hD hW hI hZ
        by_cases hlk : k < 5
        · obtain ⟨q, hq⟩ : ∃ q, q = i + k := ⟨_, rfl⟩
          have q10 : (q : Int) < 10 := by omega
          have hqi : (i : Int) + (k : Int) = (q : Int) := by omega
          have e6 : wrap64 (q : Int) = (q : Int) := by unfold wrap64; omega
          have e7 : IntKind.i64.wrap (q : Int) = (q : Int) := by rw [IntKind.wrap_i64]; omega
          have i0 : (0 : Int) ≤ (i : Int) := by omega
          have i1 : (i : Int) < 10 := by omega
          have k0 : (0 : Int) ≤ (k : Int) := by omega
          have k1 : (k : Int) < 10 := by omega
          have q0 : (0 : Int) ≤ (q : Int) := by omega
          have c1 : wr.cell? ⟨w.heap.size, i, none⟩ = some (.int .u64 (limb n i : Nat)) := by rw [HA.out.cell, arr_get _ _ i (by omega)]
          have c2 : wr.cell? ⟨w.heap.size + 1, k, none⟩ = some (.int .u64 (limb m k : Nat)) := by rw [HBb.out.cell, arr_get _ _ k (by omega)]
          have c3 : wr.cell? ⟨w.heap.size + 1 + 1 + 1, q, none⟩ = some (.int .u64 (limb C q : Nat)) := by rw [HD.out.cell, arr_get _ _ q (by omega)]
          have HS := Box.mk (times_step HI.out (show limb C q = limb C (i + k) by rw [hq]))
          have l1 := limb_lt n i
          have l2 := limb_lt m k
          have l3 := limb_lt C q
          have l4 : limb n i * limb m k ≤ 4294967295 * 4294967295 := Nat.mul_le_mul (by omega) (by omega)
          obtain ⟨z, hz⟩ : ∃ z, z = limb n i * limb m k := ⟨_, rfl⟩
          have e1 : ((limb n i : Nat) : Int) * ((limb m k : Nat) : Int) = (z : Int) := by rw [hz]; exact (Int.natCast_mul _ _).symm
          rw [← hz] at HS l4
          rw [← hq] at HS
          have HZ2 := hid hz; have HQ := hid hq
          clear hz hq
          generalize limb n i = x at *
          generalize limb m k = y at *
          generalize limb C q = v at *
          have e2 : IntKind.u64.wrap ((x : Int) * (y : Int)) = (z : Int) := by rw [e1, IntKind.wrap_u64]; omega
          clear e1
          have e3 : IntKind.u64.wrap ((v : Int) + (z : Int)) = (v : Int) + (z : Int) := by rw [IntKind.wrap_u64]; omega
          have e4 : IntKind.u64.wrap ((v : Int) + (z : Int) + (over : Int)) = (v : Int) + (z : Int) + (over : Int) := by rw [IntKind.wrap_u64]; omega
          have e5 : bits BinOp.and IntKind.u64 ((v : Int) + (z : Int) + (over : Int)) 4294967295 = (((v + z + over) % 4294967296 : Nat) : Int) := by rw [← u64_mask (v + z + over) (by omega)]; simp
          have L3 := hid l3; have L4 := hid l4; have LO := hid ho
          have E2 := hid e2; have E3 := hid e3; have E4 := hid e4; have E5 := hid e5
          clear l1 l2 l3 l4 ho e2 e3 e4 e5
          go_wp2
          refine wp_region_early [0, 1, 2, 3, 4, 5, 6, 7, 8, 9, 10, 11, 12, 13, 14, 15, 16, 17, 18] [] [] (fun wx => wx.cell? ⟨w.heap.size, i, none⟩ = some (.int .u64 (x : Int)) ∧ wx.cell? ⟨w.heap.size + 1, k, none⟩ = some (.int .u64 (y : Int)) ∧ wx.cell? ⟨w.heap.size + 1 + 1 + 1, q, none⟩ = some (.int .u64 (v : Int))) (by kernel_rfl) (by kernel_rfl) (by kernel_rfl) (by rfl) ⟨c1, c2, c3⟩ ?_
          apply Exists.intro
          refine ⟨fun wx hx => ?_, ?_⟩
          · obtain ⟨x1, x2, x3⟩ := hx
            have e2 := E2.out; have e3 := E3.out; have e4 := E4.out
            repeat (refine seI_step rfl (fun K hK => ?_); go_simp; refine hK _ ?_; clear hK K)
            exact seI_nil rfl
          refine wpTA_nil .nil ?_
          go_wp2
          refine NoPanic.normal ?_
          have e5 := E5.out
          have f1 : wr.frozen? ⟨w.heap.size + 1 + 1 + 1, q, none⟩ = false := HD.out.frozen q
          go_wp2
          go_roundw
          case rel =>
            refine ⟨k + 1, put C q ((v + z + over) % 4294967296), (v + z + over) / 4294967296, by omega, by go_num, by simp, ?_, HS.out, ?_, HA.out.other (by omega), HBb.out.other (by omega), HC.out.other (by omega), ?_, (HW.out.setCell (p := ⟨w.heap.size + 1 + 1 + 1, q, none⟩) (by simp; omega) _).drew⟩
            · have h3 := L3.out; have h4 := L4.out; have h5 := LO.out; omega
            · intro j hj
              rw [limb_put (Nat.mod_lt _ (by omega)), if_neg (by omega)]
              exact HZ.out j hj
            · have h1 := HD.out.setCell q (.int .u64 (((v + z + over) % 4294967296 : Nat) : Int))
              rw [arr_set _ _ _ q (by omega)] at h1
              rw [arr_congr (g := fun k => if k = q then (v + z + over) % 4294967296 else limb C k) false (fun k _ => limb_put (Nat.mod_lt _ (by omega)) k)]
              have q4 : ((v : Int) + (z : Int) + (over : Int)) % 4294967296 = (((v + z + over) % 4294967296 : Nat) : Int) := by omega
              rw [q4]
              exact h1
          case measure => simp [intOf]; omega
        · obtain rfl : k = 5 := by omega
          have hD2 : limb C (i + 5) = 0 := HZ.out _ (by omega)
          have HP := Box.mk (show put C (i + 5) over = n % 2 ^ (32 * (i + 1)) * m by
            have h1 := put_eq C (i + 5) over
            rw [hD2] at h1
            rw [← part_row n m i HM.out, ← HI.out]
            omega)
          have LO := Box.mk ho
          clear hD2 ho
          obtain ⟨q, hq⟩ : ∃ q, q = i + 5 := ⟨_, rfl⟩
          rw [← hq] at HP
          have q10 : (q : Int) < 10 := by omega
          have e7 : IntKind.i64.wrap ((i : Int) + 5) = (q : Int) := by rw [IntKind.wrap_i64]; omega
          have q0 : (0 : Int) ≤ (q : Int) := by omega
          have HQ := Box.mk hq
          clear hq
          have f1 : wr.frozen? ⟨w.heap.size + 1 + 1 + 1, q, none⟩ = false := HD.out.frozen q
          have c3 : wr.cell? ⟨w.heap.size + 1 + 1 + 1, q, none⟩ = some (.int .u64 (limb C q : Nat)) := by rw [HD.out.cell, arr_get _ _ q (by omega)]
          generalize limb C q = v at *
          go_wp2
          have hq := HQ.out
          go_roundw
          case rel =>
            refine ⟨i + 1, by omega, by go_num, HA.out.other (by omega), HBb.out.other (by omega), HC.out.other (by omega), ?_, HW.out.setCell (p := ⟨w.heap.size + 1 + 1 + 1, q, none⟩) (by simp; omega) _⟩
            have h1 := HD.out.setCell q (.int .u64 ((over : Nat) : Int))
            rw [arr_set _ _ _ q (by omega)] at h1
            rw [← HP.out, arr_congr (g := fun k => if k = q then over else limb C k) false (fun k _ => limb_put LO.out k)]
            exact h1
          case measure => simp [intOf]; omega
    · obtain rfl : i = 5 := by omega
      rw [Nat.mod_eq_of_lt HN.out] at HD
      have hL := lim_mul HN.out HM.out
      rw [show 32 * 5 + 32 * 5 = 32 * 10 from rfl, ← lim_eq, ← HPP.out] at hL
      rw [← HPP.out] at HD
      have HL := Box.mk hL
      clear hL
      have cna : wr.cell? ⟨w.heap.size, 10, none⟩ = some (.bool na) := by rw [HA.out.cell, arr_neg]
      have cnb : wr.cell? ⟨w.heap.size + 1, 10, none⟩ = some (.bool nb) := by rw [HBb.out.cell, arr_neg]
      clear HA HBb HN HM H1 H2 H3 H4 HB
      by_cases hnn : na = nb
      case neg =>
        obtain rfl : na = !nb := by cases na <;> cases nb <;> simp_all
        have hnn : ((!nb) != nb) = true := by cases nb <;> rfl
        have HRR : Box (decide (p = 0) = !r) := ⟨by rw [HR.out, hnn]; simp⟩
        clear HR hnn
        go_wp2_with (refine loadBigG rfl (.tmp 5) rfl (w.heap.size + 1 + 1 + 1) rfl (limb p) false HD.out ?_)
        refine (rzero_any p false HL.out _).mono ?_
        rintro e W1 ⟨rfl, hb1⟩
        have G1 := hid (HD.out.below hb1 (Nat.le_refl _))
        have G2 := hid (HC.out.below hb1 (Nat.le_refl _))
        have GB := hid (HW.out.trans (hb1.mono HW.out.size))
        clear hb1 cna cnb
        have K1 := hid (G1.out.setCell 10 (.bool r))
        have K2 := hid (G2.out.other (k := w.heap.size + 1 + 1 + 1) (i := 10) (v := .bool r) (by omega))
        have KB := hid (GB.out.setCell (p := ⟨w.heap.size + 1 + 1 + 1, 10, none⟩) (by simp; omega) (.bool r))
        rw [arr_setNeg] at K1
        have hf := G1.out.frozen 10
        have hc : W1.cell? ⟨w.heap.size + 1 + 1 + 1, 10, none⟩ = some (.bool false) := G1.out.cell 10
        rw [HRR.out]
        go_wp2_with (first
          | (refine loadBig rfl (.tmp 5) rfl (w.heap.size + 1 + 1 + 1) rfl (limb p) r K1.out ?_)
          | (refine storeBig rfl (.tmp 4) (.tmp 61) rfl (w.heap.size + 1 + 1) (limb p) r rfl rfl _ K2.out rfl ?_))
        refine bodyPost_ret (retBig rfl _ _ (w.heap.size + 1 + 1) (limb p) r rfl (K2.out.setRow _)) rfl ⟨rfl, ?_⟩
        exact KB.out.trans (Below_setRow (Below.refl _ _) (by omega) _)
      case pos =>
        subst hnn
        obtain rfl : r = false := by rw [HR.out]; simp
        have K1 := hid (HD.out.setCell 10 (.bool false))
        have K2 := hid (HC.out.other (k := w.heap.size + 1 + 1 + 1) (i := 10) (v := .bool false) (by omega))
        have KB := hid (HW.out.setCell (p := ⟨w.heap.size + 1 + 1 + 1, 10, none⟩) (by simp; omega) (.bool false))
        rw [arr_setNeg] at K1
        have hf := HD.out.frozen 10
        have hc : wr.cell? ⟨w.heap.size + 1 + 1 + 1, 10, none⟩ = some (.bool false) := HD.out.cell 10
        go_wp2_with (first
          | (refine loadBig rfl (.tmp 5) rfl (w.heap.size + 1 + 1 + 1) rfl (limb p) false K1.out ?_)
          | (refine storeBig rfl (.tmp 4) (.tmp 61) rfl (w.heap.size + 1 + 1) (limb p) false rfl rfl _ K2.out rfl ?_))
        refine bodyPost_ret (retBig rfl _ _ (w.heap.size + 1 + 1) (limb p) false rfl (K2.out.setRow _)) rfl ⟨rfl, ?_⟩
        exact KB.out.trans (Below_setRow (Below.refl _ _) (by omega) _)
end Go.Proofs.Ytbcafgglgjhckaa
end
section
/- The law of sums, walked. -/
namespace Go.Proofs.Ytbcafgglgjhckaa
open Go.RowKit
theorem Try.infoInt : (Try.prog.info? 3).map (fun i => (i.zero, i.size, i.bytes)) = some (some (.int .i64 0), 1, 8) := by kernel_rfl
end Go.Proofs.Ytbcafgglgjhckaa
end
section
/- The law of pairs, walked. -/
namespace Go.Proofs.Ytbcafgglgjhckaa
open Go.RowKit
theorem sign_mul (x y : Int) : decide (x * y < 0) = ((decide (x < 0) != decide (y < 0)) && !(decide ((x * y).natAbs = 0))) := by
  rcases Int.lt_trichotomy x 0 with hx | hx | hx <;> rcases Int.lt_trichotomy y 0 with hy | hy | hy
  · have := Int.mul_pos_of_neg_of_neg hx hy
    rw [decide_eq_true hx, decide_eq_true hy, decide_eq_false (by omega)]; rfl
  · subst hy; simp
  · have := Int.mul_neg_of_neg_of_pos hx hy
    rw [decide_eq_true hx, decide_eq_false (show ¬ y < 0 by omega), decide_eq_true this, decide_eq_false (show ¬ (x * y).natAbs = 0 by omega)]; rfl
  · subst hx; simp
  · subst hx; simp
  · subst hx; simp
  · have := Int.mul_neg_of_pos_of_neg hx hy
    rw [decide_eq_false (show ¬ x < 0 by omega), decide_eq_true hy, decide_eq_true this, decide_eq_false (show ¬ (x * y).natAbs = 0 by omega)]; rfl
  · subst hy; simp
  · have := Int.mul_pos hx hy
    rw [decide_eq_false (show ¬ x < 0 by omega), decide_eq_false (show ¬ y < 0 by omega), decide_eq_false (show ¬ x * y < 0 by omega)]; rfl
theorem rTimes_any (x y : Int) (hx : x.natAbs < 2 ^ (32 * 5)) (hy : y.natAbs < 2 ^ (32 * 5)) (w : World) :
    Calls Try.prog 28 #[bigOf x, bigOf y] w fun e w' => e = .returned (bigOf (x * y)) ∧ Below w.heap.size w w' :=
  rTimes_nat x.natAbs y.natAbs (x * y).natAbs (Int.natAbs_mul x y) (decide (x < 0)) (decide (y < 0)) (decide (x * y < 0)) (sign_mul x y) hx hy w
theorem fitV_out (z : Int) : ∃ x o, fitV z = .tuple #[.int .i64 x, .bool o] := ⟨_, _, rfl⟩
end Go.Proofs.Ytbcafgglgjhckaa
end
section
/- The document's rhythm; walked. -/
namespace Go.Proofs.Ytbcafgglgjhckaa
open Go.RowKit
theorem k4_cases {k : Int} (h0 : 0 ≤ k) (h1 : k < 4) : k = 0 ∨ k = 1 ∨ k = 2 ∨ k = 3 := by omega
theorem i4_cases {i : Nat} (h1 : i < 4) : i = 0 ∨ i = 1 ∨ i = 2 ∨ i = 3 := by omega
theorem mul_self_nonneg' (x : Int) : 0 ≤ x * x := by
  rcases Int.le_total 0 x with h | h
  · exact Int.mul_nonneg h h
  · exact Int.mul_nonneg_of_nonpos_of_nonpos h h
theorem sq_le {x : Int} (h1 : -1125899906842624 ≤ x) (h2 : x ≤ 1125899906842624) : (x * x).natAbs ≤ 1267650600228229401496703205376 := by
  rw [Int.natAbs_mul]
  exact Nat.mul_le_mul (show x.natAbs ≤ 1125899906842624 by omega) (show x.natAbs ≤ 1125899906842624 by omega)
theorem rright_ret (q0 q1 q2 q3 : Int) (w : World) : Calls Try.prog 16 #[qV q0 q1 q2 q3] w (Ret (.bool (decide (QOk q0 q1 q2 q3))) w) := by
  refine ret_in (GRh.rright_calls q0 q1 q2 q3 w (fun u w' => u = .bool (decide (QOk q0 q1 q2 q3)) ∧ Below w.heap.size w w') ?_)
  unfold GRh.rright_vc
  refine newB (Bs.refl w) fun g w2 g0 sg n2 z2 b2 B2 => ⟨fun x wx => ∃ i : Nat, x = i ∧ i ≤ 4 ∧ (∀ j : Nat, j < i → In50 ([q0, q1, q2, q3].getD j 0)) ∧ wx = w2, fun x _ => 4 - x.toNat, ⟨0, rfl, by omega, fun j hj => absurd hj (Nat.not_lt_zero _), rfl⟩, ?_⟩
  rintro x wx ⟨i, rfl, hi, hj, rfl⟩
  have hB : Bk wx g #[.int .i64 q0, .int .i64 q1, .int .i64 q2, .int .i64 q3] 22 := n2
  refine br_dec (fun hlt => ?_) fun hge => ?_
  · have hi4 := i4_cases (i := i) (by omega)
    have hz : wx.cell? ⟨g, 0 + Int.toNat (i : Int) * 1, none⟩ = some (.int .i64 ([q0, q1, q2, q3].getD i 0)) := by
      rw [hB.cell]
      rcases hi4 with rfl | rfl | rfl | rfl <;> rfl
    have hbad : ¬ In50 ([q0, q1, q2, q3].getD i 0) → ¬ QOk q0 q1 q2 q3 := fun h k => h (by rcases hi4 with rfl | rfl | rfl | rfl; exact k.1; exact k.2.1; exact k.2.2.1; exact k.2.2.2)
    generalize hzz : [q0, q1, q2, q3].getD i 0 = z at *
    refine ⟨by omega, by omega, z, hz, br_dec (fun h1 => ⟨by rw [decide_eq_false (hbad fun k => by have := k.1; omega)], B2⟩) fun h1 => ⟨by omega, by omega, z, hz, br_dec (fun h2 => ⟨by rw [decide_eq_false (hbad fun k => by have := k.2; omega)], B2⟩) fun h2 => ?_⟩⟩
    rw [wr64 (by omega) (by omega)]
    refine ⟨⟨i + 1, by omega, by omega, fun j hj' => ?_, rfl⟩, by dsimp only; omega⟩
    by_cases h : j = i
    · subst h; rw [hzz]; exact ⟨by omega, by omega⟩
    · exact hj j (by omega)
  · obtain rfl : i = 4 := by omega
    exact ⟨by rw [decide_eq_true (show QOk q0 q1 q2 q3 from ⟨hj 0 (by omega), hj 1 (by omega), hj 2 (by omega), hj 3 (by omega)⟩)], B2⟩
theorem rvector_ret (q0 q1 q2 q3 : Int) (w : World) : Calls Try.prog 11 #[qV q0 q1 q2 q3] w (Ret (.tuple #[.int .i64 (vecX q0 q1 q2 q3), .int .i64 (vecY q0 q1 q2 q3)]) w) := by
  refine ret_in (GRh.rvector_calls q0 q1 q2 q3 w (fun u w' => u = .tuple #[.int .i64 (vecX q0 q1 q2 q3), .int .i64 (vecY q0 q1 q2 q3)] ∧ Below w.heap.size w w') ?_)
  unfold GRh.rvector_vc vecX vecY
  refine newB (Bs.refl w) fun g w2 g0 sg n2 z2 b2 B2 => callB B2 (rright_ret q0 q1 q2 q3 w2) fun w3 b3 B3 => ⟨_, rfl, br_not (br_dec (fun hok => drewB B3 fun w4 b4 B4 e4 => ?_) fun hok => ⟨by rw [if_neg hok, if_neg hok], B3⟩)⟩
  rw [if_pos hok, if_pos hok]
  obtain ⟨⟨a0, b0⟩, ⟨a1, b1⟩, ⟨a2, b2'⟩, ⟨a3, b3'⟩⟩ := hok
  rw [wr64 (z := q0 - q2) (by omega) (by omega), wr64 (z := q1 - q3) (by omega) (by omega)]
  exact ⟨rfl, B4⟩
theorem rrsize_ret (z : Int) (h : -9223372036854775807 ≤ z ∧ z ≤ 9223372036854775807) (w : World) : Calls Try.prog 23 #[.int .i64 z] w (Ret (.int .i64 (z.natAbs : Int)) w) := by
  refine ret_in (GRh.rrsize_calls z w (fun u w' => u = .int .i64 (z.natAbs : Int) ∧ Below w.heap.size w w') ?_)
  unfold GRh.rrsize_vc
  rw [wr64 (by omega) (by omega), show max z (0 - z) = (z.natAbs : Int) by omega]
  exact ⟨rfl, Bs.refl _⟩
theorem rpeak_ret (q0 q1 q2 q3 : Int) (w : World) : Calls Try.prog 13 #[qV q0 q1 q2 q3] w (Ret (.tuple #[.int .i64 (peakP (vecX q0 q1 q2 q3) (vecY q0 q1 q2 q3)).1, .bool (peakP (vecX q0 q1 q2 q3) (vecY q0 q1 q2 q3)).2]) w) := by
  refine ret_in (GRh.rpeak_calls q0 q1 q2 q3 w (fun u w' => u = .tuple #[.int .i64 (peakP (vecX q0 q1 q2 q3) (vecY q0 q1 q2 q3)).1, .bool (peakP (vecX q0 q1 q2 q3) (vecY q0 q1 q2 q3)).2] ∧ Below w.heap.size w w') ?_)
  unfold GRh.rpeak_vc
  have hr := vec_range q0 q1 q2 q3
  have hv := rvector_ret q0 q1 q2 q3
  revert hr hv
  generalize vecX q0 q1 q2 q3 = x
  generalize vecY q0 q1 q2 q3 = y
  intro hr hv
  refine newB (Bs.refl w) fun g w2 g0 sg n2 z2 b2 B2 => callB B2 (hv w2) fun w3 b3 B3 => ⟨_, _, rfl, ?_⟩
  have rest : ¬ (x = 0 ∧ y = 0) → GRh.rpeak_k1 (fun u w' => u = .tuple #[.int .i64 (peakP x y).1, .bool (peakP x y).2] ∧ Below w.heap.size w w') g x y w3 := by
    intro k0
    unfold GRh.rpeak_k1 peakP
    refine callB B3 (rrsize_ret x (by omega) w3) fun w4 b4 B4 => ⟨_, rfl, callB B4 (rrsize_ret y (by omega) w4) fun w5 b5 B5 => ⟨_, rfl, ?_⟩⟩
    rw [if_neg k0]
    refine br_dec (fun k1 => ?_) fun k1 => ?_
    · rw [if_pos k1]
      refine br_dec (fun k2 => ?_) fun k2 => ?_
      · rw [if_pos k2]; exact ⟨rfl, B5⟩
      · rw [if_neg k2]; exact ⟨rfl, B5⟩
    · rw [if_neg k1]
      refine br_dec (fun k2 => ?_) fun k2 => ?_
      · rw [if_pos k2]; exact ⟨rfl, B5⟩
      · rw [if_neg k2]; exact ⟨rfl, B5⟩
  refine br_dec (fun kx => br_dec (fun ky => ?_) fun ky => rest fun k => ky k.2) fun kx => rest fun k => kx k.1
  unfold peakP
  rw [if_pos ⟨kx, ky⟩]
  exact ⟨rfl, B3⟩
theorem fitV_big {z : Int} (h : ¬ (-9223372036854775808 ≤ z ∧ z ≤ 9223372036854775807)) : fitV z = .tuple #[.int .i64 0, .bool false] := fitV_no (by omega)
theorem str_fit (x y : Int) : strV x y = fitV (x * x + y * y) := by
  unfold strV
  have hx : 0 ≤ x * x := mul_self_nonneg' x
  have hy : 0 ≤ y * y := mul_self_nonneg' y
  by_cases h1 : fitB (x * x) = true
  · by_cases h2 : fitB (y * y) = true
    · rw [if_pos ⟨h1, h2⟩]
    · rw [if_neg fun h => h2 h.2, fitV_no]
      refine .inr ?_
      unfold fitB at h2
      simp at h2
      omega
  · rw [if_neg fun h => h1 h.1, fitV_no]
    refine .inr ?_
    unfold fitB at h1
    simp at h1
    omega
theorem rstrength_ret (q0 q1 q2 q3 : Int) (w : World) : Calls Try.prog 15 #[qV q0 q1 q2 q3] w (Ret (strQ q0 q1 q2 q3) w) := by
  refine ret_in (GRh.rstrength_calls q0 q1 q2 q3 w (fun u w' => u = strQ q0 q1 q2 q3 ∧ Below w.heap.size w w') ?_)
  unfold GRh.rstrength_vc strQ
  refine newB (Bs.refl w) fun g w2 g0 sg n2 z2 b2 B2 => callB B2 (rright_ret q0 q1 q2 q3 w2) fun w3 b3 B3 => ⟨_, rfl, br_not (br_dec (fun hok => ?_) fun hok => ⟨by rw [if_neg hok], B3⟩)⟩
  rw [if_pos hok]
  have hr := vec_range q0 q1 q2 q3
  have hv := rvector_ret q0 q1 q2 q3
  revert hr hv
  generalize vecX q0 q1 q2 q3 = x
  generalize vecY q0 q1 q2 q3 = y
  intro hr hv
  have s1 := sq_le hr.1.1 hr.1.2
  have s2 := sq_le hr.2.1 hr.2.2
  refine callB B3 (hv w3) fun w4 b4 B4 => ⟨_, _, rfl, callB B4 (rOf_any x w4 (by omega) (by omega)) fun w5 b5 B5 => ⟨_, _, _, _, _, _, _, _, _, _, _, rfl, callB B5 (rOf_any x w5 (by omega) (by omega)) fun w6 b6 B6 => ⟨_, _, _, _, _, _, _, _, _, _, _, rfl,
    callB B6 (rTimes_any x x (by omega) (by omega) w6) fun w7 b7 B7 => ⟨_, _, _, _, _, _, _, _, _, _, _, rfl, callB B7 (rOf_any y w7 (by omega) (by omega)) fun w8 b8 B8 => ⟨_, _, _, _, _, _, _, _, _, _, _, rfl, callB B8 (rOf_any y w8 (by omega) (by omega)) fun w9 b9 B9 => ⟨_, _, _, _, _, _, _, _, _, _, _, rfl,
    callB B9 (rTimes_any y y (by omega) (by omega) w9) fun w10 b10 B10 => ⟨_, _, _, _, _, _, _, _, _, _, _, rfl, callB B10 (rPlus_any (x * x) (y * y) (by unfold lim; omega) (by unfold lim; omega) w10) fun w11 b11 B11 => ⟨_, _, _, _, _, _, _, _, _, _, _, rfl, ?_⟩⟩⟩⟩⟩⟩⟩⟩
  refine callB B11 (rIntZ_any (x * x + y * y) (by unfold lim; omega) w11) fun w12 b12 B12 => ⟨_, _, rfl, ?_, B12⟩
  rw [str_fit]
  rfl
end Go.Proofs.Ytbcafgglgjhckaa
end
section
/- RhythmAdds, walked. -/
namespace Go.Proofs.Ytbcafgglgjhckaa
open Go.RowKit
theorem add_three (q0 q1 q2 q3 k n : Int) : ∃ s0 s1 s2 s3 : Int, addV q0 q1 q2 q3 k n = qV s0 s1 s2 s3 ∧
    ((addE q0 q1 q2 q3 k n = 1 ∧ s0 = 0 ∧ s1 = 0 ∧ s2 = 0 ∧ s3 = 0 ∧ (¬ QOk q0 q1 q2 q3 ∨ k < 0 ∨ k ≥ 4 ∨ n < 0)) ∨
     (addE q0 q1 q2 q3 k n = 6 ∧ s0 = 0 ∧ s1 = 0 ∧ s2 = 0 ∧ s3 = 0 ∧ (QOk q0 q1 q2 q3 ∧ 0 ≤ k ∧ k < 4 ∧ 0 ≤ n) ∧ n > 1125899906842624 - qAt q0 q1 q2 q3 k) ∨
     (addE q0 q1 q2 q3 k n = 0 ∧ s0 = addQ k 0 n q0 ∧ s1 = addQ k 1 n q1 ∧ s2 = addQ k 2 n q2 ∧ s3 = addQ k 3 n q3 ∧ (QOk q0 q1 q2 q3 ∧ 0 ≤ k ∧ k < 4 ∧ 0 ≤ n) ∧ n ≤ 1125899906842624 - qAt q0 q1 q2 q3 k)) := by
  unfold addV
  by_cases h1 : ¬ QOk q0 q1 q2 q3 ∨ k < 0 ∨ k ≥ 4 ∨ n < 0
  · have e : addE q0 q1 q2 q3 k n = 1 := by unfold addE; rw [if_pos h1]
    exact ⟨0, 0, 0, 0, by rw [e]; rfl, .inl ⟨e, rfl, rfl, rfl, rfl, h1⟩⟩
  · have h2 : QOk q0 q1 q2 q3 ∧ 0 ≤ k ∧ k < 4 ∧ 0 ≤ n := by
      refine ⟨Decidable.byContradiction fun h => h1 (.inl h), ?_, ?_, ?_⟩
      · exact Int.not_lt.1 fun h => h1 (.inr (.inl h))
      · exact Int.not_le.1 fun h => h1 (.inr (.inr (.inl h)))
      · exact Int.not_lt.1 fun h => h1 (.inr (.inr (.inr h)))
    by_cases h3 : n > 1125899906842624 - qAt q0 q1 q2 q3 k
    · have e : addE q0 q1 q2 q3 k n = 6 := by unfold addE; rw [if_neg h1, if_pos h3]
      exact ⟨0, 0, 0, 0, by rw [e]; rfl, .inr (.inl ⟨e, rfl, rfl, rfl, rfl, h2, h3⟩)⟩
    · have e : addE q0 q1 q2 q3 k n = 0 := by unfold addE; rw [if_neg h1, if_neg h3]
      exact ⟨_, _, _, _, by rw [e]; rfl, .inr (.inr ⟨e, rfl, rfl, rfl, rfl, h2, Int.not_lt.1 h3⟩)⟩
theorem ladds_k1_ok {w w7 : World} {q0 q1 q2 q3 n k : Int} {g g2 g3 : Nat} (hn9 : n ≤ 9223372036854775807) (B : Bs w w7) (hg : w.heap.size ≤ g) (hg2 : g < g2) (hg3 : g2 < g3) (hs3 : g3 < w7.heap.size) (hB : Bk w7 g #[.int .i64 q0, .int .i64 q1, .int .i64 q2, .int .i64 q3] 22) :
    GRh.ladds_k1 (fun u w' => u = .bool true ∧ Below w.heap.size w w') n g g2 q0 q1 q2 q3 g3 k w7 := by
  unfold GRh.ladds_k1
  obtain ⟨s0, s1, s2, s3, es, hc⟩ := add_three q0 q1 q2 q3 k n
  have hadd := fun w => add_ret q0 q1 q2 q3 k n hn9 w
  rw [es] at hadd
  refine callB B (hadd w7) fun w9 b9 B9 => ⟨s0, s1, s2, s3, _, rfl, newB B9 fun g4 w10 g40 sg4 n10 z10 b10 B10 => boxB B10 g40 fun w11 h11 B11 z11 => ?_⟩
  have hB11 : Bk w11 g #[.int .i64 q0, .int .i64 q1, .int .i64 q2, .int .i64 q3] 22 := by
    have hlt : g < w7.heap.size := by omega
    have := b9.size
    exact ((hB.keep (b9.block g hlt)).keep (b10.block g (by omega))).keep (h11.1.block g (by omega) (by rw [List.mem_singleton]; omega))
  refine ⟨q0, q1, q2, q3, cellsAt_row hB11 (by simp), callB B11 (rright_ret q0 q1 q2 q3 w11) fun w12 b12 B12 => ⟨_, rfl, ?_⟩⟩
  have hB12 := hB11.keep (b12.block g (by have := b9.size; omega))
  have hzero : ∀ {z : Int}, s0 = 0 → s1 = 0 → s2 = 0 → s3 = 0 → ((fun u w' => u = .bool true ∧ Below w.heap.size w w') : Value → World → Prop) (.bool ((decide (s0 = 0) && (decide (s1 = 0) && (decide (s2 = 0) && (decide (s3 = 0) && true)))) && true)) w12 := by
    rintro z rfl rfl rfl rfl
    exact ⟨rfl, B12⟩
  rcases hc with ⟨e1, a0, a1, a2, a3, hbad⟩ | ⟨e1, a0, a1, a2, a3, ⟨hok, hk0, hk4, hn0⟩, hov⟩ | ⟨e1, a0, a1, a2, a3, ⟨hok, hk0, hk4, hn0⟩, hov⟩
  · have hz : ((fun u w' => u = .bool true ∧ Below w.heap.size w w') : Value → World → Prop) (.bool ((decide (s0 = 0) && (decide (s1 = 0) && (decide (s2 = 0) && (decide (s3 = 0) && true)))) && true)) w12 := hzero (z := 0) a0 a1 a2 a3
    refine br_not (br_dec (fun hok => ?_) fun hok => br_y e1 hz)
    refine br_dec (fun h => br_y e1 hz) fun h1 => br_dec (fun h => br_y e1 hz) fun h2 => br_dec (fun h => br_y e1 hz) fun h3 => ?_
    rcases hbad with h | h | h | h
    · exact absurd hok h
    · omega
    · omega
    · omega
  · have hz : ((fun u w' => u = .bool true ∧ Below w.heap.size w w') : Value → World → Prop) (.bool ((decide (s0 = 0) && (decide (s1 = 0) && (decide (s2 = 0) && (decide (s3 = 0) && true)))) && true)) w12 := hzero (z := 0) a0 a1 a2 a3
    refine br_not (br_y hok (br_n (by omega) (br_n (by omega) (br_n (by omega) ⟨hk0, hk4, qAt q0 q1 q2 q3 k, ?_, ?_⟩))))
    · rw [show 0 + k.toNat * 1 = k.toNat by omega, hB12.cell]
      rcases k4_cases hk0 hk4 with rfl | rfl | rfl | rfl <;> rfl
    · have hq : In50 (qAt q0 q1 q2 q3 k) := by
        obtain ⟨b0, b1, b2, b3⟩ := hok
        rcases k4_cases hk0 hk4 with rfl | rfl | rfl | rfl; exact b0; exact b1; exact b2; exact b3
      rw [wr64 (by have := hq.2; omega) (by have := hq.1; omega)]
      exact br_y hov (br_y e1 hz)
  · have hq : In50 (qAt q0 q1 q2 q3 k) := by
      obtain ⟨b0, b1, b2, b3⟩ := hok
      rcases k4_cases hk0 hk4 with rfl | rfl | rfl | rfl; exact b0; exact b1; exact b2; exact b3
    have hc : w12.cell? ⟨g, 0 + k.toNat * 1, none⟩ = some (.int .i64 (qAt q0 q1 q2 q3 k)) := by
      rw [show 0 + k.toNat * 1 = k.toNat by omega, hB12.cell]
      rcases k4_cases hk0 hk4 with rfl | rfl | rfl | rfl <;> rfl
    have hset : (#[.int .i64 q0, .int .i64 q1, .int .i64 q2, .int .i64 q3] : Array Value).setIfInBounds (0 + k.toNat * 1) (.int .i64 (qAt q0 q1 q2 q3 k + n)) = #[.int .i64 s0, .int .i64 s1, .int .i64 s2, .int .i64 s3] := by
      rw [a0, a1, a2, a3]
      rcases k4_cases hk0 hk4 with rfl | rfl | rfl | rfl <;> rfl
    have hsum : totQ s0 s1 s2 s3 = totQ q0 q1 q2 q3 + n := by
      have hok' : QOk s0 s1 s2 s3 := by
        obtain ⟨b0, b1, b2, b3⟩ := hok
        obtain ⟨b00, b01⟩ := b0; obtain ⟨b10, b11⟩ := b1; obtain ⟨b20, b21⟩ := b2; obtain ⟨b30, b31⟩ := b3
        rw [a0, a1, a2, a3]
        unfold addQ qAt at *
        rcases k4_cases hk0 hk4 with rfl | rfl | rfl | rfl
        all_goals (simp at hov ⊢; refine ⟨⟨?_, ?_⟩, ⟨?_, ?_⟩, ⟨?_, ?_⟩, ?_, ?_⟩ <;> omega)
      unfold totQ
      rw [if_pos hok', if_pos hok, a0, a1, a2, a3]
      unfold addQ
      rcases k4_cases hk0 hk4 with rfl | rfl | rfl | rfl <;> simp <;> omega
    have htr : 0 ≤ totQ q0 q1 q2 q3 ∧ totQ q0 q1 q2 q3 ≤ 4503599627370496 := by
      unfold totQ
      rw [if_pos hok]
      obtain ⟨⟨_, _⟩, ⟨_, _⟩, ⟨_, _⟩, _, _⟩ := hok
      omega
    refine br_not (br_y hok (br_n (by omega) (br_n (by omega) (br_n (by omega) ⟨hk0, hk4, qAt q0 q1 q2 q3 k, hc, ?_⟩))))
    obtain ⟨hq0, hq1⟩ := hq
    rw [wr64 (by omega) (by omega)]
    refine br_n (by omega) ⟨hk0, hk4, qAt q0 q1 q2 q3 k, hc, hk0, hk4, ?_⟩
    rw [wr64 (z := qAt q0 q1 q2 q3 k + n) (by omega) (by omega)]
    have hsz := b9.size
    have hsz2 := b12.size
    refine stO_bk hB12 (by simp; omega) (fun x hx => by simp at hx; omega) fun w13 hB13 f13 z13 => drewB (B12.trans (f13.below (fun k hk => by rw [List.mem_singleton] at hk; omega) B12.size)) fun w14 b14 B14 e14 => ?_
    rw [hset] at hB13
    have hB14 := hB13.keep (b14.block g (by omega))
    refine br_y e1 ⟨s0, s1, s2, s3, cellsAt_row hB14 (by simp), br_t (by simp) (callB B14 (total_ret s0 s1 s2 s3 w14) fun w15 b15 B15 => ⟨_, rfl, callB B15 (total_ret q0 q1 q2 q3 w15) fun w16 b16 B16 => ⟨_, rfl, ?_, B16⟩⟩)⟩
    rw [wr64 (by omega) (by omega), hsum, decide_eq_true rfl]
theorem ladds_walk (q0 q1 q2 q3 t0 t1 n : Int) (w : World) (ht0 : t0 ≤ 9223372036854775807) (hn : n ≤ 9223372036854775807) : Calls Try.prog 6 #[qV q0 q1 q2 q3, .agg #[.int .i64 t0, .int .i64 t1], .int .i64 n] w (Ret (.bool true) w) := by
  refine ret_in (GRh.ladds_calls q0 q1 q2 q3 t0 t1 n w (fun u w' => u = .bool true ∧ Below w.heap.size w w') ?_)
  unfold GRh.ladds_vc
  refine newB (Bs.refl w) fun g w2 g0 sg n2 z2 b2 B2 => newB B2 fun g2 w3 g20 sg2 n3 z3 b3 B3 => ?_
  have hB : Bk w3 g #[.int .i64 q0, .int .i64 q1, .int .i64 q2, .int .i64 q3] 22 := Bk.keep (show Bk w2 g _ 22 from n2) (b3.block g (by omega))
  refine ⟨q0, q1, q2, q3, cellsAt_row hB (by simp), newB B3 fun g3 w4 g30 sg3 n4 z4 b4 B4 => boxB B4 g30 fun w5 h5 B5 z5 => callB B5 (quarter_ret t0 t1 ht0 w5) fun w6 b6 B6 => ⟨_, _, rfl, callB B6 (beats_ret w6) fun w7 b7 B7 => ⟨_, rfl, br_f rfl ?_⟩⟩⟩
  have hB7 : Bk w7 g #[.int .i64 q0, .int .i64 q1, .int .i64 q2, .int .i64 q3] 22 := by
    have := b6.size
    exact (((hB.keep (b4.block g (by omega))).keep (h5.1.block g (by omega) (by rw [List.mem_singleton]; omega))).keep (b6.block g (by omega))).keep (b7.block g (by omega))
  have hs7 : g3 < w7.heap.size := by have := b6.size; have := b7.size; omega
  have hg2 : g < g2 := by omega
  have hg3 : g2 < g3 := by omega
  have bad : (t0 < 0 ∨ t1 < 4 ∨ t1 > 1073741824) → br (decide (quE t0 t1 ≠ 1)) False (br (decide (quV t0 t1 ≠ 0)) False True) := fun h => by
    unfold quE quV
    rw [if_pos h, if_pos h]
    exact br_f rfl (br_f rfl trivial)
  have badk : (t0 < 0 ∨ t1 < 4 ∨ t1 > 1073741824) → ∀ {A B C : Prop}, C → br (decide (quE t0 t1 ≠ 1)) A (br (decide (quV t0 t1 ≠ 0)) B C) := fun h A B C hc => by
    unfold quE quV
    rw [if_pos h, if_pos h]
    exact br_f rfl (br_f rfl hc)
  refine br_dec (fun h => badk (.inl h) (ladds_k1_ok hn B7 g0 hg2 hg3 hs7 hB7)) fun h1 => br_dec (fun h => badk (.inr (.inl h)) (ladds_k1_ok hn B7 g0 hg2 hg3 hs7 hB7)) fun h2 => br_dec (fun h => badk (.inr (.inr h)) (ladds_k1_ok hn B7 g0 hg2 hg3 hs7 hB7)) fun h3 => ?_
  have hno : ¬ (t0 < 0 ∨ t1 < 4 ∨ t1 > 1073741824) := fun k => k.elim h1 fun k => k.elim h2 h3
  have he : quE t0 t1 = 0 := by unfold quE; rw [if_neg hno]
  obtain ⟨v0, v3⟩ := quV_range he
  refine drewB B7 fun w8 b8 B8 e8 => br_n (by omega) ⟨by omega, by omega, br_n ?_ (br_n (by omega) (br_n (by omega) (ladds_k1_ok hn B8 g0 hg2 hg3 (by have := b8.size; omega) (hB7.keep (b8.block g (by omega))))))⟩
  have hv : quV t0 t1 = t0 % t1 * 4 / t1 := by unfold quV; rw [if_neg hno]
  have m1 := Int.emod_nonneg t0 (show t1 ≠ 0 by omega)
  have m2 := Int.emod_lt_of_pos t0 (show 0 < t1 by omega)
  rw [Int.tmod_eq_emod_of_nonneg (by omega), wr64 (z := t0 % t1 * 4) (by omega) (by omega), Int.tdiv_eq_ediv_of_nonneg (by omega), ← hv, wr64 (by omega) (by omega)]
  exact fun h => h rfl
end Go.Proofs.Ytbcafgglgjhckaa
end
