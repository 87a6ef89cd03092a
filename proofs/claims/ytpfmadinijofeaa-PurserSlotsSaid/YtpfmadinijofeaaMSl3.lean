import Derived.Test.YtpfmadinijofeaaMSl2
import Derived.Deep.Slices
import Derived.OpenShut
import Derived.Test.YtpfmadinijofeaaMSl1
import Derived.Shelf.SlIterI.Nil
import Derived.Shelf.SortM.Plain
import Derived.Shelf.SortM.SortNone
import Derived.Ground.GgzProg
import Derived.Ground.SlgmProg
import Derived.WideShapes
import Derived.Laws.BitsAllLaws
import Derived.Test.YtpfmadinijofeaaRows
import Derived.Deep.DeepCutAuto
import Derived.Deep.CutBlock
import Derived.OwnWalk
import Derived.ScopeJumps
import Derived.WalkMore
set_option linter.unusedVariables false
section
/- Data that came in, opened by their shape. No program in sight. -/
namespace Go.Proofs.Ytpfmadinijofeaa
open Go.RowKit Go.WideShapes Go.ChangeShapes
/-- What a type looks like; a struct's fields one behind the other: offset, cells, shape. -/
inductive Sh where
  | int (k : IntKind)
  | bool
  | str
  | slice (e : Sh) (n : Nat)
  | arr (len : Nat) (e : Sh) (n : Nat)
  | agg (fs : Sh)
  | fnil
  | fcons (off n : Nat) (f r : Sh)
mutual
def fitsB (P : Program) : Sh → TypeId → Bool
  | .int k, t => match P.underlying t with | some (.int k') => k == k' | _ => false
  | .bool, t => match P.underlying t with | some .bool => true | _ => false
  | .str, t => match P.underlying t with | some .string => true | _ => false
  | .slice e n, t => match P.underlying t with | some (.slice et) => P.cellsOf et == n && fitsB P e et | _ => false
  | .arr len e n, t => match P.underlying t with | some (.array l et) => l == len && P.cellsOf et == n && fitsB P e et | _ => false
  | .agg fs, t => match P.underlying t with | some (.struct fl) => fitsF P fs fl 0 | _ => false
  | .fnil, _ => false
  | .fcons _ _ _ _, _ => false
def fitsF (P : Program) : Sh → Array Field → Nat → Bool
  | .fnil, _, _ => true
  | .fcons off n f r, fl, i => (match fl[i]? with | some fd => fd.offset == off && P.cellsOf fd.type == n && fitsB P f fd.type | none => false) && fitsF P r fl (i + 1)
  | _, _, _ => false
end
/-- What the cells of a shape hold, in a world. -/
def Sh.Has (w : World) : Sh → List Value → Prop
  | .int k, cs => ∃ z, cs = [.int k z] ∧ (Lit.int k z).wf = true
  | .bool, cs => ∃ b, cs = [.bool b]
  | .str, cs => ∃ s : ByteArray, cs = [.string s] ∧ s.size ≤ maxLen
  | .slice e n, cs => cs = [.slice none 0 0] ∨ ∃ a len cap, cs = [.slice (some a) len cap] ∧ len ≤ cap ∧ cap ≤ maxLen ∧ ∀ i, i < len → ∃ cs', (cs'.length = n ∧ ∀ j, j < n → w.cell? (a.add (i * n + j)) = cs'[j]?) ∧ e.Has w cs'
  | .arr len e n, cs => ∀ i, i < len → e.Has w ((cs.drop (i * n)).take n)
  | .agg fs, cs => fs.Has w cs
  | .fnil, _ => True
  | .fcons off n f r, cs => f.Has w ((cs.drop off).take n) ∧ r.Has w cs
section
variable {H : Type} {enc : TypeId × Value → H} {P : Program} {W : World}
mutual
theorem has_of (sh : Sh) : ∀ (t : TypeId) (fuel : Nat) (cs : List Value) (x : DataW H × List MemPlace), fitsB P sh t = true → DataW.trod enc P W 0 (fun _ => true) true fuel t cs = some x → sh.Has W cs := by
  intro t fuel cs x hf h
  cases sh with
  | int k =>
    simp only [fitsB] at hf
    split at hf
    · rename_i k' hu
      have : k = k' := eq_of_beq hf
      subst this
      obtain ⟨n, h1, _, h2⟩ := DataW.trod_int hu h
      exact ⟨n, h1, h2⟩
    · cases hf
  | bool =>
    simp only [fitsB] at hf
    split at hf
    · rename_i hu
      obtain ⟨b, h1, _⟩ := DataW.trod_bool hu h
      exact ⟨b, h1⟩
    · cases hf
  | str =>
    simp only [fitsB] at hf
    split at hf
    · rename_i hu
      obtain ⟨s, h1, _, h2⟩ := DataW.trod_string hu h
      exact ⟨s, h1, h2⟩
    · cases hf
  | slice e n =>
    simp only [fitsB] at hf
    split at hf
    · rename_i et hu
      rw [Bool.and_eq_true] at hf
      have hn : P.cellsOf et = n := eq_of_beq hf.1
      rcases Deep.open_slice hu h with ⟨h1, _⟩ | ⟨a, len, cap, m, nf, D, Pl, h1, _, hl, hm, hmm, _, hall⟩
      · exact .inl h1
      · refine .inr ⟨a, len, cap, h1, hl, hm, fun i hi => ?_⟩
        simp only [if_true] at hmm
        obtain ⟨cs', hc, ht⟩ := hall i (by omega)
        rw [hn] at hc
        obtain ⟨_, c1, c2⟩ := World.cells?_some hc
        refine ⟨cs', ⟨c1, fun j hj => ?_⟩, has_of e et _ _ _ hf.2 ht⟩
        rw [← c2 j hj, Addr.add_add]
    · cases hf
  | arr len e n =>
    simp only [fitsB] at hf
    split at hf
    · rename_i l et hu
      rw [Bool.and_eq_true, Bool.and_eq_true] at hf
      have hl : l = len := eq_of_beq hf.1.1
      have hn : P.cellsOf et = n := eq_of_beq hf.1.2
      subst hl
      obtain ⟨xs, m, _, _, _, hxl, hall⟩ := DataW.trod_array hu h
      intro i hi
      have := hall i hi
      rw [hn] at this
      rw [List.getElem?_eq_getElem (by omega)] at this
      exact has_of e et _ _ _ hf.2 this
    · cases hf
  | agg fs =>
    simp only [fitsB] at hf
    split at hf
    · rename_i fl hu
      obtain ⟨xs, n, _, _, _, hxl, hall⟩ := DataW.trod_struct hu h
      exact hasF_of fs fl 0 n cs xs hf hxl hall
    · cases hf
  | fnil => simp [fitsB] at hf
  | fcons off n f r => simp [fitsB] at hf
theorem hasF_of (sh : Sh) : ∀ (fl : Array Field) (i n : Nat) (cs : List Value) (xs : List (DataW H × List MemPlace)), fitsF P sh fl i = true → xs.length = fl.size →
    (∀ (i : Nat) (f : Field), fl[i]? = some f → DataW.trod enc P W 0 (fun _ => true) true n f.type ((cs.drop f.offset).take (P.cellsOf f.type)) = xs[i]?) → sh.Has W cs := by
  intro fl i n cs xs hf hl hall
  cases sh with
  | fnil => trivial
  | fcons off m f r =>
    simp only [fitsF, Bool.and_eq_true] at hf
    obtain ⟨h1, h2⟩ := hf
    refine ⟨?_, hasF_of r fl (i + 1) n cs xs h2 hl hall⟩
    split at h1
    · rename_i fd hfd
      rw [Bool.and_eq_true, Bool.and_eq_true] at h1
      have ho : fd.offset = off := eq_of_beq h1.1.1
      have hm : P.cellsOf fd.type = m := eq_of_beq h1.1.2
      have ht := hall i fd hfd
      have hi : i < xs.length := by rw [hl]; exact (Array.getElem?_eq_some_iff.1 hfd).1
      rw [List.getElem?_eq_getElem hi, ho, hm] at ht
      exact has_of f fd.type _ _ _ h1.2 ht
    · cases h1
  | int k => simp [fitsF] at hf
  | bool => simp [fitsF] at hf
  | str => simp [fitsF] at hf
  | slice e n => simp [fitsF] at hf
  | arr l e n => simp [fitsF] at hf
  | agg fs => simp [fitsF] at hf
end
theorem open_sh {sh : Sh} {t : TypeId} {v : Value} {d : DataW H} {p : List MemPlace} (hf : fitsB P sh t = true) (h : DataW.Trod enc P W 0 (fun _ => true) true t v d p) : sh.Has W v.cells.toList := by
  obtain ⟨fuel, hf'⟩ := h
  exact has_of sh t fuel _ _ hf hf'
end
theorem exists_list {α : Type} {p : Nat → α → Prop} : ∀ (n : Nat), (∀ i, i < n → ∃ x, p i x) → ∃ l : List α, l.length = n ∧ ∀ i x, l[i]? = some x → p i x := by
  intro n
  induction n with
  | zero => intro _; exact ⟨[], rfl, fun i x h => by cases h⟩
  | succ n ih =>
    intro h
    obtain ⟨l, hl, hp⟩ := ih fun i hi => h i (by omega)
    obtain ⟨x, hx⟩ := h n (by omega)
    refine ⟨l ++ [x], by simp [hl], fun i y hy => ?_⟩
    by_cases hi : i < l.length
    · rw [List.getElem?_append_left hi] at hy; exact hp i y hy
    · rw [List.getElem?_append_right (by omega)] at hy
      have h0 : i - l.length = 0 := by
        have := (List.getElem?_eq_some_iff.1 hy).1; simp at this; omega
      rw [h0] at hy
      simp at hy
      subst hy
      rw [show i = n by omega]; exact hx
/-- Where a slice's elements lie. -/
theorem slice_addr {w : World} {a : Addr} {v : Value} (h : w.cell? (a.add 0) = some v) : a = ⟨a.block, a.off, none⟩ := addr_plain h
def shBytes : Sh := .slice (.int .u8) 1
theorem has_bytes {w : World} {cs : List Value} (h : shBytes.Has w cs) : ∃ (bs : List UInt8) (a : Option Addr) (c : Nat), cs = [.slice a bs.length c] ∧ bs.length ≤ c ∧ c ≤ maxLen ∧ RowAt w a (bs.map bV) := by
  rcases h with rfl | ⟨a, len, cap, rfl, hl, hm, hall⟩
  · exact ⟨[], none, 0, rfl, Nat.le_refl _, by decide, .inl rfl⟩
  · obtain ⟨zs, hz, hp⟩ := exists_list (p := fun i z => w.cell? (a.add i) = some (.int .u8 z) ∧ (Lit.int .u8 z).wf = true) len (fun i hi => by
      obtain ⟨cs', ⟨h1, h2⟩, z, rfl, hw⟩ := hall i hi
      have := h2 0 (by omega)
      simp at this
      exact ⟨z, this, hw⟩)
    obtain ⟨h1, h2⟩ := row_of_cells (W := w) (a := a) (zs := zs) (len := len) (by omega) (fun i hi => by
      have := (hp i zs[i] (List.getElem?_eq_getElem hi)).1
      rw [this]; congr 2; simp [List.getD, List.getElem?_eq_getElem hi]) (fun n hn => by
      obtain ⟨i, hi⟩ := List.getElem?_of_mem hn
      exact (hp i n hi).2)
    exact ⟨ofI (zs.take len), some a, cap, by rw [h1], by rw [h1]; exact hl, hm, h2⟩
theorem has_int {w : World} {k : IntKind} {cs : List Value} (h : (Sh.int k).Has w cs) : ∃ z, cs = [.int k z] ∧ (Lit.int k z).wf = true := h
end Go.Proofs.Ytpfmadinijofeaa
end
section
/- Small words for using printed conditions. No program in sight. -/
namespace Go.Proofs.Ytpfmadinijofeaa
open Go.RowKit
theorem keepG_nil (w w1 : World) : KeepG [] w w1 := fun _ g hg => by cases hg
theorem keepG_below {gs : List Nat} {w w1 : World} (h : Below w.heap.size w w1) : KeepG gs w w1 := fun hu g hg => h.block g (hu g hg)
theorem keepG_fr {gs L : List Nat} {w w1 : World} (h : Fr L w w1) (ha : ∀ g ∈ gs, g ∉ L) : KeepG gs w w1 := fun hu g hg => h.block g (hu g hg) (ha g hg)
/-- A call whose contract tells one value. -/
theorem wr64 {z : Int} (h1 : -9223372036854775808 ≤ z) (h2 : z ≤ 9223372036854775807) : IntKind.i64.wrap z = z := IntWalk.i64_in z ⟨h1, h2⟩
theorem wru64 {z : Int} (h1 : 0 ≤ z) (h2 : z ≤ 18446744073709551615) : IntKind.u64.wrap z = z := by rw [IntKind.wrap_u64]; omega
theorem wru8 {z : Int} (h1 : 0 ≤ z) (h2 : z ≤ 255) : IntKind.u8.wrap z = z := by rw [IntKind.wrap_u8]; omega
theorem u64_mod (z : Int) (k : Nat) (hk : 0 < k) : ∃ m : Nat, m < k ∧ Int.tmod (IntKind.u64.wrap z) (k : Int) = (m : Int) := by
  have h0 : 0 ≤ IntKind.u64.wrap z := by rw [IntKind.wrap_u64]; omega
  have h1 := Int.emod_nonneg (IntKind.u64.wrap z) (show (k : Int) ≠ 0 by omega)
  have h2 := Int.emod_lt_of_pos (IntKind.u64.wrap z) (show (0 : Int) < (k : Int) by omega)
  exact ⟨(IntKind.u64.wrap z % (k : Int)).toNat, by omega, by rw [Int.tmod_eq_emod_of_nonneg h0]; omega⟩
theorem br_t {b : Bool} {A B : Prop} (hb : b = true) (h : A) : br b A B := by rw [br_true hb]; exact h
theorem br_f {b : Bool} {A B : Prop} (hb : b = false) (h : B) : br b A B := by rw [br_false hb]; exact h
theorem br_y {p : Prop} [Decidable p] {A B : Prop} (hp : p) (h : A) : br (decide p) A B := br_t (decide_eq_true hp) h
theorem br_n {p : Prop} [Decidable p] {A B : Prop} (hp : ¬ p) (h : B) : br (decide p) A B := br_f (decide_eq_false hp) h
theorem br_not {b : Bool} {A B : Prop} (h : br b B A) : br (!b) A B := by cases b <;> exact h
/-- A new block. -/
theorem newO_mk {w : World} {o : Obj} {K : Nat → World → Prop} (h : K w.heap.size (w.alloc o)) : newO w o K := by rintro g w1 rfl rfl; exact h
theorem newO_in {w : World} {o : Obj} {K : Nat → World → Prop} (h : ∀ w1, w1.heap[w.heap.size]? = some o → Below w.heap.size w w1 → w1.heap.size = w.heap.size + 1 → K w.heap.size w1) : newO w o K := by
  rintro g w1 rfl rfl; exact h _ (al_new rfl) (Below_one o) (by simp)
theorem drewO_in {w : World} {K : World → Prop} (h : ∀ w1, Below w.heap.size w w1 → w1.heap = w.heap → K w1) : drewO w K := fun w1 h1 h2 => h w1 h2 h1
theorem cellsAt_row {w : World} {g : Nat} {cs : Array Value} {t : TypeId} {fr : Nat × Nat} (h : w.heap[g]? = some (.cells cs t fr)) {off : Nat} {vs : List Value} (hv : (cs.toList.drop off).take vs.length = vs) : cellsAt w g off vs :=
  cellsAt_of fun j v hj => by
    rw [cell_of_row _ _ _ _ _ _ h]
    rw [← hv, List.getElem?_take] at hj
    split at hj
    · rw [List.getElem?_drop] at hj; simpa using hj
    · cases hj
theorem row_of_block {w : World} {g : Nat} {bs : List UInt8} {t : TypeId} {fr : Nat × Nat} (h : w.heap[g]? = some (.cells (bs.map bV).toArray t fr)) : RowAt w (some ⟨g, 0, none⟩) (bs.map bV) := RowAt.ofWhole h
/-- A block's cells, as what is appended. -/
theorem src_block {P : Program} {W : World} {tx e' : TypeId} (hk : P.underlying tx = some (.slice e')) {g n c size : Nat} {cs : List Value} {t : TypeId} {fr : Nat × Nat} (h : W.heap[g]? = some (.cells cs.toArray t fr)) (hl : cs.length = n * size) (h1 : allOne cs = true) :
    Src P size tx (.slice (some ⟨g, 0, none⟩) n c) n cs W :=
  Src.ofSlice _ hk _ n c _ hl (fun j u hj => by
    rw [Addr.add_lit, Nat.zero_add, cell_of_row _ _ _ _ _ _ h]
    simpa using hj) (allOne_spec h1)
theorem own_cell {w : World} {b : Nat} {e : TypeId} {a : Option Addr} {n c : Nat} {xs : List Value} (h : Own w b e 1 (.slice a n c) n xs) {i : Nat} {v : Value} (hi : xs[i]? = some v) : ∃ g off, a = some ⟨g, off, none⟩ ∧ w.cell? ⟨g, off + i * 1, none⟩ = some v := by
  have hlt : i < xs.length := (List.getElem?_eq_some_iff.1 hi).1
  have hl := h.1
  rcases h.2 with ⟨h0, h1⟩ | ⟨g, off, cap, cur, hv, _⟩
  · omega
  · injection hv with h1 h2 h3
    subst h1
    exact ⟨g, off, rfl, by rw [Nat.mul_one]; exact h.cells g off _ rfl i v hi⟩
theorem Bk.there {w : World} {g : Nat} {cs : Array Value} {t : TypeId} (h : Bk w g cs t) {i n : Nat} (hi : i + n ≤ cs.size) : w.there g i n := fun j hj => by
  refine ⟨?_, h.frozen _⟩
  rw [h.cell]
  rw [Array.getElem?_eq_getElem (by omega)]
  rfl
theorem stO_bk {gs : List Nat} {w : World} {g i : Nat} {cs : Array Value} {t : TypeId} {v : Value} {K : World → Prop} (h : Bk w g cs t) (hi : i < cs.size) (hg : ∀ x ∈ gs, x ≠ g) (hk : ∀ w1, Bk w1 g (cs.setIfInBounds i v) t → Fr [g] w w1 → w1.heap.size = w.heap.size → K w1) : stO gs w g i [v] K :=
  ⟨hg, h.there (by simp; omega), fun w1 e => by
    subst e
    exact hk _ (h.setCell i v) ((Fr.refl [g] w).setCell (p := ⟨g, i, none⟩) (.inl (by simp)) v) (by simp [World.setCells, World.setCell])⟩
theorem stO_set {gs : List Nat} {w : World} {g i : Nat} {cs : Array Value} {t : TypeId} {v : Value} {K : World → Prop} (h : Bk w g cs t) (hi : i < cs.size) (hg : ∀ x ∈ gs, x ≠ g) (hk : K (w.setCell ⟨g, i, none⟩ v)) : stO gs w g i [v] K :=
  ⟨hg, h.there (by simp; omega), fun w1 e => by subst e; exact hk⟩
theorem sliceBase_cell {w : World} {b off c l s j : Nat} {v : Value} (hlt : l ≠ c) (h : w.cell? ⟨b, off + l * s + j, none⟩ = some v) : ∃ b' off', sliceBase (some ⟨b, off, none⟩) c l s = some ⟨b', off', none⟩ ∧ w.cell? ⟨b', off' + j, none⟩ = some v := by
  refine ⟨b, off + l * s, ?_, h⟩
  unfold sliceBase
  rw [if_neg (fun e => hlt e.symm)]
  simp [Addr.add_lit]
theorem own_empty {w : World} {g : Nat} {e : TypeId} (s : Nat) (h : w.heap[g]? = some (.cells #[] e (0, 0))) : Own w 0 e s (.slice (some ⟨g, 0, none⟩) 0 0) 0 [] :=
  ⟨by simp, .inr ⟨g, 0, 0, #[], rfl, Nat.zero_le _, h, Nat.le_refl _, Nat.zero_le _, by simp, by simp⟩⟩
theorem Own.store {w : World} {b : Nat} {e : TypeId} {a : Option Addr} {n c : Nat} {xs : List Value} (h : Own w b e 1 (.slice a n c) n xs) {i : Nat} (hi : i < n) {gs : List Nat} {v : Value} {K : World → Prop} (hgs : ∀ k, (Value.slice a n c).ownBlock = some k → ∀ x ∈ gs, x ≠ k)
    (hk : ∀ w1, Own w1 b e 1 (.slice a n c) n (xs.set i v) → Fr (Value.slice a n c).ownBlock.toList w w1 → w1.heap.size = w.heap.size → K w1) : ∃ g off, a = some ⟨g, off, none⟩ ∧ stO gs w g (off + i * 1) [v] K := by
  rcases h.2 with ⟨h0, h1⟩ | ⟨g, off, cap, cur, hv, hb, hg, hn, hm, hs, ht⟩
  · omega
  · injection hv with h1 h2 h3
    subst h1; subst h3
    have hB : Bk w g cur e := hg
    refine ⟨g, off, rfl, ?_⟩
    rw [Nat.mul_one]
    refine stO_bk hB (by omega) (fun x hx => hgs g rfl x hx) fun w1 hb1 hf hsz => ?_
    refine hk w1 ⟨by rw [List.length_set]; exact h.1, .inr ⟨g, off, c, _, rfl, hb, hb1, hn, hm, by simpa using hs, ?_⟩⟩ hf hsz
    rw [← ht, Array.toList_setIfInBounds, List.drop_set]
    rw [if_neg (by omega), show off + i - off = i by omega, List.take_set]
theorem Own.storeAt {w : World} {b : Nat} {e : TypeId} {g off n c : Nat} {xs : List Value} (h : Own w b e 1 (.slice (some ⟨g, off, none⟩) n c) n xs) {i : Nat} (hi : i < n) {gs : List Nat} {v : Value} {K : World → Prop} (hgs : ∀ x ∈ gs, x ≠ g)
    (hk : ∀ w1, Own w1 b e 1 (.slice (some ⟨g, off, none⟩) n c) n (xs.set i v) → Fr [g] w w1 → w1.heap.size = w.heap.size → K w1) : stO gs w g (off + i * 1) [v] K := by
  obtain ⟨g', off', he, hst⟩ := Own.store (K := K) (v := v) h hi (fun k hk x hx => by injection hk with hk; subst hk; exact hgs x hx) hk
  injection he with he
  injection he with e1 e2
  subst e1; subst e2
  exact hst
/-- One byte more or other. -/
theorem bits_byte (op : BinOp) (x y : Int) : ∃ b : UInt8, bitsV op .u8 x y = (b.toNat : Int) := by
  have key : ∀ z : Int, ∃ b : UInt8, IntKind.u8.wrap z = (b.toNat : Int) := fun z => by
    have h : 0 ≤ IntKind.u8.wrap z ∧ IntKind.u8.wrap z < 256 := by rw [IntKind.wrap_u8]; omega
    refine ⟨UInt8.ofNat (IntKind.u8.wrap z).toNat, ?_⟩
    rw [show (UInt8.ofNat (IntKind.u8.wrap z).toNat).toNat = (IntKind.u8.wrap z).toNat % 256 from rfl, Nat.mod_eq_of_lt (by omega)]
    omega
  unfold bitsV
  cases op <;> exact key _
theorem strOf_cat (xs ys : List UInt8) : strOf xs ++ strOf ys = strOf (xs ++ ys) := by
  apply ByteArray.ext
  simp [strOf, ByteArray.data_append]
theorem strOf_extract (xs : List UInt8) (i j : Nat) : (strOf xs).extract i j = strOf ((xs.drop i).take (j - i)) := by
  apply ByteArray.ext
  simp [strOf, ByteArray.data_extract, List.take_drop]
theorem byteAt_strOf (xs : List UInt8) (i : Nat) : byteAt (strOf xs) (i : Int) = ((xs.getD i 0).toNat : Int) := by unfold byteAt; rw [strOf_list]; rfl
end Go.Proofs.Ytpfmadinijofeaa
end
section
/- Slices of structs that came in: their elements, one behind the other. No program in sight. -/
namespace Go.Proofs.Ytpfmadinijofeaa
open Go.RowKit Go.WideShapes Go.ChangeShapes
/-- Elements of n cells each, of which R tells where they lie. -/
def RowsAt {α : Type} (R : World → Nat → Nat → α → Prop) (n : Nat) (w : World) (a : Option Addr) (xs : List α) : Prop := xs = [] ∨ ∃ b off, a = some ⟨b, off, none⟩ ∧ ∀ i x, xs[i]? = some x → R w b (off + i * n) x
theorem RowsAt.mono {α : Type} {R : World → Nat → Nat → α → Prop} {n : Nat} {w w' : World} {a : Option Addr} {xs : List α} (h : RowsAt R n w a xs) (hm : ∀ b off x, R w b off x → R w' b off x) : RowsAt R n w' a xs := by
  rcases h with h | ⟨b, off, ha, h⟩
  · exact .inl h
  · exact .inr ⟨b, off, ha, fun i x hx => hm _ _ _ (h i x hx)⟩
theorem RowsAt.get {α : Type} {R : World → Nat → Nat → α → Prop} {n : Nat} {w : World} {a : Option Addr} {xs : List α} (h : RowsAt R n w a xs) {i : Nat} (hi : i < xs.length) : ∃ b off, a = some ⟨b, off, none⟩ ∧ R w b (off + i * n) xs[i] := by
  rcases h with rfl | ⟨b, off, ha, h⟩
  · simp at hi
  · exact ⟨b, off, ha, h i _ (List.getElem?_eq_getElem hi)⟩
theorem has_rows {α : Type} {e : Sh} {n : Nat} (hn : 0 < n) {R : World → Nat → Nat → α → Prop} {w : World} (elem : ∀ (cs' : List Value) (b off : Nat), cs'.length = n → cellsAt w b off cs' → e.Has w cs' → ∃ x, R w b off x) {cs : List Value} (h : (Sh.slice e n).Has w cs) :
    ∃ (xs : List α) (a : Option Addr) (c : Nat), cs = [.slice a xs.length c] ∧ xs.length ≤ c ∧ c ≤ maxLen ∧ RowsAt R n w a xs := by
  rcases h with rfl | ⟨a, len, cap, rfl, hl, hm, hall⟩
  · exact ⟨[], none, 0, rfl, Nat.le_refl _, by decide, .inl rfl⟩
  · obtain ⟨xs, hz, hp⟩ := exists_list (p := fun i (x : α) => R w a.block (a.off + i * n) x ∧ a = ⟨a.block, a.off, none⟩) len (fun i hi => by
      obtain ⟨cs0, ⟨h01, h02⟩, _⟩ := hall 0 (by omega)
      have ha : a = ⟨a.block, a.off, none⟩ := by
        have := h02 0 (by omega)
        rw [List.getElem?_eq_getElem (by omega)] at this
        simp only [Nat.zero_mul, Nat.zero_add] at this
        exact addr_plain this
      obtain ⟨cs', ⟨h1, h2⟩, h3⟩ := hall i hi
      obtain ⟨x, hx⟩ := elem cs' a.block (a.off + i * n) h1 (cellsAt_of fun j v hj => by
        have hjn : j < n := by have := (List.getElem?_eq_some_iff.1 hj).1; omega
        have := h2 j hjn
        rw [ha, Addr.add_lit, ← Nat.add_assoc, hj] at this
        exact this) h3
      exact ⟨x, hx, ha⟩)
    refine ⟨xs, some a, cap, by rw [hz], by omega, hm, ?_⟩
    by_cases h0 : xs = []
    · exact .inl h0
    · have h1 : 0 < xs.length := List.length_pos_iff.2 h0
      have ha := (hp 0 _ (List.getElem?_eq_getElem h1)).2
      exact .inr ⟨a.block, a.off, by rw [← ha], fun i p hi => (hp i p hi).1⟩
theorem cellsAt_below {w w' : World} {b off : Nat} {vs : List Value} (h : cellsAt w b off vs) {B : Nat} (hb : Below B w w') (hB : w.heap.size ≤ B) : cellsAt w' b off vs :=
  cellsAt_of fun j v hj => by
    have h1 := cellsAt_get h j v hj
    exact (hb.cell (p := ⟨b, off + j, none⟩) (Nat.lt_of_lt_of_le (block_lt_of_cell h1) hB)).trans h1
theorem open_rows {P : Program} {α : Type} {e : Sh} {n : Nat} {R : World → Nat → Nat → α → Prop} {H : Type} {enc : TypeId × Value → H} {W : World} {t : TypeId} {v : Value} {d : DataW H} {p : List MemPlace} (hn : 0 < n) (elem : ∀ (cs' : List Value) (b off : Nat), cs'.length = n → cellsAt W b off cs' → e.Has W cs' → ∃ x, R W b off x)
    (hf : fitsB P (.slice e n) t = true) (hv : ∃ a l c, v = .slice a l c) (h : DataW.Trod enc P W 0 (fun _ => true) true t v d p) : ∃ (xs : List α) (a : Option Addr) (c : Nat), v = .slice a xs.length c ∧ RowsAt R n W a xs ∧ xs.length ≤ c ∧ c ≤ maxLen := by
  obtain ⟨a, l, c, rfl⟩ := hv
  obtain ⟨xs, a', c', h1, h2, h3, h4⟩ := has_rows hn elem (open_sh hf h)
  simp [Value.cells] at h1
  obtain ⟨rfl, rfl, rfl⟩ := h1
  exact ⟨xs, a, c, rfl, h4, h2, h3⟩
end Go.Proofs.Ytpfmadinijofeaa
end
section
/- An object with a list of its own: each element so many cells, what an element refers to in blocks that the object owns. No program in sight. -/
namespace Go.Proofs.Ytpfmadinijofeaa
open Go.RowKit
theorem cell_keep {w w' : World} {b : Nat} (hk : w'.heap[b]? = w.heap[b]?) (o : Nat) : w'.cell? ⟨b, o, none⟩ = w.cell? ⟨b, o, none⟩ := by unfold World.cell?; simp only [hk]
theorem cellsAt_keep {w w' : World} {b : Nat} (hk : w'.heap[b]? = w.heap[b]?) : ∀ {vs : List Value} {off : Nat}, cellsAt w b off vs → cellsAt w' b off vs
  | [], _, _ => trivial
  | _ :: _, _, h => ⟨(cell_keep hk _).trans h.1, cellsAt_keep hk h.2⟩
theorem cellsAt_list {w : World} {b : Nat} : ∀ {vs : List Value} {off : Nat}, (∀ j v, vs[j]? = some v → w.cell? ⟨b, off + j, none⟩ = some v) → cellsAt w b off vs
  | [], _, _ => trivial
  | v :: r, off, h => ⟨by simpa using h 0 v rfl, cellsAt_list fun j u hu => by have := h (j + 1) u (by simpa using hu); rwa [show off + (j + 1) = off + 1 + j by omega] at this⟩
structure RStable {α : Type} (R : World → List Nat → α → List Value → Prop) (k : Nat) : Prop where
  len : ∀ {w : World} {M : List Nat} {e : α} {cs : List Value}, R w M e cs → cs.length = k
  keep : ∀ {w w' : World} {M : List Nat} {e : α} {cs : List Value}, R w M e cs → (∀ b ∈ M, w'.heap[b]? = w.heap[b]?) → R w' M e cs
  mono : ∀ {w : World} {M K : List Nat} {e : α} {cs : List Value}, R w M e cs → (∀ b ∈ M, b ∈ K) → R w K e cs
def ElsOk {α : Type} (R : World → List Nat → α → List Value → Prop) (k : Nat) (w : World) (M : List Nat) (es : List α) (xs : List Value) : Prop :=
  xs.length = es.length * k ∧ ∀ (i : Nat) (e : α), es[i]? = some e → R w M e ((xs.drop (i * k)).take k)
section
variable {α : Type} {R : World → List Nat → α → List Value → Prop} {k : Nat} {w w' : World} {M K : List Nat} {es : List α} {xs : List Value}
theorem ElsOk.nil : ElsOk R k w M [] [] := ⟨by simp, fun i e h => by cases h⟩
theorem ElsOk.keep (hR : RStable R k) (h : ElsOk R k w M es xs) (hk : ∀ b ∈ M, w'.heap[b]? = w.heap[b]?) : ElsOk R k w' M es xs := ⟨h.1, fun i e he => hR.keep (h.2 i e he) hk⟩
theorem ElsOk.mono (hR : RStable R k) (h : ElsOk R k w M es xs) (hs : ∀ b ∈ M, b ∈ K) : ElsOk R k w K es xs := ⟨h.1, fun i e he => hR.mono (h.2 i e he) hs⟩
theorem ElsOk.app (hR : RStable R k) (h : ElsOk R k w M es xs) {e : α} {cs : List Value} (he : R w M e cs) : ElsOk R k w M (es ++ [e]) (xs ++ cs) := by
  have hc := hR.len he
  refine ⟨by rw [List.length_append, List.length_append, h.1, hc, List.length_singleton, Nat.add_mul, Nat.one_mul], fun i x hx => ?_⟩
  by_cases hi : i < es.length
  · rw [List.getElem?_append_left hi] at hx
    have := h.2 i x hx
    have hm : i * k + k ≤ xs.length := by
      rw [h.1]
      have := Nat.mul_le_mul_right k (show i + 1 ≤ es.length from hi)
      rw [Nat.add_mul, Nat.one_mul] at this
      exact this
    rwa [List.drop_append_of_le_length (by omega), List.take_append_of_le_length (by rw [List.length_drop]; omega)]
  · have hlt := (List.getElem?_eq_some_iff.1 hx).1
    rw [List.length_append, List.length_singleton] at hlt
    obtain rfl : i = es.length := by omega
    rw [List.getElem?_append_right (Nat.le_refl _), Nat.sub_self] at hx
    injection hx with hx; subst hx
    rw [← h.1, List.drop_left, List.take_of_length_le (by omega)]
    exact he
theorem ElsOk.erase (h : ElsOk R k w M es xs) {i : Nat} (hi : i < es.length) : ElsOk R k w M (es.eraseIdx i) (xs.take (i * k) ++ xs.drop ((i + 1) * k)) := by
  have e1 : (i + 1) * k = i * k + k := by rw [Nat.add_mul, Nat.one_mul]
  have e2 : (es.length - 1) * k + k = es.length * k := by
    rw [← Nat.add_one_mul]; congr 1; omega
  have hm : i * k + k ≤ xs.length := by
    rw [h.1]
    have := Nat.mul_le_mul_right k (show i + 1 ≤ es.length from hi)
    omega
  have hxl := h.1
  refine ⟨by rw [List.length_append, List.length_take, List.length_drop, List.length_eraseIdx_of_lt hi]; omega, fun j x hx => ?_⟩
  rw [List.getElem?_eraseIdx] at hx
  split at hx
  · rename_i hj
    have := h.2 j x hx
    have hjk : j * k + k ≤ i * k := by
      have := Nat.mul_le_mul_right k (show j + 1 ≤ i from hj)
      rw [Nat.add_mul, Nat.one_mul] at this; exact this
    rw [List.drop_append_of_le_length (by rw [List.length_take]; omega), List.take_append_of_le_length (by rw [List.length_drop, List.length_take]; omega), List.drop_take, List.take_take]
    rwa [Nat.min_eq_left (by omega)]
  · rename_i hj
    have := h.2 (j + 1) x hx
    have hjk : i * k ≤ j * k := Nat.mul_le_mul_right k (by omega)
    have e3 : (j + 1) * k = j * k + k := by rw [Nat.add_mul, Nat.one_mul]
    have hlt : (xs.take (i * k)).length = i * k := by rw [List.length_take]; omega
    rw [List.drop_append, hlt, List.drop_eq_nil_of_le (by omega), List.nil_append, List.drop_drop]
    rwa [show (i + 1) * k + (j * k - i * k) = (j + 1) * k by omega]
theorem ElsOk.cells (hR : RStable R k) (h : ElsOk R k w M es xs) {te : TypeId} {b0 c : Nat} {a : Option Addr} (hO : Own w b0 te k (.slice a es.length c) es.length xs) {i : Nat} {e : α} (he : es[i]? = some e) :
    ∃ cs, R w M e cs ∧ ∃ b off, a = some ⟨b, off, none⟩ ∧ (b0 ≤ b ∧ b < w.heap.size) ∧ cellsAt w b (off + i * k) cs := by
  have hr := h.2 i e he
  refine ⟨_, hr, ?_⟩
  have hlt := (List.getElem?_eq_some_iff.1 he).1
  rcases hO.2 with ⟨_, h0⟩ | ⟨g, off, cap, cur, hv, hb, hg, _⟩
  · omega
  · injection hv with q1 q2 q3
    subst q1
    refine ⟨g, off, rfl, ⟨hb, heap_lt hg⟩, cellsAt_list fun j v hv => ?_⟩
    rw [List.getElem?_take] at hv
    split at hv
    · rw [List.getElem?_drop] at hv
      rw [Nat.add_assoc]
      exact hO.cells g off c rfl _ v hv
    · cases hv
/-- The object under way: what it owns lies in L, or is new. -/
structure LRaw (R : World → List Nat → α → List Value → Prop) (k : Nat) (te tp : TypeId) (w : World) (L : List Nat) (n0 p : Nat) (f : Value → Array Value) (es : List α) (kv : Value) (xs : List Value) (M : List Nat) : Prop where
  bk : Bk w p (f kv) tp
  own : Own w 0 te k kv es.length xs
  els : ElsOk R k w M es xs
  far : ∀ b ∈ M, (b ∈ L ∨ n0 ≤ b) ∧ b ≠ p ∧ kv.ownBlock ≠ some b
  mine : ∀ b, kv.ownBlock = some b → b ∈ L ∨ n0 ≤ b
  under : Under M w.heap.size
variable {te tp : TypeId} {L : List Nat} {n0 p : Nat} {f : Value → Array Value} {kv : Value}
theorem own_apart {g : Nat} {cs : Array Value} {t e : TypeId} {size n b0 : Nat} {v : Value} {xs : List Value} (h1 : Bk w g cs t) (h2 : Own w b0 e size v n xs) (hne : t ≠ e) : v.ownBlock ≠ some g := by
  intro h
  rcases h2.2 with ⟨rfl, _⟩ | ⟨g', off, cap, cur, rfl, hb, hg, _⟩
  · cases h
  · simp [Value.ownBlock] at h
    subst h
    unfold Bk at h1
    rw [h1] at hg
    injection hg with hg
    injection hg with h3 h4 h5
    exact hne h4
theorem LRaw.keep (hR : RStable R k) (h : LRaw R k te tp w L n0 p f es kv xs M) (hk : ∀ b, (b = p ∨ kv.ownBlock = some b ∨ b ∈ M) → w'.heap[b]? = w.heap[b]?) (hs : w.heap.size ≤ w'.heap.size) : LRaw R k te tp w' L n0 p f es kv xs M :=
  ⟨h.bk.keep (hk p (.inl rfl)), h.own.keep fun b hb => hk b (.inr (.inl hb)), h.els.keep hR fun b hb => hk b (.inr (.inr hb)), h.far, h.mine, h.under.mono hs⟩
theorem LRaw.lt (h : LRaw R k te tp w L n0 p f es kv xs M) {b : Nat} (hb : b = p ∨ kv.ownBlock = some b ∨ b ∈ M) : b < w.heap.size := by
  rcases hb with rfl | hb | hb
  · exact h.bk.lt
  · exact (h.own.lt b hb).2
  · exact h.under b hb
theorem LRaw.below (hR : RStable R k) (h : LRaw R k te tp w L n0 p f es kv xs M) (hb : Below w.heap.size w w') : LRaw R k te tp w' L n0 p f es kv xs M := h.keep hR (fun b hb' => hb.block b (h.lt hb')) hb.size
theorem LRaw.more (hR : RStable R k) (h : LRaw R k te tp w L n0 p f es kv xs M) (B : List Nat) (hB : ∀ b ∈ B, (b ∈ L ∨ n0 ≤ b) ∧ b < w.heap.size ∧ b ≠ p ∧ kv.ownBlock ≠ some b) : LRaw R k te tp w L n0 p f es kv xs (M ++ B) :=
  ⟨h.bk, h.own, h.els.mono hR fun _ hk => List.mem_append_left _ hk, fun b hb => (List.mem_append.1 hb).elim (h.far b) fun hb => ⟨(hB b hb).1, (hB b hb).2.2⟩, h.mine, fun b hb => (List.mem_append.1 hb).elim (h.under b) fun hb => (hB b hb).2.1⟩
theorem LRaw.wider (h : LRaw R k te tp w L n0 p f es kv xs M) (hs : ∀ b ∈ L, b ∈ K) : LRaw R k te tp w K n0 p f es kv xs M :=
  ⟨h.bk, h.own, h.els, fun b hb => ⟨(h.far b hb).1.imp (hs b) id, (h.far b hb).2⟩, fun b hb => (h.mine b hb).imp (hs b) id, h.under⟩
/-- The list has turned, and is stored: appended to, cut, or new. -/
theorem LRaw.turn (hR : RStable R k) (hne : tp ≠ te) (h : LRaw R k te tp w L n0 p f es kv xs M) (hn : n0 ≤ w.heap.size) {es' : List α} {xs' : List Value} (he : ElsOk R k w M es' xs') {v1 : Value} (ho : Own w' 0 te k v1 es'.length xs') (hp : w'.heap[p]? = w.heap[p]?) (hM : ∀ b ∈ M, w'.heap[b]? = w.heap[b]?) (hs : w.heap.size ≤ w'.heap.size)
    (hn1 : v1.ownBlock = kv.ownBlock ∨ ∃ g, v1.ownBlock = some g ∧ w.heap.size ≤ g) {j : Nat} (hj : (f kv).setIfInBounds j v1 = f v1) : LRaw R k te tp (w'.setCell ⟨p, j, none⟩ v1) L n0 p f es' v1 xs' M := by
  have b1 := h.bk.keep hp
  have hk1 : ∀ b, b ≠ p → (w'.setCell ⟨p, j, none⟩ v1).heap[b]? = w'.heap[b]? := fun b hb => Below.heap_setCell _ _ _ _ hb
  have hfar : ∀ b ∈ M, v1.ownBlock ≠ some b := fun b hb e => by
    rcases hn1 with h1 | ⟨g, h1, hg1⟩
    · exact (h.far b hb).2.2 (h1 ▸ e)
    · rw [h1] at e; injection e with e; have := h.under b hb; omega
  refine ⟨hj ▸ b1.setCell j v1, ho.keep fun b hb => hk1 b fun e2 => own_apart b1 ho hne (e2 ▸ hb), (he.keep hR hM).keep hR fun b hb => hk1 b (h.far b hb).2.1, fun b hb => ⟨(h.far b hb).1, (h.far b hb).2.1, hfar b hb⟩, fun b hb => ?_, (h.under.mono hs).mono (by simp)⟩
  rcases hn1 with h1 | ⟨g, h1, hg1⟩
  · exact h.mine b (h1 ▸ hb)
  · rw [h1] at hb; injection hb with hb; exact .inr (by omega)
/-- Another cell of the object is stored. -/
theorem LRaw.cell (hR : RStable R k) (hne : tp ≠ te) (h : LRaw R k te tp w L n0 p f es kv xs M) {j : Nat} {v : Value} {f' : Value → Array Value} (hj : (f kv).setIfInBounds j v = f' kv) : LRaw R k te tp (w.setCell ⟨p, j, none⟩ v) L n0 p f' es kv xs M := by
  have hk1 : ∀ b, b ≠ p → (w.setCell ⟨p, j, none⟩ v).heap[b]? = w.heap[b]? := fun b hb => Below.heap_setCell _ _ _ _ hb
  exact ⟨hj ▸ h.bk.setCell j v, h.own.keep fun b hb => hk1 b fun e2 => own_apart h.bk h.own hne (e2 ▸ hb), h.els.keep hR fun b hb => hk1 b (h.far b hb).2.1, h.far, h.mine, h.under.mono (by simp)⟩
/-- The object, with all that it owns. -/
structure LAt (R : World → List Nat → α → List Value → Prop) (k : Nat) (te tp : TypeId) (w : World) (L : List Nat) (p : Nat) (f : Value → Array Value) (es : List α) : Prop where
  ex : ∃ kv xs M, Bk w p (f kv) tp ∧ Own w 0 te k kv es.length xs ∧ ElsOk R k w M es xs ∧ (∀ b ∈ M, b ∈ L ∧ b ≠ p ∧ kv.ownBlock ≠ some b) ∧ ∀ b, kv.ownBlock = some b → b ∈ L
  mem : p ∈ L
  under : Under L w.heap.size
theorem LAt.raw (h : LAt R k te tp w L p f es) (n0 : Nat) : ∃ kv xs M, LRaw R k te tp w L n0 p f es kv xs M := by
  obtain ⟨⟨kv, xs, M, h1, h2, h3, h4, h5⟩, hm, hu⟩ := h
  exact ⟨kv, xs, M, h1, h2, h3, fun b hb => ⟨.inl (h4 b hb).1, (h4 b hb).2⟩, fun b hb => .inl (h5 b hb), fun b hb => hu b (h4 b hb).1⟩
theorem LRaw.at (h : LRaw R k te tp w L n0 p f es kv xs M) (hp : p ∈ L) : ∃ L', LAt R k te tp w L' p f es ∧ Gr L L' n0 := by
  refine ⟨p :: (kv.ownBlock.toList ++ M), ⟨⟨kv, xs, M, h.bk, h.own, h.els, fun b hb => ⟨by simp [hb], (h.far b hb).2⟩, fun b hb => by simp [hb]⟩, by simp, fun b hb => ?_⟩, fun b hb => ?_⟩
  · rcases List.mem_cons.1 hb with rfl | hb
    · exact h.bk.lt
    · rcases List.mem_append.1 hb with hb | hb
      · exact (h.own.lt b (by simpa using hb)).2
      · exact h.under b hb
  · rcases List.mem_cons.1 hb with rfl | hb
    · exact .inl hp
    · rcases List.mem_append.1 hb with hb | hb
      · exact h.mine b (by simpa using hb)
      · exact (h.far b hb).1
theorem LAt.keep (hR : RStable R k) (h : LAt R k te tp w L p f es) (hk : ∀ b ∈ L, w'.heap[b]? = w.heap[b]?) (hs : w.heap.size ≤ w'.heap.size) : LAt R k te tp w' L p f es := by
  obtain ⟨⟨kv, xs, M, h1, h2, h3, h4, h5⟩, hm, hu⟩ := h
  exact ⟨⟨kv, xs, M, h1.keep (hk p hm), h2.keep (fun b e => hk b (h5 b e)), h3.keep hR (fun b e => hk b (h4 b e).1), h4, h5⟩, hm, hu.mono hs⟩
theorem LAt.fr (hR : RStable R k) (h : LAt R k te tp w L p f es) (hf : Fr K w w') (ha : Apart L K) : LAt R k te tp w' L p f es := h.keep hR (hf.keep ha h.under) hf.size
theorem LAt.below (hR : RStable R k) (h : LAt R k te tp w L p f es) (hb : Below w.heap.size w w') : LAt R k te tp w' L p f es := h.keep hR (fun b hk => hb.block b (h.under b hk)) hb.size
end
end Go.Proofs.Ytpfmadinijofeaa
end
section
/- One element less: what 'slices.Delete' does to a list that is owned. No program in sight. -/
namespace Go.Proofs.Ytpfmadinijofeaa
open Go.RowKit
variable {P : Program} {w : World} {b : Nat} {e : TypeId} {k : Nat} {xs : List Value}
theorem Own.pre {a : Option Addr} {n c i : Nat} (h : Own w b e k (.slice a n c) n xs) (hi : i ≤ n) : Own w b e k (.slice a i c) i (xs.take (i * k)) := by
  obtain ⟨hl, h⟩ := h
  have hm : i * k ≤ n * k := Nat.mul_le_mul_right k hi
  refine ⟨by rw [List.length_take]; omega, ?_⟩
  rcases h with ⟨h0, h1⟩ | ⟨g, off, cap, cur, hv, hb, hg, hn, hm2, hs, ht⟩
  · injection h0 with q1 q2 q3
    subst q1; subst q3
    obtain rfl : i = 0 := by omega
    exact .inl ⟨rfl, rfl⟩
  · injection hv with q1 q2 q3
    subst q1; subst q3
    refine .inr ⟨g, off, c, cur, rfl, hb, hg, by omega, hm2, hs, ?_⟩
    rw [← ht, List.take_take, Nat.min_eq_left hm]
theorem own_somewhere {a : Option Addr} {n c : Nat} (h : Own w b e k (.slice a n c) n xs) (hn : 0 < n) : ∃ g off, a = some ⟨g, off, none⟩ ∧ n ≤ c := by
  rcases h.2 with ⟨_, h0⟩ | ⟨g, off, cap, cur, hv, _, _, hc, _⟩
  · omega
  · injection hv with q1 q2 q3
    subst q1; subst q3
    exact ⟨g, off, rfl, hc⟩
theorem Own.tail {a : Option Addr} {n c i : Nat} (h : Own w b e k (.slice a n c) n xs) (hi : i < n) {tx e' : TypeId} (hk : P.underlying tx = some (.slice e')) (h1 : ∀ v ∈ xs, v.oneCell' = true) :
    Src P k tx (.slice (sliceBase a c (i + 1) k) (n - (i + 1)) (c - (i + 1))) (n - (i + 1)) (xs.drop ((i + 1) * k)) w := by
  obtain ⟨g, off, rfl, hc⟩ := own_somewhere h (by omega)
  have hx := h.1
  have e1 : (n - (i + 1)) * k + (i + 1) * k = n * k := by rw [← Nat.add_mul]; congr 1; omega
  have hl : (xs.drop ((i + 1) * k)).length = (n - (i + 1)) * k := by rw [List.length_drop]; omega
  have h1' : ∀ v ∈ xs.drop ((i + 1) * k), v.oneCell' = true := fun v hv => h1 v (List.mem_of_mem_drop hv)
  unfold sliceBase
  split
  · rename_i hce
    have h0 : n - (i + 1) = 0 := by omega
    have hd : xs.drop ((i + 1) * k) = [] := List.eq_nil_of_length_eq_zero (by rw [hl, h0, Nat.zero_mul])
    rw [hd] at hl h1' ⊢
    exact Src.ofSlice w hk _ _ _ _ hl (fun j u hu => by cases hu) h1'
  · refine Src.ofSlice w hk _ _ _ _ hl (fun j u hu => ?_) h1'
    rw [List.getElem?_drop] at hu
    have := h.cells g off c rfl _ u hu
    show w.cell? (((⟨g, off, none⟩ : Addr).add ((i + 1) * k)).add j) = some u
    rw [Addr.add_lit, Addr.add_lit, Nat.add_assoc]
    exact this
theorem own_beyond1 {g off n c j : Nat} (h : Own w b e k (.slice (some ⟨g, off, none⟩) n c) n xs) (hj : n * k ≤ j) (hc : j < c * k) (v : Value) :
    (w.cell? ⟨g, off + j, none⟩).isSome = true ∧ w.frozen? ⟨g, off + j, none⟩ = false ∧ Own (w.setCell ⟨g, off + j, none⟩ v) b e k (.slice (some ⟨g, off, none⟩) n c) n xs := by
  obtain ⟨hl, h⟩ := h
  rcases h with ⟨h0, h1⟩ | ⟨g', off', cap, cur, hv, hb, hg, hn, hm2, hs, ht⟩
  · cases h0
  · injection hv with q1 q2 q3
    injection q1 with q1
    injection q1 with q1 q4
    subst q1; subst q3; subst q4
    have hB : Bk w g cur e := hg
    refine ⟨?_, hB.frozen _, hl, .inr ⟨g, off, c, _, rfl, hb, hB.setCell (off + j) v, hn, hm2, by simpa using hs, ?_⟩⟩
    · rw [hB.cell, Array.getElem?_eq_getElem (by omega)]; rfl
    · rw [← ht, Array.toList_setIfInBounds, List.drop_set]
      rw [if_neg (by omega), show off + j - off = j by omega, List.take_set, List.set_eq_of_length_le (by rw [List.length_take]; omega)]
theorem own_beyond {g off n c : Nat} : ∀ (vs : List Value) (j : Nat) (w : World), Own w b e k (.slice (some ⟨g, off, none⟩) n c) n xs → n * k ≤ j → j + vs.length ≤ c * k →
    w.there g (off + j) vs.length ∧ Own (w.setCells g (off + j) vs) b e k (.slice (some ⟨g, off, none⟩) n c) n xs ∧ Fr [g] w (w.setCells g (off + j) vs) ∧ (w.setCells g (off + j) vs).heap.size = w.heap.size
  | [], j, w, h, _, _ => ⟨fun i hi => by simp at hi, h, Fr.refl _ _, rfl⟩
  | v :: r, j, w, h, hj, hc => by
    rw [List.length_cons] at hc
    obtain ⟨h1, h2, h3⟩ := own_beyond1 h hj (by omega) v
    obtain ⟨k1, k2, k3, k4⟩ := own_beyond r (j + 1) _ h3 (by omega) (by omega)
    rw [← Nat.add_assoc] at k1 k2 k3 k4
    refine ⟨fun i hi => ?_, k2, ((Fr.refl [g] w).setCell (p := ⟨g, off + j, none⟩) (.inl (by simp)) v).trans k3 (Gr.refl _ _), k4.trans (by simp)⟩
    rw [List.length_cons] at hi
    refine ⟨?_, ?_⟩
    · obtain ⟨a1, a2, _⟩ := own_beyond1 h (j := j + i) (by omega) (by omega) v
      rw [Nat.add_assoc]; exact a1
    · obtain ⟨a1, a2, _⟩ := own_beyond1 h (j := j + i) (by omega) (by omega) v
      rw [Nat.add_assoc]; exact a2
theorem els_one {α : Type} {R : World → List Nat → α → List Value → Prop} {M : List Nat} {es : List α} (h : ElsOk R k w M es xs) (hR : ∀ w M e cs, R w M e cs → ∀ v ∈ cs, v.oneCell' = true) : ∀ v ∈ xs, v.oneCell' = true := by
  intro v hv
  obtain ⟨j, hj⟩ := List.getElem?_of_mem hv
  have hlt := (List.getElem?_eq_some_iff.1 hj).1
  have hl := h.1
  have hk : 0 < k := by
    rcases Nat.eq_zero_or_pos k with h0 | h0
    · subst h0; omega
    · exact h0
  have hi : j / k < es.length := Nat.div_lt_of_lt_mul (by rw [Nat.mul_comm]; omega)
  have := h.2 _ _ (List.getElem?_eq_getElem hi)
  refine hR _ _ _ _ this v ?_
  have hm : j = j / k * k + j % k := by rw [Nat.mul_comm]; exact (Nat.div_add_mod j k).symm
  have hmod := Nat.mod_lt j hk
  refine List.mem_iff_getElem?.2 ⟨j % k, ?_⟩
  rw [List.getElem?_take, if_pos hmod, List.getElem?_drop, ← hm]
  exact hj
end Go.Proofs.Ytpfmadinijofeaa
end
section
/- One element of an owned list is written over. No program in sight. -/
namespace Go.Proofs.Ytpfmadinijofeaa
open Go.RowKit
variable {w : World} {b : Nat} {e : TypeId} {k : Nat} {xs : List Value}
def setL : List Value → Nat → List Value → List Value
  | xs, _, [] => xs
  | xs, j, v :: r => setL (xs.set j v) (j + 1) r
theorem setL_len : ∀ (vs : List Value) (xs : List Value) (j : Nat), (setL xs j vs).length = xs.length
  | [], _, _ => rfl
  | v :: r, xs, j => by rw [setL, setL_len r, List.length_set]
theorem setL_get : ∀ (vs : List Value) (xs : List Value) (j i : Nat), j + vs.length ≤ xs.length → (setL xs j vs)[i]? = if j ≤ i ∧ i < j + vs.length then vs[i - j]? else xs[i]?
  | [], xs, j, i, _ => by rw [setL, if_neg (by simp only [List.length_nil]; omega)]
  | v :: r, xs, j, i, h => by
    rw [List.length_cons] at h
    rw [setL, setL_get r (xs.set j v) (j + 1) i (by rw [List.length_set]; omega), List.length_cons]
    by_cases h1 : i = j
    · subst h1
      rw [if_neg (by omega), if_pos (by omega), Nat.sub_self, List.getElem?_set_self (by omega)]
      rfl
    · by_cases h2 : j + 1 ≤ i ∧ i < j + 1 + r.length
      · rw [if_pos h2, if_pos (by omega), show i - j = (i - (j + 1)) + 1 by omega, List.getElem?_cons_succ]
      · rw [if_neg h2, if_neg (by omega), List.getElem?_set_ne (by omega)]
theorem own_in1 {g off n c j : Nat} (h : Own w b e k (.slice (some ⟨g, off, none⟩) n c) n xs) (hj : j < n * k) (v : Value) :
    (w.cell? ⟨g, off + j, none⟩).isSome = true ∧ w.frozen? ⟨g, off + j, none⟩ = false ∧ Own (w.setCell ⟨g, off + j, none⟩ v) b e k (.slice (some ⟨g, off, none⟩) n c) n (xs.set j v) := by
  obtain ⟨hl, h⟩ := h
  rcases h with ⟨h0, h1⟩ | ⟨g', off', cap, cur, hv, hb, hg, hn, hm2, hs, ht⟩
  · cases h0
  · injection hv with q1 q2 q3
    injection q1 with q1
    injection q1 with q1 q4
    subst q1; subst q3; subst q4
    have hB : Bk w g cur e := hg
    have hm : n * k ≤ c * k := Nat.mul_le_mul_right k hn
    refine ⟨?_, hB.frozen _, by rw [List.length_set]; exact hl, .inr ⟨g, off, c, _, rfl, hb, hB.setCell (off + j) v, hn, hm2, by simpa using hs, ?_⟩⟩
    · rw [hB.cell, Array.getElem?_eq_getElem (by omega)]; rfl
    · rw [← ht, Array.toList_setIfInBounds, List.drop_set]
      rw [if_neg (by omega), show off + j - off = j by omega, List.take_set]
theorem own_setL {g off n c : Nat} : ∀ (vs : List Value) (j : Nat) (w : World) (xs : List Value), Own w b e k (.slice (some ⟨g, off, none⟩) n c) n xs → j + vs.length ≤ n * k →
    w.there g (off + j) vs.length ∧ Own (w.setCells g (off + j) vs) b e k (.slice (some ⟨g, off, none⟩) n c) n (setL xs j vs) ∧ Fr [g] w (w.setCells g (off + j) vs) ∧ (w.setCells g (off + j) vs).heap.size = w.heap.size
  | [], j, w, xs, h, _ => ⟨fun i hi => by simp at hi, h, Fr.refl _ _, rfl⟩
  | v :: r, j, w, xs, h, hc => by
    rw [List.length_cons] at hc
    obtain ⟨h1, h2, h3⟩ := own_in1 h (j := j) (by omega) v
    obtain ⟨k1, k2, k3, k4⟩ := own_setL r (j + 1) _ _ h3 (by omega)
    rw [← Nat.add_assoc] at k1 k2 k3 k4
    refine ⟨fun i hi => ?_, k2, ((Fr.refl [g] w).setCell (p := ⟨g, off + j, none⟩) (.inl (by simp)) v).trans k3 (Gr.refl _ _), k4.trans (by simp)⟩
    rw [List.length_cons] at hi
    obtain ⟨a1, a2, _⟩ := own_in1 h (j := j + i) (by omega) v
    rw [Nat.add_assoc]
    exact ⟨a1, a2⟩
/-- An element of so many cells is stored. -/
theorem Own.storeK {g off n c i : Nat} (h : Own w b e k (.slice (some ⟨g, off, none⟩) n c) n xs) (hi : i < n) {vs : List Value} (hv : vs.length = k) {gs : List Nat} (hgs : ∀ x ∈ gs, x ≠ g) {K : World → Prop}
    (hk : ∀ w1, Own w1 b e k (.slice (some ⟨g, off, none⟩) n c) n (setL xs (i * k) vs) → Fr [g] w w1 → w1.heap.size = w.heap.size → K w1) : stO gs w g (off + i * k) vs K := by
  have hm : i * k + k ≤ n * k := by
    have := Nat.mul_le_mul_right k (show i + 1 ≤ n from hi)
    rw [Nat.add_mul, Nat.one_mul] at this; exact this
  obtain ⟨k1, k2, k3, k4⟩ := own_setL vs (i * k) w xs h (by omega)
  exact ⟨hgs, k1, fun w1 e1 => by subst e1; exact hk _ k2 k3 k4⟩
theorem ElsOk.set {α : Type} {R : World → List Nat → α → List Value → Prop} {M : List Nat} {es : List α} (hR : RStable R k) (h : ElsOk R k w M es xs) {i : Nat} (hi : i < es.length) {x : α} {cs : List Value} (hx : R w M x cs) : ElsOk R k w M (es.set i x) (setL xs (i * k) cs) := by
  have hl := h.1
  have hc := hR.len hx
  have hm : ∀ j, j < es.length → j * k + k ≤ xs.length := fun j hj => by
    rw [hl]
    have := Nat.mul_le_mul_right k (show j + 1 ≤ es.length from hj)
    rw [Nat.add_mul, Nat.one_mul] at this; exact this
  refine ⟨by rw [setL_len, List.length_set, hl], fun j y hy => ?_⟩
  have hj : j < es.length := by have := (List.getElem?_eq_some_iff.1 hy).1; rwa [List.length_set] at this
  have key : ((setL xs (i * k) cs).drop (j * k)).take k = if i = j then cs else (xs.drop (j * k)).take k := by
    apply List.ext_getElem?
    intro q
    rw [List.getElem?_take]
    by_cases hq : q < k
    · rw [if_pos hq, List.getElem?_drop, setL_get _ _ _ _ (by have := hm i hi; omega)]
      by_cases hij : i = j
      · subst hij
        rw [if_pos rfl, if_pos (by omega)]
        congr 1; omega
      · rw [if_neg hij]
        have hne : ¬ (i * k ≤ j * k + q ∧ j * k + q < i * k + cs.length) := by
          rintro ⟨h1, h2⟩
          rcases Nat.lt_or_gt_of_ne hij with h3 | h3
          · have := Nat.mul_le_mul_right k (show i + 1 ≤ j from h3)
            rw [Nat.add_mul, Nat.one_mul] at this; omega
          · have := Nat.mul_le_mul_right k (show j + 1 ≤ i from h3)
            rw [Nat.add_mul, Nat.one_mul] at this; omega
        rw [if_neg hne, List.getElem?_take, if_pos hq, List.getElem?_drop]
    · rw [if_neg hq]
      symm
      split
      · rw [List.getElem?_eq_none (by omega)]
      · rw [List.getElem?_take, if_neg hq]
  rw [key]
  by_cases hij : i = j
  · subst hij
    rw [List.getElem?_set_self hi] at hy
    injection hy with hy; subst hy
    rw [if_pos rfl]; exact hx
  · rw [List.getElem?_set_ne hij] at hy
    rw [if_neg hij]
    exact h.2 j y hy
end Go.Proofs.Ytpfmadinijofeaa
end
section
/- Functions that write nothing but blocks of their own: their steps, seen from the world that they began in. No program in sight. -/
namespace Go.Proofs.Ytpfmadinijofeaa
open Go.RowKit
theorem box_below {w w1 w2 : World} {g : Nat} (h : Below w.heap.size w w1) (hg : w.heap.size ≤ g) (hb : BoxSt g w1 w2) : Below w.heap.size w w2 := h.trans (hb.1.below (fun k hk => by rw [List.mem_singleton] at hk; omega) h.size)
/-- One value comes back, and what was there is as it was. -/
def Ret (v : Value) (w : World) : Ending → World → Prop := fun e w' => e = .returned v ∧ Below w.heap.size w w'
theorem ret_in {P : Program} {f : FuncId} {av : Array Value} {w : World} {v : Value} (h : Calls P f av w fun e w' => ∃ u, e = .returned u ∧ (u = v ∧ Below w.heap.size w w')) : Calls P f av w (Ret v w) :=
  h.mono (by rintro e w' ⟨u, rfl, rfl, b⟩; exact ⟨rfl, b⟩)
theorem ret_same {P : Program} {f : FuncId} {av : Array Value} {w : World} {v : Value} (h : Calls P f av w fun e w' => e = .returned v ∧ w' = w) : Calls P f av w (Ret v w) :=
  h.mono (by rintro e w' ⟨rfl, rfl⟩; exact ⟨rfl, Below.refl _ _⟩)
section
variable {w0 w : World}
abbrev Bs (w0 w : World) : Prop := Below w0.heap.size w0 w
theorem Bs.refl (w : World) : Bs w w := Below.refl _ _
theorem Bs.to {w1 : World} (B : Bs w0 w) (b : Below w.heap.size w w1) : Bs w0 w1 := Below.trans B (b.mono B.size)
theorem Bs.box {g : Nat} {w1 : World} (B : Bs w0 w) (hg : w0.heap.size ≤ g) (h : BoxSt g w w1) : Bs w0 w1 := box_below B hg h
theorem newB (B : Bs w0 w) {o : Obj} {K : Nat → World → Prop} (h : ∀ g w1, w0.heap.size ≤ g → w.heap.size = g → w1.heap[g]? = some o → w1.heap.size = g + 1 → Below w.heap.size w w1 → Bs w0 w1 → K g w1) : newO w o K := by
  rintro g w1 rfl rfl
  exact h _ _ B.size rfl (al_new rfl) (by simp) (Below_one o) (B.to (Below_one o))
theorem drewB (B : Bs w0 w) {K : World → Prop} (h : ∀ w1, Below w.heap.size w w1 → Bs w0 w1 → w1.heap = w.heap → K w1) : drewO w K := fun w1 h1 h2 => h w1 h2 (B.to h2) h1
theorem boxB {g : Nat} (B : Bs w0 w) (hg : w0.heap.size ≤ g) {K : World → Prop} (h : ∀ w1, BoxSt g w w1 → Bs w0 w1 → w1.heap.size = w.heap.size → K w1) : ∀ w1, BoxSt g w w1 → K w1 := fun w1 h1 => h w1 h1 (B.box hg h1) h1.2
theorem callB {P : Program} {f : FuncId} {av : Array Value} {v : Value} {gs : List Nat} {R : Ending → World → Prop} (B : Bs w0 w) (h : Calls P f av w (Ret v w)) (k : ∀ w1, Below w.heap.size w w1 → Bs w0 w1 → R (.returned v) w1) :
    Calls P f av w (fun e w1 => KeepG gs w w1 ∧ R e w1) := h.mono (by rintro e w1 ⟨rfl, b⟩; exact ⟨keepG_below b, k w1 b (B.to b)⟩)
theorem callQ {P : Program} {f : FuncId} {av : Array Value} {gs : List Nat} {Q R : Ending → World → Prop} (B : Bs w0 w) (h : Calls P f av w (fun e w1 => Q e w1 ∧ Below w.heap.size w w1)) (k : ∀ e w1, Q e w1 → Below w.heap.size w w1 → Bs w0 w1 → R e w1) :
    Calls P f av w (fun e w1 => KeepG gs w w1 ∧ R e w1) := h.mono (by rintro e w1 ⟨q, b⟩; exact ⟨keepG_below b, k e w1 q b (B.to b)⟩)
end
/-- Elements of k cells each, one behind the other, in a block from n0 on. -/
def Rws {α : Type} (enc : α → List Value) (k n0 : Nat) (w : World) (a : Option Addr) (xs : List α) : Prop := xs = [] ∨ ∃ b off, a = some ⟨b, off, none⟩ ∧ n0 ≤ b ∧ ∀ i x, xs[i]? = some x → cellsAt w b (off + i * k) (enc x)
section
variable {α : Type} {enc : α → List Value} {k n0 : Nat} {w w' : World} {a : Option Addr} {xs : List α}
theorem Rws.nil : Rws enc k n0 w a [] := .inl rfl
theorem Rws.ofRows (h : RowsAt (fun w b off x => cellsAt w b off (enc x)) k w a xs) : Rws enc k 0 w a xs := h.elim .inl fun ⟨b, off, h1, h2⟩ => .inr ⟨b, off, h1, Nat.zero_le _, h2⟩
theorem Rws.low {n1 : Nat} (h : Rws enc k n0 w a xs) (hn : n1 ≤ n0) : Rws enc k n1 w a xs := h.elim .inl fun ⟨b, off, h1, h2, h3⟩ => .inr ⟨b, off, h1, Nat.le_trans hn h2, h3⟩
theorem Rws.keep (h : Rws enc k n0 w a xs) (hk : ∀ b, n0 ≤ b → b < w.heap.size → w'.heap[b]? = w.heap[b]?) : Rws enc k n0 w' a xs := by
  rcases h with h | ⟨b, off, ha, hb, h⟩
  · exact .inl h
  · refine .inr ⟨b, off, ha, hb, fun i x hx => cellsAt_of fun j v hj => ?_⟩
    have h1 := cellsAt_get (h i x hx) j v hj
    have h2 := block_lt_of_cell h1
    rw [cell_keep (hk b hb h2)]
    exact h1
theorem Rws.below (h : Rws enc k n0 w a xs) (hb : Below w.heap.size w w') : Rws enc k n0 w' a xs := h.keep fun b _ h2 => hb.block b h2
theorem Rws.box {g : Nat} (h : Rws enc k n0 w a xs) (hb : BoxSt g w w') (hg : g < n0) : Rws enc k n0 w' a xs := h.keep fun b h1 h2 => hb.1.block b h2 (by rw [List.mem_singleton]; omega)
theorem Rws.newbox {g : Nat} {w1 w2 : World} (h : Rws enc k n0 w a xs) (hb : Below w.heap.size w w1) (sg : w.heap.size = g) (hx : BoxSt g w1 w2) : Rws enc k n0 w2 a xs := h.keep fun b _ h2 => (hx.1.block b (by have := hb.size; omega) (by rw [List.mem_singleton]; omega)).trans (hb.block b h2)
theorem Rws.grown {r : Option Nat} (h : Rws enc k n0 w a xs) (hg : w.grownBy w' r) (hr : ∀ b, r = some b → b < n0) : Rws enc k n0 w' a xs := h.keep fun b h1 h2 => hg.block b h2 fun e => by have := hr b e.symm; omega
theorem Rws.get (h : Rws enc k n0 w a xs) {i : Nat} (hi : i < xs.length) : ∃ b off, a = some ⟨b, off, none⟩ ∧ cellsAt w b (off + i * k) (enc xs[i]) := by
  rcases h with rfl | ⟨b, off, ha, _, h⟩
  · simp at hi
  · exact ⟨b, off, ha, h i _ (List.getElem?_eq_getElem hi)⟩
theorem Rws.take (h : Rws enc k n0 w a xs) (n : Nat) : Rws enc k n0 w a (xs.take n) := by
  rcases h with rfl | ⟨b, off, ha, h0, h⟩
  · exact .inl (by simp)
  · refine .inr ⟨b, off, ha, h0, fun i x hx => h i x ?_⟩
    rw [List.getElem?_take] at hx
    split at hx
    · exact hx
    · cases hx
theorem flatK_len (hk : ∀ x, (enc x).length = k) : ∀ es : List α, (es.flatMap enc).length = es.length * k
  | [] => by simp
  | e :: r => by rw [List.flatMap_cons, List.length_append, flatK_len hk r, hk, List.length_cons, Nat.add_mul]; omega
theorem flatK_get (hk : ∀ x, (enc x).length = k) : ∀ (es : List α) (i : Nat) (e : α) (j : Nat), es[i]? = some e → j < k → (es.flatMap enc)[i * k + j]? = (enc e)[j]?
  | x :: r, 0, e, j, h, hj => by
    cases h
    rw [List.flatMap_cons, List.getElem?_append_left (by rw [hk]; omega)]
    congr 1; omega
  | x :: r, i + 1, e, j, h, hj => by
    have e1 : (i + 1) * k = i * k + k := by rw [Nat.add_mul, Nat.one_mul]
    rw [List.flatMap_cons, List.getElem?_append_right (by rw [hk]; omega), hk, show (i + 1) * k + j - k = i * k + j by omega]
    exact flatK_get hk r i e j (by simpa using h) hj
theorem Rws.ofOwn {t : TypeId} {n c : Nat} (hkp : 0 < k) (hk : ∀ x, (enc x).length = k) (h : Own w n0 t k (.slice a n c) n (xs.flatMap enc)) : Rws enc k n0 w a xs := by
  by_cases h0 : xs = []
  · exact .inl h0
  rcases h.2 with ⟨h1, h2⟩ | ⟨g, off, cap, cur, hv, hb, hg, hn, hm, hs, ht⟩
  · have h3 := h.1
    rw [flatK_len hk, h2, Nat.zero_mul] at h3
    exact absurd (List.length_eq_zero_iff.1 ((Nat.mul_eq_zero.1 h3).resolve_right (by omega))) h0
  · injection hv with h1 h2 h3
    subst h1; subst h3
    refine .inr ⟨g, off, rfl, hb, fun i x hx => cellsAt_list fun j v hv => ?_⟩
    have hj : j < k := by have := (List.getElem?_eq_some_iff.1 hv).1; rw [hk] at this; exact this
    have := flatK_get hk xs i x j hx hj
    rw [Nat.add_assoc]
    exact h.cells g off c rfl _ v (by rw [this]; exact hv)
theorem Rws.src {P : Program} {tx e' : TypeId} {c : Nat} (hT : P.underlying tx = some (.slice e')) (hkp : 0 < k) (hk : ∀ x, (enc x).length = k) (h1 : ∀ x, ∀ v ∈ enc x, v.oneCell' = true) (h : Rws enc k n0 w a xs) : Src P k tx (.slice a xs.length c) xs.length (xs.flatMap enc) w := by
  have hone : ∀ v ∈ xs.flatMap enc, v.oneCell' = true := fun v hv => by
    obtain ⟨x, _, hx⟩ := List.mem_flatMap.1 hv
    exact h1 x v hx
  cases a with
  | none =>
    rcases h with rfl | ⟨b, off, ha, _⟩
    · exact Src.ofNil w hT c
    · cases ha
  | some ad =>
    refine Src.ofSlice w hT ad _ _ _ (flatK_len hk xs) (fun j u hu => ?_) hone
    rcases h with rfl | ⟨b, off, ha, _, h⟩
    · cases hu
    · injection ha with ha; subst ha
      have hlt := (List.getElem?_eq_some_iff.1 hu).1
      rw [flatK_len hk] at hlt
      have hi : j / k < xs.length := (Nat.div_lt_iff_lt_mul hkp).2 hlt
      have hm : j % k < k := Nat.mod_lt _ hkp
      have hx := List.getElem?_eq_getElem hi
      have h1 := flatK_get hk xs (j / k) _ (j % k) hx hm
      have hd : j / k * k + j % k = j := by rw [Nat.mul_comm]; exact Nat.div_add_mod j k
      rw [hd, hu] at h1
      have := cellsAt_get (h _ _ hx) (j % k) u h1.symm
      rw [Addr.add_lit]
      rwa [Nat.add_assoc, hd] at this
end
theorem Rws.one {α : Type} {enc : α → List Value} {k n0 g : Nat} {w : World} {x : α} {t : TypeId} {fr : Nat × Nat} (h : w.heap[g]? = some (.cells (enc x).toArray t fr)) (hg : n0 ≤ g) : Rws enc k n0 w (some ⟨g, 0, none⟩) [x] := by
  refine .inr ⟨g, 0, rfl, hg, fun i y hy => ?_⟩
  have hi : i = 0 := by have := (List.getElem?_eq_some_iff.1 hy).1; simp at this; omega
  subst hi
  simp at hy
  subst hy
  rw [Nat.zero_mul]
  exact cellsAt_row h (by simp)
theorem Own.box {w w1 : World} {n1 size n g : Nat} {e : TypeId} {v : Value} {xs : List Value} (h : Own w n1 e size v n xs) (hb : BoxSt g w w1) (hg : ∀ k, v.ownBlock = some k → k ≠ g) : Own w1 n1 e size v n xs := h.keep fun k hk => hb.1.block k (h.lt k hk).2 (by rw [List.mem_singleton]; exact hg k hk)
/-- A new box was made and filled. -/
theorem Own.newbox {w w1 w2 : World} {n1 size n g : Nat} {e : TypeId} {v : Value} {xs : List Value} (h : Own w n1 e size v n xs) (hb : Below w.heap.size w w1) (sg : w.heap.size = g) (hx : BoxSt g w1 w2) : Own w2 n1 e size v n xs := (h.below hb (Nat.le_refl _)).box hx fun k hk => by have := (h.lt k hk).2; omega
/-- What is appended to, is one's own. -/
theorem appB {P : Program} {gs : List Nat} {w0 w : World} {e : TypeId} {size bytes n1 n c m : Nat} {tx : TypeId} {a : Option Addr} {x : Value} {xs news : List Value} {K : Nat → Option Addr → Nat → World → Prop}
    (B : Bs w0 w) (o : Own w n1 e size (.slice a n c) n xs) (hn1 : w0.heap.size ≤ n1) (hn2 : n1 ≤ w.heap.size) (s : Src P size tx x m news w) (h1 : n + m ≤ maxLen) (h2 : (n + m) * bytes ≤ 140737488355328)
    (hg : ∀ g ∈ gs, (Value.slice a n c).ownBlock ≠ some g)
    (k : ∀ a' c' w1, Own w1 n1 e size (.slice a' (n + m) c') (n + m) (xs ++ news) → w.grownBy w1 (Value.slice a n c).ownBlock → Bs w0 w1 → w.heap.size ≤ w1.heap.size → K m a' c' w1) :
    appO P gs w e size bytes tx a n c x K := by
  refine ⟨m, xs, news, o.base_le fun _ _ => Nat.zero_le _, s, h1, h2, hg, fun a' c' w1 o1 g1 or1 _ => k a' c' w1 (o1.base_le fun q hq => ?_) g1 ?_ g1.size⟩
  · rcases or1 with h | ⟨g, h, h3⟩
    · exact (o.lt q (h ▸ hq)).1
    · rw [h] at hq; injection hq with hq; omega
  · exact ⟨g1.os.trans B.os, g1.tape.trans B.tape, g1.output.trans B.output, Nat.le_trans B.size g1.size, fun q hq => (g1.block q (by have := B.size; omega) fun e => by have := (o.lt q e.symm).1; omega).trans (B.block q hq)⟩
end Go.Proofs.Ytpfmadinijofeaa
end
section
/- More steps of functions seen from the world that they began in: blocks that are written over. No program in sight. -/
namespace Go.Proofs.Ytpfmadinijofeaa
open Go.RowKit
/-- Cells of a block that are written over. -/
theorem stO_part {w : World} {g off : Nat} {t : TypeId} {cs : Array Value} {vs : List Value} {gs : List Nat} {K : World → Prop} (h : Bk w g cs t) (hl : off + vs.length ≤ cs.size) (hg : ∀ x ∈ gs, x ≠ g)
    (k : ∀ w1, Bk w1 g (setL cs.toList off vs).toArray t → Fr [g] w w1 → w1.heap.size = w.heap.size → K w1) : stO gs w g off vs K := by
  have key : ∀ (vs : List Value) (w : World) (cs : Array Value) (off : Nat), Bk w g cs t → off + vs.length ≤ cs.size → Bk (w.setCells g off vs) g (setL cs.toList off vs).toArray t ∧ Fr [g] w (w.setCells g off vs) ∧ (w.setCells g off vs).heap.size = w.heap.size := by
    intro vs
    induction vs with
    | nil => intro w cs off h _; exact ⟨by simpa [World.setCells, setL] using h, Fr.refl _ _, rfl⟩
    | cons v r ih =>
      intro w cs off h hl
      rw [List.length_cons] at hl
      obtain ⟨k1, k2, k3⟩ := ih (w.setCell ⟨g, off, none⟩ v) (cs.setIfInBounds off v) (off + 1) (h.setCell off v) (by simp; omega)
      refine ⟨?_, ((Fr.refl [g] w).setCell (p := ⟨g, off, none⟩) (.inl (by simp)) v).trans k2 (Gr.refl _ _), by rw [show w.setCells g off (v :: r) = (w.setCell ⟨g, off, none⟩ v).setCells g (off + 1) r from rfl, k3]; simp [World.setCell]⟩
      rw [Array.toList_setIfInBounds] at k1
      exact k1
  obtain ⟨k1, k2, k3⟩ := key vs w cs off h hl
  exact ⟨hg, h.there hl, fun w1 e => by subst e; exact k _ k1 k2 k3⟩
theorem setL_whole {vs xs : List Value} (h : vs.length = xs.length) : setL xs 0 vs = vs := by
  apply List.ext_getElem?
  intro i
  rw [setL_get vs xs 0 i (by omega)]
  by_cases hi : i < vs.length
  · rw [if_pos ⟨Nat.zero_le _, by omega⟩]; rfl
  · rw [if_neg (by omega), List.getElem?_eq_none (by omega), List.getElem?_eq_none (by omega)]
theorem Bs.fr {w0 w w1 : World} {L : List Nat} (B : Bs w0 w) (h : Fr L w w1) (hL : ∀ k ∈ L, w0.heap.size ≤ k) : Bs w0 w1 := Below.trans B (h.below hL B.size)
theorem Bs.fr1 {w0 w w1 : World} {g : Nat} (B : Bs w0 w) (h : Fr [g] w w1) (hg : w0.heap.size ≤ g) : Bs w0 w1 := B.fr h fun k hk => by rw [List.mem_singleton] at hk; omega
/-- A block of one's own is written over, wholly. -/
theorem stB {w0 w : World} {g : Nat} {t : TypeId} {cs : Array Value} {vs : List Value} {gs : List Nat} {K : World → Prop} (B : Bs w0 w) (hg0 : w0.heap.size ≤ g) (h : Bk w g cs t) (hl : vs.length = cs.size) (hg : ∀ x ∈ gs, x ≠ g)
    (k : ∀ w1, Bk w1 g vs.toArray t → Fr [g] w w1 → Bs w0 w1 → w1.heap.size = w.heap.size → K w1) : stO gs w g 0 vs K :=
  stO_part h (by omega) hg fun w1 h1 f1 z1 => k w1 (by rw [setL_whole (by simpa using hl)] at h1; exact h1) f1 (B.fr1 f1 hg0) z1
/-- One cell of it. -/
theorem stB1 {w0 w : World} {g i : Nat} {t : TypeId} {cs : Array Value} {v : Value} {gs : List Nat} {K : World → Prop} (B : Bs w0 w) (hg0 : w0.heap.size ≤ g) (h : Bk w g cs t) (hi : i < cs.size) (hg : ∀ x ∈ gs, x ≠ g)
    (k : ∀ w1, Bk w1 g (cs.setIfInBounds i v) t → Fr [g] w w1 → Bs w0 w1 → w1.heap.size = w.heap.size → K w1) : stO gs w g i [v] K :=
  stO_bk h hi hg fun w1 h1 f1 z1 => k w1 h1 f1 (B.fr1 f1 hg0) z1
theorem Bk.below {w w1 : World} {g : Nat} {cs : Array Value} {t : TypeId} (h : Bk w g cs t) (hb : Below w.heap.size w w1) : Bk w1 g cs t := h.keep (hb.block g h.lt)
theorem Bk.box {w w1 : World} {g k : Nat} {cs : Array Value} {t : TypeId} (h : Bk w g cs t) (hb : BoxSt k w w1) (hk : g ≠ k) : Bk w1 g cs t := h.keep (hb.1.block g h.lt (by rw [List.mem_singleton]; exact hk))
theorem Bk.fr {w w1 : World} {g : Nat} {L : List Nat} {cs : Array Value} {t : TypeId} (h : Bk w g cs t) (hb : Fr L w w1) (hk : g ∉ L) : Bk w1 g cs t := h.keep (hb.block g h.lt hk)
theorem Bk.fr1 {w w1 : World} {g k : Nat} {cs : Array Value} {t : TypeId} (h : Bk w g cs t) (hb : Fr [k] w w1) (hk : g ≠ k) : Bk w1 g cs t := h.fr hb (by rw [List.mem_singleton]; exact hk)
end Go.Proofs.Ytpfmadinijofeaa
end
section
/- Arrays of structs in a block, told by a function of the place. No program in sight. -/
namespace Go.Proofs.Ytpfmadinijofeaa
open Go.RowKit
def fArr (n : Nat) (f : Nat → Value) : Array Value := ((List.range n).map f).toArray
theorem fArr_size (n : Nat) (f : Nat → Value) : (fArr n f).size = n := by simp [fArr]
theorem fArr_get {n j : Nat} (f : Nat → Value) (h : j < n) : (fArr n f)[j]? = some (f j) := by simp [fArr, h]
theorem fArr_congr {n : Nat} {f f' : Nat → Value} (h : ∀ j, j < n → f j = f' j) : fArr n f = fArr n f' := by
  unfold fArr
  congr 1
  exact List.map_congr_left fun j hj => h j (List.mem_range.1 hj)
theorem fArr_of {n : Nat} {f : Nat → Value} {cs : Array Value} (hs : cs.size = n) (h : ∀ j, j < n → cs[j]? = some (f j)) : cs = fArr n f := by
  apply Array.ext_getElem?
  intro j
  by_cases hj : j < n
  · rw [h j hj, fArr_get f hj]
  · rw [Array.getElem?_eq_none (by omega), Array.getElem?_eq_none (by rw [fArr_size]; omega)]
/-- n structs of k cells each, one behind the other. -/
def sArr (n k : Nat) (enc : Nat → List Value) : Array Value := fArr (n * k) fun j => (enc (j / k)).getD (j % k) (.bool false)
section
variable {n k : Nat} {enc enc' : Nat → List Value}
theorem sArr_size (n k : Nat) (enc : Nat → List Value) : (sArr n k enc).size = n * k := fArr_size _ _
theorem div_lt_of {j n k : Nat} (h : j < n * k) : j / k < n ∧ j % k < k ∧ 0 < k := by
  have hk : 0 < k := by
    rcases Nat.eq_zero_or_pos k with rfl | h'
    · simp at h
    · exact h'
  exact ⟨(Nat.div_lt_iff_lt_mul hk).2 h, Nat.mod_lt _ hk, hk⟩
theorem place_div {i c k : Nat} (hc : c < k) : (i * k + c) / k = i ∧ (i * k + c) % k = c := by
  have hk : 0 < k := by omega
  refine ⟨?_, ?_⟩
  · rw [Nat.mul_comm, Nat.mul_add_div hk, Nat.div_eq_of_lt hc, Nat.add_zero]
  · rw [Nat.mul_comm, Nat.mul_add_mod, Nat.mod_eq_of_lt hc]
theorem place_lt {i c n k : Nat} (hi : i < n) (hc : c < k) : i * k + c < n * k := by
  have : (i + 1) * k ≤ n * k := Nat.mul_le_mul_right k hi
  rw [Nat.add_mul, Nat.one_mul] at this
  omega
theorem sArr_get {i c : Nat} {v : Value} (hi : i < n) (hc : c < k) (hv : (enc i)[c]? = some v) : (sArr n k enc)[i * k + c]? = some v := by
  unfold sArr
  rw [fArr_get _ (place_lt hi hc), (place_div hc).1, (place_div hc).2, List.getD_eq_getElem?_getD, hv]
  rfl
theorem sArr_congr (h : ∀ i, i < n → enc i = enc' i) : sArr n k enc = sArr n k enc' := fArr_congr fun j hj => by rw [h _ (div_lt_of hj).1]
theorem sArr_of {cs : Array Value} (hk : ∀ i, i < n → (enc i).length = k) (hs : cs.size = n * k) (h : ∀ i c, i < n → c < k → cs[i * k + c]? = (enc i)[c]?) : cs = sArr n k enc := by
  refine fArr_of hs fun j hj => ?_
  obtain ⟨h1, h2, h3⟩ := div_lt_of hj
  have hjk : j / k * k + j % k = j := by rw [Nat.mul_comm]; exact Nat.div_add_mod j k
  have := h (j / k) (j % k) h1 h2
  rw [hjk] at this
  have hl : j % k < (enc (j / k)).length := by rw [hk _ h1]; exact h2
  rw [this, List.getD_eq_getElem?_getD, List.getElem?_eq_getElem hl]
  rfl
theorem sArr_cells {w : World} {g : Nat} {t : TypeId} (h : Bk w g (sArr n k enc) t) {i : Nat} (hi : i < n) (hk : (enc i).length = k) : cellsAt w g (i * k) (enc i) := cellsAt_of fun c v hv => by
  have hc : c < k := by rw [← hk]; exact (List.getElem?_eq_some_iff.1 hv).1
  rw [h.cell]; exact sArr_get hi hc hv
theorem sArr_cell {w : World} {g : Nat} {t : TypeId} (h : Bk w g (sArr n k enc) t) {i c : Nat} {v : Value} (hi : i < n) (hc : c < k) (hv : (enc i)[c]? = some v) : w.cell? ⟨g, i * k + c, none⟩ = some v := by
  rw [h.cell]; exact sArr_get hi hc hv
/-- One struct is written over. -/
theorem sArr_setL {i : Nat} {vs : List Value} (hi : i < n) (hv : vs.length = k) (hk : ∀ i, i < n → (enc i).length = k) : (setL (sArr n k enc).toList (i * k) vs).toArray = sArr n k (fun j => if j = i then vs else enc j) := by
  refine sArr_of (fun j hj => ?_) (by simp [setL_len, sArr_size]) fun j c hj hc => ?_
  · split
    · exact hv
    · exact hk j hj
  · have hle : i * k + vs.length ≤ (sArr n k enc).toList.length := by
      simp [sArr_size, hv]
      have : (i + 1) * k ≤ n * k := Nat.mul_le_mul_right k hi
      rw [Nat.add_mul, Nat.one_mul] at this
      omega
    rw [List.getElem?_toArray, setL_get _ _ _ _ hle]
    by_cases he : j = i
    · subst he
      rw [if_pos ⟨by omega, by omega⟩, if_pos rfl, show j * k + c - j * k = c by omega]
    · have hne : ¬ (i * k ≤ j * k + c ∧ j * k + c < i * k + vs.length) := by
        rintro ⟨h1, h2⟩
        rw [hv] at h2
        have h3 := (place_div (i := j) hc).1
        have h4 := (place_div (i := i) (c := j * k + c - i * k) (k := k) (by omega)).1
        rw [show i * k + (j * k + c - i * k) = j * k + c by omega, h3] at h4
        exact he h4
      have hl : c < (enc j).length := by rw [hk j hj]; exact hc
      rw [if_neg he, if_neg hne, Array.getElem?_toList, sArr_get hj hc (List.getElem?_eq_getElem hl), List.getElem?_eq_getElem hl]
/-- One cell of one struct is written over. -/
theorem sArr_set {i c : Nat} {v : Value} (hi : i < n) (hc : c < k) (hk : ∀ i, i < n → (enc i).length = k) : (sArr n k enc).setIfInBounds (i * k + c) v = sArr n k (fun j => if j = i then (enc j).set c v else enc j) := by
  refine sArr_of (fun j hj => ?_) (by simp [sArr_size]) fun j d hj hd => ?_
  · split
    · rw [List.length_set]; exact hk j hj
    · exact hk j hj
  · have hl : d < (enc j).length := by rw [hk j hj]; exact hd
    have hg := sArr_get hj hd (List.getElem?_eq_getElem hl)
    by_cases he : i * k + c = j * k + d
    · have h1 := place_div (i := i) hc
      have h2 := place_div (i := j) hd
      rw [he] at h1
      obtain rfl : j = i := h2.1.symm.trans h1.1
      obtain rfl : d = c := h2.2.symm.trans h1.2
      rw [if_pos rfl, Array.getElem?_setIfInBounds_self_of_lt (by rw [sArr_size]; exact place_lt hi hc), List.getElem?_set_self hl]
    · rw [Array.getElem?_setIfInBounds_ne he, hg]
      by_cases hji : j = i
      · subst hji
        rw [if_pos rfl, List.getElem?_set_ne (by omega), List.getElem?_eq_getElem hl]
      · rw [if_neg hji, List.getElem?_eq_getElem hl]
end
end Go.Proofs.Ytpfmadinijofeaa
end
section
/- 'slices.Sorted(maps.Keys(m))' of a map with int keys, out of the library's contracts. No program in sight. -/
namespace Go.Proofs.Ytpfmadinijofeaa
open Go.RowKit Go.Maps Go.Sort Go.Shelf Go.MapKept
variable {P : Program}
abbrev R0 : Value → Option (DataW Unit × List MemPlace) := fun _ => some (.nil, [])
def litOf (p : Int × Value) : Lit × DataW Unit := (.int .i64 p.1, .nil)
theorem in64_wf {x : Int} (h : -9223372036854775808 ≤ x ∧ x ≤ 9223372036854775807) : (Lit.int .i64 x).wf = true := by
  have h1 : IntKind.i64.min = -9223372036854775808 := by decide
  have h2 : IntKind.i64.max = 9223372036854775807 := by decide
  simp [Lit.wf, h1, h2]
  omega
theorem MapAt.owns {k : TypeId} (hk : P.underlying k = some (.int .i64)) {w : World} {b : Nat} {m : List (Int × Value)} (h : MapAt w b m) (hr : ∀ p ∈ m, -9223372036854775808 ≤ p.1 ∧ p.1 ≤ 9223372036854775807) (hl : m.length ≤ maxLen) :
    w.ownsMap P k R0 b m.length (.map ((m.map litOf).foldr DataW.insert [])) := by
  obtain ⟨es, clock, hb, hs, hm⟩ := h
  have hlen : es.size = m.length := by have := congrArg List.length hm; simpa using this
  have hrd : ∀ x ∈ es.toList, ∃ p ∈ m, x.key = .int .i64 p.1 ∧ WideElems.rd P k R0 x = some (litOf p) := by
    intro x hx
    have : (x.key, x.val) ∈ m.map kvOf := hm ▸ List.mem_map.2 ⟨x, hx, rfl⟩
    obtain ⟨p, hp, hpe⟩ := List.mem_map.1 this
    have hkey : x.key = .int .i64 p.1 := (congrArg Prod.fst hpe).symm
    refine ⟨p, hp, hkey, ?_⟩
    have := keyOf_int_mk hk (in64_wf (hr p hp))
    unfold WideElems.rd
    rw [hkey, this]
    rfl
  refine ⟨es, clock, hb, ⟨by omega, hs, fun x hx => ?_⟩, by omega, ?_⟩
  · obtain ⟨p, _, _, h⟩ := hrd x hx
    exact ⟨_, h⟩
  · have : es.toList.map (WideElems.rg P k R0) = m.map litOf := by
      have key : ∀ (l : List MapEntry) (m : List (Int × Value)), l.map (fun e => (e.key, e.val)) = m.map kvOf → (∀ x ∈ l, ∃ p : Int × Value, x.key = .int .i64 p.1 ∧ WideElems.rd P k R0 x = some (litOf p)) → l.map (WideElems.rg P k R0) = m.map litOf := by
        intro l
        induction l with
        | nil => intro m h _; cases m with | nil => rfl | cons _ _ => cases h
        | cons x l ih =>
          intro m h hx
          cases m with
          | nil => cases h
          | cons q m =>
            injection h with h1 h2
            obtain ⟨p, e1, e2⟩ := hx x (List.mem_cons_self ..)
            have e3 : x.key = .int .i64 q.1 := congrArg Prod.fst h1
            have e4 : p.1 = q.1 := kv_inj (e1.symm.trans e3)
            rw [List.map_cons, List.map_cons, ih m h2 fun y hy => hx y (List.mem_cons_of_mem _ hy)]
            congr 1
            unfold WideElems.rg
            rw [e2]
            show litOf p = litOf q
            unfold litOf
            rw [e4]
      exact key _ _ hm fun x hx => by obtain ⟨p, _, h1, h2⟩ := hrd x hx; exact ⟨p, h1, h2⟩
    rw [this]
theorem intKeys_perm (m : List (Int × Value)) : (intKeys (.map ((m.map litOf).foldr DataW.insert []) : DataW Unit)).Perm (m.map (·.1)) := by
  show (((m.map litOf).foldr DataW.insert []).map fun p : Lit × DataW Unit => Go.intOf p.1).Perm _
  refine ((WideShapes.sorted_perm (m.map litOf)).map _).trans ?_
  rw [List.map_map]
  exact List.Perm.refl _
/-- The keys, sorted. -/
def sortK (m : List (Int × Value)) : List Int := (m.map (·.1)).mergeSort leI
theorem Own.ofRow {w : World} {base : Nat} {e : TypeId} {size : Nat} {v : Value} {n : Nat} {xs : List Value} (h : w.ownsRow base e size v n xs) : Own w base e size v n xs := by
  refine ⟨h.1, h.2.elim .inl fun ⟨g, cap, cur, h1, h2, h3, h4, h5, h6, h7⟩ => .inr ⟨g, 0, cap, cur, h1, h2, h3, h4, h5, by omega, by rw [List.drop_zero]; exact h7⟩⟩
section
variable {ρK ρS ρQ : Ren}
theorem sortK_calls (LK : SlLaysZI.n10 P ρK) (LS : SlLaysZI.n6 P ρS) (hk : P.underlying (ρK.t 26) = some (.int .i64)) (hsort : AnyZI.SortsIn P ρS Fence.wide 4)
    (e9 : ∀ args w, (callFunc (ρS.f 9) args).run P w = .ok (.enter (ρS.f 9) args) w) (eg : ∀ args w, (callFunc (ρK.f 10) args).run P w = .ok (.enter (ρK.f 10) args) w)
    (w : World) (Bm b : Nat) (m : List (Int × Value)) (hBm : Bm < w.heap.size) (hc : w.cell? ⟨Bm, 0, none⟩ = some (.map (some b))) (h : MapAt w b m)
    (hr : ∀ p ∈ m, -9223372036854775808 ≤ p.1 ∧ p.1 ≤ 9223372036854775807) (hl : m.length ≤ 1000000) :
    Calls P (ρS.f 6) #[.func (.func (ρK.f 10)) #[] #[.pointer (some ⟨Bm, 0, none⟩)]] w fun e w' => ∃ a c, e = .returned (.slice a (sortK m).length c) ∧
      Own w' w.heap.size (ρS.t 26) 1 (.slice a (sortK m).length c) (sortK m).length ((sortK m).map (Value.int .i64)) ∧ (a = none ↔ sortK m = []) ∧ Below w.heap.size w w' := by
  have hlm : m.length ≤ maxLen := by unfold maxLen; omega
  have hown := h.owns hk hr hlm
  have hsz : Maps.size (.map ((m.map litOf).foldr DataW.insert []) : DataW Unit) = m.length := by
    show ((m.map litOf).foldr DataW.insert []).length = _
    rw [length_sorted]; simp
  have hseq : SeqGives Fence.wide 2 P (ρK.f 10) #[.pointer (some ⟨Bm, 0, none⟩)] encZ (fun ss => ss.Perm (intKeys (.map ((m.map litOf).foldr DataW.insert []) : DataW Unit))) m.length w := by
    have := AnyZI.keys_gives (ρ := ρK) LK Fence.wide 2 trivial rfl (by omega) Bm b m.length (.map ((m.map litOf).foldr DataW.insert []) : DataW Unit) w hBm hc hown
    rw [hsz] at this
    exact this
  have cS := AnyZI.sorted_in LS Fence.wide 5 trivial trivial trivial trivial rfl (by omega) (by exact hsort) e9 (ρK.f 10) #[.pointer (some ⟨Bm, 0, none⟩)] trivial eg _ m.length hlm (by omega) w hseq
  refine ((callsIn_wide (n := 5)).1 cS).mono ?_
  rintro e w' ⟨v, ss, rfl, hS, hrow, hnil, hb⟩
  have hp : ss.Perm (m.map (·.1)) := hS.trans (intKeys_perm m)
  have hms : ss.mergeSort (fun x y => decide (x ≤ y)) = sortK m := mergeSort_of_perm_i hp
  rw [hms] at hrow
  have hlen : ss.length = (sortK m).length := by rw [← hms]; exact (List.mergeSort_perm ss _).length_eq.symm
  rw [hlen] at hrow
  have ho := Own.ofRow hrow
  obtain ⟨a, c, rfl⟩ := ho.isSlice
  refine ⟨a, c, rfl, ho, ?_, hb⟩
  have hss : ss = [] ↔ sortK m = [] := by
    rw [← List.length_eq_zero_iff, ← List.length_eq_zero_iff, hlen]
  rw [← hss, ← hnil]
  constructor
  · rintro rfl
    rcases ho.2 with ⟨h1, h2⟩ | ⟨g, off, cap, cur, h1, _⟩
    · rw [h1]
    · cases h1
  · intro e; injection e
end
end Go.Proofs.Ytpfmadinijofeaa
end
section
/- The disk of layer 4, as a function: what lasts, the cache, what is left of the power. No program in sight. -/
namespace Go.Proofs.Ytpfmadinijofeaa
open Go.RowKit
structure DS where
  n : Nat
  last : Nat → List UInt8
  cch : Nat → Option (List UInt8)
  left : Int
  off : Bool
def zero64 : List UInt8 := List.replicate 64 0
structure DWf (S : DS) : Prop where
  n1 : 1 ≤ S.n
  n2 : S.n ≤ 8192
  last : ∀ i, (S.last i).length = 64
  cch : ∀ i s, S.cch i = some s → i < S.n ∧ s.length = 64
  left0 : 0 ≤ S.left
  leftM : S.left ≤ 9223372036854775807
def newS (n : Nat) : DS := ⟨n, fun _ => zero64, fun _ => none, 0, false⟩
theorem newS_wf {n : Nat} (h1 : 1 ≤ n) (h2 : n ≤ 8192) : DWf (newS n) := ⟨h1, h2, fun _ => rfl, fun _ _ h => (by cases h), by show (0 : Int) ≤ 0; decide, by show (0 : Int) ≤ _; decide⟩
def nowS (S : DS) (i : Nat) : List UInt8 := (S.cch i).getD (S.last i)
theorem DWf.now {S : DS} (h : DWf S) (i : Nat) : (nowS S i).length = 64 := by
  unfold nowS
  cases hc : S.cch i with
  | none => exact h.last i
  | some s => exact (h.cch i s hc).2
def mayE (S : DS) (first n : Int) : Int := if S.off = true then 12 else if 0 ≤ first ∧ 0 ≤ n ∧ first ≤ S.n ∧ n ≤ S.n - first then 0 else 1
theorem mayE_zero {S : DS} {first n : Int} (h : mayE S first n = 0) : S.off = false ∧ 0 ≤ first ∧ 0 ≤ n ∧ first ≤ S.n ∧ n ≤ S.n - first := by
  unfold mayE at h
  split at h
  · omega
  · rename_i ho
    split at h
    · rename_i hc; exact ⟨by cases hh : S.off; rfl; exact absurd hh ho, hc⟩
    · omega
def readS (S : DS) (first n : Nat) : List UInt8 := (List.range n).flatMap fun i => nowS S (first + i)
theorem readS_succ (S : DS) (first n : Nat) : readS S first (n + 1) = readS S first n ++ nowS S (first + n) := by
  unfold readS
  rw [List.range_succ, List.flatMap_append]
  simp
theorem readS_len {S : DS} (h : DWf S) (first : Nat) : ∀ n, (readS S first n).length = n * 64
  | 0 => rfl
  | n + 1 => by rw [readS_succ, List.length_append, readS_len h first n, h.now]; omega
def readL (S : DS) (first n : Int) : List UInt8 := if mayE S first n = 0 then readS S first.toNat n.toNat else []
def putK (S : DS) (k : Nat) (s : List UInt8) : DS :=
  ⟨S.n, S.last, fun i => if i = k then some s else S.cch i, if 0 < S.left then S.left - 1 else S.left, if 0 < S.left then decide (S.left - 1 = 0) else S.off⟩
theorem DWf.put {S : DS} (h : DWf S) {k : Nat} {s : List UInt8} (hk : k < S.n) (hs : s.length = 64) : DWf (putK S k s) := by
  refine ⟨h.n1, h.n2, h.last, fun i t ht => ?_, ?_, ?_⟩
  · change (if i = k then some s else S.cch i) = some t at ht
    split at ht
    · rename_i e; subst e; injection ht with ht; subst ht; exact ⟨hk, hs⟩
    · exact h.cch i t ht
  · show (0 : Int) ≤ if 0 < S.left then S.left - 1 else S.left
    have := h.left0
    split <;> omega
  · show (if 0 < S.left then S.left - 1 else S.left) ≤ (9223372036854775807 : Int)
    have := h.leftM
    split <;> omega
/-- Pieces put one behind the other, till the power is off. -/
def wrS (S : DS) (first : Nat) (f : Nat → List UInt8) : Nat → DS
  | 0 => S
  | k + 1 => if (wrS S first f k).off = true then wrS S first f k else putK (wrS S first f k) (first + k) (f k)
theorem wrS_n (S : DS) (first : Nat) (f : Nat → List UInt8) : ∀ k, (wrS S first f k).n = S.n
  | 0 => rfl
  | k + 1 => by
    rw [wrS]
    split
    · exact wrS_n S first f k
    · exact wrS_n S first f k
theorem wrS_stay {S : DS} {first : Nat} {f : Nat → List UInt8} {i : Nat} (h : (wrS S first f i).off = true) : ∀ {j : Nat}, i ≤ j → wrS S first f j = wrS S first f i
  | 0, hj => by rw [show i = 0 by omega]
  | j + 1, hj => by
    by_cases e : i = j + 1
    · rw [e]
    · have := wrS_stay h (j := j) (by omega)
      rw [wrS, this, if_pos h]
theorem DWf.wr {S : DS} (h : DWf S) {first : Nat} {f : Nat → List UInt8} : ∀ {m : Nat}, (∀ k, k < m → (f k).length = 64) → first + m ≤ S.n → DWf (wrS S first f m)
  | 0, _, _ => h
  | m + 1, hf, hm => by
    have ih := DWf.wr h (first := first) (f := f) (m := m) (fun k hk => hf k (by omega)) (by omega)
    rw [wrS]
    split
    · exact ih
    · exact ih.put (by rw [wrS_n]; omega) (hf m (by omega))
def pieceB (b : List UInt8) (k : Nat) : List UInt8 := (b.drop (k * 64)).take 64
theorem pieceB_len {b : List UInt8} {k m : Nat} (h : b.length = m * 64) (hk : k < m) : (pieceB b k).length = 64 := by
  unfold pieceB
  rw [List.length_take, List.length_drop, h]
  have : (k + 1) * 64 ≤ m * 64 := Nat.mul_le_mul_right 64 hk
  omega
def writeE (S : DS) (first : Int) (b : List UInt8) : Int :=
  if mayE S first ((b.length / 64 : Nat) : Int) ≠ 0 then mayE S first ((b.length / 64 : Nat) : Int)
  else if b.length % 64 ≠ 0 then 1 else if (wrS S first.toNat (pieceB b) (b.length / 64)).off = true then 12 else 0
def writeD (S : DS) (first : Int) (b : List UInt8) : DS :=
  if mayE S first ((b.length / 64 : Nat) : Int) = 0 ∧ b.length % 64 = 0 then wrS S first.toNat (pieceB b) (b.length / 64) else S
theorem DWf.write {S : DS} (h : DWf S) (first : Int) (b : List UInt8) : DWf (writeD S first b) := by
  unfold writeD
  split
  · rename_i hc
    obtain ⟨h1, h2, h3, h4, h5⟩ := mayE_zero hc.1
    have hb : b.length = b.length / 64 * 64 := by omega
    exact h.wr (fun k hk => pieceB_len hb hk) (by omega)
  · exact h
def syncE (S : DS) : Int := if S.off = true then 12 else 0
def syncD (S : DS) : DS := if S.off = true then S else ⟨S.n, nowS S, fun _ => none, S.left, S.off⟩
theorem DWf.sync {S : DS} (h : DWf S) : DWf (syncD S) := by
  unfold syncD
  split
  · exact h
  · exact ⟨h.n1, h.n2, h.now, fun _ _ q => (by cases q), h.left0, h.leftM⟩
def cutD (S : DS) (n : Int) : DS := ⟨S.n, S.last, S.cch, max n 0, S.off⟩
theorem DWf.cut {S : DS} (h : DWf S) {n : Int} (hn : n ≤ 9223372036854775807) : DWf (cutD S n) := ⟨h.n1, h.n2, h.last, h.cch, by show (0 : Int) ≤ max n 0; omega, by show max n 0 ≤ (9223372036854775807 : Int); omega⟩
/-! What is in the cache, in order; how many stand before. -/
def dirtyS (S : DS) (i : Nat) : Bool := (S.cch i).isSome
def dirtyL (S : DS) : List Nat := (List.range S.n).filter (dirtyS S)
def rk (p : Nat → Bool) (i : Nat) : Nat := ((List.range i).filter p).length
theorem rk_succ (p : Nat → Bool) (i : Nat) : rk p (i + 1) = rk p i + if p i = true then 1 else 0 := by
  unfold rk
  rw [List.range_succ, List.filter_append, List.length_append]
  congr 1
  cases h : p i <;> simp [h]
theorem filt_get (p : Nat → Bool) : ∀ (n k i : Nat), ((List.range n).filter p)[k]? = some i → k = rk p i ∧ i < n ∧ p i = true
  | 0, k, i, h => by simp at h
  | n + 1, k, i, h => by
    rw [List.range_succ, List.filter_append] at h
    by_cases hk : k < ((List.range n).filter p).length
    · rw [List.getElem?_append_left hk] at h
      obtain ⟨a, b, c⟩ := filt_get p n k i h
      exact ⟨a, by omega, c⟩
    · rw [List.getElem?_append_right (by omega)] at h
      cases hp : p n with
      | false => simp [hp] at h
      | true =>
        simp only [List.filter_cons, hp, if_true, List.filter_nil] at h
        have hz : k - ((List.range n).filter p).length = 0 := by
          have := (List.getElem?_eq_some_iff.1 h).1
          simpa using this
        rw [hz] at h
        simp at h
        subst h
        exact ⟨by unfold rk; omega, by omega, hp⟩
theorem filt_rk (p : Nat → Bool) {n i : Nat} (hi : i < n) (hp : p i = true) : ((List.range n).filter p)[rk p i]? = some i := by
  have hm : i ∈ (List.range n).filter p := List.mem_filter.2 ⟨List.mem_range.2 hi, hp⟩
  obtain ⟨k, hk⟩ := List.getElem?_of_mem hm
  rw [← (filt_get p n k i hk).1]
  exact hk
def crashD (S : DS) (kept : List Bool) : DS := ⟨S.n, fun i => if dirtyS S i = true ∧ kept.getD (rk (dirtyS S) i) false = true then nowS S i else S.last i, fun _ => none, 0, false⟩
theorem DWf.crash {S : DS} (h : DWf S) (kept : List Bool) : DWf (crashD S kept) :=
  ⟨h.n1, h.n2, fun i => by
    show (if dirtyS S i = true ∧ kept.getD (rk (dirtyS S) i) false = true then nowS S i else S.last i).length = 64
    split
    · exact h.now i
    · exact h.last i, fun _ _ q => (by cases q), by show (0 : Int) ≤ 0; decide, by show (0 : Int) ≤ _; decide⟩
/-! Values. -/
def secV (s : List UInt8) : Value := .agg (s.map bV).toArray
def cD (S : DS) (k : Int) : Option Value := if k < 0 then none else (S.cch k.toNat).map secV
theorem cD_nat (S : DS) (k : Nat) : cD S (k : Int) = (S.cch k).map secV := by unfold cD; rw [if_neg (by omega), Int.toNat_natCast]
def dirtyI (S : DS) : List Int := (dirtyL S).map fun (i : Nat) => (i : Int)
theorem dirtyL_sorted (S : DS) : (dirtyL S).Pairwise (· < ·) := (List.pairwise_lt_range).filter _
theorem dirtyI_sorted (S : DS) : (dirtyI S).Pairwise (· < ·) := by
  unfold dirtyI
  rw [List.pairwise_map]
  exact (dirtyL_sorted S).imp fun h => by omega
theorem dirtyL_le {S : DS} (h : DWf S) : (dirtyL S).length ≤ 8192 := by
  have := List.length_filter_le (dirtyS S) (List.range S.n)
  rw [List.length_range] at this
  exact Nat.le_trans this h.n2
theorem mem_dirtyI {S : DS} (h : DWf S) {k : Int} : k ∈ dirtyI S ↔ 0 ≤ k ∧ (S.cch k.toNat).isSome = true := by
  unfold dirtyI dirtyL
  rw [List.mem_map]
  constructor
  · rintro ⟨i, hi, rfl⟩
    exact ⟨by omega, by rw [Int.toNat_natCast]; exact (List.mem_filter.1 hi).2⟩
  · rintro ⟨h0, h1⟩
    refine ⟨k.toNat, List.mem_filter.2 ⟨List.mem_range.2 ?_, h1⟩, by omega⟩
    obtain ⟨s, hs⟩ := Option.isSome_iff_exists.1 h1
    exact (h.cch _ s hs).1
end Go.Proofs.Ytpfmadinijofeaa
end
section
/- The sum of 32 bits as plain numbers: bit steps, nibbles, bytes, texts; no program in sight. -/
namespace Go.Proofs.Ytpfmadinijofeaa
def st (n : Nat) : Nat := if n % 2 = 1 then (n / 2) ^^^ 3988292384 else n / 2
def iter (f : Nat → Nat) : Nat → Nat → Nat
  | 0, n => n
  | k + 1, n => f (iter f k n)
def tbl : List Nat := [0, 498536548, 997073096, 651767980, 1994146192, 1802195444, 1303535960, 1342533948, 3988292384, 4027552580, 3604390888, 3412177804, 2607071920, 2262029012, 2685067896, 3183342108]
theorem tbl_ok : ∀ k, k < 16 → iter st 4 k = tbl.getD k 0 := by decide
theorem tbl_lt : ∀ k, tbl.getD k 0 < 4294967296 := by
  intro k
  by_cases h : k < 16
  · exact (by decide : ∀ k, k < 16 → tbl.getD k 0 < 4294967296) k h
  · rw [List.getD_eq_getElem?_getD, List.getElem?_eq_none (by show 16 ≤ k; omega)]; decide
def nib (n : Nat) : Nat := (n / 16) ^^^ (tbl.getD (n % 16) 0)
def cb (n x : Nat) : Nat := nib (nib (n ^^^ x))
def crcL (n : Nat) (bs : List UInt8) : Nat := bs.foldl (fun n x => cb n x.toNat) n
def cpl (n : Nat) : Nat := 4294967295 ^^^ n
/-- 'More'. -/
def more (n : Nat) (bs : List UInt8) : Nat := cpl (crcL (cpl n) bs)
/-- 'Sum' of parts, from a sum on. -/
def crcP (n : Nat) (ps : List (List UInt8)) : Nat := ps.foldl more n

theorem xlt {a b : Nat} (ha : a < 4294967296) (hb : b < 4294967296) : a ^^^ b < 4294967296 := Nat.xor_lt_two_pow (n := 32) ha hb
theorem st_lt {n : Nat} (h : n < 4294967296) : st n < 4294967296 := by
  unfold st
  split
  · exact xlt (by omega) (by omega)
  · omega
theorem iter_lt {n : Nat} (k : Nat) (h : n < 4294967296) : iter st k n < 4294967296 := by
  induction k with
  | zero => exact h
  | succ k ih => exact st_lt ih
theorem nib_lt {n : Nat} (h : n < 4294967296) : nib n < 4294967296 := xlt (by omega) (tbl_lt _)
theorem cb_lt {n : Nat} (x : UInt8) (h : n < 4294967296) : cb n x.toNat < 4294967296 := nib_lt (nib_lt (xlt h (by have := x.toNat_lt; omega)))
theorem crcL_lt (bs : List UInt8) : ∀ {n : Nat}, n < 4294967296 → crcL n bs < 4294967296 := by
  induction bs with
  | nil => intro n h; exact h
  | cons x bs ih => intro n h; exact ih (cb_lt x h)
theorem xself (a b : Nat) : a ^^^ (a ^^^ b) = b := by rw [← Nat.xor_assoc, Nat.xor_self, Nat.zero_xor]
theorem cpl_def (n : Nat) : cpl n = 4294967295 ^^^ n := rfl
theorem cpl_lt {n : Nat} (h : n < 4294967296) : cpl n < 4294967296 := by
  unfold cpl
  exact xlt (by decide) h
theorem more_lt {n : Nat} (bs : List UInt8) (h : n < 4294967296) : more n bs < 4294967296 := cpl_lt (crcL_lt _ (cpl_lt h))
theorem cpl_cpl (n : Nat) : cpl (cpl n) = n := by rw [cpl_def, cpl_def, xself]
theorem crcP_lt (ps : List (List UInt8)) : ∀ {n : Nat}, n < 4294967296 → crcP n ps < 4294967296 := by
  induction ps with
  | nil => intro n h; exact h
  | cons x bs ih => intro n h; exact ih (more_lt _ h)
theorem crcL_append (n : Nat) (a b : List UInt8) : crcL n (a ++ b) = crcL (crcL n a) b := List.foldl_append
theorem more_append {n : Nat} (a b : List UInt8) : more n (a ++ b) = more (more n a) b := by
  unfold more
  rw [crcL_append, cpl_cpl]
theorem more_nil (n : Nat) : more n [] = n := cpl_cpl n
/-- Parts, one behind the other, are all at once. -/
theorem crcP_join (ps : List (List UInt8)) : ∀ n : Nat, crcP n ps = more n ps.flatten := by
  induction ps with
  | nil => intro n; exact (more_nil n).symm
  | cons x bs ih =>
    intro n
    show crcP (more n x) bs = more n (x ++ bs.flatten)
    rw [ih, more_append]

/-! A bit step is linear; four of them are a nibble. -/
theorem xlc (a b c : Nat) : a ^^^ (b ^^^ c) = b ^^^ (a ^^^ c) := by rw [← Nat.xor_assoc, Nat.xor_comm a b, Nat.xor_assoc]
theorem div_xor (a b : Nat) : (a ^^^ b) / 2 = a / 2 ^^^ b / 2 := by
  apply Nat.eq_of_testBit_eq; intro i; simp [Nat.testBit_div_two]
theorem st_xor (a b : Nat) : st (a ^^^ b) = st a ^^^ st b := by
  have h : (a ^^^ b) % 2 = (a % 2 + b % 2) % 2 := by
    have h1 := @Nat.xor_mod_two_eq_one a b
    rcases Nat.mod_two_eq_zero_or_one a with x | x <;> rcases Nat.mod_two_eq_zero_or_one b with y | y <;> rcases Nat.mod_two_eq_zero_or_one (a ^^^ b) with z | z <;> simp [x, y, z] at h1 ⊢
  unfold st
  rw [h, div_xor]
  rcases Nat.mod_two_eq_zero_or_one a with x | x <;> rcases Nat.mod_two_eq_zero_or_one b with y | y <;> simp [x, y]
  · rw [Nat.xor_assoc]
  · rw [Nat.xor_comm (a / 2 ^^^ 3988292384), xlc, Nat.xor_comm (b / 2), Nat.xor_assoc, Nat.xor_comm 3988292384]
  · rw [Nat.xor_assoc, Nat.xor_comm (b / 2), xself]
theorem iter_xor (k a b : Nat) : iter st k (a ^^^ b) = iter st k a ^^^ iter st k b := by
  induction k with
  | zero => rfl
  | succ k ih => show st (iter st k (a ^^^ b)) = _; rw [ih, st_xor]; rfl
theorem iter_add (j k a : Nat) : iter st (j + k) a = iter st j (iter st k a) := by
  induction j with
  | zero => rw [Nat.zero_add]; rfl
  | succ j ih => rw [Nat.succ_add]; show st (iter st (j + k) a) = st (iter st j (iter st k a)); rw [ih]
theorem st_even (a : Nat) : st (2 * a) = a := by unfold st; rw [if_neg (by omega)]; omega
theorem nib_iter (n : Nat) : nib n = iter st 4 n := by
  have e : n = (16 * (n / 16)) ^^^ (n % 16) := by
    apply Nat.eq_of_testBit_eq; intro i
    rw [Nat.testBit_xor, show 16 = 2 ^ 4 from rfl, Nat.testBit_two_pow_mul, Nat.testBit_mod_two_pow, Nat.testBit_div_two_pow]
    by_cases h : 4 ≤ i
    · simp [h, show ¬ i < 4 by omega, show i - 4 + 4 = i by omega]
    · simp [h, show i < 4 by omega]
  have h2 : iter st 4 (16 * (n / 16)) = n / 16 := by
    show st (st (st (st (16 * (n / 16))))) = _
    rw [show 16 * (n / 16) = 2 * (2 * (2 * (2 * (n / 16)))) by omega, st_even, st_even, st_even, st_even]
  conv => rhs; rw [e]
  rw [iter_xor, h2, tbl_ok _ (Nat.mod_lt _ (by omega))]; rfl
theorem cb_iter (n x : Nat) : cb n x = iter st 8 (n ^^^ x) := by
  unfold cb; rw [nib_iter, nib_iter, ← iter_add]

/-! The division of bits: each bit of the byte as it comes. -/
def rst (n x k : Nat) : Nat := if (n % 2 + x / 2 ^ k % 2) % 2 = 1 then (n / 2) ^^^ 3988292384 else n / 2
def rsteps (x : Nat) : Nat → Nat → Nat
  | 0, n => n
  | k + 1, n => rst (rsteps x k n) x k
theorem rst_lt {n : Nat} (x k : Nat) (h : n < 4294967296) : rst n x k < 4294967296 := by
  unfold rst
  split
  · exact xlt (by omega) (by omega)
  · omega
theorem rsteps_lt {n : Nat} (x k : Nat) (h : n < 4294967296) : rsteps x k n < 4294967296 := by
  induction k with
  | zero => exact h
  | succ k ih => exact rst_lt _ _ ih
theorem rsteps_iter (x n k : Nat) : iter st k (n ^^^ x) = rsteps x k n ^^^ (x / 2 ^ k) := by
  induction k with
  | zero => show n ^^^ x = n ^^^ x / 1; rw [Nat.div_one]
  | succ k ih =>
    show st (iter st k (n ^^^ x)) = rst (rsteps x k n) x k ^^^ (x / 2 ^ (k + 1))
    rw [ih, st_xor]
    generalize rsteps x k n = m
    have e : x / 2 ^ (k + 1) = x / 2 ^ k / 2 := by rw [Nat.pow_succ, Nat.div_div_eq_div_mul]
    rw [e]
    unfold rst
    generalize x / 2 ^ k = y
    unfold st
    rcases Nat.mod_two_eq_zero_or_one m with a | a <;> rcases Nat.mod_two_eq_zero_or_one y with b | b <;> simp [a, b]
    · rw [Nat.xor_assoc, Nat.xor_comm (y / 2)]
    · rw [Nat.xor_assoc, Nat.xor_comm (y / 2), xself]
theorem cb_rsteps (n : Nat) (x : UInt8) : cb n x.toNat = rsteps x.toNat 8 n := by
  rw [cb_iter, rsteps_iter, Nat.div_eq_of_lt (by have := x.toNat_lt; omega), Nat.xor_zero]

/-! Two texts whose difference lies within four bytes have unlike sums. -/
theorem st_zero {e : Nat} (h : e < 4294967296) (h0 : st e = 0) : e = 0 := by
  unfold st at h0
  split at h0
  · have h1 : e / 2 = 3988292384 := by
      have h2 := xself 3988292384 (e / 2)
      rw [Nat.xor_comm 3988292384 (e / 2), h0, Nat.xor_zero] at h2
      exact h2.symm
    omega
  · omega
theorem iter_zero (k : Nat) : ∀ {e : Nat}, e < 4294967296 → iter st k e = 0 → e = 0 := by
  induction k with
  | zero => intro e _ h; exact h
  | succ k ih => intro e he h; exact ih he (st_zero (iter_lt k he) h)
theorem cb_xor (n e x d : Nat) : cb (n ^^^ e) (x ^^^ d) = cb n x ^^^ iter st 8 (e ^^^ d) := by
  rw [cb_iter, cb_iter, ← iter_xor]
  congr 1
  rw [Nat.xor_assoc, Nat.xor_assoc, xlc e x d]
theorem crcL_xor (post : List UInt8) : ∀ (n e : Nat), crcL (n ^^^ e) post = crcL n post ^^^ iter st (8 * post.length) e := by
  induction post with
  | nil => intro n e; rfl
  | cons x r ih =>
    intro n e
    show crcL (cb (n ^^^ e) x.toNat) r = crcL (cb n x.toNat) r ^^^ iter st (8 * (r.length + 1)) e
    have h := cb_xor n e x.toNat 0
    rw [Nat.xor_zero, Nat.xor_zero] at h
    rw [h, ih, Nat.mul_add, iter_add]
theorem st_shift (k : Nat) : ∀ e, iter st k (2 ^ k * e) = e := by
  induction k with
  | zero => intro e; show 1 * e = e; rw [Nat.one_mul]
  | succ k ih =>
    intro e
    rw [iter_add k 1, show iter st 1 (2 ^ (k + 1) * e) = 2 ^ k * e from ?_]
    · exact ih e
    · show st (2 ^ (k + 1) * e) = _
      rw [Nat.pow_succ, Nat.mul_comm (2 ^ k) 2, Nat.mul_assoc, st_even]
theorem xeq {a b : Nat} (h : a ^^^ b = 0) : a = b := by rw [← xself a b, h, Nat.xor_zero]
theorem iter8_eq {u v : Nat} (hu : u < 4294967296) (hv : v < 16777216) (h : iter st 8 u = v) : u = 256 * v := by
  have h2 := st_shift 8 v
  have h3 : iter st 8 (u ^^^ 2 ^ 8 * v) = 0 := by rw [iter_xor, h, h2, Nat.xor_self]
  exact xeq (iter_zero 8 (xlt hu (by omega)) h3)
theorem xor_out {a b c : Nat} (h : a ^^^ b = c) : a = b ^^^ c := by rw [← h, Nat.xor_comm a b, xself]
theorem four_zero {d0 d1 d2 d3 : Nat} (h0 : d0 < 256) (h1 : d1 < 256) (h2 : d2 < 256) (h3 : d3 < 256)
    (h : iter st 8 (iter st 8 (iter st 8 (iter st 8 d0 ^^^ d1) ^^^ d2) ^^^ d3) = 0) : d0 = 0 ∧ d1 = 0 ∧ d2 = 0 ∧ d3 = 0 := by
  have l0 : iter st 8 d0 < 4294967296 := iter_lt 8 (by omega)
  have l1 : iter st 8 (iter st 8 d0 ^^^ d1) < 4294967296 := iter_lt 8 (xlt l0 (by omega))
  have l2 : iter st 8 (iter st 8 (iter st 8 d0 ^^^ d1) ^^^ d2) < 4294967296 := iter_lt 8 (xlt l1 (by omega))
  have a3 := iter_zero 8 (xlt l2 (show d3 < 4294967296 by omega)) h
  have a2 := xor_out (iter8_eq (xlt l1 (show d2 < 4294967296 by omega)) (show d3 < 16777216 by omega) (xeq a3))
  have m2 : d2 ^^^ 256 * d3 < 16777216 := Nat.xor_lt_two_pow (n := 24) (by omega) (by omega)
  have a1 := xor_out (iter8_eq (xlt l0 (show d1 < 4294967296 by omega)) m2 a2)
  have m2' : d2 ^^^ 256 * d3 < 65536 := Nat.xor_lt_two_pow (n := 16) (by omega) (by omega)
  generalize hz : d2 ^^^ 256 * d3 = z at *
  have m1 : d1 ^^^ 256 * z < 16777216 := Nat.xor_lt_two_pow (n := 24) (by omega) (by omega)
  have a0 := iter8_eq (show d0 < 4294967296 by omega) m1 a1
  generalize hy : d1 ^^^ 256 * z = y at *
  have y0 : y = 0 := by omega
  subst y0
  have := xeq hy
  have z0 : z = 0 := by omega
  subst z0
  have := xeq hz
  omega
theorem crc_differs (pre post : List UInt8) (x0 x1 x2 x3 y0 y1 y2 y3 : UInt8) (d0 d1 d2 d3 : Nat) (h0 : d0 < 256) (h1 : d1 < 256) (h2 : d2 < 256) (h3 : d3 < 256)
    (e0 : y0.toNat = x0.toNat ^^^ d0) (e1 : y1.toNat = x1.toNat ^^^ d1) (e2 : y2.toNat = x2.toNat ^^^ d2) (e3 : y3.toNat = x3.toNat ^^^ d3) (hd : ¬ (d0 = 0 ∧ d1 = 0 ∧ d2 = 0 ∧ d3 = 0)) :
    more 0 (pre ++ [x0, x1, x2, x3] ++ post) ≠ more 0 (pre ++ [y0, y1, y2, y3] ++ post) := by
  intro h
  unfold more at h
  have h' : crcL (cpl 0) (pre ++ [x0, x1, x2, x3] ++ post) = crcL (cpl 0) (pre ++ [y0, y1, y2, y3] ++ post) := by rw [← cpl_cpl (crcL (cpl 0) (pre ++ [x0, x1, x2, x3] ++ post)), h, cpl_cpl]
  rw [crcL_append, crcL_append, crcL_append, crcL_append] at h'
  generalize crcL (cpl 0) pre = s at h'
  have c0 : cb s y0.toNat = cb s x0.toNat ^^^ iter st 8 d0 := by have := cb_xor s 0 x0.toNat d0; rwa [Nat.xor_zero, Nat.zero_xor, ← e0] at this
  have c1 := cb_xor (cb s x0.toNat) (iter st 8 d0) x1.toNat d1
  have c2 := cb_xor (cb (cb s x0.toNat) x1.toNat) (iter st 8 (iter st 8 d0 ^^^ d1)) x2.toNat d2
  have c3 := cb_xor (cb (cb (cb s x0.toNat) x1.toNat) x2.toNat) (iter st 8 (iter st 8 (iter st 8 d0 ^^^ d1) ^^^ d2)) x3.toNat d3
  rw [← c0, ← e1] at c1
  rw [← c1, ← e2] at c2
  rw [← c2, ← e3] at c3
  rw [show crcL s [y0, y1, y2, y3] = cb (cb (cb (cb s y0.toNat) y1.toNat) y2.toNat) y3.toNat from rfl, c3, crcL_xor] at h'
  rw [show crcL s [x0, x1, x2, x3] = cb (cb (cb (cb s x0.toNat) x1.toNat) x2.toNat) x3.toNat from rfl] at h'
  generalize hE : iter st 8 (iter st 8 (iter st 8 (iter st 8 d0 ^^^ d1) ^^^ d2) ^^^ d3) = E at *
  have hz : iter st (8 * post.length) E = 0 := by
    generalize crcL (cb (cb (cb (cb s x0.toNat) x1.toNat) x2.toNat) x3.toNat) post = c at h'
    have h6 := xself c (iter st (8 * post.length) E)
    rw [← h', Nat.xor_self] at h6
    exact h6.symm
  have l3 : E < 4294967296 := by
    rw [← hE]
    exact iter_lt 8 (xlt (iter_lt 8 (xlt (iter_lt 8 (xlt (iter_lt 8 (by omega)) (by omega))) (by omega))) (by omega))
  have := iter_zero _ l3 hz
  exact hd (four_zero h0 h1 h2 h3 (hE.trans this))
end Go.Proofs.Ytpfmadinijofeaa
end
section
/- Images in slots (layer 6), as functions. No program in sight. -/
namespace Go.Proofs.Ytpfmadinijofeaa
open Go.RowKit
/-! Numbers in bytes, the highest first. -/
def beJ (n k j : Nat) : List UInt8 := (List.range j).map fun i => UInt8.ofNat (n / 2 ^ (8 * (k - 1 - i)) % 256)
def beB (n k : Nat) : List UInt8 := beJ n k k
theorem beJ_len (n k j : Nat) : (beJ n k j).length = j := by simp [beJ]
theorem beB_len (n k : Nat) : (beB n k).length = k := beJ_len n k k
theorem beJ_succ (n k j : Nat) : beJ n k (j + 1) = beJ n k j ++ [UInt8.ofNat (n / 2 ^ (8 * (k - 1 - j)) % 256)] := by
  unfold beJ
  rw [List.range_succ, List.map_append]
  rfl
theorem i64_or (a b : Nat) (ha : a < 9223372036854775808) (hb : b < 256) : bitsV .or .i64 (a : Int) (b : Int) = IntKind.i64.wrap ((a ||| b : Nat) : Int) := by
  show IntKind.i64.wrap (((BitVec.ofInt 64 (a : Int) ||| BitVec.ofInt 64 (b : Int)).toNat : Nat) : Int) = _
  rw [BitVec.toNat_or, ofInt_u64 a (by omega), ofInt_u64 b (by omega)]
theorem i64_and1 (x : Int) : bitsV .and .i64 x 1 = x % 2 := by
  show IntKind.i64.wrap (((BitVec.ofInt 64 x &&& BitVec.ofInt 64 ((1 : Nat) : Int)).toNat : Nat) : Int) = _
  rw [BitVec.toNat_and, ofInt_u64 1 (by omega), Nat.and_one_is_mod, wr64 (by omega) (by omega)]
  have : (BitVec.ofInt 64 x).toNat = (x % 18446744073709551616).toNat := by rw [BitVec.toNat_ofInt]; rfl
  rw [this]
  omega
theorem wrap64_rng (z : Int) : -9223372036854775808 ≤ IntKind.i64.wrap z ∧ IntKind.i64.wrap z ≤ 9223372036854775807 := by
  simp only [IntKind.wrap, IntKind.bits, IntKind.signed]
  by_cases hc : z % 2 ^ 64 ≥ 2 ^ (64 - 1)
  · simp only [hc, decide_true, Bool.and_true, if_true]; omega
  · simp only [hc, decide_false, Bool.and_false, if_false, Bool.false_eq_true]; omega
def stepI (a : Int) (b : Nat) : Int := bitsV .or .i64 (IntKind.i64.wrap (a * 2 ^ 8)) (IntKind.i64.wrap (b : Int))
theorem stepI_val (a b : Nat) (hb : b < 256) (h : a * 256 + b < 9223372036854775808) : stepI (a : Int) b = ((a * 256 + b : Nat) : Int) := by
  unfold stepI
  have h1 : a * 256 < 9223372036854775808 := Nat.lt_of_le_of_lt (Nat.le_add_right _ _) h
  have e8 : ((a : Int) * 2 ^ 8) = ((a * 256 : Nat) : Int) := by rw [show ((2 : Int) ^ 8) = 256 by decide +kernel, Int.natCast_mul]; rfl
  rw [e8, wr64 (by omega) (by omega), wr64 (by omega) (by omega), i64_or (a * 256) b h1 hb]
  rw [nat_join 8 (a * 256) b (by omega) (by omega), wr64 (by omega) (by omega)]
def foldI (a : Int) (bs : List UInt8) : Int := bs.foldl (fun a b => stepI a b.toNat) a
theorem foldI_snoc (a : Int) (bs : List UInt8) (b : UInt8) : foldI a (bs ++ [b]) = stepI (foldI a bs) b.toNat := by unfold foldI; rw [List.foldl_append]; rfl
theorem foldI_range : ∀ (bs : List UInt8), foldI 0 bs = 0 ∨ (-9223372036854775808 ≤ foldI 0 bs ∧ foldI 0 bs ≤ 9223372036854775807) := by
  intro bs
  rcases List.eq_nil_or_concat bs with rfl | ⟨l, b, rfl⟩
  · exact .inl rfl
  · right
    rw [List.concat_eq_append, foldI_snoc]
    unfold stepI
    exact wrap64_rng _
theorem foldI_rng (bs : List UInt8) : -9223372036854775808 ≤ foldI 0 bs ∧ foldI 0 bs ≤ 9223372036854775807 := by
  rcases foldI_range bs with h | h
  · rw [h]; omega
  · exact h
theorem ofNat_toNat {m : Nat} (h : m < 256) : (UInt8.ofNat m).toNat = m := by
  rw [UInt8.toNat_ofNat']
  omega
theorem pow8_succ (j : Nat) : 2 ^ (8 * (j + 1)) = 256 * 2 ^ (8 * j) := by
  rw [show 8 * (j + 1) = 8 + 8 * j by omega, Nat.pow_add]
theorem foldI_be {n k : Nat} (hn : n < 9223372036854775808) (hk : n < 2 ^ (8 * k)) : ∀ j, j ≤ k → foldI 0 (beJ n k j) = ((n / 2 ^ (8 * (k - j)) : Nat) : Int)
  | 0, _ => by
    rw [Nat.sub_zero, Nat.div_eq_of_lt hk]
    rfl
  | j + 1, hj => by
    rw [beJ_succ, foldI_snoc, foldI_be hn hk j (by omega)]
    have e1 : k - j = (k - (j + 1)) + 1 := by omega
    have e2 : k - 1 - j = k - (j + 1) := by omega
    rw [e1, e2, pow8_succ, ofNat_toNat (Nat.mod_lt _ (by omega))]
    generalize 2 ^ (8 * (k - (j + 1))) = p
    have e3 : n / (256 * p) = n / p / 256 := by rw [Nat.mul_comm, Nat.div_div_eq_div_mul]
    have h4 : n / p ≤ n := Nat.div_le_self _ _
    rw [e3, stepI_val _ _ (Nat.mod_lt _ (by omega)) (by omega)]
    congr 1
    omega
theorem foldI_beB {n : Nat} (hn : n < 9223372036854775808) : foldI 0 (beB n 8) = (n : Int) := by
  unfold beB
  rw [foldI_be hn (by omega) 8 (by omega)]
  simp
/-! A slot. -/
def zerosB (n : Nat) : List UInt8 := List.replicate n 0
def headH (gen len : Nat) : List UInt8 := beB gen 8 ++ beB len 8
theorem headH_len (gen len : Nat) : (headH gen len).length = 16 := by simp [headH, beB_len]
def headK (gen : Nat) (image : List UInt8) : List UInt8 := [3] ++ headH gen image.length ++ beB (more 0 (headH gen image.length ++ image)) 4 ++ zerosB 43
theorem headK_len (gen : Nat) (image : List UInt8) : (headK gen image).length = 64 := by simp [headK, headH_len, beB_len, zerosB]
theorem headK_eq (gen : Nat) (image : List UInt8) : ∃ r, headK gen image = 3 :: (beB gen 8 ++ (beB image.length 8 ++ r)) :=
  ⟨beB (more 0 (headH gen image.length ++ image)) 4 ++ zerosB 43, by
    unfold headK
    rw [List.append_assoc]
    generalize beB (more 0 (headH gen image.length ++ image)) 4 ++ zerosB 43 = r
    unfold headH
    simp⟩
theorem headK_gen (gen : Nat) (image : List UInt8) : ((headK gen image).drop 1).take 8 = beB gen 8 := by
  obtain ⟨r, e⟩ := headK_eq gen image
  rw [e, List.drop_succ_cons, List.drop_zero, List.take_append_of_le_length (by rw [beB_len]; omega), List.take_of_length_le (by rw [beB_len]; omega)]
theorem headK_num (gen : Nat) (image : List UInt8) : ((headK gen image).drop 9).take 8 = beB image.length 8 := by
  obtain ⟨r, e⟩ := headK_eq gen image
  rw [e, List.drop_succ_cons, List.drop_append_of_le_length (by rw [beB_len]; omega), List.drop_of_length_le (by rw [beB_len]; omega), List.nil_append, List.take_append_of_le_length (by rw [beB_len]; omega), List.take_of_length_le (by rw [beB_len]; omega)]
def bodyB (image : List UInt8) : List UInt8 := image ++ zerosB ((64 - image.length % 64) % 64)
theorem bodyB_len (image : List UInt8) : (bodyB image).length = (image.length + 63) / 64 * 64 := by
  simp only [bodyB, zerosB, List.length_append, List.length_replicate]
  omega
def roomZ (size : Int) : Int := if size < 1 ∨ size > 8192 then 0 else 64 * (size - 1)
/-- The image of a slot's bytes. -/
def slotG (b : List UInt8) (size slot : Int) : Option (Int × List UInt8) :=
  let gen := foldI 0 ((b.drop 1).take 8)
  let n := foldI 0 ((b.drop 9).take 8)
  if gen < 1 ∨ gen % 2 ≠ slot ∨ n < 0 ∨ n > roomZ size then none
  else if b.take 64 = headK gen.toNat ((b.drop 64).take n.toNat) then some (gen, (b.drop 64).take n.toNat) else none
/-- The generation that a head's sector says. -/
def hgen (h : List UInt8) : Int := foldI 0 ((h.drop 1).take 8)
theorem slotG_gen {b : List UInt8} {size slot g : Int} {im : List UInt8} (h : slotG b size slot = some (g, im)) : g = hgen (b.take 64) ∧ 1 ≤ g ∧ g % 2 = slot ∧ b.take 64 = headK g.toNat im := by
  unfold slotG at h
  simp only at h
  split at h
  · cases h
  · rename_i hc
    split at h
    · rename_i he
      injection h with h
      injection h with h1 h2
      subst h1
      subst h2
      refine ⟨?_, by omega, by omega, he⟩
      unfold hgen
      rw [List.drop_take, List.take_take]
      rfl
    · cases h
theorem slotG_none {b : List UInt8} {size slot : Int} (h : hgen (b.take 64) < 1) : slotG b size slot = none := by
  cases hs : slotG b size slot with
  | none => rfl
  | some x =>
    obtain ⟨g, im⟩ := x
    obtain ⟨h1, h2, _⟩ := slotG_gen hs
    omega
theorem hgen_head {gen : Nat} (h : gen < 9223372036854775808) (im : List UInt8) : hgen (headK gen im) = gen := by
  unfold hgen
  rw [headK_gen, foldI_beB h]
theorem slotG_head {gen size : Nat} {im b : List UInt8} (hg : 1 ≤ gen) (hg2 : gen < 9223372036854775808) (hs : 1 ≤ size) (hs2 : size ≤ 8192) (hl : im.length ≤ 64 * (size - 1)) (h1 : b.take 64 = headK gen im) (h2 : (b.drop 64).take im.length = im) :
    slotG b size ((gen : Int) % 2) = some ((gen : Int), im) := by
  have e1 : (b.drop 1).take 8 = beB gen 8 := by rw [← headK_gen gen im, ← h1, List.drop_take, List.take_take]; rfl
  have e2 : (b.drop 9).take 8 = beB im.length 8 := by rw [← headK_num gen im, ← h1, List.drop_take, List.take_take]; rfl
  unfold slotG
  simp only
  rw [e1, e2, foldI_beB hg2, foldI_beB (by omega), if_neg (by unfold roomZ; split <;> omega), Int.toNat_natCast, Int.toNat_natCast, h2, if_pos h1]
/-! Saving, loading. -/
def atE (S : DS) (first size : Int) : Int := if first < 0 ∨ size < 1 ∨ size > (S.n : Int) / 2 ∨ first > S.n - 2 * size then 1 else 0
def pwE (S : DS) (p : Int) (b : List UInt8) : Int := if b = [] then 0 else if writeE S p b ≠ 0 then writeE S p b else syncE (writeD S p b)
def pwD (S : DS) (p : Int) (b : List UInt8) : DS := if b = [] then S else if writeE S p b ≠ 0 then writeD S p b else syncD (writeD S p b)
theorem DWf.pw {S : DS} (h : DWf S) (p : Int) (b : List UInt8) : DWf (pwD S p b) := by
  unfold pwD
  split
  · exact h
  · split
    · exact h.write p b
    · exact (h.write p b).sync
def slotAt (first size gen : Int) : Int := first + gen % 2 * size
def saveE (S : DS) (first size gen : Int) (im : List UInt8) : Int :=
  if atE S first size ≠ 0 then 1 else if gen < 1 then 1 else if (im.length : Int) > roomZ size then 5
  else if pwE S (slotAt first size gen + 1) (bodyB im) ≠ 0 then pwE S (slotAt first size gen + 1) (bodyB im)
  else pwE (pwD S (slotAt first size gen + 1) (bodyB im)) (slotAt first size gen) (headK gen.toNat im)
def saveD (S : DS) (first size gen : Int) (im : List UInt8) : DS :=
  if atE S first size ≠ 0 then S else if gen < 1 then S else if (im.length : Int) > roomZ size then S
  else if pwE S (slotAt first size gen + 1) (bodyB im) ≠ 0 then pwD S (slotAt first size gen + 1) (bodyB im)
  else pwD (pwD S (slotAt first size gen + 1) (bodyB im)) (slotAt first size gen) (headK gen.toNat im)
theorem DWf.save {S : DS} (h : DWf S) (first size gen : Int) (im : List UInt8) : DWf (saveD S first size gen im) := by
  unfold saveD
  split
  · exact h
  · split
    · exact h
    · split
      · exact h
      · split
        · exact h.pw _ _
        · exact (h.pw _ _).pw _ _
def slotR (S : DS) (first size slot : Int) : Option (Int × List UInt8) := slotG (readL S (first + slot * size) size) size slot
def genO : Option (Int × List UInt8) → Int
  | none => 0
  | some x => x.1
def imO : Option (Int × List UInt8) → List UInt8
  | none => []
  | some x => x.2
theorem genO_pos {S : DS} {first size slot : Int} : 0 ≤ genO (slotR S first size slot) ∧ (slotR S first size slot = none ↔ genO (slotR S first size slot) = 0) := by
  cases h : slotR S first size slot with
  | none => exact ⟨Int.le_refl _, by simp [genO]⟩
  | some x =>
    obtain ⟨g, im⟩ := x
    have := (slotG_gen h).2.1
    exact ⟨by show 0 ≤ g; omega, by simp [genO]; omega⟩
/-- What the two slots tell. -/
def bestR (S : DS) (first size : Int) : Option (Int × List UInt8) := if genO (slotR S first size 1) > genO (slotR S first size 0) then slotR S first size 1 else slotR S first size 0
def loadE (S : DS) (first size : Int) : Int := if atE S first size ≠ 0 then 1 else if S.off = true then 12 else if bestR S first size = none then 7 else 0
def loadG (S : DS) (first size : Int) : Int := if atE S first size ≠ 0 ∨ S.off = true then 0 else genO (bestR S first size)
def loadI (S : DS) (first size : Int) : List UInt8 := if atE S first size ≠ 0 ∨ S.off = true then [] else imO (bestR S first size)
def gensE (S : DS) (first size : Int) : Int := if atE S first size ≠ 0 then 1 else if S.off = true then 12 else 0
def gensG (S : DS) (first size slot : Int) : Int := if atE S first size ≠ 0 ∨ S.off = true then 0 else genO (slotR S first size slot)
end Go.Proofs.Ytpfmadinijofeaa
end
section
/- What saving does to a disk, and a crash behind it. No program in sight. -/
namespace Go.Proofs.Ytpfmadinijofeaa
open Go.RowKit
/-! Sectors that are written. -/
theorem putK_now (S : DS) (k : Nat) (s : List UInt8) (i : Nat) : nowS (putK S k s) i = if i = k then s else nowS S i := by
  unfold nowS putK
  dsimp only
  by_cases h : i = k
  · rw [if_pos h, if_pos h]; rfl
  · rw [if_neg h, if_neg h]
theorem wrS_last (S : DS) (first : Nat) (f : Nat → List UInt8) : ∀ m, (wrS S first f m).last = S.last
  | 0 => rfl
  | m + 1 => by
    rw [wrS]
    split
    · exact wrS_last S first f m
    · exact wrS_last S first f m
/-- So many sectors came into the cache. -/
theorem wrS_cch (S : DS) (first : Nat) (f : Nat → List UInt8) : ∀ m, ∃ c, c ≤ m ∧ ((wrS S first f m).off = false → c = m) ∧ ∀ i, (wrS S first f m).cch i = if first ≤ i ∧ i < first + c then some (f (i - first)) else S.cch i
  | 0 => ⟨0, Nat.le_refl _, fun _ => rfl, fun i => by rw [if_neg (by omega)]; rfl⟩
  | m + 1 => by
    obtain ⟨c, h1, h2, h3⟩ := wrS_cch S first f m
    rw [wrS]
    by_cases ho : (wrS S first f m).off = true
    · rw [if_pos ho]
      exact ⟨c, by omega, (fun e => by rw [ho] at e; cases e), h3⟩
    · rw [if_neg ho]
      have hc : c = m := h2 (by cases hh : (wrS S first f m).off; rfl; exact absurd hh ho)
      subst hc
      refine ⟨c + 1, Nat.le_refl _, fun _ => rfl, fun i => ?_⟩
      show (if i = first + c then some (f c) else (wrS S first f c).cch i) = _
      rw [h3]
      by_cases e : i = first + c
      · rw [if_pos e, if_pos (by omega), e, Nat.add_sub_cancel_left]
      · rw [if_neg e]
        by_cases e2 : first ≤ i ∧ i < first + c
        · rw [if_pos e2, if_pos (by omega)]
        · rw [if_neg e2, if_neg (by omega)]
/-- All is at rest. -/
def Calm (S : DS) : Prop := ∀ i, S.cch i = none
theorem Calm.now {S : DS} (h : Calm S) (i : Nat) : nowS S i = S.last i := by unfold nowS; rw [h i]; rfl
theorem wrS_now (S : DS) (first : Nat) (f : Nat → List UInt8) (m : Nat) (ho : (wrS S first f m).off = false) (i : Nat) : nowS (wrS S first f m) i = if first ≤ i ∧ i < first + m then f (i - first) else nowS S i := by
  obtain ⟨c, h1, h2, h3⟩ := wrS_cch S first f m
  obtain rfl := h2 ho
  unfold nowS
  rw [h3, wrS_last]
  split <;> rfl
/-- A crash behind a write: a sector is as it was, or as it was written. -/
theorem crash_wr {S : DS} (hc : Calm S) (first : Nat) (f : Nat → List UInt8) (m : Nat) (kept : List Bool) (i : Nat) :
    (crashD (wrS S first f m) kept).last i = S.last i ∨ (first ≤ i ∧ i < first + m ∧ (crashD (wrS S first f m) kept).last i = f (i - first)) := by
  obtain ⟨c, h1, h2, h3⟩ := wrS_cch S first f m
  show (if dirtyS (wrS S first f m) i = true ∧ _ then nowS (wrS S first f m) i else (wrS S first f m).last i) = _ ∨ (_ ∧ _ ∧ (if dirtyS (wrS S first f m) i = true ∧ _ then nowS (wrS S first f m) i else (wrS S first f m).last i) = _)
  split
  · rename_i hd
    have hd := hd.1
    unfold dirtyS at hd
    rw [h3] at hd
    by_cases e : first ≤ i ∧ i < first + c
    · refine .inr ⟨e.1, by omega, ?_⟩
      unfold nowS
      rw [h3, if_pos e]
      rfl
    · rw [if_neg e, hc i] at hd
      cases hd
  · exact .inl (by rw [wrS_last])
theorem Calm.crash (S : DS) (kept : List Bool) : Calm (crashD S kept) := fun _ => rfl
theorem crash_calm {S : DS} (h : Calm S) (kept : List Bool) : (crashD S kept).last = S.last := by
  funext i
  show (if dirtyS S i = true ∧ _ then nowS S i else S.last i) = S.last i
  rw [if_neg]
  rintro ⟨hd, _⟩
  unfold dirtyS at hd
  rw [h i] at hd
  cases hd
/-! Writing and making it last. -/
/-- A write that falls into place, at rest again. -/
structure Laid (S T : DS) (p : Nat) (b : List UInt8) : Prop where
  n : T.n = S.n
  off : T.off = false
  calm : Calm T
  left0 : S.left ≤ 0 → T.left ≤ 0
  last : ∀ i, T.last i = if p ≤ i ∧ i < p + b.length / 64 then pieceB b (i - p) else S.last i
/-- A write that the power went off in. -/
structure Torn (S T : DS) (p : Nat) (b : List UInt8) : Prop where
  n : T.n = S.n
  off : T.off = true
  crash : ∀ kept i, (crashD T kept).last i = S.last i ∨ (p ≤ i ∧ i < p + b.length / 64 ∧ (crashD T kept).last i = pieceB b (i - p))
theorem wrS_left (S : DS) (first : Nat) (f : Nat → List UInt8) : ∀ m, S.left ≤ 0 → (wrS S first f m).left ≤ 0 ∧ (wrS S first f m).off = S.off
  | 0, h => ⟨h, rfl⟩
  | m + 1, h => by
    obtain ⟨h1, h2⟩ := wrS_left S first f m h
    rw [wrS]
    split
    · exact ⟨h1, h2⟩
    · refine ⟨?_, ?_⟩
      · show (if 0 < (wrS S first f m).left then _ else (wrS S first f m).left) ≤ 0
        rw [if_neg (by omega)]
        exact h1
      · show (if 0 < (wrS S first f m).left then _ else (wrS S first f m).off) = _
        rw [if_neg (by omega)]
        exact h2
theorem pw_cases {S : DS} (hc : Calm S) (ho : S.off = false) {p m : Nat} {b : List UInt8} (hb : b.length = m * 64) (hp : p + m ≤ S.n) :
    (pwE S (p : Int) b = 0 ∧ Laid S (pwD S (p : Int) b) p b) ∨ (pwE S (p : Int) b = 12 ∧ 0 < S.left ∧ Torn S (pwD S (p : Int) b) p b) := by
  unfold pwE pwD
  by_cases hn : b = []
  · rw [if_pos hn, if_pos hn]
    refine .inl ⟨rfl, rfl, ho, hc, fun h => h, fun i => ?_⟩
    rw [if_neg (by rw [hn]; simp)]
  rw [if_neg hn, if_neg hn]
  have hdm : b.length / 64 = m := by omega
  have hm : mayE S (p : Int) ((b.length / 64 : Nat) : Int) = 0 := by
    unfold mayE
    rw [ho, if_neg (by decide), if_pos (by omega)]
  have hD : writeD S (p : Int) b = wrS S p (pieceB b) m := by unfold writeD; rw [if_pos ⟨hm, by omega⟩, hdm, Int.toNat_natCast]
  have hE : writeE S (p : Int) b = if (wrS S p (pieceB b) m).off = true then 12 else 0 := by unfold writeE; rw [if_neg (not_not_intro hm), if_neg (by omega), hdm, Int.toNat_natCast]
  rw [hE, hD]
  by_cases hf : (wrS S p (pieceB b) m).off = true
  · rw [if_pos hf, if_pos (by decide), if_pos (by decide)]
    refine .inr ⟨rfl, ?_, wrS_n _ _ _ _, hf, fun kept i => ?_⟩
    · rcases Int.lt_or_le 0 S.left with h | h
      · exact h
      · have := (wrS_left S p (pieceB b) m h).2
        rw [hf, ho] at this; cases this
    · rw [hdm]
      exact crash_wr hc p (pieceB b) m kept i
  · have hf' : (wrS S p (pieceB b) m).off = false := by cases hh : (wrS S p (pieceB b) m).off; rfl; exact absurd hh hf
    rw [if_neg hf, if_neg (by decide), if_neg (by decide)]
    refine .inl ⟨by unfold syncE; rw [if_neg hf], ?_, ?_, ?_, ?_, ?_⟩
    all_goals unfold syncD; rw [if_neg hf]
    · exact wrS_n _ _ _ _
    · exact hf'
    · exact fun _ => rfl
    · exact fun h => (wrS_left S p (pieceB b) m h).1
    · intro i
      show nowS (wrS S p (pieceB b) m) i = _
      rw [wrS_now _ _ _ _ hf', hdm, hc.now]
/-! A slot's bytes. -/
theorem fm_congr {α β : Type} {f g : α → List β} {l : List α} (h : ∀ x, x ∈ l → f x = g x) : l.flatMap f = l.flatMap g := by
  rw [List.flatMap_def, List.flatMap_def, List.map_congr_left h]
theorem readS_cons (S : DS) (first n : Nat) : readS S first (n + 1) = nowS S first ++ readS S (first + 1) n := by
  unfold readS
  rw [List.range_succ_eq_map, List.flatMap_cons, List.flatMap_map]
  simp only [Nat.add_zero]
  congr 1
  exact fm_congr fun i _ => by rw [Nat.add_assoc, Nat.add_comm 1 i]
theorem readS_congr {S T : DS} {first n : Nat} (h : ∀ i, first ≤ i → i < first + n → nowS S i = nowS T i) : readS S first n = readS T first n := by
  unfold readS
  exact fm_congr fun i hi => h _ (Nat.le_add_right _ _) (by have := List.mem_range.1 hi; omega)
theorem readS_take {S : DS} (hW : DWf S) {first n : Nat} (hn : 0 < n) : (readS S first n).take 64 = nowS S first := by
  obtain ⟨n, rfl⟩ : ∃ k, n = k + 1 := ⟨n - 1, by omega⟩
  rw [readS_cons, List.take_append_of_le_length (by rw [hW.now]; omega), List.take_of_length_le (by rw [hW.now]; omega)]
theorem readS_drop {S : DS} (hW : DWf S) {first n : Nat} (hn : 0 < n) : (readS S first n).drop 64 = readS S (first + 1) (n - 1) := by
  obtain ⟨n, rfl⟩ : ∃ k, n = k + 1 := ⟨n - 1, by omega⟩
  rw [readS_cons, List.drop_append_of_le_length (by rw [hW.now]; omega), List.drop_of_length_le (by rw [hW.now]; omega)]
  rfl
/-- Sectors that hold the pieces of a text hold the text. -/
theorem readS_pieces {S : DS} {first : Nat} {b : List UInt8} : ∀ {m : Nat}, (∀ i, i < m → nowS S (first + i) = pieceB b i) → m * 64 ≤ b.length → readS S first m = b.take (m * 64)
  | 0, _, _ => by simp [readS]
  | m + 1, h, hl => by
    rw [readS_succ, readS_pieces (fun i hi => h i (by omega)) (by omega), h m (by omega)]
    unfold pieceB
    rw [show (m + 1) * 64 = m * 64 + 64 by omega, List.take_add]
theorem readS_add (S : DS) (first : Nat) : ∀ (m k : Nat), readS S first (m + k) = readS S first m ++ readS S (first + m) k
  | m, 0 => by simp [readS]
  | m, k + 1 => by rw [← Nat.add_assoc, readS_succ, readS_add S first m k, readS_succ, List.append_assoc, Nat.add_assoc]
/-- A slot whose sectors hold an image. -/
theorem slot_there {S : DS} (hW : DWf S) (ho : S.off = false) {q size gen : Nat} {im : List UInt8} (hg : 1 ≤ gen) (hg2 : gen < 9223372036854775808) (hs : 1 ≤ size) (hq : q + size ≤ S.n) (hl : im.length ≤ 64 * (size - 1))
    (h1 : nowS S q = headK gen im) (h2 : ∀ i, i < (im.length + 63) / 64 → nowS S (q + 1 + i) = pieceB (bodyB im) i) :
    slotG (readL S (q : Int) (size : Int)) size ((gen : Int) % 2) = some ((gen : Int), im) := by
  have hm : mayE S (q : Int) (size : Int) = 0 := by unfold mayE; rw [ho, if_neg (by decide), if_pos (by omega)]
  have hr : readL S (q : Int) (size : Int) = readS S q size := by unfold readL; rw [if_pos hm, Int.toNat_natCast, Int.toNat_natCast]
  rw [hr]
  refine slotG_head hg hg2 hs (by have := hW.n2; omega) hl (by rw [readS_take hW (by omega), h1]) ?_
  rw [readS_drop hW (by omega), show size - 1 = (im.length + 63) / 64 + (size - 1 - (im.length + 63) / 64) by omega, readS_add, readS_pieces h2 (by rw [bodyB_len]; omega)]
  rw [List.take_of_length_le (l := bodyB im) (by rw [bodyB_len]; omega)]
  unfold bodyB
  rw [List.append_assoc, List.take_append_of_le_length (by omega), List.take_of_length_le (by omega)]
end Go.Proofs.Ytpfmadinijofeaa
end
section
/- Images that are saved one behind the other, and crashes among them. No program in sight. -/
namespace Go.Proofs.Ytpfmadinijofeaa
open Go.RowKit
structure Saved (S T : DS) (q size gen : Nat) (im : List UInt8) : Prop where
  n : T.n = S.n
  off : T.off = false
  calm : Calm T
  left0 : S.left ≤ 0 → T.left ≤ 0
  there : slotG (readL T (q : Int) (size : Int)) size ((gen : Int) % 2) = some ((gen : Int), im)
  rest : ∀ i, i < q ∨ q + size ≤ i → T.last i = S.last i
  head : T.last q = headK gen im
  body : ∀ i, i < (im.length + 63) / 64 → T.last (q + 1 + i) = pieceB (bodyB im) i
structure Half (S T : DS) (q size gen : Nat) (im : List UInt8) : Prop where
  n : T.n = S.n
  off : T.off = true
  rest : ∀ kept i, i < q ∨ q + size ≤ i → (crashD T kept).last i = S.last i
  head : ∀ kept, (crashD T kept).last q = S.last q ∨ slotG (readL (crashD T kept) (q : Int) (size : Int)) size ((gen : Int) % 2) = some ((gen : Int), im)
theorem piece_head (gen : Nat) (im : List UInt8) : pieceB (headK gen im) 0 = headK gen im := by
  unfold pieceB
  rw [Nat.zero_mul, List.drop_zero, List.take_of_length_le (by rw [headK_len]; omega)]
theorem save_cases {S : DS} (hW : DWf S) (hc : Calm S) (ho : S.off = false) {first size gen : Nat} {im : List UInt8} (h0 : atE S (first : Int) (size : Int) = 0) (hg : 1 ≤ gen) (hg2 : gen < 9223372036854775808) (hl : im.length ≤ 64 * (size - 1)) :
    (saveE S first size gen im = 0 ∧ Saved S (saveD S first size gen im) (first + gen % 2 * size) size gen im) ∨
    (saveE S first size gen im = 12 ∧ 0 < S.left ∧ Half S (saveD S first size gen im) (first + gen % 2 * size) size gen im) := by
  have n2 := hW.n2
  have hb : 1 ≤ size ∧ 2 * size ≤ S.n ∧ first + 2 * size ≤ S.n := by
    unfold atE at h0
    split at h0
    · omega
    · rename_i hq; omega
  obtain ⟨p1, p2, p3⟩ := hb
  have hq : slotAt (first : Int) size gen = ((first + gen % 2 * size : Nat) : Int) := by unfold slotAt; rw [Int.natCast_add, Int.natCast_mul]; rfl
  have hroom : roomZ size = 64 * ((size : Int) - 1) := by unfold roomZ; rw [if_neg (by omega)]
  have hqs : first + gen % 2 * size + size ≤ S.n := by
    have : gen % 2 = 0 ∨ gen % 2 = 1 := by omega
    rcases this with e | e <;> rw [e] <;> omega
  generalize first + gen % 2 * size = q at hq hqs
  have e1 : slotAt (first : Int) size gen + 1 = ((q + 1 : Nat) : Int) := by rw [hq]; omega
  have eE : saveE S first size gen im = if pwE S ((q + 1 : Nat) : Int) (bodyB im) ≠ 0 then pwE S ((q + 1 : Nat) : Int) (bodyB im) else pwE (pwD S ((q + 1 : Nat) : Int) (bodyB im)) (q : Int) (headK gen im) := by
    unfold saveE
    rw [if_neg (not_not_intro h0), if_neg (by omega), if_neg (by omega), e1, hq, Int.toNat_natCast]
  have eD : saveD S first size gen im = if pwE S ((q + 1 : Nat) : Int) (bodyB im) ≠ 0 then pwD S ((q + 1 : Nat) : Int) (bodyB im) else pwD (pwD S ((q + 1 : Nat) : Int) (bodyB im)) (q : Int) (headK gen im) := by
    unfold saveD
    rw [if_neg (not_not_intro h0), if_neg (by omega), if_neg (by omega), e1, hq, Int.toNat_natCast]
  rw [eE, eD]
  have hbl := bodyB_len im
  have hdm : (bodyB im).length / 64 = (im.length + 63) / 64 := by omega
  rcases pw_cases hc ho (p := q + 1) hbl (by omega) with ⟨w1, w2⟩ | ⟨w1, w0, w2⟩
  · rw [w1, if_neg (by decide), if_neg (by decide)]
    have hW1 := hW.pw ((q + 1 : Nat) : Int) (bodyB im)
    generalize pwD S ((q + 1 : Nat) : Int) (bodyB im) = T1 at w2 hW1
    have hh : (headK gen im).length / 64 = 1 := by rw [headK_len]
    rcases pw_cases w2.calm w2.off (p := q) (b := headK gen im) (m := 1) (by rw [headK_len]) (by rw [w2.n]; omega) with ⟨v1, v2⟩ | ⟨v1, v0, v2⟩
    · have hW2 := hW1.pw (q : Int) (headK gen im)
      generalize pwD T1 (q : Int) (headK gen im) = T2 at v2 hW2
      have h1 : T2.last q = headK gen im := by rw [v2.last, hh, if_pos (by omega), Nat.sub_self, piece_head]
      have h2 : ∀ i, i < (im.length + 63) / 64 → T2.last (q + 1 + i) = pieceB (bodyB im) i := fun i hi => by
        rw [v2.last, hh, if_neg (by omega), w2.last, hdm, if_pos (by omega), Nat.add_sub_cancel_left]
      refine .inl ⟨v1, ⟨by rw [v2.n, w2.n], v2.off, v2.calm, fun h => v2.left0 (w2.left0 h), ?_, fun i hi => ?_, h1, h2⟩⟩
      · exact slot_there hW2 v2.off hg hg2 p1 (by rw [v2.n, w2.n]; exact hqs) hl (by rw [v2.calm.now]; exact h1) fun i hi => by rw [v2.calm.now]; exact h2 i hi
      · rw [v2.last, hh, if_neg (by omega), w2.last, hdm, if_neg (by omega)]
    · refine .inr ⟨v1, ?_, ⟨by rw [v2.n, w2.n], v2.off, fun kept i hi => ?_, fun kept => ?_⟩⟩
      · rcases Int.lt_or_le 0 S.left with h | h
        · exact h
        · have := w2.left0 h; omega
      · rcases v2.crash kept i with h | ⟨h1, h2, h⟩
        · rw [h, w2.last, hdm, if_neg (by omega)]
        · rw [hh] at h2; omega
      · rcases v2.crash kept q with h | ⟨h1, h2, h⟩
        · left
          rw [h, w2.last, if_neg (by omega)]
        · right
          rw [Nat.sub_self, piece_head] at h
          have hW2 := (hW1.pw (q : Int) (headK gen im)).crash kept
          have hcm := Calm.crash (pwD T1 (q : Int) (headK gen im)) kept
          refine slot_there hW2 rfl hg hg2 p1 (by show q + size ≤ (pwD T1 (q : Int) (headK gen im)).n; rw [v2.n, w2.n]; exact hqs) hl (by rw [hcm.now]; exact h) fun i hi => ?_
          rw [hcm.now]
          rcases v2.crash kept (q + 1 + i) with h' | ⟨h1', h2', _⟩
          · rw [h', w2.last, hdm, if_pos (by omega), Nat.add_sub_cancel_left]
          · rw [hh] at h2'; omega
  · rw [w1, if_pos (by decide), if_pos (by decide)]
    refine .inr ⟨rfl, w0, ⟨w2.n, w2.off, fun kept i hi => ?_, fun kept => .inl ?_⟩⟩
    · rcases w2.crash kept i with h | ⟨h1, h2, h⟩
      · exact h
      · rw [hdm] at h2; omega
    · rcases w2.crash kept q with h | ⟨h1, h2, h⟩
      · exact h
      · omega
/-! The two slots. -/
theorem slotR_congr {S T : DS} {first size slot : Nat} (hS : Calm S) (hT : Calm T) (oS : S.off = false) (oT : T.off = false) (hn : T.n = S.n) (h : ∀ i, first + slot * size ≤ i → i < first + slot * size + size → T.last i = S.last i) :
    slotR T (first : Int) size slot = slotR S (first : Int) size slot := by
  unfold slotR
  have e : (first : Int) + (slot : Int) * size = ((first + slot * size : Nat) : Int) := by rw [Int.natCast_add, Int.natCast_mul]
  rw [e]
  generalize first + slot * size = q at h
  have hm : mayE T (q : Int) (size : Int) = mayE S (q : Int) (size : Int) := by unfold mayE; rw [oS, oT, hn]
  congr 1
  unfold readL
  rw [hm]
  split
  · rw [Int.toNat_natCast, Int.toNat_natCast]
    exact readS_congr fun i h1 h2 => by rw [hT.now, hS.now]; exact h i h1 h2
  · rfl
/-- The sector of a slot's head, where it stands. -/
theorem slotR_head {S : DS} (hW : DWf S) (hS : Calm S) {first size slot : Nat} (h0 : atE S (first : Int) (size : Int) = 0) (oS : S.off = false) (hs : slot = 0 ∨ slot = 1) :
    (readL S ((first : Int) + (slot : Int) * size) size).take 64 = S.last (first + slot * size) := by
  have hb : 1 ≤ size ∧ first + 2 * size ≤ S.n := by
    unfold atE at h0
    split at h0
    · omega
    · rename_i hq; omega
  have e : (first : Int) + (slot : Int) * size = ((first + slot * size : Nat) : Int) := by rw [Int.natCast_add, Int.natCast_mul]
  have hq : first + slot * size + size ≤ S.n := by rcases hs with rfl | rfl <;> omega
  rw [e]
  have hm : mayE S ((first + slot * size : Nat) : Int) (size : Int) = 0 := by unfold mayE; rw [oS, if_neg (by decide), if_pos (by omega)]
  unfold readL
  rw [if_pos hm, Int.toNat_natCast, Int.toNat_natCast, readS_take hW (by omega), hS.now]
structure Two (S : DS) (first size gen : Nat) (last : List UInt8) : Prop where
  wf : DWf S
  calm : Calm S
  off : S.off = false
  at0 : atE S (first : Int) (size : Int) = 0
  there : 1 ≤ gen → slotR S (first : Int) size ((gen % 2 : Nat) : Int) = some ((gen : Int), last)
  zero : gen = 0 → hgen (S.last first) < 1
  other : hgen (S.last (first + (1 - gen % 2) * size)) < max (gen : Int) 1
variable {S : DS} {first size gen : Nat} {last : List UInt8}
theorem Two.low (h : Two S first size gen last) : genO (slotR S (first : Int) size ((1 - gen % 2 : Nat) : Int)) < max (gen : Int) 1 := by
  have hh := slotR_head h.wf h.calm h.at0 h.off (slot := 1 - gen % 2) (by omega)
  have hl := h.other
  rw [← hh] at hl
  cases hs : slotR S (first : Int) size ((1 - gen % 2 : Nat) : Int) with
  | none => show (0 : Int) < _; omega
  | some x =>
    obtain ⟨g, im⟩ := x
    have := (slotG_gen hs).1
    rw [← this] at hl
    exact hl
theorem Two.none0 (h : Two S first size 0 last) : slotR S (first : Int) size 0 = none ∧ slotR S (first : Int) size 1 = none := by
  refine ⟨?_, ?_⟩
  · have hh := slotR_head h.wf h.calm h.at0 h.off (slot := 0) (by omega)
    rw [Nat.zero_mul, Nat.add_zero] at hh
    have := h.zero rfl
    rw [← hh] at this
    exact slotG_none this
  · have := h.low
    exact genO_pos.2.2 (by have := (genO_pos (S := S) (first := first) (size := size) (slot := 1)).1; simp at *; omega)
theorem Two.load (h : Two S first size gen last) : (gen = 0 → loadE S first size = 7 ∧ loadG S first size = 0 ∧ loadI S first size = []) ∧ (1 ≤ gen → loadE S first size = 0 ∧ loadG S first size = gen ∧ loadI S first size = last) := by
  have hno : ¬ (atE S (first : Int) size ≠ 0 ∨ S.off = true) := by rw [h.at0, h.off]; simp
  unfold loadE loadG loadI
  rw [if_neg hno, if_neg hno, if_neg (not_not_intro h.at0), h.off, if_neg (by decide)]
  refine ⟨fun e => ?_, fun hg => ?_⟩
  · subst e
    obtain ⟨h1, h2⟩ := h.none0
    have : bestR S (first : Int) size = none := by unfold bestR; rw [h1, h2]; rfl
    rw [this]
    exact ⟨rfl, rfl, rfl⟩
  · have ht := h.there hg
    have hl := h.low
    have : bestR S (first : Int) size = some ((gen : Int), last) := by
      have h2 : gen % 2 = 0 ∨ gen % 2 = 1 := by omega
      unfold bestR
      rcases h2 with e | e
      · rw [e] at ht hl
        simp only [Nat.sub_zero, Int.natCast_one, Int.natCast_zero] at ht hl
        rw [ht, if_neg (by show ¬ _ > (gen : Int); omega)]
      · rw [e] at ht hl
        simp only [Nat.sub_self, Int.natCast_one, Int.natCast_zero] at ht hl
        rw [ht, if_pos (by show (gen : Int) > _; omega)]
    rw [this]
    exact ⟨rfl, rfl, rfl⟩
theorem Two.genhead (h : Two S first size gen last) : hgen (S.last (first + gen % 2 * size)) < max ((gen + 1 : Nat) : Int) 1 := by
  by_cases hg : gen = 0
  · subst hg
    have := h.zero rfl
    rw [Nat.zero_mod, Nat.zero_mul, Nat.add_zero]
    omega
  · have ht := h.there (by omega)
    have := (slotG_gen ht).1
    rw [slotR_head h.wf h.calm h.at0 h.off (by omega)] at this
    omega
theorem two_next {T : DS} (h : Two S first size gen last) (hW : DWf T) (hc : Calm T) (ho : T.off = false) (hn : T.n = S.n) {im : List UInt8} (ht : slotR T (first : Int) size (((gen + 1) % 2 : Nat) : Int) = some (((gen + 1 : Nat) : Int), im))
    (hr : T.last (first + gen % 2 * size) = S.last (first + gen % 2 * size)) : Two T first size (gen + 1) im := by
  refine ⟨hW, hc, ho, ?_, fun _ => ht, fun e => by omega, ?_⟩
  · have := h.at0
    unfold atE at this ⊢
    rw [hn]
    exact this
  · rw [show 1 - (gen + 1) % 2 = gen % 2 by omega, hr]
    exact h.genhead
theorem Two.saved {T : DS} (h : Two S first size gen last) (hW : DWf T) {im : List UInt8} (hs : Saved S T (first + (gen + 1) % 2 * size) size (gen + 1) im) : Two T first size (gen + 1) im := by
  have e : (first : Int) + (((gen + 1) % 2 : Nat) : Int) * size = ((first + (gen + 1) % 2 * size : Nat) : Int) := by rw [Int.natCast_add, Int.natCast_mul]
  refine two_next h hW hs.calm hs.off hs.n (by unfold slotR; rw [e, show (((gen + 1) % 2 : Nat) : Int) = ((gen + 1 : Nat) : Int) % 2 by omega]; exact hs.there) (hs.rest _ ?_)
  have h1 : 1 ≤ size := by
    have h0 := h.at0
    unfold atE at h0
    split at h0
    · omega
    · rename_i hq; omega
  have h2 : gen % 2 = 0 ∧ (gen + 1) % 2 = 1 ∨ gen % 2 = 1 ∧ (gen + 1) % 2 = 0 := by omega
  rcases h2 with ⟨e1, e2⟩ | ⟨e1, e2⟩ <;> rw [e1, e2] <;> omega
theorem Two.calmTo {T : DS} (h : Two S first size gen last) (hW : DWf T) (hc : Calm T) (ho : T.off = false) (hn : T.n = S.n) (hl : ∀ i, i < first + gen % 2 * size + size → first + gen % 2 * size ≤ i → T.last i = S.last i) (hl2 : T.last (first + (1 - gen % 2) * size) = S.last (first + (1 - gen % 2) * size)) (hz : gen = 0 → T.last first = S.last first) : Two T first size gen last := by
  refine ⟨hW, hc, ho, ?_, fun hg => ?_, fun e => by rw [hz e]; exact h.zero e, by rw [hl2]; exact h.other⟩
  · have := h.at0
    unfold atE at this ⊢
    rw [hn]
    exact this
  · rw [slotR_congr h.calm hc h.off ho hn fun i h1 h2 => hl i h2 h1]
    exact h.there hg
theorem Two.half {T : DS} (h : Two S first size gen last) (hW : DWf T) {im : List UInt8} (hs : Half S T (first + (gen + 1) % 2 * size) size (gen + 1) im) (kept : List Bool) : Two (crashD T kept) first size gen last ∨ Two (crashD T kept) first size (gen + 1) im := by
  have h1 : 1 ≤ size := by
    have h0 := h.at0
    unfold atE at h0
    split at h0
    · omega
    · rename_i hq; omega
  have e : (first : Int) + (((gen + 1) % 2 : Nat) : Int) * size = ((first + (gen + 1) % 2 * size : Nat) : Int) := by rw [Int.natCast_add, Int.natCast_mul]
  have h2 : gen % 2 = 0 ∧ (gen + 1) % 2 = 1 ∨ gen % 2 = 1 ∧ (gen + 1) % 2 = 0 := by omega
  have hrest : ∀ i, i < first + gen % 2 * size + size → first + gen % 2 * size ≤ i → (crashD T kept).last i = S.last i := fun i a b => hs.rest kept i (by
    rcases h2 with ⟨e1, e2⟩ | ⟨e1, e2⟩ <;> rw [e1] at a b <;> rw [e2] <;> omega)
  rcases hs.head kept with hh | hh
  · left
    refine h.calmTo (hW.crash kept) (Calm.crash T kept) rfl hs.n hrest ?_ fun e => ?_
    · rw [show 1 - gen % 2 = (gen + 1) % 2 by omega]; exact hh
    · subst e; exact hrest first (by omega) (by omega)
  · right
    exact two_next h (hW.crash kept) (Calm.crash T kept) rfl hs.n (by unfold slotR; rw [e, show (((gen + 1) % 2 : Nat) : Int) = ((gen + 1 : Nat) : Int) % 2 by omega]; exact hh) (hrest _ (by omega) (by omega))
theorem Two.crash (h : Two S first size gen last) (kept : List Bool) : Two (crashD S kept) first size gen last :=
  h.calmTo (h.wf.crash kept) (Calm.crash S kept) rfl rfl (fun i _ _ => by rw [crash_calm h.calm]) (by rw [crash_calm h.calm]) fun _ => by rw [crash_calm h.calm]
theorem Two.cut (h : Two S first size gen last) {n : Int} (hn : n ≤ 9223372036854775807) : Two (cutD S n) first size gen last :=
  h.calmTo (h.wf.cut hn) h.calm h.off rfl (fun _ _ _ => rfl) rfl fun _ => rfl
theorem zero_hgen : hgen zero64 < 1 := by decide +kernel
theorem two_new {n : Nat} (h1 : 1 ≤ n) (h2 : n ≤ 8192) (h : atE (newS n) (first : Int) (size : Int) = 0) : Two (newS n) first size 0 [] :=
  ⟨newS_wf h1 h2, fun _ => rfl, rfl, h, fun e => by omega, fun _ => zero_hgen, by have := zero_hgen; show hgen zero64 < max (((0 : Nat) : Int)) 1; omega⟩
/-- The one before. -/
def Prev (S : DS) (first size gen : Nat) : Prop := 2 ≤ gen → ∃ im, slotR S (first : Int) size ((1 - gen % 2 : Nat) : Int) = some (((gen - 1 : Nat) : Int), im)
theorem Two.prev {T : DS} (h : Two S first size gen last) {im : List UInt8} (hs : Saved S T (first + (gen + 1) % 2 * size) size (gen + 1) im) : Prev T first size (gen + 1) := fun hg => by
  refine ⟨last, ?_⟩
  rw [show 1 - (gen + 1) % 2 = gen % 2 by omega, Nat.add_sub_cancel, slotR_congr h.calm hs.calm h.off hs.off hs.n fun i a b => hs.rest i ?_]
  · exact h.there (by omega)
  · have h2 : gen % 2 = 0 ∧ (gen + 1) % 2 = 1 ∨ gen % 2 = 1 ∧ (gen + 1) % 2 = 0 := by omega
    rcases h2 with ⟨e1, e2⟩ | ⟨e1, e2⟩ <;> rw [e1] at a b <;> rw [e2] <;> omega
end Go.Proofs.Ytpfmadinijofeaa
end
section
/- The bytes of numbers: the plain law. No program in sight. -/
namespace Go.Proofs.Ytpfmadinijofeaa
open Go.RowKit
/-- The groups of a number without a sign. -/
def grp (u : Nat) : List UInt8 := if u < 128 then [UInt8.ofNat u] else UInt8.ofNat (u % 128 + 128) :: grp (u / 128)
termination_by u
decreasing_by omega
theorem grp_lt {u : Nat} (h : u < 128) : grp u = [UInt8.ofNat u] := by rw [grp, if_pos h]
theorem grp_ge {u : Nat} (h : 128 ≤ u) : grp u = UInt8.ofNat (u % 128 + 128) :: grp (u / 128) := by rw [grp, if_neg (by omega)]
theorem grp_len (n : Nat) : ∀ u, u < 128 ^ (n + 1) → (grp u).length ≤ n + 1 := by
  induction n with
  | zero => intro u h; rw [grp_lt (by simpa using h)]; simp
  | succ n ih =>
    intro u h
    by_cases h1 : u < 128
    · rw [grp_lt h1]; simp
    · rw [grp_ge (by omega), List.length_cons]
      have := ih (u / 128) (by rw [Nat.div_lt_iff_lt_mul (by omega), ← Nat.pow_succ]; exact h)
      omega
theorem grp_len64 {u : Nat} (h : u < 18446744073709551616) : (grp u).length ≤ 10 := grp_len 9 u (by omega)
theorem grp_pos (u : Nat) : 0 < (grp u).length := by
  by_cases h : u < 128
  · rw [grp_lt h]; simp
  · rw [grp_ge (by omega)]; simp
/-- An int as a number without a sign: zigzag. -/
def zig (z : Int) : Nat := if 0 ≤ z then (2 * z).toNat else (2 * (-z) - 1).toNat
theorem zig_lt {z : Int} (h1 : -9223372036854775808 ≤ z) (h2 : z ≤ 9223372036854775807) : zig z < 18446744073709551616 := by unfold zig; split <;> omega
def uintB (z : Int) : List UInt8 := if z < 0 then [] else grp z.toNat
def intB (z : Int) : List UInt8 := grp (zig z)
def flagB (b : Bool) : List UInt8 := [if b then 1 else 0]
def textB (bs : List UInt8) : List UInt8 := grp bs.length ++ bs
end Go.Proofs.Ytpfmadinijofeaa
end
section
/- The writer of the codec, walked. -/
namespace Go.Proofs.Ytpfmadinijofeaa
open Go.RowKit
theorem Try.infoB : (Try.prog.info? 5).map (fun i => (i.zero, i.size, i.bytes)) = some (some (.int .u8 0), 1, 1) := by kernel_rfl
theorem wpList_appb {ops : Array Oper} {rest : List Oper} {o : Oper} {a : Act} {w : World} {Q : Exit → Act → World → Prop} (hgd : o.guard = none) (s xo : Operand)
    (hop : o.op = Op.call { callee := Callee.builtin Builtin.append, args := #[s, xo], argTypes := #[22, 22] })
    {base n : Nat} {v : Value} {xs : List Value} (hv : a.eval s = v) (ho : Own w base 5 1 v n xs) (x : Value) (hx : a.eval xo = x) (m : Nat) (news : List Value) (hs : Src Try.prog 1 22 x m news w)
    (hb : n + m ≤ 140737488355328) (hbase : base ≤ w.heap.size)
    (hK : ∀ v' w', Own w' base 5 1 v' (n + m) (xs ++ news) → w.grownBy w' v.ownBlock → (v'.ownBlock = v.ownBlock ∨ ∃ g, v'.ownBlock = some g ∧ w.heap.size ≤ g) → wpList Try.prog ops Q rest (a.put o.dst v') w') :
    wpList Try.prog ops Q (o :: rest) a w := by
  obtain ⟨i0, hi, hz0, hz1, hz2⟩ := info_parts Try.infoB
  exact wpList_app hgd s xo 22 22 hop i0 _ 1 Try.underlying22 hi hz0 hz1 hz2 rfl hv ho x hx m news hs (by unfold maxLen; omega) (by omega) hbase hK
theorem Src.builtB {W : World} (b : UInt8) : Src Try.prog 1 22 (.slice (some ⟨W.heap.size, 0, none⟩) 1 1) 1 [bV b] (W.alloc (.cells #[bV b] 5)) :=
  Src.ofRow Try.underlying22 (some ⟨W.heap.size, 0, none⟩) 1 [bV b] (RowAt.ofWhole (vs := [bV b]) (al_new rfl)) (by intro u hu; rw [List.mem_singleton] at hu; subst hu; rfl)
/-- A writer. -/
structure WAt (w : World) (L : List Nat) (g : Nat) (bs : List UInt8) (bad : Bool) : Prop where
  ex : ∃ v, Bk w g #[v, .bool bad] 139 ∧ Own w 0 5 1 v bs.length (bs.map bV) ∧ ∀ k, v.ownBlock = some k → k ∈ L
  mem : g ∈ L
  under : Under L w.heap.size
theorem WAt.keep {w w' : World} {L : List Nat} {g : Nat} {bs : List UInt8} {bad : Bool} (h : WAt w L g bs bad) (hk : ∀ k ∈ L, w'.heap[k]? = w.heap[k]?) (hs : w.heap.size ≤ w'.heap.size) : WAt w' L g bs bad := by
  obtain ⟨⟨v, h1, h2, h3⟩, h4, h5⟩ := h
  exact ⟨⟨v, h1.keep (hk g h4), h2.keep fun k hv => hk k (h3 k hv), h3⟩, h4, h5.mono hs⟩
theorem WAt.fr {w w' : World} {L M : List Nat} {g : Nat} {bs : List UInt8} {bad : Bool} (h : WAt w L g bs bad) (hf : Fr M w w') (ha : Apart L M) : WAt w' L g bs bad := h.keep (hf.keep ha h.under) hf.size
theorem WAt.make {w : World} {g : Nat} {v : Value} {bs : List UInt8} {bad : Bool} (h1 : Bk w g #[v, .bool bad] 139) (h2 : Own w 0 5 1 v bs.length (bs.map bV)) : WAt w (g :: v.ownBlock.toList) g bs bad :=
  ⟨⟨v, h1, h2, fun k hk => by simp [hk]⟩, by simp, fun k hk => by
    rcases List.mem_cons.1 hk with rfl | hk
    · exact h1.lt
    · exact (h2.lt k (by simpa using hk)).2⟩
theorem own_far {w : World} {g : Nat} {v : Value} {cs : Array Value} {n : Nat} {xs : List Value} {t : TypeId} (h1 : Bk w g cs t) (h2 : Own w 0 5 1 v n xs) (hne : t ≠ 5) : v.ownBlock ≠ some g := by
  intro h
  rcases h2.2 with ⟨rfl, _⟩ | ⟨g', off, cap, cur, rfl, hb, hg, _⟩
  · cases h
  · simp [Value.ownBlock] at h
    subst h
    unfold Bk at h1
    rw [h1] at hg
    injection hg with hg
    injection hg with h3 h4 h5
    exact hne h4
theorem u8_of (u : Nat) : IntKind.u8.wrap (u : Int) = ((u % 256 : Nat) : Int) := by rw [IntKind.wrap_u8]; omega
theorem bV_nat (n : Nat) (h : n < 256) : bV (UInt8.ofNat n) = .int .u8 (n : Int) := by
  unfold bV
  rw [show (UInt8.ofNat n).toNat = n % 256 from rfl, Nat.mod_eq_of_lt h]
theorem or128B : ((List.range 256).all fun x => bits BinOp.or IntKind.u8 (x : Int) 128 == ((x % 128 + 128 : Nat) : Int)) = true := by kernel_rfl
theorem or128 (x : Nat) : bits BinOp.or IntKind.u8 ((x : Int) % 256) 128 = ((x % 128 + 128 : Nat) : Int) := by
  have h := List.all_eq_true.1 or128B (x % 256) (List.mem_range.2 (by omega))
  have h2 := eq_of_beq h
  rw [show ((x % 256 : Nat) : Int) = (x : Int) % 256 by omega, show x % 256 % 128 = x % 128 by omega] at h2
  exact h2
/-- One append to a writer, and the store of the slice. -/
theorem w_step {wa w1 : World} {g n m : Nat} {v v1 : Value} {bad : Bool} {xs zs : List Value} (hB : Bk wa g #[v, .bool bad] 139) (hO : Own wa 0 5 1 v n xs) (hg : wa.grownBy w1 v.ownBlock) (ho1 : Own w1 0 5 1 v1 m zs) :
    Bk w1 g #[v, .bool bad] 139 ∧ Bk (w1.setCell ⟨g, 0, none⟩ v1) g #[v1, .bool bad] 139 ∧ Own (w1.setCell ⟨g, 0, none⟩ v1) 0 5 1 v1 m zs := by
  have hne : v.ownBlock ≠ some g := own_far hB hO (by decide)
  have b1 : Bk w1 g #[v, .bool bad] 139 := hB.keep (hg.block g hB.lt (fun e => hne e.symm))
  refine ⟨b1, b1.setCell 0 v1, ho1.keep fun k hk => Below.heap_setCell _ _ _ _ fun e => ?_⟩
  have e2 : k = g := e
  subst e2
  exact own_far b1 ho1 (by decide) hk
theorem own_gr {L : List Nat} {v v1 : Value} {n m : Nat} (hK : ∀ k, v.ownBlock = some k → k ∈ L ∨ n ≤ k) (hn1 : v1.ownBlock = v.ownBlock ∨ ∃ g, v1.ownBlock = some g ∧ m ≤ g) (hnm : n ≤ m) : ∀ k, v1.ownBlock = some k → k ∈ L ∨ n ≤ k := by
  intro k hk
  rcases hn1 with h | ⟨g, h, hg⟩
  · exact hK k (h ▸ hk)
  · rw [h] at hk; injection hk with hk; omega
theorem gr_make {L : List Nat} {v : Value} {n g : Nat} (hg : g ∈ L) (hK : ∀ k, v.ownBlock = some k → k ∈ L ∨ n ≤ k) : Gr L (g :: v.ownBlock.toList) n := by
  intro k hk
  rcases List.mem_cons.1 hk with rfl | hk
  · exact .inl hg
  · exact hK k (by simpa using hk)
set_option maxRecDepth 100000 in
set_option maxHeartbeats 2000000 in
theorem wput_any (g u : Nat) (hu : u < 18446744073709551616) (bs : List UInt8) (bad : Bool) (L : List Nat) (w : World) (h : WAt w L g bs bad) (hl : bs.length ≤ 100000000) :
    Calls Try.prog 93 #[.pointer (some ⟨g, 0, none⟩), .int .u64 u] w fun e w' => e = .returned (.tuple #[]) ∧ ∃ L', WAt w' L' g (bs ++ grp u) bad ∧ Fr L w w' ∧ Gr L L' w.heap.size := by
  obtain ⟨⟨v, h1, h2, h3⟩, h4, h5⟩ := h
  have H1 := Bx.mk h1; have H2 := Bx.mk h2; have H3 := Bx.mk h3; have H4 := Bx.mk h4; have HL := Bx.mk hl; have HU := Bx.mk hu
  have H10 := Bx.mk (grp_len64 hu)
  clear h1 h2 h3 h4 h5 hl hu
  go_enter Try.func93, Try.ntmps93
  go_wp2_with fail
  go_loopw [1,4,5,6,7,8,9,10,11,12,13,14,15,16,17,18,19] (fun t1 _ _ _ _ _ _ _ _ _ _ _ _ _ _ _ _ wr => ∃ (x : Nat) (v : Value) (ys : List UInt8), t1 = .int .u64 x ∧ x ≤ u ∧ Bx (ys ++ grp x = bs ++ grp u) ∧ Bk wr g #[v, .bool bad] 139 ∧ Own wr 0 5 1 v ys.length (ys.map bV) ∧ Bx (∀ k, v.ownBlock = some k → k ∈ L ∨ w.heap.size ≤ k) ∧ Fr L w wr) (fun t1 _ _ _ _ _ _ _ _ _ _ _ _ _ _ _ _ _ => (intOf t1).toNat)
  case atStart => exact ⟨u, v, bs, rfl, Nat.le_refl _, ⟨rfl⟩, H1.out, H2.out, ⟨fun k hk => .inl (H3.out k hk)⟩, Fr.refl _ _⟩
  case round =>
    obtain ⟨x, v, ys, rfl, hxu, hE, hB, hO, hK, hF⟩ := hrel
    have HB := Bx.mk hB; have HO := Bx.mk hO; have HF := Bx.mk hF
    have hlen : ys.length ≤ 100000010 := by
      have := congrArg List.length hE.out; rw [List.length_append, List.length_append] at this; have := HL.out; have := H10.out; omega
    have HLen := Bx.mk hlen
    have hXU := Bx.mk hxu
    have c0 : wr.cell? ⟨g, 0, none⟩ = some v := by rw [hB.cell]; rfl
    clear hB hO hF hlen hxu
    by_cases hge : (128 : Int) ≤ (x : Int)
    · have hG := grp_ge (u := x) (by omega)
      obtain ⟨y, hy⟩ : ∃ y, y = x % 128 + 128 := ⟨_, rfl⟩
      have f2 : bits BinOp.or IntKind.u8 ((x : Int) % 256) 128 = (y : Int) := by rw [or128, hy]
      have f3 : (x : Int) / 128 = ((x / 128 : Nat) : Int) := by omega
      have f4 : IntKind.u64.wrap ((x / 128 : Nat) : Int) = ((x / 128 : Nat) : Int) := by rw [IntKind.wrap_u64]; have := hXU.out; have := HU.out; omega
      rw [← hy] at hG
      have hyb := bV_nat y (by omega)
      have HY := Bx.mk hyb; have HG := Bx.mk hG
      have hdec : x / 128 < x := by omega
      have hdec2 : x / 128 ≤ u := by have := hXU.out; omega
      have HD := Bx.mk hdec; have HD2 := Bx.mk hdec2
      clear hy hyb hG hdec hdec2
      generalize x / 128 = x2 at *
      go_wp2_with (refine wpList_appb rfl (.tmp 10) (.tmp 14) rfl rfl (HO.out.alloc _) _ rfl 1 [bV (UInt8.ofNat y)] (by rw [← HY.out]; exact Src.builtB (UInt8.ofNat y)) (by have := HLen.out; omega) (by omega) ?_)
      intro v1 w1 ho1 hg1 hn1
      obtain ⟨a1, cp1, rfl⟩ := ho1.isSlice
      obtain ⟨b1, b2, b3⟩ := w_step (HB.out.alloc _) (HO.out.alloc _) hg1 ho1
      have hK2 := own_gr hK.out hn1 (show w.heap.size ≤ wr.heap.size + 1 by have := HF.out.size; omega)
      have hF2 := ((HF.out.alloc (.cells #[.int .u8 (y : Int)] 5)).grown hg1 hK.out).setCell (p := ⟨g, 0, none⟩) (.inl H4.out) (.slice a1 (ys.length + 1) cp1)
      have c1 : w1.frozen? ⟨g, 0, none⟩ = false := b1.frozen 0
      have c2 : w1.cell? ⟨g, 0, none⟩ = some v := by rw [b1.cell]; rfl
      have B2 := Bx.mk b2; have B3 := Bx.mk b3; have K2 := Bx.mk hK2; have F2 := Bx.mk hF2
      clear b1 b2 b3 hK2 hF2 ho1 hg1 hn1
      go_wp2
      go_roundw
      case rel => exact ⟨x2, _, ys ++ [UInt8.ofNat y], rfl, HD2.out, ⟨by rw [← hE.out, HG.out, List.append_assoc]; rfl⟩, B2.out, by rw [List.length_append, List.map_append]; exact B3.out, K2, F2.out⟩
      case measure => have := HD.out; simp [intOf]; omega
    · have hG := grp_lt (u := x) (by omega)
      have hyb := bV_nat x (by omega)
      have HY := Bx.mk hyb; have HG := Bx.mk hG
      have f1 : (x : Int) % 256 = (x : Int) := by omega
      clear hyb hG
      go_wp2_with (refine wpList_appb rfl (.tmp 24) (.tmp 27) rfl rfl (HO.out.alloc _) _ rfl 1 [bV (UInt8.ofNat x)] (by rw [← HY.out]; exact Src.builtB (UInt8.ofNat x)) (by have := HLen.out; omega) (by omega) ?_)
      intro v1 w1 ho1 hg1 hn1
      obtain ⟨a1, cp1, rfl⟩ := ho1.isSlice
      obtain ⟨b1, b2, b3⟩ := w_step (HB.out.alloc _) (HO.out.alloc _) hg1 ho1
      have hK2 := own_gr hK.out hn1 (show w.heap.size ≤ wr.heap.size + 1 by have := HF.out.size; omega)
      have hF2 := ((HF.out.alloc (.cells #[.int .u8 (x : Int)] 5)).grown hg1 hK.out).setCell (p := ⟨g, 0, none⟩) (.inl H4.out) (.slice a1 (ys.length + 1) cp1)
      have c1 : w1.frozen? ⟨g, 0, none⟩ = false := b1.frozen 0
      have c2 : w1.cell? ⟨g, 0, none⟩ = some v := by rw [b1.cell]; rfl
      have B2 := Bx.mk b2; have B3 := Bx.mk b3; have K2 := Bx.mk hK2; have F2 := Bx.mk hF2
      clear b1 b2 b3 hK2 hF2 ho1 hg1 hn1
      go_wp2
      go_end0
      refine ⟨rfl, _, ?_, F2.out, gr_make H4.out K2.out⟩
      rw [← hE.out, HG.out]
      exact WAt.make B2.out (by rw [List.length_append, List.map_append]; exact B3.out)
end Go.Proofs.Ytpfmadinijofeaa
end
section
/- The rest of the codec's writer, walked. -/
namespace Go.Proofs.Ytpfmadinijofeaa
open Go.RowKit
def W1 (w : World) (L : List Nat) (g : Nat) (bs : List UInt8) (bad : Bool) (e : Ending) (w' : World) : Prop :=
  e = .returned (.tuple #[]) ∧ ∃ L', WAt w' L' g bs bad ∧ Fr L w w' ∧ Gr L L' w.heap.size
theorem WAt.setBad {w : World} {L : List Nat} {g : Nat} {bs : List UInt8} {bad : Bool} (h : WAt w L g bs bad) : WAt (w.setCell ⟨g, 1, none⟩ (.bool true)) L g bs true := by
  obtain ⟨⟨v, h1, h2, h3⟩, h4, h5⟩ := h
  refine ⟨⟨v, h1.setCell 1 (.bool true), h2.keep fun k hk => Below.heap_setCell _ _ _ _ fun e => ?_, h3⟩, h4, by simpa [Under] using h5⟩
  have e2 : k = g := e
  subst e2
  exact own_far h1 h2 (by decide) hk
theorem zig_xor_pos (n : Nat) (h : n < 9223372036854775808) : zig (n : Int) = 2 * n := by unfold zig; rw [if_pos (by omega)]; omega
theorem xor_zero (a : Nat) (h : a < 18446744073709551616) : bits BinOp.xor IntKind.u64 (a : Int) 0 = (a : Int) := by
  have := bits_xor_u64_nat a 0 h (by omega)
  simpa using this
theorem nat_xor_ones (a : Nat) (h : a < 2 ^ 64) : a ^^^ (2 ^ 64 - 1) = 2 ^ 64 - 1 - a := by
  apply Nat.eq_of_testBit_eq
  intro i
  rw [Nat.testBit_xor, Nat.testBit_two_pow_sub_one, show 2 ^ 64 - 1 - a = 2 ^ 64 - (a + 1) by omega, Nat.testBit_two_pow_sub_succ h]
  by_cases hi : i < 64
  · simp [hi]
  · simp [hi]
    exact Nat.testBit_lt_two_pow (Nat.lt_of_lt_of_le h (Nat.pow_le_pow_right (by omega) (by omega)))
theorem xor_ones (a : Nat) (h : a < 18446744073709551616) : bits BinOp.xor IntKind.u64 (a : Int) 18446744073709551615 = ((18446744073709551615 - a : Nat) : Int) := by
  have h1 := bits_xor_u64_nat a 18446744073709551615 h (by omega)
  have h2 := nat_xor_ones a h
  rw [show (2 : Nat) ^ 64 - 1 = 18446744073709551615 from rfl] at h2
  rw [h2] at h1
  exact h1
/-- The bytes of a slice, in blocks of M. -/
def In (w : World) (M : List Nat) (a : Option Addr) (bs : List UInt8) : Prop := RowAt w a (bs.map bV) ∧ ∀ ad, a = some ad → bs ≠ [] → ad.block ∈ M
theorem In.keep {w w' : World} {M : List Nat} {a : Option Addr} {bs : List UInt8} (h : In w M a bs) (hk : ∀ k ∈ M, w'.heap[k]? = w.heap[k]?) : In w' M a bs := by
  refine ⟨?_, h.2⟩
  rcases h.1 with h1 | ⟨b, off, rfl, h1⟩
  · exact .inl h1
  · by_cases hb : bs = []
    · exact .inl (by rw [hb]; rfl)
    · refine .inr ⟨b, off, rfl, fun i v hv => ?_⟩
      rw [← h1 i v hv]
      exact World.cell?_of_block (a := ⟨b, off + i, none⟩) (hk b (h.2 _ rfl hb))
theorem In.nil (w : World) (M : List Nat) : In w M none [] := ⟨.inl rfl, fun _ h => by cases h⟩
theorem In.src {w : World} {M : List Nat} {a : Option Addr} {bs : List UInt8} (h : In w M a bs) (c : Nat) : Src Try.prog 1 22 (.slice a bs.length c) bs.length (bs.map bV) w := by
  have := Src.ofRow (P := Try.prog) (tx := 22) (w := w) Try.underlying22 a c (bs.map bV) h.1 one_bV
  rwa [List.length_map] at this
set_option maxRecDepth 100000 in
set_option maxHeartbeats 2000000 in
theorem wText_any (g : Nat) (a : Option Addr) (c : Nat) (ts : List UInt8) (M : List Nat) (bs : List UInt8) (bad : Bool) (L : List Nat) (w : World) (h : WAt w L g bs bad) (ht : In w M a ts) (hM : Under M w.heap.size) (hap : Apart M L) (hl : bs.length ≤ 10000000) (htl : ts.length ≤ 10000000) :
    Calls Try.prog 80 #[.pointer (some ⟨g, 0, none⟩), .slice a ts.length c] w (W1 w L g (bs ++ textB ts) bad) := by
  have f1 : IntKind.u64.wrap (ts.length : Int) = (ts.length : Int) := by rw [IntKind.wrap_u64]; omega
  have HC := fun w h => Bx.mk (wput_any g ts.length (by omega) bs bad L w h (by omega))
  have HW := Bx.mk h; have HT := Bx.mk ht; have HM := Bx.mk hM; have HAP := Bx.mk hap; have HL := Bx.mk hl; have HTL := Bx.mk htl
  have H10 := Bx.mk (grp_len64 (u := ts.length) (by omega))
  clear h ht hM hap hl htl
  go_enter Try.func80, Try.ntmps80
  go_wp2_with fail
  refine (HC _ HW.out).out.mono ?_
  rintro e w' ⟨rfl, L1, hW1, hF1, hG1⟩
  have HT1 := Bx.mk (HT.out.keep (hF1.keep HAP.out HM.out))
  have HF1 := Bx.mk hF1; have HG1 := Bx.mk hG1
  obtain ⟨⟨v, h1, h2, h3⟩, h4, h5⟩ := hW1
  have H1 := Bx.mk h1; have H2 := Bx.mk h2; have H3 := Bx.mk h3; have H4 := Bx.mk h4; have H5 := Bx.mk h5
  have c0 : w'.cell? ⟨g, 0, none⟩ = some v := by rw [h1.cell]; rfl
  clear h1 h2 h3 h4 h5 hF1 hG1 HC
  go_wp2_with (refine wpList_appb rfl (.tmp 15) (.tmp 16) rfl rfl H2.out _ rfl ts.length (ts.map bV) (HT1.out.src c) (by have := HL.out; have := HTL.out; have := H10.out; simp only [List.length_append]; omega) (by omega) ?_)
  intro v1 w1 ho1 hg1 hn1
  obtain ⟨a1, cp1, rfl⟩ := ho1.isSlice
  obtain ⟨b1, b2, b3⟩ := w_step H1.out H2.out hg1 ho1
  have hK2 := own_gr (fun k hk => Or.inl (H3.out k hk)) hn1 (Nat.le_refl w'.heap.size)
  have hF2 := ((Fr.refl L1 w').grown hg1 (fun k hk => Or.inl (H3.out k hk))).setCell (p := ⟨g, 0, none⟩) (.inl H4.out) (.slice a1 (bs.length + (grp ts.length).length + ts.length) cp1)
  have e1 : w1.frozen? ⟨g, 0, none⟩ = false := b1.frozen 0
  have e2 : w1.cell? ⟨g, 0, none⟩ = some v := by rw [b1.cell]; rfl
  have B2 := Bx.mk b2; have B3 := Bx.mk b3; have K2 := Bx.mk hK2; have F2 := Bx.mk hF2
  clear b1 b2 b3 hK2 hF2 ho1 hg1 hn1
  go_wp2
  go_end0
  refine ⟨rfl, _, ?_, HF1.out.trans F2.out HG1.out, HG1.out.trans (gr_make H4.out K2.out) HF1.out.size⟩
  unfold textB
  rw [← List.append_assoc]
  exact WAt.make B2.out (by rw [List.length_append, List.length_append, List.map_append (l₂ := ts), List.map_append]; have := B3.out; rw [List.append_assoc]; exact this)
theorem In.ofOwn {w : World} {b : Nat} {a : Option Addr} {c : Nat} {xs : List UInt8} (h : Own w b 5 1 (.slice a xs.length c) xs.length (xs.map bV)) : In w (Value.ownBlock (.slice a xs.length c)).toList a xs := by
  refine ⟨h.row, fun ad had hne => ?_⟩
  rcases h.2 with ⟨he, h0⟩ | ⟨g, off, cap, cur, he, _⟩
  · exact absurd (List.eq_nil_of_length_eq_zero h0) hne
  · injection he with h1 h2 h3
    subst h1
    injection had with had
    subst had
    simp [Value.ownBlock]
end Go.Proofs.Ytpfmadinijofeaa
end
section
/- bytes.Clone, Bytes; the reference's bytes of numbers, walked. -/
namespace Go.Proofs.Ytpfmadinijofeaa
open Go.RowKit
set_option maxRecDepth 100000 in
set_option maxHeartbeats 2000000 in
theorem bClone_any (a : Option Addr) (c : Nat) (bs : List UInt8) (w : World) (h : RowAt w a (bs.map bV)) (hl : bs.length ≤ 100000000) :
    Calls Try.prog 94 #[.slice a bs.length c] w fun e w' => ∃ v, e = .returned v ∧ Own w' w.heap.size 5 1 v bs.length (bs.map bV) ∧ Below w.heap.size w w' := by
  have H := Bx.mk h; have HL := Bx.mk hl
  clear h hl
  cases a with
  | none =>
    have hb : bs = [] := by
      rcases H.out with h | ⟨b, off, h, _⟩
      · simpa using h
      · cases h
    subst hb
    have hnil := fun w => Lib.run_eql_slice_nil (P := Try.prog) w 22 5 none 0 c 0 0 Try.underlying22
    show Calls Try.prog 94 #[.slice none 0 c] w _
    go_enter Try.func94, Try.ntmps94
    go_wp2
    go_ret
    exact ⟨_, rfl, Own.nil _ _ _ _, Below.refl _ _⟩
  | some ad =>
    have hnil := fun w => Lib.run_eql_slice_nil (P := Try.prog) w 22 5 (some ad) bs.length c 0 0 Try.underlying22
    have hnn : (some ad).isNone = false := rfl
    go_enter Try.func94, Try.ntmps94
    go_wp2_with (refine wpList_appb rfl (.tmp 5) (.tmp 6) rfl rfl (Own.fresh0 (w := w) (Nat.le_refl _)) _ rfl bs.length (bs.map bV) ?hs ?hb ?hbase ?_)
    case hs =>
      have := Src.ofRow (P := Try.prog) (tx := 22) Try.underlying22 (some ad) c (bs.map bV) (H.out.alloc (.cells #[] 5)) one_bV
      rwa [List.length_map] at this
    case hb => have := HL.out; omega
    case hbase => simp
    intro v1 w1 ho1 hg1 hn1
    obtain ⟨a1, cp1, rfl⟩ := ho1.isSlice
    have hb := (Below_one (w := w) (.cells #[] 5)).grown hg1 (by simp) (fun g hg => by have h3 : w.heap.size = g := Option.some.inj hg; omega)
    have HB := Bx.mk hb; have HO := Bx.mk ho1
    clear hb ho1 hg1 hn1
    go_wp2
    go_ret
    exact ⟨_, rfl, HO.out, HB.out⟩
/-- What 'Bytes' tells of a writer. -/
def wErr (bad : Bool) : Int := if bad then 1 else 0
set_option maxRecDepth 100000 in
set_option maxHeartbeats 2000000 in
theorem wBytes_any (g : Nat) (bs : List UInt8) (bad : Bool) (L : List Nat) (w : World) (h : WAt w L g bs bad) (hl : bs.length ≤ 100000000) :
    Calls Try.prog 81 #[.pointer (some ⟨g, 0, none⟩)] w fun e w' => ∃ v, e = .returned (.tuple #[v, .int .i64 (wErr bad)]) ∧ Own w' w.heap.size 5 1 v bs.length (bs.map bV) ∧ Below w.heap.size w w' := by
  obtain ⟨⟨v, h1, h2, h3⟩, h4, h5⟩ := h
  obtain ⟨a, c, rfl⟩ := h2.isSlice
  have HR := Bx.mk h2.row
  have c0 : w.cell? ⟨g, 0, none⟩ = some (.slice a bs.length c) := by rw [h1.cell]; rfl
  have c1 : w.cell? ⟨g, 1, none⟩ = some (.bool bad) := by rw [h1.cell]; rfl
  have HL := Bx.mk hl
  clear h1 h2 h3 h4 h5 hl
  cases bad with
  | true =>
    go_enter Try.func81, Try.ntmps81
    go_wp2_with fail
    refine (bClone_any a c bs w HR.out HL.out).mono ?_
    rintro e w' ⟨v, rfl, ho, hb⟩
    have HO := Bx.mk ho; have HB := Bx.mk hb
    clear ho hb
    go_wp2
    go_ret2
    exact ⟨_, rfl, HO.out, HB.out⟩
  | false =>
    go_enter Try.func81, Try.ntmps81
    go_wp2_with fail
    refine (bClone_any a c bs w HR.out HL.out).mono ?_
    rintro e w' ⟨v, rfl, ho, hb⟩
    have HO := Bx.mk ho; have HB := Bx.mk hb
    clear ho hb
    go_wp2
    go_ret2
    exact ⟨_, rfl, HO.out, HB.out⟩
theorem wBytes_nil (w : World) : Calls Try.prog 81 #[.pointer none] w fun e w' => e = .returned (.tuple #[.slice none 0 0, .int .i64 1]) ∧ w' = w := by
  go_enter Try.func81, Try.ntmps81
  go_wp2
  go_ret2
  exact ⟨rfl, rfl⟩
theorem wText_nil (v : Value) (n c : Nat) (hv : v = .slice none n c) (w : World) : Calls Try.prog 80 #[.pointer none, v] w fun e w' => e = .returned (.tuple #[]) ∧ w' = w := by
  subst hv
  go_enter Try.func80, Try.ntmps80
  go_wp2
  go_end0
  exact ⟨rfl, rfl⟩
theorem strOf_app (a b : List UInt8) : strOf a ++ strOf b = strOf (a ++ b) := by
  apply ByteArray.ext
  rw [ByteArray.data_append]
  simp [strOf]
theorem add_str {P : Program} (W : World) (xs ys : List UInt8) (h : xs.length + ys.length ≤ 9000000000000000000) : (Op.stringOp .add (strOf xs) (strOf ys)).run P W = .ok (.string (strOf (xs ++ ys))) W := by
  rw [run_string_add_sum W _ _ (by rw [strOf_size, strOf_size]; omega), strOf_app]
set_option maxRecDepth 100000 in
set_option maxHeartbeats 2000000 in
theorem fOne_any (n : Nat) (h : n < 256) (w : World) : Calls Try.prog 83 #[.int .i64 n] w fun e w' => e = .returned (.string (strOf [UInt8.ofNat n])) ∧ Below w.heap.size w w' := by
  have hb := bV_nat n h
  have hc : ∀ w : World, (convert 22 9 (.slice (some ⟨w.heap.size, 0, none⟩) 1 1)).run Try.prog (w.alloc (.cells #[.int .u8 (n : Int)] 5)) = .ok (.string (strOf [UInt8.ofNat n])) (w.alloc (.cells #[.int .u8 (n : Int)] 5)) := fun w => by
    rw [← hb]
    exact conv_str 22 9 Try.underlying22 Try.underlying5 Try.underlying9 _ (some ⟨w.heap.size, 0, none⟩) 1 [UInt8.ofNat n] (RowAt.ofWhole (vs := [bV (UInt8.ofNat n)]) (al_new rfl))
  clear hb
  go_enter Try.func83, Try.ntmps83
  go_wp2
  go_ret
  exact ⟨rfl, Below_one _⟩
set_option maxRecDepth 100000 in
set_option maxHeartbeats 2000000 in
theorem fgroups_any (u : Nat) (hu : u < 18446744073709551616) (w : World) : Calls Try.prog 98 #[.int .u64 u] w fun e w' => e = .returned (.string (strOf (grp u))) ∧ Below w.heap.size w w' := by
  have HU := Bx.mk hu
  have H10 := Bx.mk (grp_len64 hu)
  clear hu
  go_enter Try.func98, Try.ntmps98
  go_wp2_with fail
  go_loopw [0,3,4,5,6,7,8,9,10,11,12,13,14] (fun t0 t3 _ _ _ _ _ _ _ _ _ _ _ wr => ∃ (x : Nat) (ys : List UInt8), t0 = .int .u64 x ∧ t3 = .string (strOf ys) ∧ x ≤ u ∧ Bx (ys ++ grp x = grp u) ∧ Bx (Below w.heap.size w wr)) (fun t0 _ _ _ _ _ _ _ _ _ _ _ _ _ => (intOf t0).toNat)
  case atStart => exact ⟨u, [], rfl, rfl, Nat.le_refl _, ⟨rfl⟩, ⟨Below.refl _ _⟩⟩
  case round =>
    obtain ⟨x, ys, rfl, rfl, hxu, hE, hB⟩ := hrel
    have hXU := Bx.mk hxu
    have hlen : ys.length ≤ 10 := by
      have := congrArg List.length hE.out; rw [List.length_append] at this; have := H10.out; omega
    have HLen := Bx.mk hlen
    clear hlen hxu
    by_cases hge : (127 : Int) < (x : Int)
    · have hG := grp_ge (u := x) (by omega)
      obtain ⟨y, hy⟩ : ∃ y, y = x % 128 + 128 := ⟨_, rfl⟩
      have f1 : (x : Int) % 128 + 128 = (y : Int) := by omega
      have f3 : (x : Int) / 128 = ((x / 128 : Nat) : Int) := by omega
      rw [← hy] at hG
      have HC := fun w => Bx.mk (fOne_any y (by omega) w)
      have HG := Bx.mk hG
      have hdec : x / 128 < x := by omega
      have hdec2 : x / 128 ≤ u := by have := hXU.out; omega
      have HD := Bx.mk hdec; have HD2 := Bx.mk hdec2
      clear hy hG hdec hdec2
      generalize x / 128 = x2 at *
      have f5 : wrap64 ((x : Int) % 128) = (x : Int) % 128 := by unfold wrap64; omega
      have f6 : IntKind.u64.wrap (x2 : Int) = (x2 : Int) := by rw [IntKind.wrap_u64]; have := HD2.out; have := HU.out; omega
      go_wp2_with fail
      refine (HC _).out.mono ?_
      rintro e w' ⟨rfl, hb⟩
      have HB2 := Bx.mk (hB.out.trans (hb.mono hB.out.size))
      clear hb
      have hap := fun W => add_str (P := Try.prog) W ys [UInt8.ofNat y] (by have := HLen.out; simp; omega)
      go_wp2
      go_roundw
      case rel => exact ⟨x2, ys ++ [UInt8.ofNat y], rfl, rfl, HD2.out, ⟨by rw [← hE.out, HG.out, List.append_assoc]; rfl⟩, HB2⟩
      case measure => have := HD.out; simp [intOf]; omega
    · have hG := grp_lt (u := x) (by omega)
      have HC := fun w => Bx.mk (fOne_any x (by omega) w)
      have HG := Bx.mk hG
      have f5 : wrap64 (x : Int) = (x : Int) := by unfold wrap64; omega
      clear hG
      go_wp2_with fail
      refine (HC _).out.mono ?_
      rintro e w' ⟨rfl, hb⟩
      have HB2 := Bx.mk (hB.out.trans (hb.mono hB.out.size))
      clear hb
      have hap := fun W => add_str (P := Try.prog) W ys [UInt8.ofNat x] (by have := HLen.out; simp; omega)
      go_wp2
      go_ret
      exact ⟨by rw [← hE.out, HG.out]; rfl, HB2.out⟩
theorem fUint_any (z : Int) (h2 : z ≤ 9223372036854775807) (w : World) : Calls Try.prog 87 #[.int .i64 z] w fun e w' => e = .returned (.string (strOf (uintB z))) ∧ Below w.heap.size w w' := by
  by_cases h0 : z < 0
  · rw [show uintB z = [] by unfold uintB; rw [if_pos h0]]
    clear h2
    go_enter Try.func87, Try.ntmps87
    go_wp2
    go_ret
    exact ⟨rfl, Below.refl _ _⟩
  · obtain ⟨n, rfl⟩ := Int.eq_ofNat_of_zero_le (show 0 ≤ z by omega)
    rw [show uintB (n : Int) = grp n by unfold uintB; rw [if_neg h0]; rfl]
    have f1 : IntKind.u64.wrap (n : Int) = (n : Int) := by rw [IntKind.wrap_u64]; omega
    have HC := fun w => Bx.mk (fgroups_any n (by omega) w)
    clear h2
    go_enter Try.func87, Try.ntmps87
    go_wp2_with fail
    refine (HC _).out.mono ?_
    rintro e w' ⟨rfl, hb⟩
    have HB := Bx.mk hb; clear hb
    go_wp2
    go_ret
    exact ⟨rfl, HB.out⟩
theorem fText_any (bs : List UInt8) (hl : bs.length ≤ 100000000) (w : World) : Calls Try.prog 70 #[.string (strOf bs)] w fun e w' => e = .returned (.string (strOf (textB bs))) ∧ Below w.heap.size w w' := by
  have hs := strOf_size bs
  have HC := fun w => Bx.mk (fUint_any bs.length (by omega) w)
  have hu : uintB (bs.length : Int) = grp bs.length := by unfold uintB; rw [if_neg (by omega)]; rfl
  rw [hu] at HC
  have hap := fun W => add_str (P := Try.prog) W (grp bs.length) bs (by have := grp_len64 (u := bs.length) (by omega); omega)
  clear hu hl
  go_enter Try.func70, Try.ntmps70
  go_wp2_with fail
  refine (HC _).out.mono ?_
  rintro e w' ⟨rfl, hb⟩
  have HB := Bx.mk hb; clear hb
  go_wp2
  go_ret
  exact ⟨rfl, HB.out⟩
end Go.Proofs.Ytpfmadinijofeaa
end
section
/- Numbers read from bytes: the plain law. No program in sight. -/
namespace Go.Proofs.Ytpfmadinijofeaa
open Go.RowKit
/-- The next number: it, how many bytes it has, and what is wrong (3: it ends too soon; 2: not in form). -/
def tk (most : Nat) : Nat → Nat → List UInt8 → Nat × Nat × Int
  | _, _, [] => (0, 0, 3)
  | i, u, x :: r => if i = most ∨ (x.toNat = 0 ∧ 0 < i) ∨ (i = 9 ∧ 1 < x.toNat) then (0, 0, 2) else
    if 128 ≤ x.toNat then tk most (i + 1) (u + x.toNat % 128 * 128 ^ i) r else (u + x.toNat % 128 * 128 ^ i, i + 1, 0)
theorem tk_nil (most i u : Nat) : tk most i u [] = (0, 0, 3) := rfl
theorem tk_bad {most i u : Nat} {x : UInt8} {r : List UInt8} (h : i = most ∨ (x.toNat = 0 ∧ 0 < i) ∨ (i = 9 ∧ 1 < x.toNat)) : tk most i u (x :: r) = (0, 0, 2) := by unfold tk; rw [if_pos h]
theorem tk_more {most i u : Nat} {x : UInt8} {r : List UInt8} (h : ¬ (i = most ∨ (x.toNat = 0 ∧ 0 < i) ∨ (i = 9 ∧ 1 < x.toNat))) (h2 : 128 ≤ x.toNat) : tk most i u (x :: r) = tk most (i + 1) (u + x.toNat % 128 * 128 ^ i) r := by
  rw [tk, if_neg h, if_pos h2]
theorem tk_last {most i u : Nat} {x : UInt8} {r : List UInt8} (h : ¬ (i = most ∨ (x.toNat = 0 ∧ 0 < i) ∨ (i = 9 ∧ 1 < x.toNat))) (h2 : ¬ 128 ≤ x.toNat) : tk most i u (x :: r) = (u + x.toNat % 128 * 128 ^ i, i + 1, 0) := by
  rw [tk, if_neg h, if_neg h2]
theorem u8_eq {x : UInt8} {n : Nat} (h : x.toNat = n) (hn : n < 256) : UInt8.ofNat n = x := by
  subst h; simp
/-- What is read has just its bytes. -/
theorem tk_enc (most : Nat) : ∀ (bs : List UInt8) (i a u n : Nat), tk most i a bs = (u, n, 0) → ∃ v, u = a + v * 128 ^ i ∧ (0 < i → v ≠ 0) ∧ i < n ∧ n ≤ i + bs.length ∧ bs.take (n - i) = grp v := by
  intro bs
  induction bs with
  | nil => intro i a u n h; rw [tk_nil] at h; injection h with _ h; injection h with _ h; cases h
  | cons x r ih =>
    intro i a u n h
    by_cases hb : i = most ∨ (x.toNat = 0 ∧ 0 < i) ∨ (i = 9 ∧ 1 < x.toNat)
    · rw [tk_bad hb] at h; injection h with _ h; injection h with _ h; cases h
    · by_cases h2 : 128 ≤ x.toNat
      · rw [tk_more hb h2] at h
        obtain ⟨v, h3, h4, h5, h6, h7⟩ := ih _ _ _ _ h
        have hx := x.toNat_lt
        have hv := h4 (by omega)
        refine ⟨x.toNat % 128 + 128 * v, ?_, fun _ => by omega, by omega, by simp; omega, ?_⟩
        · rw [h3, Nat.pow_succ, Nat.add_mul, Nat.add_assoc, Nat.mul_comm (128 ^ i) 128, ← Nat.mul_assoc, Nat.mul_comm v 128]
        · rw [grp_ge (by omega), show n - i = (n - (i + 1)) + 1 by omega, List.take_succ_cons, h7]
          congr 1
          · exact (u8_eq (n := (x.toNat % 128 + 128 * v) % 128 + 128) (by omega) (by omega)).symm
          · congr 1; omega
      · rw [tk_last hb h2] at h
        injection h with h3 h
        injection h with h4 _
        have hx := x.toNat_lt
        refine ⟨x.toNat, by rw [← h3, Nat.mod_eq_of_lt (by omega)], fun h => by omega, by omega, by simp; omega, ?_⟩
        rw [grp_lt (by omega), show n - i = 1 by omega]
        simp
theorem tk_enc0 {most u n : Nat} {bs : List UInt8} (h : tk most 0 0 bs = (u, n, 0)) : 0 < n ∧ n ≤ bs.length ∧ bs.take n = grp u := by
  obtain ⟨v, h1, _, h3, h4, h5⟩ := tk_enc most bs 0 0 u n h
  simp at h1 h4 h5
  subst h1
  exact ⟨h3, h4, h5⟩
/-- What is written is read again. -/
theorem tk_dec (most : Nat) (rest : List UInt8) : ∀ (m v i a : Nat), v ≤ m → v * 128 ^ i < 18446744073709551616 → i ≤ 9 → i + (grp v).length ≤ most → (0 < i → v ≠ 0) →
    tk most i a (grp v ++ rest) = (a + v * 128 ^ i, i + (grp v).length, 0) := by
  intro m
  induction m with
  | zero =>
    intro v i a hv hb hi hm h0
    obtain rfl : v = 0 := by omega
    have hi0 : i = 0 := by
      rcases Nat.eq_zero_or_pos i with h | h
      · exact h
      · exact absurd rfl (h0 h)
    subst hi0
    rw [grp_lt (by omega)] at hm ⊢
    simp at hm
    show tk most 0 a (UInt8.ofNat 0 :: rest) = _
    rw [tk_last (by simp; omega) (by simp)]
    simp
  | succ m ih =>
    intro v i a hv hb hi hm h0
    have h9 : i = 9 → v ≤ 1 := by
      intro h; subst h; omega
    by_cases hlt : v < 128
    · rw [grp_lt hlt] at hm ⊢
      simp at hm
      show tk most i a (UInt8.ofNat v :: rest) = _
      have hx : (UInt8.ofNat v).toNat = v := by show v % 256 = v; omega
      rw [tk_last (by rw [hx]; omega) (by rw [hx]; omega), hx, Nat.mod_eq_of_lt hlt]
      rfl
    · rw [grp_ge (by omega)] at hm ⊢
      rw [List.length_cons] at hm ⊢
      show tk most i a (UInt8.ofNat (v % 128 + 128) :: (grp (v / 128) ++ rest)) = _
      have hx : (UInt8.ofNat (v % 128 + 128)).toNat = v % 128 + 128 := by show (v % 128 + 128) % 256 = _; omega
      have hp := grp_pos (v / 128)
      have hdiv : v / 128 * 128 ^ (i + 1) ≤ v * 128 ^ i := by
        rw [Nat.pow_succ, Nat.mul_comm (128 ^ i) 128, ← Nat.mul_assoc]
        exact Nat.mul_le_mul_right _ (by omega)
      rw [tk_more (by rw [hx]; omega) (by rw [hx]; omega), hx, ih (v / 128) (i + 1) _ (by omega) (by omega) (by omega) (by omega) (by omega)]
      have e : v = 128 * (v / 128) + v % 128 := by omega
      refine Prod.ext ?_ (Prod.ext (by simp; omega) rfl)
      show a + (v % 128 + 128) % 128 * 128 ^ i + v / 128 * 128 ^ (i + 1) = a + v * 128 ^ i
      rw [show (v % 128 + 128) % 128 = v % 128 by omega]
      conv => rhs; rw [e]
      rw [Nat.pow_succ, Nat.add_mul, Nat.mul_comm (128 ^ i) 128, ← Nat.mul_assoc, Nat.mul_comm (v / 128) 128]
      omega
theorem tk_dec0 {most v : Nat} (rest : List UInt8) (hv : v < 18446744073709551616) (hm : (grp v).length ≤ most) : tk most 0 0 (grp v ++ rest) = (v, (grp v).length, 0) := by
  have := tk_dec most rest v v 0 0 (Nat.le_refl _) (by simpa using hv) (by omega) (by omega) (by omega)
  simpa using this
/-- A number without a sign as an int: zigzag, back. -/
def zag (u : Nat) : Int := if u % 2 = 1 then -((u / 2 : Nat) : Int) - 1 else ((u / 2 : Nat) : Int)
theorem zig_zag (u : Nat) : zig (zag u) = u := by unfold zig zag; split <;> (split <;> omega)
theorem zag_zig (z : Int) : zag (zig z) = z := by unfold zag zig; split <;> (split <;> omega)
theorem zag_range {u : Nat} (h : u < 18446744073709551616) : -9223372036854775808 ≤ zag u ∧ zag u ≤ 9223372036854775807 := by unfold zag; split <;> omega
end Go.Proofs.Ytpfmadinijofeaa
end
section
/- The reader of the codec, walked. -/
namespace Go.Proofs.Ytpfmadinijofeaa
open Go.RowKit
/-- A reader. -/
structure RdAt (w : World) (L : List Nat) (g : Nat) (bs : List UInt8) (e : Int) : Prop where
  ex : ∃ a c, Bk w g #[.slice a bs.length c, .int .i64 e] 157 ∧ In w L a bs ∧ bs.length ≤ c
  mem : g ∈ L
  under : Under L w.heap.size
theorem RdAt.keep {w w' : World} {L : List Nat} {g : Nat} {bs : List UInt8} {e : Int} (h : RdAt w L g bs e) (hk : ∀ k ∈ L, w'.heap[k]? = w.heap[k]?) (hs : w.heap.size ≤ w'.heap.size) : RdAt w' L g bs e := by
  obtain ⟨⟨a, c, h1, h2, h3⟩, h4, h5⟩ := h
  exact ⟨⟨a, c, h1.keep (hk g h4), h2.keep hk, h3⟩, h4, h5.mono hs⟩
theorem RdAt.fr {w w' : World} {L M : List Nat} {g : Nat} {bs : List UInt8} {e : Int} (h : RdAt w L g bs e) (hf : Fr M w w') (ha : Apart L M) : RdAt w' L g bs e := h.keep (hf.keep ha h.under) hf.size
theorem RdAt.below {w w' : World} {L : List Nat} {g : Nat} {bs : List UInt8} {e : Int} (h : RdAt w L g bs e) (hb : Below w.heap.size w w') : RdAt w' L g bs e := h.keep (fun k hk => hb.block k (h.under k hk)) hb.size
/-- The bytes are not in the reader's own block. -/
theorem in_other {w : World} {L : List Nat} {a : Option Addr} {bs : List UInt8} {g i : Nat} {cs : Array Value} {v : Value} (hb : Bk w g cs 157) (h : In w L a bs) : In (w.setCell ⟨g, i, none⟩ v) L a bs ∨ ∃ (j : Nat) (x : UInt8), cs[j]? = some (bV x) := by
  rcases h.1 with h1 | ⟨b, off, rfl, h1⟩
  · left; exact ⟨.inl h1, h.2⟩
  · by_cases hg : b = g
    · subst hg
      cases bs with
      | nil => left; exact ⟨.inl rfl, h.2⟩
      | cons x r =>
        right
        have := h1 0 (bV x) rfl
        rw [hb.cell] at this
        exact ⟨_, _, this⟩
    · left
      refine ⟨.inr ⟨b, off, rfl, fun j u hj => ?_⟩, h.2⟩
      rw [← h1 j u hj]
      exact World.cell?_of_block (a := ⟨b, off + j, none⟩) (Below.heap_setCell _ _ _ _ hg)
theorem in_set {w : World} {L : List Nat} {a a0 : Option Addr} {bs : List UInt8} {n0 c0 g i : Nat} {e : Int} {v : Value} (hb : Bk w g #[.slice a0 n0 c0, .int .i64 e] 157) (h : In w L a bs) : In (w.setCell ⟨g, i, none⟩ v) L a bs := by
  rcases in_other (i := i) (v := v) hb h with h | ⟨j, x, hj⟩
  · exact h
  · match j with
    | 0 => cases hj
    | 1 => cases hj
    | j + 2 => simp at hj
theorem RdAt.setErr {w : World} {L : List Nat} {g : Nat} {bs : List UInt8} {e : Int} (h : RdAt w L g bs e) (e' : Int) : RdAt (w.setCell ⟨g, 1, none⟩ (.int .i64 e')) L g bs e' := by
  obtain ⟨⟨a, c, h1, h2, h3⟩, h4, h5⟩ := h
  exact ⟨⟨a, c, h1.setCell 1 (.int .i64 e'), in_set h1 h2, h3⟩, h4, by simpa [Under] using h5⟩
theorem RdAt.setBytes {w : World} {L : List Nat} {g : Nat} {bs bs2 : List UInt8} {e : Int} (h : RdAt w L g bs e) {a2 : Option Addr} {c2 : Nat} (h2 : In w L a2 bs2) (hc : bs2.length ≤ c2) : RdAt (w.setCell ⟨g, 0, none⟩ (.slice a2 bs2.length c2)) L g bs2 e := by
  obtain ⟨⟨a, c, h1, _, h3⟩, h4, h5⟩ := h
  exact ⟨⟨a2, c2, h1.setCell 0 (.slice a2 bs2.length c2), in_set h1 h2, hc⟩, h4, by simpa [Under] using h5⟩
/-- 'b[n:]'. -/
theorem slice_from {w : World} {L : List Nat} {a : Option Addr} {bs : List UInt8} {c n : Nat} (hn : n ≤ bs.length) (hc : bs.length ≤ c) (h : In w L a bs) :
    ∃ a' c', (∀ W : World, (Instr.slice 22 (.slice a bs.length c) (some (.int .i64 (n : Int))) none none).run Try.prog W = .ok (.slice a' (bs.drop n).length c') W) ∧ In w L a' (bs.drop n) ∧ (bs.drop n).length ≤ c' := by
  have hsz : ∀ W : World, (sizeOf 5).run Try.prog W = .ok 1 W := fun W => by kernel_rfl
  refine ⟨if c = n then a else a.map (·.add (n * 1)), c - n, fun W => ?_, ?_, by simp; omega⟩
  · have h1 : (0 : Int) ≤ (n : Int) ∧ (n : Int) ≤ (bs.length : Int) := by omega
    have h2 : ¬ bs.length < n := by omega
    simp [Instr.slice, run_underlying Try.underlying22, Instr.sliceBounds, Instr.sliceBound, asIntOf, h1, h2, hsz]
  · by_cases hcn : c = n
    · rw [if_pos hcn]
      have : bs.drop n = [] := List.drop_eq_nil_of_le (by omega)
      rw [this]
      exact ⟨.inl rfl, fun _ _ h => absurd rfl h⟩
    · rw [if_neg hcn]
      rcases h.1 with h1 | ⟨b, off, rfl, h1⟩
      · have h2 : bs = [] := by simpa using h1
        subst h2
        exact ⟨.inl (by simp), fun _ _ h => absurd (by simp) h⟩
      · refine ⟨?_, fun ad had hne => ?_⟩
        · have := RowAt.drop (w := w) (b := b) (off := off) (vs := bs.map bV) (.inr ⟨b, off, rfl, h1⟩) n
          rw [List.map_drop] 
          simpa [Addr.add_lit] using this
        · simp [Addr.add_lit] at had
          subst had
          exact h.2 ⟨b, off, none⟩ rfl (fun h0 => hne (by rw [h0]; simp))
set_option maxRecDepth 100000 in
set_option maxHeartbeats 2000000 in
theorem cRead_any (a : Option Addr) (c : Nat) (bs : List UInt8) (w : World) (h : RowAt w a (bs.map bV)) (hl : bs.length ≤ 100000000) :
    Calls Try.prog 89 #[.slice a bs.length c] w fun e w' => ∃ g L, e = .returned (.pointer (some ⟨g, 0, none⟩)) ∧ RdAt w' L g bs 0 ∧ From w.heap.size L ∧ Below w.heap.size w w' := by
  have HC := Bx.mk (bClone_any a c bs w h hl)
  clear h hl
  go_enter Try.func89, Try.ntmps89
  go_wp2_with fail
  refine HC.out.mono ?_
  rintro e w1 ⟨v, rfl, ho, hb⟩
  obtain ⟨a1, c1, rfl⟩ := ho.isSlice
  have HO := Bx.mk ho; have HB := Bx.mk hb
  clear ho hb
  go_wp2
  go_ret
  refine ⟨w1.heap.size, w1.heap.size :: (Value.ownBlock (.slice a1 bs.length c1)).toList, rfl, ⟨⟨a1, c1, Bk.new rfl, ?_, HO.out.cap.1⟩, by simp, ?_⟩, ?_, HB.out.alloc HB.out.size _⟩
  · have h1 := In.ofOwn (HO.out.alloc (.cells #[.slice a1 bs.length c1, .int .i64 0] 157))
    exact ⟨h1.1, fun ad had hne => by simp only [List.mem_cons]; exact .inr (h1.2 ad had hne)⟩
  · intro k hk
    rcases List.mem_cons.1 hk with rfl | hk
    · simp
    · have := (HO.out.lt k (by simpa using hk)).2; simp; omega
  · intro k hk
    rcases List.mem_cons.1 hk with rfl | hk
    · exact HB.out.size
    · exact (HO.out.lt k (by simpa using hk)).1
theorem rdead0 {w : World} {L : List Nat} {g : Nat} {bs : List UInt8} (h : RdAt w L g bs 0) : Calls Try.prog 100 #[.pointer (some ⟨g, 0, none⟩)] w fun e w' => e = .returned (.bool false) ∧ w' = w := by
  obtain ⟨⟨a, c, h1, _, _⟩, _, _⟩ := h
  have c1 : w.cell? ⟨g, 1, none⟩ = some (.int .i64 0) := by rw [h1.cell]; rfl
  clear h1
  go_enter Try.func100, Try.ntmps100
  go_wp2
  go_ret
  exact ⟨rfl, rfl⟩
theorem rdead1 {w : World} {L : List Nat} {g : Nat} {bs : List UInt8} {e : Int} (h : RdAt w L g bs e) (he : e ≠ 0) : Calls Try.prog 100 #[.pointer (some ⟨g, 0, none⟩)] w fun r w' => r = .returned (.bool true) ∧ w' = w := by
  obtain ⟨⟨a, c, h1, _, _⟩, _, _⟩ := h
  have c1 : w.cell? ⟨g, 1, none⟩ = some (.int .i64 e) := by rw [h1.cell]; rfl
  have he2 : (e != 0) = true := by simpa using he
  clear h1 he
  go_enter Try.func100, Try.ntmps100
  go_wp2
  go_ret
  exact ⟨rfl, rfl⟩
theorem and127B : ((List.range 256).all fun x => bits BinOp.andNot IntKind.u8 (x : Int) 128 == ((x % 128 : Nat) : Int)) = true := by kernel_rfl
theorem and127 (x : UInt8) : bits BinOp.andNot IntKind.u8 (x.toNat : Int) 128 = ((x.toNat % 128 : Nat) : Int) :=
  eq_of_beq (List.all_eq_true.1 and127B x.toNat (List.mem_range.2 x.toNat_lt))
theorem or_next {u y i : Nat} (hu : u < 128 ^ i) (hs : u + y * 128 ^ i < 18446744073709551616) : bits BinOp.or IntKind.u64 (u : Int) ((y * 128 ^ i : Nat) : Int) = ((u + y * 128 ^ i : Nat) : Int) := by
  have hy : y * 128 ^ i < 18446744073709551616 := by omega
  have e : (128 : Nat) ^ i = 2 ^ (7 * i) := by rw [Nat.pow_mul]
  rw [u64_or_nat _ _ (by omega) hy, Nat.or_comm, nat_join (7 * i) _ _ (by rw [e]; exact Nat.mul_mod_left _ _) (by rw [← e]; exact hu), Nat.add_comm]
set_option maxRecDepth 100000 in
set_option maxHeartbeats 4000000 in
theorem rtake_any (g : Nat) (most : Nat) (hm0 : 0 < most) (hm : most ≤ 10) (bs : List UInt8) (L : List Nat) (w : World) (h : RdAt w L g bs 0) (hl : bs.length ≤ 100000000) (u0 n0 : Nat) (e0 : Int) (hr : tk most 0 0 bs = (u0, n0, e0)) :
    Calls Try.prog 113 #[.pointer (some ⟨g, 0, none⟩), .int .i64 most] w fun e w' => (e0 = 0 ∧ e = .returned (.tuple #[.int .u64 u0, .int .i64 n0]) ∧ w' = w) ∨ (e0 ≠ 0 ∧ e = .returned (.tuple #[.int .u64 0, .int .i64 0]) ∧ w' = w.setCell ⟨g, 1, none⟩ (.int .i64 e0)) := by
  obtain ⟨⟨a, c, h1, h2, h3⟩, h4, h5⟩ := h
  have HI := Bx.mk h2; have HR := Bx.mk hr; have HM := Bx.mk hm; have HL := Bx.mk hl
  have c0 : w.cell? ⟨g, 0, none⟩ = some (.slice a bs.length c) := by rw [h1.cell]; rfl
  have c1 : w.cell? ⟨g, 1, none⟩ = some (.int .i64 0) := by rw [h1.cell]; rfl
  have c2 : w.frozen? ⟨g, 1, none⟩ = false := h1.frozen 1
  have M0 := Bx.mk hm0
  have hmb : ((0 : Int) == (most : Int)) = false := by simp; omega
  clear h1 h2 h3 h4 h5 hr hm hl hm0
  go_enter Try.func113, Try.ntmps113
  go_wp2
  refine wp_scope_jumps 0 (fun a' w' => w' = w ∧ ∃ (i u : Nat) (x8 x9 x10 x11 x12 x13 x14 x15 x16 x17 x18 x19 x20 x21 x22 x23 x24 x25 x26 x27 x28 x29 x30 x31 x32 x33 x34 x35 x36 x37 x38 x39 x40 x41 x42 x43 x44 x45 x46 x47 x48 x49 x50 x51 x52 x53 x54 x55 x56 x57 x58 x59 x60 x61 : Value), a' = { tmps := #[.pointer (some ⟨g, 0, none⟩), .int .i64 most, undef, undef, .int .u64 0, .int .i64 0, .int .u64 u, .int .i64 i, x8, x9, x10, x11, x12, x13, x14, x15, x16, x17, x18, x19, x20, x21, x22, x23, x24, x25, x26, x27, x28, x29, x30, x31, x32, x33, x34, x35, x36, x37, x38, x39, x40, x41, x42, x43, x44, x45, x46, x47, x48, x49, x50, x51, x52, x53, x54, x55, x56, x57, x58, x59, x60, x61], defers := [] } ∧ Bx (tk most i u (bs.drop i) = (u0, n0, e0) ∧ u < 128 ^ i ∧ i ≤ 9 ∧ i ≤ bs.length)) (fun a' _ => 10 - (intOf (a'.tmps.getD 7 undef)).toNat) rfl ?first ?pass
  case first =>
    go_wp2
    go_step3
    by_cases hb0 : bs.length = 0
    · have h0 : bs = [] := List.eq_nil_of_length_eq_zero hb0
      have HE := Bx.mk (show ((0, 0, 3) : Nat × Nat × Int) = (u0, n0, e0) by rw [← HR.out, h0]; rfl)
      have hl0 : ((0 : Int) == (bs.length : Int)) = true := by rw [hb0]; rfl
      clear HR HI h0 hb0
      go_wp2
      dsimp only [Exit.jump]
      go_ret2
      have h := HE.out
      injection h with h1 h2
      injection h2 with h2 h3
      subst h1; subst h2; subst h3
      exact .inr ⟨by decide, rfl, rfl⟩
    · obtain ⟨b, off, rfl, hc⟩ := RowAt.byte HI.out.1 (k := 0) (by omega)
      rw [Nat.add_zero] at hc
      have hd : bs = bs[0] :: bs.drop 1 := by rw [← List.drop_eq_getElem_cons (by omega)]; rfl
      have HD := Bx.mk hd
      have hn0 : ((0 : Int) == (bs.length : Int)) = false := by simp; omega
      have l0 : (0 : Int) < (bs.length : Int) := by omega
      have hx : bs[0].toNat < 256 := bs[0].toNat_lt
      obtain ⟨y, hy⟩ : ∃ y, y = bs[0].toNat % 128 := ⟨_, rfl⟩
      have ha := and127 bs[0]
      rw [← hy] at ha
      have hor : bits BinOp.or IntKind.u64 0 (y : Int) = (y : Int) := by
        have := u64_or_nat 0 y (by omega) (by omega)
        simpa using this
      have hyw : IntKind.u64.wrap (y : Int) = (y : Int) := by rw [IntKind.wrap_u64]; omega
      generalize bs[0] = x at *
      clear hd
      have HX := Bx.mk hx; have HY := Bx.mk hy; have HY2 := Bx.mk (show y < 128 by omega)
      by_cases h2 : (128 : Int) ≤ (x.toNat : Int)
      · have ht : tk most 1 y (bs.drop 1) = (u0, n0, e0) := by
          have h := HR.out
          rw [HD.out, tk_more (by have := M0.out; omega) (by omega), ← hy] at h
          simpa using h
        have HT := Bx.mk ht
        have HL1 := Bx.mk (show 1 ≤ bs.length by omega)
        have hxb : ((x.toNat : Int) == 0) = false := by simp; omega
        clear ht HR hy hx
        go_wp2
        go_step3
        refine ⟨rfl, rfl, ?_⟩
        refine ⟨1, y, ?_⟩
        repeat apply Exists.intro
        exact ⟨rfl, ⟨HT.out, by have := HY2.out; simpa using this, by omega, HL1.out⟩⟩
      · have ht : (y, 1, (0 : Int)) = (u0, n0, e0) := by
          have h := HR.out
          rw [HD.out, tk_last (by have := M0.out; omega) (by omega), ← hy] at h
          simpa using h
        injection ht with h1 h3
        injection h3 with h3 h4
        subst h1; subst h3; subst h4
        by_cases hx0 : x.toNat = 0
        · have hy0 : y = 0 := by omega
          subst hy0
          rw [hx0] at hc ha
          have ha0 : bits BinOp.andNot IntKind.u8 0 128 = 0 := ha
          have hor0 : bits BinOp.or IntKind.u64 0 0 = 0 := hor
          clear HR hy hx ha hor h2 hx0
          go_wp2
          dsimp only [Exit.jump]
          go_ret2
          exact .inl ⟨rfl, rfl, rfl⟩
        · have hxb : ((x.toNat : Int) == 0) = false := by simpa using hx0
          clear HR hy hx hx0
          go_wp2
          dsimp only [Exit.jump]
          go_ret2
          exact .inl ⟨rfl, rfl, rfl⟩
  case pass =>
    rintro a' w' ⟨hw, i, u, hx⟩
    subst hw
    obtain ⟨x8, hx⟩ := hx
    obtain ⟨x9, hx⟩ := hx
    obtain ⟨x10, hx⟩ := hx
    obtain ⟨x11, hx⟩ := hx
    obtain ⟨x12, hx⟩ := hx
    obtain ⟨x13, hx⟩ := hx
    obtain ⟨x14, hx⟩ := hx
    obtain ⟨x15, hx⟩ := hx
    obtain ⟨x16, hx⟩ := hx
    obtain ⟨x17, hx⟩ := hx
    obtain ⟨x18, hx⟩ := hx
    obtain ⟨x19, hx⟩ := hx
    obtain ⟨x20, hx⟩ := hx
    obtain ⟨x21, hx⟩ := hx
    obtain ⟨x22, hx⟩ := hx
    obtain ⟨x23, hx⟩ := hx
    obtain ⟨x24, hx⟩ := hx
    obtain ⟨x25, hx⟩ := hx
    obtain ⟨x26, hx⟩ := hx
    obtain ⟨x27, hx⟩ := hx
    obtain ⟨x28, hx⟩ := hx
    obtain ⟨x29, hx⟩ := hx
    obtain ⟨x30, hx⟩ := hx
    obtain ⟨x31, hx⟩ := hx
    obtain ⟨x32, hx⟩ := hx
    obtain ⟨x33, hx⟩ := hx
    obtain ⟨x34, hx⟩ := hx
    obtain ⟨x35, hx⟩ := hx
    obtain ⟨x36, hx⟩ := hx
    obtain ⟨x37, hx⟩ := hx
    obtain ⟨x38, hx⟩ := hx
    obtain ⟨x39, hx⟩ := hx
    obtain ⟨x40, hx⟩ := hx
    obtain ⟨x41, hx⟩ := hx
    obtain ⟨x42, hx⟩ := hx
    obtain ⟨x43, hx⟩ := hx
    obtain ⟨x44, hx⟩ := hx
    obtain ⟨x45, hx⟩ := hx
    obtain ⟨x46, hx⟩ := hx
    obtain ⟨x47, hx⟩ := hx
    obtain ⟨x48, hx⟩ := hx
    obtain ⟨x49, hx⟩ := hx
    obtain ⟨x50, hx⟩ := hx
    obtain ⟨x51, hx⟩ := hx
    obtain ⟨x52, hx⟩ := hx
    obtain ⟨x53, hx⟩ := hx
    obtain ⟨x54, hx⟩ := hx
    obtain ⟨x55, hx⟩ := hx
    obtain ⟨x56, hx⟩ := hx
    obtain ⟨x57, hx⟩ := hx
    obtain ⟨x58, hx⟩ := hx
    obtain ⟨x59, hx⟩ := hx
    obtain ⟨x60, hx⟩ := hx
    obtain ⟨x61, hx⟩ := hx
    obtain ⟨ha, hJ⟩ := hx
    subst ha
    obtain ⟨hr, hu, hi9, hil⟩ := hJ.out
    clear hJ HR hmb
    have HR := Bx.mk hr; have HU := Bx.mk hu
    clear hr hu
    by_cases hb0 : i = bs.length
    · have HE := Bx.mk (show ((0, 0, 3) : Nat × Nat × Int) = (u0, n0, e0) by rw [← HR.out, hb0, List.drop_length]; rfl)
      have hl0 : ((i : Int) == (bs.length : Int)) = true := by rw [hb0]; simp
      clear HR HI hb0
      go_wp2
      dsimp only [Exit.jump]
      go_ret2
      have h := HE.out
      injection h with h1 h2
      injection h2 with h2 h3
      subst h1; subst h2; subst h3
      exact .inr ⟨by decide, rfl, rfl⟩
    · have hlt : i < bs.length := by omega
      obtain ⟨b, off, rfl, hc⟩ := RowAt.byte HI.out.1 (k := i) hlt
      have HD := Bx.mk (List.drop_eq_getElem_cons hlt)
      have hn0 : ((i : Int) == (bs.length : Int)) = false := by simp; omega
      have l0 : (i : Int) < (bs.length : Int) := by omega
      have i0 : (0 : Int) ≤ (i : Int) := by omega
      have hx : bs[i].toNat < 256 := bs[i].toNat_lt
      have ha := and127 bs[i]
      generalize bs[i] = x at *
      obtain ⟨z, hz⟩ : ∃ z, z = x.toNat := ⟨_, rfl⟩
      rw [← hz] at hc ha hx
      have HZ := Bx.mk hz
      clear hz
      obtain ⟨bad, hbad⟩ : ∃ bad, bad = decide (i = most ∨ (z = 0 ∧ 0 < i) ∨ (i = 9 ∧ 1 < z)) := ⟨_, rfl⟩
      have HBD := Bx.mk hbad
      go_upto_region 7 with fail
      go_cut [44] (fun t44 wx => t44 = .bool bad ∧ w' = wx)
      case first =>
        clear HR HD HU ha
        by_cases h1 : i = most
        · have h1b : ((i : Int) == (most : Int)) = true := by simp; omega
          rw [decide_eq_true (.inl h1)] at hbad
          clear h1 HBD
          go_wp2
          go_meet
          case rel => exact ⟨by rw [hbad], rfl⟩
        · have h1b : ((i : Int) == (most : Int)) = false := by simp; omega
          by_cases h2 : z = 0
          · subst h2
            by_cases h3 : (0 : Int) < (i : Int)
            · rw [decide_eq_true (.inr (.inl ⟨rfl, by omega⟩))] at hbad
              clear h1 HBD
              go_wp2
              go_meet
              case rel => exact ⟨by rw [hbad], rfl⟩
            · rw [decide_eq_false (by omega)] at hbad
              obtain rfl : i = 0 := by omega
              clear h1 HBD h3 h1b
              have h1c : ((0 : Int) == (most : Int)) = false := by have := M0.out; simp; omega
              go_wp2
              go_meet
              case rel => exact ⟨by rw [hbad], rfl⟩
          · have h2b : ((z : Int) == 0) = false := by simp; omega
            by_cases h4 : i = 9
            · have h4b : ((i : Int) == 9) = true := by simp; omega
              by_cases h5 : (1 : Int) < (z : Int)
              · rw [decide_eq_true (.inr (.inr ⟨h4, by omega⟩))] at hbad
                clear h1 HBD h2 h4
                go_wp2
                go_meet
                case rel => exact ⟨by rw [hbad], rfl⟩
              · rw [decide_eq_false (by omega)] at hbad
                clear h1 HBD h2 h4
                go_wp2
                go_meet
                case rel => exact ⟨by rw [hbad], rfl⟩
            · have h4b : ((i : Int) == 9) = false := by simp; omega
              rw [decide_eq_false (by omega)] at hbad
              clear h1 HBD h2 h4
              go_wp2
              go_meet
              case rel => exact ⟨by rw [hbad], rfl⟩
      case rest =>
        obtain ⟨rfl, rfl⟩ := hcut
        clear hbad
        cases bad with
        | true =>
          have hb := of_decide_eq_true HBD.out.symm
          have hE : ((0, 0, 2) : Nat × Nat × Int) = (u0, n0, e0) := by rw [← HR.out, HD.out, tk_bad (by rw [← HZ.out]; exact hb)]
          injection hE with h1 h2
          injection h2 with h2 h3
          subst h1; subst h2; subst h3
          clear HR HD HU HI hb ha
          go_wp2
          dsimp only [Exit.jump]
          go_ret2
          exact .inr ⟨by decide, rfl, rfl⟩
        | false =>
          have hb := of_decide_eq_false HBD.out.symm
          obtain ⟨y, hy⟩ : ∃ y, y = z % 128 := ⟨_, rfl⟩
          rw [← hy] at ha
          obtain ⟨p, hp⟩ : ∃ p, p = y * 128 ^ i := ⟨_, rfl⟩
          have hpow : 128 ^ i ≤ 128 ^ 9 := Nat.pow_le_pow_right (by omega) hi9
          have hpb : u + p < 18446744073709551616 := by
            by_cases h9 : i = 9
            · subst h9
              have h1 : y ≤ 1 := by omega
              have h2 : y * 128 ^ 9 ≤ 1 * 128 ^ 9 := Nat.mul_le_mul_right _ h1
              have := HU.out
              omega
            · have h3 : 128 ^ i ≤ 128 ^ 8 := Nat.pow_le_pow_right (by omega) (by omega)
              have h2 : y * 128 ^ i ≤ 127 * 128 ^ i := Nat.mul_le_mul_right _ (by omega)
              have := HU.out
              omega
          have hpi : IntKind.u64.wrap (IntKind.u64.wrap (y : Int) * 2 ^ (7 * i)) = (p : Int) := by
            have e : ((y : Int) * 2 ^ (7 * i)) = (p : Int) := by
              have e2 : ((2 : Int) ^ (7 * i)) = ((128 ^ i : Nat) : Int) := by
                rw [show (128 : Nat) = 2 ^ 7 from rfl, ← Nat.pow_mul]; exact (Int.natCast_pow 2 (7 * i)).symm
              rw [hp, e2, ← Int.natCast_mul]
            rw [show IntKind.u64.wrap (y : Int) = (y : Int) by rw [IntKind.wrap_u64]; omega, e, IntKind.wrap_u64]; omega
          have hor : bits BinOp.or IntKind.u64 (u : Int) (p : Int) = ((u + p : Nat) : Int) := by
            rw [hp]; exact or_next HU.out (by rw [← hp]; exact hpb)
          obtain ⟨q, hq⟩ : ∃ q, q = u + p := ⟨_, rfl⟩
          rw [← hq] at hor
          have HB2 := Bx.mk hb; have HY := Bx.mk hy; have HP := Bx.mk hp; have HQ := Bx.mk hq
          have s0 : (0 : Int) ≤ 7 * (i : Int) := by omega
          clear hb hy hp hq hpow hpb
          by_cases hmore : (128 : Int) ≤ (z : Int)
          · have hne9 : i ≠ 9 := fun h => by have := HB2.out; omega
            have ht : tk most (i + 1) q (bs.drop (i + 1)) = (u0, n0, e0) := by
              have h := HR.out
              rw [HD.out, tk_more (by rw [← HZ.out]; exact HB2.out) (by rw [← HZ.out]; omega), ← HZ.out, ← HY.out, ← HP.out, ← HQ.out] at h
              exact h
            have hq2 : q < 128 ^ (i + 1) := by
              have h2 : y * 128 ^ i ≤ 127 * 128 ^ i := Nat.mul_le_mul_right _ (by have := HY.out; omega)
              have h3 := HU.out
              rw [HQ.out, HP.out, Nat.pow_succ]; omega
            have HT := Bx.mk ht; have HQ2 := Bx.mk hq2
            clear ht hq2
            go_wp2
            go_step3
            rw [show ((i : Int) + 1) = ((i + 1 : Nat) : Int) by omega]
            refine ⟨rfl, ⟨rfl, ?_⟩, by simp [intOf]; omega⟩
            refine ⟨i + 1, q, ?_⟩
            repeat apply Exists.intro
            exact ⟨rfl, ⟨HT.out, HQ2.out, by omega, by omega⟩⟩
          · have ht : (q, i + 1, (0 : Int)) = (u0, n0, e0) := by
              have h := HR.out
              rw [HD.out, tk_last (by rw [← HZ.out]; exact HB2.out) (by rw [← HZ.out]; omega), ← HZ.out, ← HY.out, ← HP.out, ← HQ.out] at h
              exact h
            injection ht with h1 h3
            injection h3 with h3 h4
            subst h1; subst h3; subst h4
            go_wp2
            dsimp only [Exit.jump]
            go_ret2
            exact .inl ⟨rfl, rfl, rfl⟩
end Go.Proofs.Ytpfmadinijofeaa
end
