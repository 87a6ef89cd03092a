/- Words on memory that the walks share: rows of cells, what is below a block, new blocks. No program in sight. -/
import Derived.WalkKit
import Derived.WalkSpells
import Derived.WalkLawsBesides
import Derived.Lib.SlBytesConst
namespace Go.Proofs.Ytjjmhmbmjpedkaa
open Go.RowKit
theorem hid {p : Prop} (h : p) : Hid p := h
theorem al_new {w : World} {o : Obj} {k : Nat} (h : k = w.heap.size) : (w.alloc o).heap[k]? = some o := by subst h; exact heap_alloc_new w o
theorem heap_lt {w : World} {k : Nat} {o : Obj} (h : w.heap[k]? = some o) : k < w.heap.size := (Array.getElem?_eq_some_iff.1 h).1
theorem al_old {w : World} {o x : Obj} {k : Nat} (h : w.heap[k]? = some x) : (w.alloc o).heap[k]? = some x := (Below.heap_alloc w o k (heap_lt h)).trans h
theorem Below.kept {B : Nat} {w w' : World} (hb : Below B w w') {k : Nat} {o : Obj} (hk : k < B) (h : w.heap[k]? = some o) : w'.heap[k]? = some o := (hb.block k hk).trans h
theorem Below_one {w : World} (o : Obj) : Below w.heap.size w (w.alloc o) := (Below.refl _ _).alloc (Nat.le_refl _) _
theorem Below_setRow {B : Nat} {a w : World} (h : Below B a w) {g : Nat} (hp : B ≤ g) (cs : Array Value) : Below B a (w.setRow g cs) :=
  h.trans ⟨rfl, rfl, rfl, by simp, fun k hk => by simp [World.setRow, Array.getElem?_modify]; omega⟩
/-- A row of values behind an address; of an empty one nothing is asked. -/
def RowAt (w : World) (a : Option Addr) (vs : List Value) : Prop :=
  vs = [] ∨ ∃ b off, a = some ⟨b, off, none⟩ ∧ ∀ i v, vs[i]? = some v → w.cell? ⟨b, off + i, none⟩ = some v
def bV (x : UInt8) : Value := .int .u8 x.toNat
theorem RowAt.below {w w' : World} {a : Option Addr} {vs : List Value} (h : RowAt w a vs) {B : Nat} (hb : Below B w w') (hB : w.heap.size ≤ B) : RowAt w' a vs := by
  rcases h with h | ⟨b, off, ha, h⟩
  · exact .inl h
  · refine .inr ⟨b, off, ha, fun i v hv => ?_⟩
    have hc := h i v hv
    have hl := block_lt_of_cell hc
    exact (hb.cell (p := ⟨b, off + i, none⟩) (Nat.lt_of_lt_of_le hl hB)).trans hc
/-- One cell of a row of bytes. -/
theorem RowAt.byte {w : World} {a : Option Addr} {bs : List UInt8} (h : RowAt w a (bs.map bV)) {k : Nat} (hk : k < bs.length) : ∃ b off, a = some ⟨b, off, none⟩ ∧ w.cell? ⟨b, off + k, none⟩ = some (.int .u8 (bs[k].toNat : Int)) := by
  rcases h with h | ⟨b, off, ha, h⟩
  · rw [List.map_eq_nil_iff] at h; subst h; simp at hk
  · exact ⟨b, off, ha, h k _ (by rw [List.getElem?_map, List.getElem?_eq_getElem hk]; rfl)⟩
theorem RowAt.ofBlock {w : World} {g off : Nat} {cs : Array Value} {t : TypeId} {fr : Nat × Nat} {vs : List Value} (hg : w.heap[g]? = some (.cells cs t fr)) (h : (cs.toList.drop off).take vs.length = vs) : RowAt w (some ⟨g, off, none⟩) vs := by
  refine .inr ⟨g, off, rfl, fun i v hv => ?_⟩
  rw [cell_of_row _ _ _ _ _ _ hg]
  rw [← h] at hv
  rw [List.getElem?_take] at hv
  split at hv
  · rw [List.getElem?_drop] at hv; rw [← Array.getElem?_toList]; exact hv
  · cases hv
theorem RowAt.ofWhole {w : World} {g : Nat} {vs : List Value} {t : TypeId} {fr : Nat × Nat} (hg : w.heap[g]? = some (.cells vs.toArray t fr)) : RowAt w (some ⟨g, 0, none⟩) vs :=
  .ofBlock hg (by simp)
/-- 'Sum' of parts. -/
def PartsAt (w : World) (a : Option Addr) (ps : List (List UInt8)) : Prop :=
  ∃ vs : List (Option Addr × Nat), RowAt w a ((vs.zip ps).map fun (v, p) => .slice v.1 p.length v.2) ∧ vs.length = ps.length ∧ ∀ v p, (v, p) ∈ vs.zip ps → RowAt w v.1 (p.map bV) ∧ p.length ≤ v.2 ∧ p.length ≤ maxLen
theorem PartsAt.below {w w' : World} {a : Option Addr} {ps : List (List UInt8)} (h : PartsAt w a ps) {B : Nat} (hb : Below B w w') (hB : w.heap.size ≤ B) : PartsAt w' a ps := by
  obtain ⟨vs, h1, h2, h3⟩ := h
  exact ⟨vs, h1.below hb hB, h2, fun v p hm => ⟨(h3 v p hm).1.below hb hB, (h3 v p hm).2⟩⟩
theorem PartsAt.part {w : World} {a : Option Addr} {ps : List (List UInt8)} (h : PartsAt w a ps) {k : Nat} (hk : k < ps.length) :
    ∃ b off v cap, a = some ⟨b, off, none⟩ ∧ w.cell? ⟨b, off + k, none⟩ = some (.slice v ps[k].length cap) ∧ RowAt w v (ps[k].map bV) ∧ ps[k].length ≤ cap ∧ ps[k].length ≤ maxLen := by
  obtain ⟨vs, h1, h2, h3⟩ := h
  have hv : k < vs.length := by omega
  have hz : (vs.zip ps)[k]? = some (vs[k], ps[k]) := by rw [List.getElem?_zip_eq_some]; exact ⟨List.getElem?_eq_getElem hv, List.getElem?_eq_getElem hk⟩
  have hm := List.mem_of_getElem? hz
  rcases h1 with h1 | ⟨b, off, ha, h1⟩
  · rw [List.map_eq_nil_iff] at h1; rw [h1] at hz; simp at hz
  · exact ⟨b, off, vs[k].1, vs[k].2, ha, h1 k _ (by rw [List.getElem?_map, hz]; rfl), (h3 _ _ hm).1, (h3 _ _ hm).2⟩
theorem PartsAt.nil {w : World} {a : Option Addr} : PartsAt w a [] := ⟨[], .inl rfl, rfl, fun _ _ h => by cases h⟩
/-- Parts in a row that lies in one block. -/
theorem PartsAt.ofWhole {w : World} {g : Nat} {t : TypeId} {fr : Nat × Nat} (vs : List (Option Addr × Nat)) (ps : List (List UInt8)) (hg : w.heap[g]? = some (.cells ((vs.zip ps).map fun (v, p) => Value.slice v.1 p.length v.2).toArray t fr))
    (hl : vs.length = ps.length) (h : ∀ v p, (v, p) ∈ vs.zip ps → RowAt w v.1 (p.map bV) ∧ p.length ≤ v.2 ∧ p.length ≤ maxLen) : PartsAt w (some ⟨g, 0, none⟩) ps := ⟨vs, .ofWhole hg, hl, h⟩
theorem conv_const {P : Program} (t e : TypeId) (ht : P.underlying t = some (.slice e)) (he : P.underlying e = some (.int .u8)) (w : World) (C : Array Value) (n c g : Nat) (hg : g = w.heap.size) :
    (convert t t (.slice (some ⟨g, 0, none⟩) n c)).run P (w.alloc (.cells C e)) = .ok (.slice (some ⟨g, 0, none⟩) n c) (w.alloc (.cells C e (C.size, C.size + 1))) := by
  subst hg; exact Lib.run_convert_bytes_const w t e C n c ht he
/-- 'min(len(b), n)', as the walk spells it. -/
theorem min_take (bs : List UInt8) (n : Nat) : min (bs.length : Int) (n : Int) = ((bs.take n).length : Int) := by
  rw [List.length_take]; omega
theorem zip1 {α β : Type} {P : α → β → Prop} {a : α} {b : β} (h : P a b) : ∀ v p, (v, p) ∈ [a].zip [b] → P v p := by
  intro v p hm
  simp only [List.zip_cons_cons, List.zip_nil_right, List.mem_cons, Prod.mk.injEq, List.not_mem_nil, or_false] at hm
  obtain ⟨rfl, rfl⟩ := hm
  exact h
theorem zip2 {α β : Type} {P : α → β → Prop} {a a2 : α} {b b2 : β} (h : P a b) (h2 : P a2 b2) : ∀ v p, (v, p) ∈ [a, a2].zip [b, b2] → P v p := by
  intro v p hm
  simp only [List.zip_cons_cons, List.zip_nil_right, List.mem_cons, Prod.mk.injEq, List.not_mem_nil, or_false] at hm
  rcases hm with ⟨rfl, rfl⟩ | ⟨rfl, rfl⟩
  · exact h
  · exact h2
end Go.Proofs.Ytjjmhmbmjpedkaa
