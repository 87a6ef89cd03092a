/- What a call may have written: the blocks of a list, and new ones. No program in sight. -/
import Derived.Test.YtjjmhmbmjpedkaaLibOwn
namespace Go.Proofs.Ytjjmhmbmjpedkaa
open Go.RowKit
theorem hidB {p : Prop} (h : p) : Hid p := h
/-- A fact that the walk does not open. -/
structure Bx (p : Prop) : Prop where
  out : p
/-- Apart from the blocks of L, what was there is as it was. -/
structure Fr (L : List Nat) (w w' : World) : Prop where
  os : w'.os = w.os
  tape : w'.tape = w.tape
  output : w'.output = w.output
  size : w.heap.size ≤ w'.heap.size
  block : ∀ k, k < w.heap.size → k ∉ L → w'.heap[k]? = w.heap[k]?
/-- The blocks of M are those of L, or lie from n on. -/
def Gr (L M : List Nat) (n : Nat) : Prop := ∀ k ∈ M, k ∈ L ∨ n ≤ k
def Apart (L M : List Nat) : Prop := ∀ k ∈ L, k ∉ M
def Under (L : List Nat) (n : Nat) : Prop := ∀ k ∈ L, k < n
def From (b : Nat) (L : List Nat) : Prop := ∀ k ∈ L, b ≤ k
section
variable {L M K : List Nat} {w w1 w2 : World} {n m : Nat}
theorem Gr.refl (L : List Nat) (n : Nat) : Gr L L n := fun _ h => .inl h
theorem Gr.trans (h : Gr L M n) (h2 : Gr M K m) (hn : n ≤ m) : Gr L K n := fun k hk => (h2 k hk).elim (h k) fun h3 => .inr (Nat.le_trans hn h3)
theorem Gr.from {b : Nat} (h : Gr L M n) (hf : From b L) (hb : b ≤ n) : From b M := fun k hk => (h k hk).elim (hf k) fun h3 => Nat.le_trans hb h3
theorem Apart.symm (h : Apart L M) : Apart M L := fun k hk hl => h k hl hk
theorem Apart.gr (h : Apart L K) (hg : Gr L M n) (hu : Under K n) : Apart M K := fun k hk hK => (hg k hk).elim (fun h1 => h k h1 hK) fun h1 => by have := hu k hK; omega
theorem Apart.new (hu : Under K n) (hf : From n M) : Apart K M := fun k hk hm => by have := hu k hk; have := hf k hm; omega
theorem Under.mono (h : Under L n) (hn : n ≤ m) : Under L m := fun k hk => Nat.lt_of_lt_of_le (h k hk) hn
theorem Fr.refl (L : List Nat) (w : World) : Fr L w w := ⟨rfl, rfl, rfl, Nat.le_refl _, fun _ _ _ => rfl⟩
theorem Fr.ofBelow (h : Below w.heap.size w w1) : Fr L w w1 := ⟨h.os, h.tape, h.output, h.size, fun k hk _ => h.block k hk⟩
theorem Fr.below {b : Nat} (h : Fr L w w1) (hf : From b L) (hb : b ≤ w.heap.size) : Below b w w1 :=
  ⟨h.os, h.tape, h.output, h.size, fun k hk => h.block k (by omega) fun hm => by have := hf k hm; omega⟩
theorem Fr.trans (h : Fr L w w1) (h2 : Fr M w1 w2) (hg : Gr L M w.heap.size) : Fr L w w2 :=
  ⟨h2.os.trans h.os, h2.tape.trans h.tape, h2.output.trans h.output, Nat.le_trans h.size h2.size,
    fun k hk hn => (h2.block k (Nat.lt_of_lt_of_le hk h.size) fun hm => (hg k hm).elim hn fun h3 => by omega).trans (h.block k hk hn)⟩
theorem Fr.mono (h : Fr L w w1) (hs : ∀ k ∈ L, k ∈ M ∨ w.heap.size ≤ k) : Fr M w w1 := ⟨h.os, h.tape, h.output, h.size, fun k hk hn => h.block k hk fun hm => (hs k hm).elim hn fun h3 => by omega⟩
theorem Fr.keep (h : Fr L w w1) (ha : Apart M L) (hu : Under M w.heap.size) : ∀ k ∈ M, w1.heap[k]? = w.heap[k]? := fun k hk => h.block k (hu k hk) (ha k hk)
theorem Fr.drew (h : Fr L w w1) : Fr L w w1.drew := ⟨h.os, h.tape, h.output, h.size, h.block⟩
theorem Fr.alloc (h : Fr L w w1) (o : Obj) : Fr L w (w1.alloc o) := ⟨h.os, h.tape, h.output, Nat.le_trans h.size (by simp), fun k hk hn => (Below.heap_alloc _ _ _ (Nat.lt_of_lt_of_le hk h.size)).trans (h.block k hk hn)⟩
theorem Fr.setCell (h : Fr L w w1) {p : Addr} (hp : p.block ∈ L ∨ w.heap.size ≤ p.block) (u : Value) : Fr L w (w1.setCell p u) :=
  ⟨h.os, h.tape, h.output, by simpa using h.size, fun k hk hn => (Below.heap_setCell _ _ _ _ (by rintro rfl; exact hp.elim hn fun h3 => by omega)).trans (h.block k hk hn)⟩
theorem Fr.setRow (h : Fr L w w1) {g : Nat} (hp : g ∈ L ∨ w.heap.size ≤ g) (cs : Array Value) : Fr L w (w1.setRow g cs) :=
  ⟨h.os, h.tape, h.output, by simpa [World.setRow] using h.size, fun k hk hn => (by
    have hne : g ≠ k := by rintro rfl; exact hp.elim hn fun h3 => by omega
    simp only [World.setRow, Array.getElem?_modify]
    rw [if_neg hne]; exact h.block k hk hn)⟩
theorem Fr.grown (h : Fr L w w1) {row : Option Nat} (hg : w1.grownBy w2 row) (hr : ∀ k, row = some k → k ∈ L ∨ w.heap.size ≤ k) : Fr L w w2 := by
  obtain ⟨g1, g2, g3, g4, g5⟩ := hg
  exact ⟨g1.trans h.os, g2.trans h.tape, g3.trans h.output, Nat.le_trans h.size g4, fun k hk hn => (g5 k (Nat.lt_of_lt_of_le hk h.size) (fun hrow => (hr k hrow.symm).elim hn fun h3 => by omega)).trans (h.block k hk hn)⟩
end
/-- A block that holds a row, whole. -/
def Bk (w : World) (g : Nat) (cs : Array Value) (t : TypeId) : Prop := w.heap[g]? = some (.cells cs t (0, 0))
section
variable {w w' : World} {g : Nat} {cs : Array Value} {t : TypeId}
theorem Bk.cell (h : Bk w g cs t) (i : Nat) : w.cell? ⟨g, i, none⟩ = cs[i]? := cell_of_row _ _ _ _ _ _ h
theorem Bk.frozen (h : Bk w g cs t) (i : Nat) : w.frozen? ⟨g, i, none⟩ = false := frozen_of_row _ _ _ _ _ h
theorem Bk.setCell (h : Bk w g cs t) (i : Nat) (v : Value) : Bk (w.setCell ⟨g, i, none⟩ v) g (cs.setIfInBounds i v) t := heap_setCell_same _ _ _ _ _ _ h
theorem Bk.other {k i : Nat} {v : Value} (h : Bk w g cs t) (hne : g ≠ k) : Bk (w.setCell ⟨k, i, none⟩ v) g cs t := (heap_setCell_other _ _ _ _ hne).trans h
theorem Bk.new {k : Nat} (h : k = w.heap.size) : Bk (w.alloc (.cells cs t)) k cs t := al_new h
theorem Bk.alloc (h : Bk w g cs t) (o : Obj) : Bk (w.alloc o) g cs t := al_old h
theorem Bk.lt (h : Bk w g cs t) : g < w.heap.size := heap_lt h
theorem Bk.keep (h : Bk w g cs t) (hk : w'.heap[g]? = w.heap[g]?) : Bk w' g cs t := hk.trans h
theorem Bk.ne {g2 : Nat} {cs2 : Array Value} {t2 : TypeId} (h : Bk w g cs t) (h2 : Bk w g2 cs2 t2) (hne : t ≠ t2) : g ≠ g2 := by
  rintro rfl
  unfold Bk at h h2
  rw [h] at h2
  injection h2 with h2
  injection h2 with h3 h4 h5
  exact hne h4
end
end Go.Proofs.Ytjjmhmbmjpedkaa
