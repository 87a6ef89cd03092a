import Derived.Test.YtecmpjccdhmeeaaMRateTells4
import Derived.Test.YtecmpjccdhmeeaaMRateTells1
import Derived.Test.YtecmpjccdhmeeaaRows
import Derived.Laws.BitsAllLaws
import Derived.Deep.Cut
import Derived.Lib.Mul64
import Derived.Laws.Bits64b
section
/- An object with a list of its own: each element so many cells, what an element refers to in blocks that the object owns. No program in sight. -/
namespace Go.Proofs.Ytecmpjccdhmeeaa
open Go.RowKit
theorem cell_keep {w w' : World} {b : Nat} (hk : w'.heap[b]? = w.heap[b]?) (o : Nat) : w'.cell? ⟨b, o, none⟩ = w.cell? ⟨b, o, none⟩ := by unfold World.cell?; simp only [hk]
theorem cellsAt_keep {w w' : World} {b : Nat} (hk : w'.heap[b]? = w.heap[b]?) : ∀ {vs : List Value} {off : Nat}, cellsAt w b off vs → cellsAt w' b off vs
  | [], _, _ => trivial
  | _ :: _, _, h => ⟨(cell_keep hk _).trans h.1, cellsAt_keep hk h.2⟩
theorem cellsAt_list {w : World} {b : Nat} : ∀ {vs : List Value} {off : Nat}, (∀ j v, vs[j]? = some v → w.cell? ⟨b, off + j, none⟩ = some v) → cellsAt w b off vs
  | [], _, _ => trivial
  | v :: r, off, h => ⟨by simpa using h 0 v rfl, cellsAt_list fun j u hu => by have := h (j + 1) u (by simpa using hu); rwa [show off + (j + 1) = off + 1 + j by omega] at this⟩
structure RStable {α : Type} (R : World → List Nat → α → List Value → Prop) (k : Nat) : Prop where
  len : ∀ {w : World} {M : List Nat} {e : α} {cs : List Value}, R w M e cs → cs.length = k
  keep : ∀ {w w' : World} {M : List Nat} {e : α} {cs : List Value}, R w M e cs → (∀ b ∈ M, w'.heap[b]? = w.heap[b]?) → R w' M e cs
  mono : ∀ {w : World} {M K : List Nat} {e : α} {cs : List Value}, R w M e cs → (∀ b ∈ M, b ∈ K) → R w K e cs
def ElsOk {α : Type} (R : World → List Nat → α → List Value → Prop) (k : Nat) (w : World) (M : List Nat) (es : List α) (xs : List Value) : Prop :=
  xs.length = es.length * k ∧ ∀ (i : Nat) (e : α), es[i]? = some e → R w M e ((xs.drop (i * k)).take k)
section
variable {α : Type} {R : World → List Nat → α → List Value → Prop} {k : Nat} {w w' : World} {M K : List Nat} {es : List α} {xs : List Value}
theorem ElsOk.nil : ElsOk R k w M [] [] := ⟨by simp, fun i e h => by cases h⟩
theorem ElsOk.keep (hR : RStable R k) (h : ElsOk R k w M es xs) (hk : ∀ b ∈ M, w'.heap[b]? = w.heap[b]?) : ElsOk R k w' M es xs := ⟨h.1, fun i e he => hR.keep (h.2 i e he) hk⟩
theorem ElsOk.mono (hR : RStable R k) (h : ElsOk R k w M es xs) (hs : ∀ b ∈ M, b ∈ K) : ElsOk R k w K es xs := ⟨h.1, fun i e he => hR.mono (h.2 i e he) hs⟩
theorem ElsOk.app (hR : RStable R k) (h : ElsOk R k w M es xs) {e : α} {cs : List Value} (he : R w M e cs) : ElsOk R k w M (es ++ [e]) (xs ++ cs) := by
  have hc := hR.len he
  refine ⟨by rw [List.length_append, List.length_append, h.1, hc, List.length_singleton, Nat.add_mul, Nat.one_mul], fun i x hx => ?_⟩
  by_cases hi : i < es.length
  · rw [List.getElem?_append_left hi] at hx
    have := h.2 i x hx
    have hm : i * k + k ≤ xs.length := by
      rw [h.1]
      have := Nat.mul_le_mul_right k (show i + 1 ≤ es.length from hi)
      rw [Nat.add_mul, Nat.one_mul] at this
      exact this
    rwa [List.drop_append_of_le_length (by omega), List.take_append_of_le_length (by rw [List.length_drop]; omega)]
  · have hlt := (List.getElem?_eq_some_iff.1 hx).1
    rw [List.length_append, List.length_singleton] at hlt
    obtain rfl : i = es.length := by omega
    rw [List.getElem?_append_right (Nat.le_refl _), Nat.sub_self] at hx
    injection hx with hx; subst hx
    rw [← h.1, List.drop_left, List.take_of_length_le (by omega)]
    exact he
theorem ElsOk.erase (h : ElsOk R k w M es xs) {i : Nat} (hi : i < es.length) : ElsOk R k w M (es.eraseIdx i) (xs.take (i * k) ++ xs.drop ((i + 1) * k)) := by
  have e1 : (i + 1) * k = i * k + k := by rw [Nat.add_mul, Nat.one_mul]
  have e2 : (es.length - 1) * k + k = es.length * k := by
    rw [← Nat.add_one_mul]; congr 1; omega
  have hm : i * k + k ≤ xs.length := by
    rw [h.1]
    have := Nat.mul_le_mul_right k (show i + 1 ≤ es.length from hi)
    omega
  have hxl := h.1
  refine ⟨by rw [List.length_append, List.length_take, List.length_drop, List.length_eraseIdx_of_lt hi]; omega, fun j x hx => ?_⟩
  rw [List.getElem?_eraseIdx] at hx
  split at hx
  · rename_i hj
    have := h.2 j x hx
    have hjk : j * k + k ≤ i * k := by
      have := Nat.mul_le_mul_right k (show j + 1 ≤ i from hj)
      rw [Nat.add_mul, Nat.one_mul] at this; exact this
    rw [List.drop_append_of_le_length (by rw [List.length_take]; omega), List.take_append_of_le_length (by rw [List.length_drop, List.length_take]; omega), List.drop_take, List.take_take]
    rwa [Nat.min_eq_left (by omega)]
  · rename_i hj
    have := h.2 (j + 1) x hx
    have hjk : i * k ≤ j * k := Nat.mul_le_mul_right k (by omega)
    have e3 : (j + 1) * k = j * k + k := by rw [Nat.add_mul, Nat.one_mul]
    have hlt : (xs.take (i * k)).length = i * k := by rw [List.length_take]; omega
    rw [List.drop_append, hlt, List.drop_eq_nil_of_le (by omega), List.nil_append, List.drop_drop]
    rwa [show (i + 1) * k + (j * k - i * k) = (j + 1) * k by omega]
theorem ElsOk.cells (hR : RStable R k) (h : ElsOk R k w M es xs) {te : TypeId} {b0 c : Nat} {a : Option Addr} (hO : Own w b0 te k (.slice a es.length c) es.length xs) {i : Nat} {e : α} (he : es[i]? = some e) :
    ∃ cs, R w M e cs ∧ ∃ b off, a = some ⟨b, off, none⟩ ∧ (b0 ≤ b ∧ b < w.heap.size) ∧ cellsAt w b (off + i * k) cs := by
  have hr := h.2 i e he
  refine ⟨_, hr, ?_⟩
  have hlt := (List.getElem?_eq_some_iff.1 he).1
  rcases hO.2 with ⟨_, h0⟩ | ⟨g, off, cap, cur, hv, hb, hg, _⟩
  · omega
  · injection hv with q1 q2 q3
    subst q1
    refine ⟨g, off, rfl, ⟨hb, heap_lt hg⟩, cellsAt_list fun j v hv => ?_⟩
    rw [List.getElem?_take] at hv
    split at hv
    · rw [List.getElem?_drop] at hv
      rw [Nat.add_assoc]
      exact hO.cells g off c rfl _ v hv
    · cases hv
/-- The object under way: what it owns lies in L, or is new. -/
structure LRaw (R : World → List Nat → α → List Value → Prop) (k : Nat) (te tp : TypeId) (w : World) (L : List Nat) (n0 p : Nat) (f : Value → Array Value) (es : List α) (kv : Value) (xs : List Value) (M : List Nat) : Prop where
  bk : Bk w p (f kv) tp
  own : Own w 0 te k kv es.length xs
  els : ElsOk R k w M es xs
  far : ∀ b ∈ M, (b ∈ L ∨ n0 ≤ b) ∧ b ≠ p ∧ kv.ownBlock ≠ some b
  mine : ∀ b, kv.ownBlock = some b → b ∈ L ∨ n0 ≤ b
  under : Under M w.heap.size
variable {te tp : TypeId} {L : List Nat} {n0 p : Nat} {f : Value → Array Value} {kv : Value}
theorem own_apart {g : Nat} {cs : Array Value} {t e : TypeId} {size n b0 : Nat} {v : Value} {xs : List Value} (h1 : Bk w g cs t) (h2 : Own w b0 e size v n xs) (hne : t ≠ e) : v.ownBlock ≠ some g := by
  intro h
  rcases h2.2 with ⟨rfl, _⟩ | ⟨g', off, cap, cur, rfl, hb, hg, _⟩
  · cases h
  · simp [Value.ownBlock] at h
    subst h
    unfold Bk at h1
    rw [h1] at hg
    injection hg with hg
    injection hg with h3 h4 h5
    exact hne h4
theorem LRaw.keep (hR : RStable R k) (h : LRaw R k te tp w L n0 p f es kv xs M) (hk : ∀ b, (b = p ∨ kv.ownBlock = some b ∨ b ∈ M) → w'.heap[b]? = w.heap[b]?) (hs : w.heap.size ≤ w'.heap.size) : LRaw R k te tp w' L n0 p f es kv xs M :=
  ⟨h.bk.keep (hk p (.inl rfl)), h.own.keep fun b hb => hk b (.inr (.inl hb)), h.els.keep hR fun b hb => hk b (.inr (.inr hb)), h.far, h.mine, h.under.mono hs⟩
theorem LRaw.lt (h : LRaw R k te tp w L n0 p f es kv xs M) {b : Nat} (hb : b = p ∨ kv.ownBlock = some b ∨ b ∈ M) : b < w.heap.size := by
  rcases hb with rfl | hb | hb
  · exact h.bk.lt
  · exact (h.own.lt b hb).2
  · exact h.under b hb
theorem LRaw.below (hR : RStable R k) (h : LRaw R k te tp w L n0 p f es kv xs M) (hb : Below w.heap.size w w') : LRaw R k te tp w' L n0 p f es kv xs M := h.keep hR (fun b hb' => hb.block b (h.lt hb')) hb.size
theorem LRaw.more (hR : RStable R k) (h : LRaw R k te tp w L n0 p f es kv xs M) (B : List Nat) (hB : ∀ b ∈ B, (b ∈ L ∨ n0 ≤ b) ∧ b < w.heap.size ∧ b ≠ p ∧ kv.ownBlock ≠ some b) : LRaw R k te tp w L n0 p f es kv xs (M ++ B) :=
  ⟨h.bk, h.own, h.els.mono hR fun _ hk => List.mem_append_left _ hk, fun b hb => (List.mem_append.1 hb).elim (h.far b) fun hb => ⟨(hB b hb).1, (hB b hb).2.2⟩, h.mine, fun b hb => (List.mem_append.1 hb).elim (h.under b) fun hb => (hB b hb).2.1⟩
theorem LRaw.wider (h : LRaw R k te tp w L n0 p f es kv xs M) (hs : ∀ b ∈ L, b ∈ K) : LRaw R k te tp w K n0 p f es kv xs M :=
  ⟨h.bk, h.own, h.els, fun b hb => ⟨(h.far b hb).1.imp (hs b) id, (h.far b hb).2⟩, fun b hb => (h.mine b hb).imp (hs b) id, h.under⟩
/-- The list has turned, and is stored: appended to, cut, or new. -/
theorem LRaw.turn (hR : RStable R k) (hne : tp ≠ te) (h : LRaw R k te tp w L n0 p f es kv xs M) (hn : n0 ≤ w.heap.size) {es' : List α} {xs' : List Value} (he : ElsOk R k w M es' xs') {v1 : Value} (ho : Own w' 0 te k v1 es'.length xs') (hp : w'.heap[p]? = w.heap[p]?) (hM : ∀ b ∈ M, w'.heap[b]? = w.heap[b]?) (hs : w.heap.size ≤ w'.heap.size)
    (hn1 : v1.ownBlock = kv.ownBlock ∨ ∃ g, v1.ownBlock = some g ∧ w.heap.size ≤ g) {j : Nat} (hj : (f kv).setIfInBounds j v1 = f v1) : LRaw R k te tp (w'.setCell ⟨p, j, none⟩ v1) L n0 p f es' v1 xs' M := by
  have b1 := h.bk.keep hp
  have hk1 : ∀ b, b ≠ p → (w'.setCell ⟨p, j, none⟩ v1).heap[b]? = w'.heap[b]? := fun b hb => Below.heap_setCell _ _ _ _ hb
  have hfar : ∀ b ∈ M, v1.ownBlock ≠ some b := fun b hb e => by
    rcases hn1 with h1 | ⟨g, h1, hg1⟩
    · exact (h.far b hb).2.2 (h1 ▸ e)
    · rw [h1] at e; injection e with e; have := h.under b hb; omega
  refine ⟨hj ▸ b1.setCell j v1, ho.keep fun b hb => hk1 b fun e2 => own_apart b1 ho hne (e2 ▸ hb), (he.keep hR hM).keep hR fun b hb => hk1 b (h.far b hb).2.1, fun b hb => ⟨(h.far b hb).1, (h.far b hb).2.1, hfar b hb⟩, fun b hb => ?_, (h.under.mono hs).mono (by simp)⟩
  rcases hn1 with h1 | ⟨g, h1, hg1⟩
  · exact h.mine b (h1 ▸ hb)
  · rw [h1] at hb; injection hb with hb; exact .inr (by omega)
/-- Another cell of the object is stored. -/
theorem LRaw.cell (hR : RStable R k) (hne : tp ≠ te) (h : LRaw R k te tp w L n0 p f es kv xs M) {j : Nat} {v : Value} {f' : Value → Array Value} (hj : (f kv).setIfInBounds j v = f' kv) : LRaw R k te tp (w.setCell ⟨p, j, none⟩ v) L n0 p f' es kv xs M := by
  have hk1 : ∀ b, b ≠ p → (w.setCell ⟨p, j, none⟩ v).heap[b]? = w.heap[b]? := fun b hb => Below.heap_setCell _ _ _ _ hb
  exact ⟨hj ▸ h.bk.setCell j v, h.own.keep fun b hb => hk1 b fun e2 => own_apart h.bk h.own hne (e2 ▸ hb), h.els.keep hR fun b hb => hk1 b (h.far b hb).2.1, h.far, h.mine, h.under.mono (by simp)⟩
/-- The object, with all that it owns. -/
structure LAt (R : World → List Nat → α → List Value → Prop) (k : Nat) (te tp : TypeId) (w : World) (L : List Nat) (p : Nat) (f : Value → Array Value) (es : List α) : Prop where
  ex : ∃ kv xs M, Bk w p (f kv) tp ∧ Own w 0 te k kv es.length xs ∧ ElsOk R k w M es xs ∧ (∀ b ∈ M, b ∈ L ∧ b ≠ p ∧ kv.ownBlock ≠ some b) ∧ ∀ b, kv.ownBlock = some b → b ∈ L
  mem : p ∈ L
  under : Under L w.heap.size
theorem LAt.raw (h : LAt R k te tp w L p f es) (n0 : Nat) : ∃ kv xs M, LRaw R k te tp w L n0 p f es kv xs M := by
  obtain ⟨⟨kv, xs, M, h1, h2, h3, h4, h5⟩, hm, hu⟩ := h
  exact ⟨kv, xs, M, h1, h2, h3, fun b hb => ⟨.inl (h4 b hb).1, (h4 b hb).2⟩, fun b hb => .inl (h5 b hb), fun b hb => hu b (h4 b hb).1⟩
theorem LRaw.at (h : LRaw R k te tp w L n0 p f es kv xs M) (hp : p ∈ L) : ∃ L', LAt R k te tp w L' p f es ∧ Gr L L' n0 := by
  refine ⟨p :: (kv.ownBlock.toList ++ M), ⟨⟨kv, xs, M, h.bk, h.own, h.els, fun b hb => ⟨by simp [hb], (h.far b hb).2⟩, fun b hb => by simp [hb]⟩, by simp, fun b hb => ?_⟩, fun b hb => ?_⟩
  · rcases List.mem_cons.1 hb with rfl | hb
    · exact h.bk.lt
    · rcases List.mem_append.1 hb with hb | hb
      · exact (h.own.lt b (by simpa using hb)).2
      · exact h.under b hb
  · rcases List.mem_cons.1 hb with rfl | hb
    · exact .inl hp
    · rcases List.mem_append.1 hb with hb | hb
      · exact h.mine b (by simpa using hb)
      · exact (h.far b hb).1
theorem LAt.keep (hR : RStable R k) (h : LAt R k te tp w L p f es) (hk : ∀ b ∈ L, w'.heap[b]? = w.heap[b]?) (hs : w.heap.size ≤ w'.heap.size) : LAt R k te tp w' L p f es := by
  obtain ⟨⟨kv, xs, M, h1, h2, h3, h4, h5⟩, hm, hu⟩ := h
  exact ⟨⟨kv, xs, M, h1.keep (hk p hm), h2.keep (fun b e => hk b (h5 b e)), h3.keep hR (fun b e => hk b (h4 b e).1), h4, h5⟩, hm, hu.mono hs⟩
theorem LAt.fr (hR : RStable R k) (h : LAt R k te tp w L p f es) (hf : Fr K w w') (ha : Apart L K) : LAt R k te tp w' L p f es := h.keep hR (hf.keep ha h.under) hf.size
theorem LAt.below (hR : RStable R k) (h : LAt R k te tp w L p f es) (hb : Below w.heap.size w w') : LAt R k te tp w' L p f es := h.keep hR (fun b hk => hb.block b (h.under b hk)) hb.size
end
end Go.Proofs.Ytecmpjccdhmeeaa
end
section
/- One element less: what 'slices.Delete' does to a list that is owned. No program in sight. -/
namespace Go.Proofs.Ytecmpjccdhmeeaa
open Go.RowKit
variable {P : Program} {w : World} {b : Nat} {e : TypeId} {k : Nat} {xs : List Value}
theorem Own.pre {a : Option Addr} {n c i : Nat} (h : Own w b e k (.slice a n c) n xs) (hi : i ≤ n) : Own w b e k (.slice a i c) i (xs.take (i * k)) := by
  obtain ⟨hl, h⟩ := h
  have hm : i * k ≤ n * k := Nat.mul_le_mul_right k hi
  refine ⟨by rw [List.length_take]; omega, ?_⟩
  rcases h with ⟨h0, h1⟩ | ⟨g, off, cap, cur, hv, hb, hg, hn, hm2, hs, ht⟩
  · injection h0 with q1 q2 q3
    subst q1; subst q3
    obtain rfl : i = 0 := by omega
    exact .inl ⟨rfl, rfl⟩
  · injection hv with q1 q2 q3
    subst q1; subst q3
    refine .inr ⟨g, off, c, cur, rfl, hb, hg, by omega, hm2, hs, ?_⟩
    rw [← ht, List.take_take, Nat.min_eq_left hm]
theorem own_somewhere {a : Option Addr} {n c : Nat} (h : Own w b e k (.slice a n c) n xs) (hn : 0 < n) : ∃ g off, a = some ⟨g, off, none⟩ ∧ n ≤ c := by
  rcases h.2 with ⟨_, h0⟩ | ⟨g, off, cap, cur, hv, _, _, hc, _⟩
  · omega
  · injection hv with q1 q2 q3
    subst q1; subst q3
    exact ⟨g, off, rfl, hc⟩
theorem Own.tail {a : Option Addr} {n c i : Nat} (h : Own w b e k (.slice a n c) n xs) (hi : i < n) {tx e' : TypeId} (hk : P.underlying tx = some (.slice e')) (h1 : ∀ v ∈ xs, v.oneCell' = true) :
    Src P k tx (.slice (sliceBase a c (i + 1) k) (n - (i + 1)) (c - (i + 1))) (n - (i + 1)) (xs.drop ((i + 1) * k)) w := by
  obtain ⟨g, off, rfl, hc⟩ := own_somewhere h (by omega)
  have hx := h.1
  have e1 : (n - (i + 1)) * k + (i + 1) * k = n * k := by rw [← Nat.add_mul]; congr 1; omega
  have hl : (xs.drop ((i + 1) * k)).length = (n - (i + 1)) * k := by rw [List.length_drop]; omega
  have h1' : ∀ v ∈ xs.drop ((i + 1) * k), v.oneCell' = true := fun v hv => h1 v (List.mem_of_mem_drop hv)
  unfold sliceBase
  split
  · rename_i hce
    have h0 : n - (i + 1) = 0 := by omega
    have hd : xs.drop ((i + 1) * k) = [] := List.eq_nil_of_length_eq_zero (by rw [hl, h0, Nat.zero_mul])
    rw [hd] at hl h1' ⊢
    exact Src.ofSlice w hk _ _ _ _ hl (fun j u hu => by cases hu) h1'
  · refine Src.ofSlice w hk _ _ _ _ hl (fun j u hu => ?_) h1'
    rw [List.getElem?_drop] at hu
    have := h.cells g off c rfl _ u hu
    show w.cell? (((⟨g, off, none⟩ : Addr).add ((i + 1) * k)).add j) = some u
    rw [Addr.add_lit, Addr.add_lit, Nat.add_assoc]
    exact this
theorem own_beyond1 {g off n c j : Nat} (h : Own w b e k (.slice (some ⟨g, off, none⟩) n c) n xs) (hj : n * k ≤ j) (hc : j < c * k) (v : Value) :
    (w.cell? ⟨g, off + j, none⟩).isSome = true ∧ w.frozen? ⟨g, off + j, none⟩ = false ∧ Own (w.setCell ⟨g, off + j, none⟩ v) b e k (.slice (some ⟨g, off, none⟩) n c) n xs := by
  obtain ⟨hl, h⟩ := h
  rcases h with ⟨h0, h1⟩ | ⟨g', off', cap, cur, hv, hb, hg, hn, hm2, hs, ht⟩
  · cases h0
  · injection hv with q1 q2 q3
    injection q1 with q1
    injection q1 with q1 q4
    subst q1; subst q3; subst q4
    have hB : Bk w g cur e := hg
    refine ⟨?_, hB.frozen _, hl, .inr ⟨g, off, c, _, rfl, hb, hB.setCell (off + j) v, hn, hm2, by simpa using hs, ?_⟩⟩
    · rw [hB.cell, Array.getElem?_eq_getElem (by omega)]; rfl
    · rw [← ht, Array.toList_setIfInBounds, List.drop_set]
      rw [if_neg (by omega), show off + j - off = j by omega, List.take_set, List.set_eq_of_length_le (by rw [List.length_take]; omega)]
theorem own_beyond {g off n c : Nat} : ∀ (vs : List Value) (j : Nat) (w : World), Own w b e k (.slice (some ⟨g, off, none⟩) n c) n xs → n * k ≤ j → j + vs.length ≤ c * k →
    w.there g (off + j) vs.length ∧ Own (w.setCells g (off + j) vs) b e k (.slice (some ⟨g, off, none⟩) n c) n xs ∧ Fr [g] w (w.setCells g (off + j) vs) ∧ (w.setCells g (off + j) vs).heap.size = w.heap.size
  | [], j, w, h, _, _ => ⟨fun i hi => by simp at hi, h, Fr.refl _ _, rfl⟩
  | v :: r, j, w, h, hj, hc => by
    rw [List.length_cons] at hc
    obtain ⟨h1, h2, h3⟩ := own_beyond1 h hj (by omega) v
    obtain ⟨k1, k2, k3, k4⟩ := own_beyond r (j + 1) _ h3 (by omega) (by omega)
    rw [← Nat.add_assoc] at k1 k2 k3 k4
    refine ⟨fun i hi => ?_, k2, ((Fr.refl [g] w).setCell (p := ⟨g, off + j, none⟩) (.inl (by simp)) v).trans k3 (Gr.refl _ _), k4.trans (by simp)⟩
    rw [List.length_cons] at hi
    refine ⟨?_, ?_⟩
    · obtain ⟨a1, a2, _⟩ := own_beyond1 h (j := j + i) (by omega) (by omega) v
      rw [Nat.add_assoc]; exact a1
    · obtain ⟨a1, a2, _⟩ := own_beyond1 h (j := j + i) (by omega) (by omega) v
      rw [Nat.add_assoc]; exact a2
theorem els_one {α : Type} {R : World → List Nat → α → List Value → Prop} {M : List Nat} {es : List α} (h : ElsOk R k w M es xs) (hR : ∀ w M e cs, R w M e cs → ∀ v ∈ cs, v.oneCell' = true) : ∀ v ∈ xs, v.oneCell' = true := by
  intro v hv
  obtain ⟨j, hj⟩ := List.getElem?_of_mem hv
  have hlt := (List.getElem?_eq_some_iff.1 hj).1
  have hl := h.1
  have hk : 0 < k := by
    rcases Nat.eq_zero_or_pos k with h0 | h0
    · subst h0; omega
    · exact h0
  have hi : j / k < es.length := Nat.div_lt_of_lt_mul (by rw [Nat.mul_comm]; omega)
  have := h.2 _ _ (List.getElem?_eq_getElem hi)
  refine hR _ _ _ _ this v ?_
  have hm : j = j / k * k + j % k := by rw [Nat.mul_comm]; exact (Nat.div_add_mod j k).symm
  have hmod := Nat.mod_lt j hk
  refine List.mem_iff_getElem?.2 ⟨j % k, ?_⟩
  rw [List.getElem?_take, if_pos hmod, List.getElem?_drop, ← hm]
  exact hj
end Go.Proofs.Ytecmpjccdhmeeaa
end
section
/- One element of an owned list is written over. No program in sight. -/
namespace Go.Proofs.Ytecmpjccdhmeeaa
open Go.RowKit
variable {w : World} {b : Nat} {e : TypeId} {k : Nat} {xs : List Value}
def setL : List Value → Nat → List Value → List Value
  | xs, _, [] => xs
  | xs, j, v :: r => setL (xs.set j v) (j + 1) r
theorem setL_len : ∀ (vs : List Value) (xs : List Value) (j : Nat), (setL xs j vs).length = xs.length
  | [], _, _ => rfl
  | v :: r, xs, j => by rw [setL, setL_len r, List.length_set]
theorem setL_get : ∀ (vs : List Value) (xs : List Value) (j i : Nat), j + vs.length ≤ xs.length → (setL xs j vs)[i]? = if j ≤ i ∧ i < j + vs.length then vs[i - j]? else xs[i]?
  | [], xs, j, i, _ => by rw [setL, if_neg (by simp only [List.length_nil]; omega)]
  | v :: r, xs, j, i, h => by
    rw [List.length_cons] at h
    rw [setL, setL_get r (xs.set j v) (j + 1) i (by rw [List.length_set]; omega), List.length_cons]
    by_cases h1 : i = j
    · subst h1
      rw [if_neg (by omega), if_pos (by omega), Nat.sub_self, List.getElem?_set_self (by omega)]
      rfl
    · by_cases h2 : j + 1 ≤ i ∧ i < j + 1 + r.length
      · rw [if_pos h2, if_pos (by omega), show i - j = (i - (j + 1)) + 1 by omega, List.getElem?_cons_succ]
      · rw [if_neg h2, if_neg (by omega), List.getElem?_set_ne (by omega)]
theorem own_in1 {g off n c j : Nat} (h : Own w b e k (.slice (some ⟨g, off, none⟩) n c) n xs) (hj : j < n * k) (v : Value) :
    (w.cell? ⟨g, off + j, none⟩).isSome = true ∧ w.frozen? ⟨g, off + j, none⟩ = false ∧ Own (w.setCell ⟨g, off + j, none⟩ v) b e k (.slice (some ⟨g, off, none⟩) n c) n (xs.set j v) := by
  obtain ⟨hl, h⟩ := h
  rcases h with ⟨h0, h1⟩ | ⟨g', off', cap, cur, hv, hb, hg, hn, hm2, hs, ht⟩
  · cases h0
  · injection hv with q1 q2 q3
    injection q1 with q1
    injection q1 with q1 q4
    subst q1; subst q3; subst q4
    have hB : Bk w g cur e := hg
    have hm : n * k ≤ c * k := Nat.mul_le_mul_right k hn
    refine ⟨?_, hB.frozen _, by rw [List.length_set]; exact hl, .inr ⟨g, off, c, _, rfl, hb, hB.setCell (off + j) v, hn, hm2, by simpa using hs, ?_⟩⟩
    · rw [hB.cell, Array.getElem?_eq_getElem (by omega)]; rfl
    · rw [← ht, Array.toList_setIfInBounds, List.drop_set]
      rw [if_neg (by omega), show off + j - off = j by omega, List.take_set]
theorem own_setL {g off n c : Nat} : ∀ (vs : List Value) (j : Nat) (w : World) (xs : List Value), Own w b e k (.slice (some ⟨g, off, none⟩) n c) n xs → j + vs.length ≤ n * k →
    w.there g (off + j) vs.length ∧ Own (w.setCells g (off + j) vs) b e k (.slice (some ⟨g, off, none⟩) n c) n (setL xs j vs) ∧ Fr [g] w (w.setCells g (off + j) vs) ∧ (w.setCells g (off + j) vs).heap.size = w.heap.size
  | [], j, w, xs, h, _ => ⟨fun i hi => by simp at hi, h, Fr.refl _ _, rfl⟩
  | v :: r, j, w, xs, h, hc => by
    rw [List.length_cons] at hc
    obtain ⟨h1, h2, h3⟩ := own_in1 h (j := j) (by omega) v
    obtain ⟨k1, k2, k3, k4⟩ := own_setL r (j + 1) _ _ h3 (by omega)
    rw [← Nat.add_assoc] at k1 k2 k3 k4
    refine ⟨fun i hi => ?_, k2, ((Fr.refl [g] w).setCell (p := ⟨g, off + j, none⟩) (.inl (by simp)) v).trans k3 (Gr.refl _ _), k4.trans (by simp)⟩
    rw [List.length_cons] at hi
    obtain ⟨a1, a2, _⟩ := own_in1 h (j := j + i) (by omega) v
    rw [Nat.add_assoc]
    exact ⟨a1, a2⟩
/-- An element of so many cells is stored. -/
theorem Own.storeK {g off n c i : Nat} (h : Own w b e k (.slice (some ⟨g, off, none⟩) n c) n xs) (hi : i < n) {vs : List Value} (hv : vs.length = k) {gs : List Nat} (hgs : ∀ x ∈ gs, x ≠ g) {K : World → Prop}
    (hk : ∀ w1, Own w1 b e k (.slice (some ⟨g, off, none⟩) n c) n (setL xs (i * k) vs) → Fr [g] w w1 → w1.heap.size = w.heap.size → K w1) : stO gs w g (off + i * k) vs K := by
  have hm : i * k + k ≤ n * k := by
    have := Nat.mul_le_mul_right k (show i + 1 ≤ n from hi)
    rw [Nat.add_mul, Nat.one_mul] at this; exact this
  obtain ⟨k1, k2, k3, k4⟩ := own_setL vs (i * k) w xs h (by omega)
  exact ⟨hgs, k1, fun w1 e1 => by subst e1; exact hk _ k2 k3 k4⟩
theorem ElsOk.set {α : Type} {R : World → List Nat → α → List Value → Prop} {M : List Nat} {es : List α} (hR : RStable R k) (h : ElsOk R k w M es xs) {i : Nat} (hi : i < es.length) {x : α} {cs : List Value} (hx : R w M x cs) : ElsOk R k w M (es.set i x) (setL xs (i * k) cs) := by
  have hl := h.1
  have hc := hR.len hx
  have hm : ∀ j, j < es.length → j * k + k ≤ xs.length := fun j hj => by
    rw [hl]
    have := Nat.mul_le_mul_right k (show j + 1 ≤ es.length from hj)
    rw [Nat.add_mul, Nat.one_mul] at this; exact this
  refine ⟨by rw [setL_len, List.length_set, hl], fun j y hy => ?_⟩
  have hj : j < es.length := by have := (List.getElem?_eq_some_iff.1 hy).1; rwa [List.length_set] at this
  have key : ((setL xs (i * k) cs).drop (j * k)).take k = if i = j then cs else (xs.drop (j * k)).take k := by
    apply List.ext_getElem?
    intro q
    rw [List.getElem?_take]
    by_cases hq : q < k
    · rw [if_pos hq, List.getElem?_drop, setL_get _ _ _ _ (by have := hm i hi; omega)]
      by_cases hij : i = j
      · subst hij
        rw [if_pos rfl, if_pos (by omega)]
        congr 1; omega
      · rw [if_neg hij]
        have hne : ¬ (i * k ≤ j * k + q ∧ j * k + q < i * k + cs.length) := by
          rintro ⟨h1, h2⟩
          rcases Nat.lt_or_gt_of_ne hij with h3 | h3
          · have := Nat.mul_le_mul_right k (show i + 1 ≤ j from h3)
            rw [Nat.add_mul, Nat.one_mul] at this; omega
          · have := Nat.mul_le_mul_right k (show j + 1 ≤ i from h3)
            rw [Nat.add_mul, Nat.one_mul] at this; omega
        rw [if_neg hne, List.getElem?_take, if_pos hq, List.getElem?_drop]
    · rw [if_neg hq]
      symm
      split
      · rw [List.getElem?_eq_none (by omega)]
      · rw [List.getElem?_take, if_neg hq]
  rw [key]
  by_cases hij : i = j
  · subst hij
    rw [List.getElem?_set_self hi] at hy
    injection hy with hy; subst hy
    rw [if_pos rfl]; exact hx
  · rw [List.getElem?_set_ne hij] at hy
    rw [if_neg hij]
    exact h.2 j y hy
end Go.Proofs.Ytecmpjccdhmeeaa
end
section
/- Functions that write nothing but blocks of their own: their steps, seen from the world that they began in. No program in sight. -/
namespace Go.Proofs.Ytecmpjccdhmeeaa
open Go.RowKit
theorem box_below {w w1 w2 : World} {g : Nat} (h : Below w.heap.size w w1) (hg : w.heap.size ≤ g) (hb : BoxSt g w1 w2) : Below w.heap.size w w2 := h.trans (hb.1.below (fun k hk => by rw [List.mem_singleton] at hk; omega) h.size)
/-- One value comes back, and what was there is as it was. -/
def Ret (v : Value) (w : World) : Ending → World → Prop := fun e w' => e = .returned v ∧ Below w.heap.size w w'
theorem ret_in {P : Program} {f : FuncId} {av : Array Value} {w : World} {v : Value} (h : Calls P f av w fun e w' => ∃ u, e = .returned u ∧ (u = v ∧ Below w.heap.size w w')) : Calls P f av w (Ret v w) :=
  h.mono (by rintro e w' ⟨u, rfl, rfl, b⟩; exact ⟨rfl, b⟩)
theorem ret_same {P : Program} {f : FuncId} {av : Array Value} {w : World} {v : Value} (h : Calls P f av w fun e w' => e = .returned v ∧ w' = w) : Calls P f av w (Ret v w) :=
  h.mono (by rintro e w' ⟨rfl, rfl⟩; exact ⟨rfl, Below.refl _ _⟩)
section
variable {w0 w : World}
abbrev Bs (w0 w : World) : Prop := Below w0.heap.size w0 w
theorem Bs.refl (w : World) : Bs w w := Below.refl _ _
theorem Bs.to {w1 : World} (B : Bs w0 w) (b : Below w.heap.size w w1) : Bs w0 w1 := Below.trans B (b.mono B.size)
theorem Bs.box {g : Nat} {w1 : World} (B : Bs w0 w) (hg : w0.heap.size ≤ g) (h : BoxSt g w w1) : Bs w0 w1 := box_below B hg h
theorem newB (B : Bs w0 w) {o : Obj} {K : Nat → World → Prop} (h : ∀ g w1, w0.heap.size ≤ g → w.heap.size = g → w1.heap[g]? = some o → w1.heap.size = g + 1 → Below w.heap.size w w1 → Bs w0 w1 → K g w1) : newO w o K := by
  rintro g w1 rfl rfl
  exact h _ _ B.size rfl (al_new rfl) (by simp) (Below_one o) (B.to (Below_one o))
theorem drewB (B : Bs w0 w) {K : World → Prop} (h : ∀ w1, Below w.heap.size w w1 → Bs w0 w1 → w1.heap = w.heap → K w1) : drewO w K := fun w1 h1 h2 => h w1 h2 (B.to h2) h1
theorem boxB {g : Nat} (B : Bs w0 w) (hg : w0.heap.size ≤ g) {K : World → Prop} (h : ∀ w1, BoxSt g w w1 → Bs w0 w1 → w1.heap.size = w.heap.size → K w1) : ∀ w1, BoxSt g w w1 → K w1 := fun w1 h1 => h w1 h1 (B.box hg h1) h1.2
theorem callB {P : Program} {f : FuncId} {av : Array Value} {v : Value} {gs : List Nat} {R : Ending → World → Prop} (B : Bs w0 w) (h : Calls P f av w (Ret v w)) (k : ∀ w1, Below w.heap.size w w1 → Bs w0 w1 → R (.returned v) w1) :
    Calls P f av w (fun e w1 => KeepG gs w w1 ∧ R e w1) := h.mono (by rintro e w1 ⟨rfl, b⟩; exact ⟨keepG_below b, k w1 b (B.to b)⟩)
theorem callQ {P : Program} {f : FuncId} {av : Array Value} {gs : List Nat} {Q R : Ending → World → Prop} (B : Bs w0 w) (h : Calls P f av w (fun e w1 => Q e w1 ∧ Below w.heap.size w w1)) (k : ∀ e w1, Q e w1 → Below w.heap.size w w1 → Bs w0 w1 → R e w1) :
    Calls P f av w (fun e w1 => KeepG gs w w1 ∧ R e w1) := h.mono (by rintro e w1 ⟨q, b⟩; exact ⟨keepG_below b, k e w1 q b (B.to b)⟩)
end
/-- Elements of k cells each, one behind the other, in a block from n0 on. -/
def Rws {α : Type} (enc : α → List Value) (k n0 : Nat) (w : World) (a : Option Addr) (xs : List α) : Prop := xs = [] ∨ ∃ b off, a = some ⟨b, off, none⟩ ∧ n0 ≤ b ∧ ∀ i x, xs[i]? = some x → cellsAt w b (off + i * k) (enc x)
section
variable {α : Type} {enc : α → List Value} {k n0 : Nat} {w w' : World} {a : Option Addr} {xs : List α}
theorem Rws.nil : Rws enc k n0 w a [] := .inl rfl
theorem Rws.ofRows (h : RowsAt (fun w b off x => cellsAt w b off (enc x)) k w a xs) : Rws enc k 0 w a xs := h.elim .inl fun ⟨b, off, h1, h2⟩ => .inr ⟨b, off, h1, Nat.zero_le _, h2⟩
theorem Rws.low {n1 : Nat} (h : Rws enc k n0 w a xs) (hn : n1 ≤ n0) : Rws enc k n1 w a xs := h.elim .inl fun ⟨b, off, h1, h2, h3⟩ => .inr ⟨b, off, h1, Nat.le_trans hn h2, h3⟩
theorem Rws.keep (h : Rws enc k n0 w a xs) (hk : ∀ b, n0 ≤ b → b < w.heap.size → w'.heap[b]? = w.heap[b]?) : Rws enc k n0 w' a xs := by
  rcases h with h | ⟨b, off, ha, hb, h⟩
  · exact .inl h
  · refine .inr ⟨b, off, ha, hb, fun i x hx => cellsAt_of fun j v hj => ?_⟩
    have h1 := cellsAt_get (h i x hx) j v hj
    have h2 := block_lt_of_cell h1
    rw [cell_keep (hk b hb h2)]
    exact h1
theorem Rws.below (h : Rws enc k n0 w a xs) (hb : Below w.heap.size w w') : Rws enc k n0 w' a xs := h.keep fun b _ h2 => hb.block b h2
theorem Rws.box {g : Nat} (h : Rws enc k n0 w a xs) (hb : BoxSt g w w') (hg : g < n0) : Rws enc k n0 w' a xs := h.keep fun b h1 h2 => hb.1.block b h2 (by rw [List.mem_singleton]; omega)
theorem Rws.newbox {g : Nat} {w1 w2 : World} (h : Rws enc k n0 w a xs) (hb : Below w.heap.size w w1) (sg : w.heap.size = g) (hx : BoxSt g w1 w2) : Rws enc k n0 w2 a xs := h.keep fun b _ h2 => (hx.1.block b (by have := hb.size; omega) (by rw [List.mem_singleton]; omega)).trans (hb.block b h2)
theorem Rws.grown {r : Option Nat} (h : Rws enc k n0 w a xs) (hg : w.grownBy w' r) (hr : ∀ b, r = some b → b < n0) : Rws enc k n0 w' a xs := h.keep fun b h1 h2 => hg.block b h2 fun e => by have := hr b e.symm; omega
theorem Rws.get (h : Rws enc k n0 w a xs) {i : Nat} (hi : i < xs.length) : ∃ b off, a = some ⟨b, off, none⟩ ∧ cellsAt w b (off + i * k) (enc xs[i]) := by
  rcases h with rfl | ⟨b, off, ha, _, h⟩
  · simp at hi
  · exact ⟨b, off, ha, h i _ (List.getElem?_eq_getElem hi)⟩
theorem Rws.take (h : Rws enc k n0 w a xs) (n : Nat) : Rws enc k n0 w a (xs.take n) := by
  rcases h with rfl | ⟨b, off, ha, h0, h⟩
  · exact .inl (by simp)
  · refine .inr ⟨b, off, ha, h0, fun i x hx => h i x ?_⟩
    rw [List.getElem?_take] at hx
    split at hx
    · exact hx
    · cases hx
theorem flatK_len (hk : ∀ x, (enc x).length = k) : ∀ es : List α, (es.flatMap enc).length = es.length * k
  | [] => by simp
  | e :: r => by rw [List.flatMap_cons, List.length_append, flatK_len hk r, hk, List.length_cons, Nat.add_mul]; omega
theorem flatK_get (hk : ∀ x, (enc x).length = k) : ∀ (es : List α) (i : Nat) (e : α) (j : Nat), es[i]? = some e → j < k → (es.flatMap enc)[i * k + j]? = (enc e)[j]?
  | x :: r, 0, e, j, h, hj => by
    cases h
    rw [List.flatMap_cons, List.getElem?_append_left (by rw [hk]; omega)]
    congr 1; omega
  | x :: r, i + 1, e, j, h, hj => by
    have e1 : (i + 1) * k = i * k + k := by rw [Nat.add_mul, Nat.one_mul]
    rw [List.flatMap_cons, List.getElem?_append_right (by rw [hk]; omega), hk, show (i + 1) * k + j - k = i * k + j by omega]
    exact flatK_get hk r i e j (by simpa using h) hj
theorem Rws.ofOwn {t : TypeId} {n c : Nat} (hkp : 0 < k) (hk : ∀ x, (enc x).length = k) (h : Own w n0 t k (.slice a n c) n (xs.flatMap enc)) : Rws enc k n0 w a xs := by
  by_cases h0 : xs = []
  · exact .inl h0
  rcases h.2 with ⟨h1, h2⟩ | ⟨g, off, cap, cur, hv, hb, hg, hn, hm, hs, ht⟩
  · have h3 := h.1
    rw [flatK_len hk, h2, Nat.zero_mul] at h3
    exact absurd (List.length_eq_zero_iff.1 ((Nat.mul_eq_zero.1 h3).resolve_right (by omega))) h0
  · injection hv with h1 h2 h3
    subst h1; subst h3
    refine .inr ⟨g, off, rfl, hb, fun i x hx => cellsAt_list fun j v hv => ?_⟩
    have hj : j < k := by have := (List.getElem?_eq_some_iff.1 hv).1; rw [hk] at this; exact this
    have := flatK_get hk xs i x j hx hj
    rw [Nat.add_assoc]
    exact h.cells g off c rfl _ v (by rw [this]; exact hv)
theorem Rws.src {P : Program} {tx e' : TypeId} {c : Nat} (hT : P.underlying tx = some (.slice e')) (hkp : 0 < k) (hk : ∀ x, (enc x).length = k) (h1 : ∀ x, ∀ v ∈ enc x, v.oneCell' = true) (h : Rws enc k n0 w a xs) : Src P k tx (.slice a xs.length c) xs.length (xs.flatMap enc) w := by
  have hone : ∀ v ∈ xs.flatMap enc, v.oneCell' = true := fun v hv => by
    obtain ⟨x, _, hx⟩ := List.mem_flatMap.1 hv
    exact h1 x v hx
  cases a with
  | none =>
    rcases h with rfl | ⟨b, off, ha, _⟩
    · exact Src.ofNil w hT c
    · cases ha
  | some ad =>
    refine Src.ofSlice w hT ad _ _ _ (flatK_len hk xs) (fun j u hu => ?_) hone
    rcases h with rfl | ⟨b, off, ha, _, h⟩
    · cases hu
    · injection ha with ha; subst ha
      have hlt := (List.getElem?_eq_some_iff.1 hu).1
      rw [flatK_len hk] at hlt
      have hi : j / k < xs.length := (Nat.div_lt_iff_lt_mul hkp).2 hlt
      have hm : j % k < k := Nat.mod_lt _ hkp
      have hx := List.getElem?_eq_getElem hi
      have h1 := flatK_get hk xs (j / k) _ (j % k) hx hm
      have hd : j / k * k + j % k = j := by rw [Nat.mul_comm]; exact Nat.div_add_mod j k
      rw [hd, hu] at h1
      have := cellsAt_get (h _ _ hx) (j % k) u h1.symm
      rw [Addr.add_lit]
      rwa [Nat.add_assoc, hd] at this
end
theorem Rws.one {α : Type} {enc : α → List Value} {k n0 g : Nat} {w : World} {x : α} {t : TypeId} {fr : Nat × Nat} (h : w.heap[g]? = some (.cells (enc x).toArray t fr)) (hg : n0 ≤ g) : Rws enc k n0 w (some ⟨g, 0, none⟩) [x] := by
  refine .inr ⟨g, 0, rfl, hg, fun i y hy => ?_⟩
  have hi : i = 0 := by have := (List.getElem?_eq_some_iff.1 hy).1; simp at this; omega
  subst hi
  simp at hy
  subst hy
  rw [Nat.zero_mul]
  exact cellsAt_row h (by simp)
theorem Own.box {w w1 : World} {n1 size n g : Nat} {e : TypeId} {v : Value} {xs : List Value} (h : Own w n1 e size v n xs) (hb : BoxSt g w w1) (hg : ∀ k, v.ownBlock = some k → k ≠ g) : Own w1 n1 e size v n xs := h.keep fun k hk => hb.1.block k (h.lt k hk).2 (by rw [List.mem_singleton]; exact hg k hk)
/-- A new box was made and filled. -/
theorem Own.newbox {w w1 w2 : World} {n1 size n g : Nat} {e : TypeId} {v : Value} {xs : List Value} (h : Own w n1 e size v n xs) (hb : Below w.heap.size w w1) (sg : w.heap.size = g) (hx : BoxSt g w1 w2) : Own w2 n1 e size v n xs := (h.below hb (Nat.le_refl _)).box hx fun k hk => by have := (h.lt k hk).2; omega
/-- What is appended to, is one's own. -/
theorem appB {P : Program} {gs : List Nat} {w0 w : World} {e : TypeId} {size bytes n1 n c m : Nat} {tx : TypeId} {a : Option Addr} {x : Value} {xs news : List Value} {K : Nat → Option Addr → Nat → World → Prop}
    (B : Bs w0 w) (o : Own w n1 e size (.slice a n c) n xs) (hn1 : w0.heap.size ≤ n1) (hn2 : n1 ≤ w.heap.size) (s : Src P size tx x m news w) (h1 : n + m ≤ maxLen) (h2 : (n + m) * bytes ≤ 140737488355328)
    (hg : ∀ g ∈ gs, (Value.slice a n c).ownBlock ≠ some g)
    (k : ∀ a' c' w1, Own w1 n1 e size (.slice a' (n + m) c') (n + m) (xs ++ news) → w.grownBy w1 (Value.slice a n c).ownBlock → Bs w0 w1 → w.heap.size ≤ w1.heap.size → K m a' c' w1) :
    appO P gs w e size bytes tx a n c x K := by
  refine ⟨m, xs, news, o.base_le fun _ _ => Nat.zero_le _, s, h1, h2, hg, fun a' c' w1 o1 g1 or1 _ => k a' c' w1 (o1.base_le fun q hq => ?_) g1 ?_ g1.size⟩
  · rcases or1 with h | ⟨g, h, h3⟩
    · exact (o.lt q (h ▸ hq)).1
    · rw [h] at hq; injection hq with hq; omega
  · exact ⟨g1.os.trans B.os, g1.tape.trans B.tape, g1.output.trans B.output, Nat.le_trans B.size g1.size, fun q hq => (g1.block q (by have := B.size; omega) fun e => by have := (o.lt q e.symm).1; omega).trans (B.block q hq)⟩
end Go.Proofs.Ytecmpjccdhmeeaa
end
section
/- Rows of ints. No program in sight. -/
namespace Go.Proofs.Ytecmpjccdhmeeaa
open Go.RowKit Go.ChangeShapes
def iV (z : Int) : Value := .int .i64 z
def ints (zs : List Int) : Prop := ∀ z ∈ zs, -9223372036854775808 ≤ z ∧ z ≤ 9223372036854775807
theorem RowAt.int {w : World} {a : Option Addr} {zs : List Int} (h : RowAt w a (zs.map iV)) {k : Nat} (hk : k < zs.length) : ∃ b off, a = some ⟨b, off, none⟩ ∧ w.cell? ⟨b, off + k, none⟩ = some (.int .i64 zs[k]) := by
  rcases h with h | ⟨b, off, ha, h⟩
  · rw [List.map_eq_nil_iff] at h; subst h; simp at hk
  · exact ⟨b, off, ha, h k _ (by rw [List.getElem?_map, List.getElem?_eq_getElem hk]; rfl)⟩
theorem one_iV {zs : List Int} : ∀ u ∈ zs.map iV, u.oneCell' = true := by
  intro u hu
  obtain ⟨x, _, rfl⟩ := List.mem_map.1 hu
  rfl
theorem min_takeI (zs : List Int) (n : Nat) : min (zs.length : Int) (n : Int) = ((zs.take n).length : Int) := by
  rw [List.length_take]; omega
variable {P : Program} {W : World} {H : Type} {enc : TypeId × Value → H}
theorem row_of_ints {a : Addr} {zs : List Int} {len : Nat} (hl : len ≤ zs.length) (hc : ∀ i, i < zs.length → W.cell? (a.add i) = some (.int .i64 (zs.getD i 0))) : (zs.take len).length = len ∧ RowAt W (some a) ((zs.take len).map iV) := by
  refine ⟨by simp; omega, ?_⟩
  cases hz : zs with
  | nil => exact .inl (by simp)
  | cons z0 r =>
    rw [← hz]
    have h0 := hc 0 (by rw [hz]; simp)
    have ha := addr_plain h0
    refine .inr ⟨a.block, a.off, by rw [← ha], fun i v hv => ?_⟩
    rw [List.getElem?_map, List.getElem?_take] at hv
    split at hv
    · rcases hq : zs[i]? with _ | z
      · rw [hq] at hv; cases hv
      · rw [hq] at hv
        simp only [Option.map_some, Option.some.injEq] at hv
        have hi : i < zs.length := (List.getElem?_eq_some_iff.1 hq).1
        have h1 := hc i hi
        rw [ha, Addr.add_lit, List.getD_eq_getElem?_getD, hq] at h1
        rw [← hv]
        exact h1
    · cases hv
theorem open_i64s {t e : TypeId} {v : Value} {d : DataW H} {p : List MemPlace} (ht : P.underlying t = some (.slice e)) (he : P.underlying e = some (.int .i64)) (hc : P.cellsOf e = 1)
    (hv : ∃ a l c, v = .slice a l c) (h : DataW.Trod enc P W 0 (fun _ => true) true t v d p) : ∃ (zs : List Int) (a : Option Addr) (c : Nat), v = .slice a zs.length c ∧ zs.length ≤ c ∧ c ≤ maxLen ∧ RowAt W a (zs.map iV) ∧ ints zs := by
  obtain ⟨a, l, c, rfl⟩ := hv
  obtain ⟨fuel, hf⟩ := h
  rcases open_ints ht he hc hf with ⟨hcs, _⟩ | ⟨x, l', c', zs, hcs, _, hl, hm, hz, _, hcell, hwz⟩
  · simp [Value.cells] at hcs
    obtain ⟨rfl, rfl, rfl⟩ := hcs
    exact ⟨[], none, 0, rfl, Nat.le_refl _, by decide, .inl rfl, fun _ h => by cases h⟩
  · simp [Value.cells] at hcs
    obtain ⟨rfl, rfl, rfl⟩ := hcs
    simp only [if_true] at hz
    obtain ⟨h1, h2⟩ := row_of_ints (len := l) (by omega) hcell
    exact ⟨zs.take l, some x, c, by rw [h1], by rw [h1]; exact hl, hm, h2, fun z hz => i64_range (hwz z (List.mem_of_mem_take hz))⟩
end Go.Proofs.Ytecmpjccdhmeeaa
end
section
/- Tariffs, lines and what they cost, in plain numbers. No program in sight. -/
namespace Go.Proofs.Ytecmpjccdhmeeaa
structure Tr where
  upto : Int
  price : Int
deriving DecidableEq
structure Tar where
  grp : Int
  mode : Int
  block : Int
  ts : List Tr
deriving DecidableEq
structure Pl where
  day : Int
  frm : Int
  til : Int
  base : Tar
  other : Tar
deriving DecidableEq
structure Ln where
  tier : Int
  blocks : Int
  price : Int
deriving DecidableEq
def far : Int := 1099511627776
def tiersE : Int → List Tr → Int
  | _, [] => 0
  | ahead, t :: r => if ¬ (0 ≤ t.price ∧ t.price ≤ 1048576) then 1 else if r = [] then (if t.upto ≠ 0 then 15 else 0) else if ¬ (ahead + 1 ≤ t.upto ∧ t.upto ≤ 1099511627776) then 15 else tiersE t.upto r
def chkE (t : Tar) : Int := if ¬ ((1 ≤ t.grp ∧ t.grp ≤ 8) ∧ 1 ≤ t.block ∧ t.block ≤ 1073741824) then 1 else if t.mode ≠ 1 ∧ t.mode ≠ 2 then 21 else if ¬ (1 ≤ t.ts.length ∧ t.ts.length ≤ 6) then 5 else tiersE 0 t.ts
def nothingT (t : Tar) : Prop := t.grp = 0 ∧ t.mode = 0 ∧ t.block = 0 ∧ t.ts = []
instance (t : Tar) : Decidable (nothingT t) := by unfold nothingT; infer_instance
def dayOk (p : Pl) : Prop := (2 ≤ p.day ∧ p.day ≤ 1073741824) ∧ (0 ≤ p.frm ∧ p.frm ≤ p.day - 1) ∧ (0 ≤ p.til ∧ p.til ≤ p.day - 1) ∧ p.frm ≠ p.til
instance (p : Pl) : Decidable (dayOk p) := by unfold dayOk; infer_instance
def planE (p : Pl) : Int := if chkE p.base ≠ 0 then chkE p.base else if p.day = 0 then (if p.frm = 0 ∧ p.til = 0 ∧ nothingT p.other then 0 else 2) else if ¬ dayOk p then 1 else if chkE p.other ≠ 0 then chkE p.other else if p.base.grp ≠ p.other.grp ∨ p.base.block ≠ p.other.block then 20 else 0
/-- Whether it is the other one. -/
def isOther (p : Pl) (now : Int) : Prop := p.day ≠ 0 ∧ if p.frm < p.til then p.frm ≤ Int.tmod now p.day ∧ Int.tmod now p.day < p.til else p.frm ≤ Int.tmod now p.day ∨ Int.tmod now p.day < p.til
instance (p : Pl) (now : Int) : Decidable (isOther p now) := by unfold isOther; infer_instance
def atT (p : Pl) (now : Int) : Tar := if isOther p now then p.other else p.base
/-- Tiers that are in order. -/
def Good : Int → List Tr → Prop
  | _, [] => False
  | ahead, t :: r => (0 ≤ t.price ∧ t.price ≤ 1048576) ∧ (if r = [] then t.upto = 0 else (ahead < t.upto ∧ t.upto ≤ 1099511627776) ∧ Good t.upto r)
theorem good_of : ∀ (ts : List Tr) (ahead : Int), ts ≠ [] → tiersE ahead ts = 0 → Good ahead ts
  | [], _, h, _ => absurd rfl h
  | t :: r, ahead, _, h => by
    unfold tiersE at h
    unfold Good
    split at h
    · cases h
    · rename_i h1
      have h1 := Decidable.not_not.1 h1
      by_cases hr : r = []
      · rw [if_pos hr] at h
        rw [if_pos hr]
        split at h
        · cases h
        · rename_i h2; exact ⟨h1, Decidable.not_not.1 h2⟩
      · rw [if_neg hr] at h
        rw [if_neg hr]
        split at h
        · cases h
        · rename_i h2
          have h2 := Decidable.not_not.1 h2
          exact ⟨h1, ⟨by omega, h2.2⟩, good_of r _ hr h⟩
theorem chk_ok {t : Tar} (h : chkE t = 0) : ((1 ≤ t.grp ∧ t.grp ≤ 8) ∧ 1 ≤ t.block ∧ t.block ≤ 1073741824) ∧ (t.mode = 1 ∨ t.mode = 2) ∧ (1 ≤ t.ts.length ∧ t.ts.length ≤ 6) ∧ Good 0 t.ts := by
  unfold chkE at h
  split at h
  · cases h
  · rename_i h1
    split at h
    · cases h
    · rename_i h2
      split at h
      · cases h
      · rename_i h3
        have h3 := Decidable.not_not.1 h3
        exact ⟨Decidable.not_not.1 h1, by omega, h3, good_of _ _ (fun e => by rw [e] at h3; simp at h3) h⟩
theorem plan_ok {p : Pl} (h : planE p = 0) : chkE p.base = 0 ∧ ((p.day = 0 ∧ p.frm = 0 ∧ p.til = 0 ∧ nothingT p.other) ∨ (p.day ≠ 0 ∧ dayOk p ∧ chkE p.other = 0 ∧ p.base.grp = p.other.grp ∧ p.base.block = p.other.block)) := by
  unfold planE at h
  split at h
  · rename_i h1; exact absurd h h1
  · rename_i h1
    refine ⟨Decidable.not_not.1 h1, ?_⟩
    split at h
    · rename_i h2
      split at h
      · rename_i h3; exact .inl ⟨h2, h3⟩
      · cases h
    · rename_i h2
      split at h
      · cases h
      · rename_i h3
        split at h
        · rename_i h4; exact absurd h h4
        · rename_i h4
          split at h
          · cases h
          · rename_i h5
            exact .inr ⟨h2, Decidable.not_not.1 h3, Decidable.not_not.1 h4, by omega, by omega⟩
theorem at_ok {p : Pl} (h : planE p = 0) (now : Int) : chkE (atT p now) = 0 ∧ (atT p now).block = p.base.block ∧ (atT p now).grp = p.base.grp := by
  obtain ⟨h1, h2⟩ := plan_ok h
  unfold atT
  split
  · rename_i h3
    rcases h2 with ⟨h2, _⟩ | ⟨_, _, h4, h5, h6⟩
    · exact absurd h2 h3.1
    · exact ⟨h4, h6.symm, h5.symm⟩
  · exact ⟨h1, rfl, rfl⟩
/-- In which tier a block is. -/
def idx (b : Int) : List Tr → Nat
  | [] => 0
  | t :: r => if t.upto = 0 ∨ b ≤ t.upto then 0 else idx b r + 1
theorem idx_lt (b : Int) : ∀ (ts : List Tr) (ahead : Int), Good ahead ts → idx b ts < ts.length
  | [], _, h => h.elim
  | t :: r, ahead, h => by
    unfold idx
    unfold Good at h
    split
    · simp
    · rename_i h1
      by_cases hr : r = []
      · rw [if_pos hr] at h; exact absurd (.inl h.2) h1
      · rw [if_neg hr] at h
        have := idx_lt b r _ h.2.2
        simp; omega
/-- Of each tier the blocks from lo on up to hi. -/
def splitG (k : Int) (prev : Int) : List Tr → Int → Int → List Ln
  | [], _, _ => []
  | t :: r, lo, hi => (if max lo prev < (if 0 < t.upto then min hi t.upto else hi) then [⟨k, (if 0 < t.upto then min hi t.upto else hi) - max lo prev, t.price⟩] else []) ++ splitG (k + 1) t.upto r lo hi
theorem splitG_none : ∀ (ts : List Tr) (k prev lo hi : Int), Good prev ts → hi ≤ max lo prev → splitG k prev ts lo hi = []
  | [], _, _, _, _, h, _ => h.elim
  | t :: r, k, prev, lo, hi, h, hle => by
    unfold splitG
    unfold Good at h
    rw [if_neg (by split <;> omega), List.nil_append]
    by_cases hr : r = []
    · subst hr; rfl
    · rw [if_neg hr] at h
      exact splitG_none r _ _ _ _ h.2.2 (by omega)
theorem splitG_from : ∀ (ts : List Tr) (k prev lo lo2 hi : Int), Good prev ts → max lo prev = max lo2 prev → splitG k prev ts lo hi = splitG k prev ts lo2 hi
  | [], _, _, _, _, _, h, _ => h.elim
  | t :: r, k, prev, lo, lo2, hi, h, hle => by
    unfold splitG
    unfold Good at h
    rw [hle]
    by_cases hr : r = []
    · subst hr; rfl
    · rw [if_neg hr] at h
      rw [splitG_from r _ _ lo lo2 _ h.2.2 (by omega)]
/-- What is taken of the first tier that there is. -/
def takeN (t : Tr) (lo hi : Int) : Int := if 0 < t.upto then min (hi - lo) (t.upto - lo) else hi - lo
theorem splitG_step : ∀ (ts : List Tr) (k prev lo hi : Int), Good prev ts → 0 ≤ prev → prev ≤ lo → lo < hi → ∀ t, ts[idx (lo + 1) ts]? = some t →
    splitG k prev ts lo hi = ⟨k + idx (lo + 1) ts, takeN t lo hi, t.price⟩ :: splitG k prev ts (lo + takeN t lo hi) hi ∧ 0 < takeN t lo hi ∧ takeN t lo hi ≤ hi - lo
  | [], _, _, _, _, h, _, _, _ => h.elim
  | x :: r, k, prev, lo, hi, h, h0, hlo, hlt => by
    intro t ht
    unfold Good at h
    by_cases hx : x.upto = 0 ∨ lo + 1 ≤ x.upto
    · have hi0 : idx (lo + 1) (x :: r) = 0 := by unfold idx; rw [if_pos hx]
      rw [hi0] at ht ⊢
      simp at ht
      subst ht
      have hb : 0 < takeN x lo hi ∧ takeN x lo hi ≤ hi - lo := by
        unfold takeN
        by_cases hr : r = []
        · rw [if_pos hr] at h; split <;> omega
        · rw [if_neg hr] at h; split <;> omega
      refine ⟨?_, hb⟩
      have e1 : (if 0 < x.upto then min hi x.upto else hi) = lo + takeN x lo hi := by unfold takeN; split <;> omega
      conv => lhs; unfold splitG
      conv => rhs; rhs; unfold splitG
      rw [e1, show max lo prev = lo by omega, show max (lo + takeN x lo hi) prev = lo + takeN x lo hi by omega, if_pos (by omega), if_neg (by omega)]
      simp only [List.nil_append, List.singleton_append]
      rw [show lo + takeN x lo hi - lo = takeN x lo hi by omega, show k + ((0 : Nat) : Int) = k by omega]
      congr 1
      by_cases hr : r = []
      · subst hr; rfl
      · rw [if_neg hr] at h
        by_cases hc : hi ≤ x.upto
        · rw [splitG_none _ _ _ _ _ h.2.2 (by omega), splitG_none _ _ _ _ _ h.2.2 (by omega)]
        · exact splitG_from _ _ _ _ _ _ h.2.2 (by rw [show takeN x lo hi = x.upto - lo by unfold takeN; rw [if_pos (by omega)]; omega]; omega)
    · have hr : r ≠ [] := by rintro rfl; simp at h; exact hx (.inl h.2)
      rw [if_neg hr] at h
      have hi1 : idx (lo + 1) (x :: r) = idx (lo + 1) r + 1 := by conv => lhs; unfold idx; rw [if_neg hx]
      rw [hi1] at ht ⊢
      have ht' : r[idx (lo + 1) r]? = some t := by simpa using ht
      obtain ⟨g1, g2, g3⟩ := splitG_step r (k + 1) x.upto lo hi h.2.2 (by omega) (by omega) hlt t ht'
      refine ⟨?_, g2, g3⟩
      conv => lhs; unfold splitG
      conv => rhs; rhs; unfold splitG
      rw [if_neg (by rw [if_pos (by omega)]; omega), if_neg (by rw [if_pos (by omega)]; omega), List.nil_append, List.nil_append, g1]
      congr 2
      push_cast
      omega
def blocksOf : List Ln → Int
  | [] => 0
  | l :: r => l.blocks + blocksOf r
def costOf : List Ln → Int
  | [] => 0
  | l :: r => l.blocks * l.price + costOf r
theorem blocksOf_app : ∀ (a b : List Ln), blocksOf (a ++ b) = blocksOf a + blocksOf b
  | [], b => by simp [blocksOf]
  | l :: r, b => by simp [blocksOf, blocksOf_app r b]; omega
theorem costOf_app : ∀ (a b : List Ln), costOf (a ++ b) = costOf a + costOf b
  | [], b => by simp [costOf]
  | l :: r, b => by simp [costOf, costOf_app r b]; omega
def dearT : List Tr → Int
  | [] => 0
  | t :: r => max t.price (dearT r)
theorem dearT_nn : ∀ ts, 0 ≤ dearT ts
  | [] => by simp [dearT]
  | t :: r => by have := dearT_nn r; simp only [dearT]; omega
theorem dearT_mem : ∀ (ts : List Tr) (t : Tr), t ∈ ts → t.price ≤ dearT ts
  | x :: r, t, h => by
    simp only [dearT]
    rcases List.mem_cons.1 h with rfl | h
    · omega
    · have := dearT_mem r t h; omega
theorem good_price : ∀ (ts : List Tr) (ahead : Int), Good ahead ts → ∀ t ∈ ts, (0 ≤ t.price ∧ t.price ≤ 1048576) ∧ 0 ≤ t.upto ∨ ahead < 0
  | [], _, h, _, _ => h.elim
  | x :: r, ahead, h, t, ht => by
    by_cases hn : ahead < 0
    · exact .inr hn
    · unfold Good at h
      rcases List.mem_cons.1 ht with rfl | ht
      · by_cases hr : r = []
        · rw [if_pos hr] at h; exact .inl ⟨h.1, by omega⟩
        · rw [if_neg hr] at h; exact .inl ⟨h.1, by omega⟩
      · have hr : r ≠ [] := by rintro rfl; cases ht
        rw [if_neg hr] at h
        rcases good_price r _ h.2.2 t ht with h1 | h1
        · exact .inl h1
        · omega
theorem dearT_le (ts : List Tr) (m : Int) (hm : 0 ≤ m) (h : ∀ t ∈ ts, t.price ≤ m) : dearT ts ≤ m := by
  induction ts with
  | nil => simpa [dearT] using hm
  | cons t r ih =>
    have h1 := h t (by simp)
    have h2 := ih fun t ht => h t (by simp [ht])
    simp only [dearT]; omega
/-- The blocks of a tier. -/
theorem splitG_blocks : ∀ (ts : List Tr) (k prev lo hi : Int), Good prev ts → 0 ≤ prev → blocksOf (splitG k prev ts lo hi) = max 0 (hi - max lo prev)
  | [], _, _, _, _, h, _ => h.elim
  | t :: r, k, prev, lo, hi, h, h0 => by
    unfold Good at h
    unfold splitG
    rw [blocksOf_app]
    by_cases hr : r = []
    · subst hr
      simp at h
      rw [if_neg (show ¬ 0 < t.upto by omega)]
      split
      · simp [blocksOf, splitG]; omega
      · simp [blocksOf, splitG]; omega
    · rw [if_neg hr] at h
      rw [splitG_blocks r _ _ _ _ h.2.2 (by omega), if_pos (show 0 < t.upto by omega)]
      split
      · simp [blocksOf]; omega
      · simp [blocksOf]; omega
theorem splitG_mem : ∀ (ts : List Tr) (k prev lo hi : Int) (l : Ln), Good prev ts → 0 ≤ prev → l ∈ splitG k prev ts lo hi → (0 < l.blocks ∧ l.blocks ≤ hi - max lo prev) ∧ (∃ t ∈ ts, l.price = t.price)
  | [], _, _, _, _, _, h, _, _ => h.elim
  | t :: r, k, prev, lo, hi, l, hg, h0, h => by
    unfold Good at hg
    unfold splitG at h
    rcases List.mem_append.1 h with h | h
    · by_cases hm : max lo prev < (if 0 < t.upto then min hi t.upto else hi)
      · rw [if_pos hm, List.mem_singleton] at h
        subst h
        refine ⟨⟨by dsimp only; omega, ?_⟩, t, by simp, rfl⟩
        dsimp only
        split <;> omega
      · rw [if_neg hm] at h; cases h
    · by_cases hr : r = []
      · subst hr; cases h
      · rw [if_neg hr] at hg
        obtain ⟨⟨h1, h3⟩, x, hx, h2⟩ := splitG_mem r _ _ _ _ l hg.2.2 (by omega) h
        exact ⟨⟨h1, by omega⟩, x, by simp [hx], h2⟩
theorem mul_le_mul_i {a b c d : Int} (h1 : a ≤ b) (h2 : c ≤ d) (h3 : 0 ≤ c) (h4 : 0 ≤ b) : a * c ≤ b * d :=
  Int.le_trans (Int.mul_le_mul_of_nonneg_right h1 h3) (Int.mul_le_mul_of_nonneg_left h2 h4)
theorem costOf_le (m : Int) (hm : 0 ≤ m) : ∀ (ls : List Ln), (∀ l ∈ ls, 0 ≤ l.blocks ∧ 0 ≤ l.price ∧ l.price ≤ m) → 0 ≤ costOf ls ∧ costOf ls ≤ blocksOf ls * m ∧ 0 ≤ blocksOf ls
  | [], _ => by simp [costOf, blocksOf]
  | l :: r, h => by
    obtain ⟨h1, h2, h3⟩ := h l (by simp)
    obtain ⟨i1, i2, i3⟩ := costOf_le m hm r fun x hx => h x (by simp [hx])
    simp only [costOf, blocksOf]
    have e1 := Int.mul_nonneg h1 h2
    have e2 := Int.mul_le_mul_of_nonneg_left h3 h1
    rw [Int.add_mul]
    omega
/-- What was split at mid costs as much as the whole. -/
theorem splitG_apart : ∀ (ts : List Tr) (k k1 k2 prev lo mid hi : Int), Good prev ts → lo ≤ mid → mid ≤ hi → costOf (splitG k1 prev ts lo mid) + costOf (splitG k2 prev ts mid hi) = costOf (splitG k prev ts lo hi)
  | [], _, _, _, _, _, _, _, h, _, _ => h.elim
  | t :: r, k, k1, k2, prev, lo, mid, hi, h, h1, h2 => by
    unfold Good at h
    unfold splitG
    simp only [costOf_app]
    have ih : costOf (splitG (k1 + 1) t.upto r lo mid) + costOf (splitG (k2 + 1) t.upto r mid hi) = costOf (splitG (k + 1) t.upto r lo hi) := by
      by_cases hr : r = []
      · subst hr; rfl
      · rw [if_neg hr] at h; exact splitG_apart r _ _ _ _ _ _ _ h.2.2 h1 h2
    have key : ∀ a b : Int, costOf (if a < b then [⟨k, b - a, t.price⟩] else []) = max 0 (b - a) * t.price := fun a b => by
      split
      · simp only [costOf]; rw [show max 0 (b - a) = b - a by omega]; omega
      · simp only [costOf]; rw [show max 0 (b - a) = 0 by omega]; omega
    have key1 : ∀ a b : Int, costOf (if a < b then [⟨k1, b - a, t.price⟩] else []) = max 0 (b - a) * t.price := fun a b => by
      split
      · simp only [costOf]; rw [show max 0 (b - a) = b - a by omega]; omega
      · simp only [costOf]; rw [show max 0 (b - a) = 0 by omega]; omega
    have key2 : ∀ a b : Int, costOf (if a < b then [⟨k2, b - a, t.price⟩] else []) = max 0 (b - a) * t.price := fun a b => by
      split
      · simp only [costOf]; rw [show max 0 (b - a) = b - a by omega]; omega
      · simp only [costOf]; rw [show max 0 (b - a) = 0 by omega]; omega
    rw [key, key1, key2]
    have e : max 0 ((if 0 < t.upto then min mid t.upto else mid) - max lo prev) + max 0 ((if 0 < t.upto then min hi t.upto else hi) - max mid prev) = max 0 ((if 0 < t.upto then min hi t.upto else hi) - max lo prev) := by
      split <;> omega
    rw [← e, Int.add_mul]
    omega
/-- Blocks that begun ones count as. -/
def blk (n b : Int) : Int := (n + b - 1) / b
theorem blk_le (n b c : Int) (hb : 0 < b) (hn : 0 ≤ n) : blk n b ≤ c ↔ n ≤ c * b := by
  unfold blk
  rw [← Int.lt_add_one_iff, Int.ediv_lt_iff_lt_mul hb, Int.add_mul]
  omega
theorem blk_nn (n b : Int) (hb : 0 < b) (hn : 0 ≤ n) : 0 ≤ blk n b := Int.ediv_nonneg (by omega) (by omega)
theorem blk_self (n b : Int) (hb : 0 < b) (hn : 0 ≤ n) : blk n b ≤ n := (blk_le n b n hb hn).2 (by
  have := Int.mul_le_mul_of_nonneg_left (show 1 ≤ b by omega) hn
  omega)
theorem blk_mono {n m b : Int} (hb : 0 < b) (h : n ≤ m) : blk n b ≤ blk m b := Int.ediv_le_ediv hb (by omega)
theorem blk_whole (k b : Int) (hb : 0 < b) : blk (k * b) b = k := by
  unfold blk
  rw [show k * b + b - 1 = (b - 1) + k * b by omega, Int.add_mul_ediv_right _ _ (by omega), Int.ediv_eq_zero_of_lt (by omega) (by omega)]
  omega
def dear (p : Pl) : Int := max (dearT p.base.ts) (dearT p.other.ts)
/-- How many fit. -/
def fitN (b price credit want : Int) : Int := if 0 < price then min want (credit / price * b) else want
theorem fitN_le (b price credit want n : Int) (hb : 0 < b) (hp : 0 ≤ price) (hc : 0 ≤ credit) (hn : 0 ≤ n) (hw : n ≤ want) : blk n b * price ≤ credit ↔ n ≤ fitN b price credit want := by
  unfold fitN
  split
  · rename_i h
    rw [← Int.le_ediv_iff_mul_le h, blk_le n b _ hb hn]
    omega
  · rename_i h
    rw [show price = 0 by omega]
    omega
theorem fitN_nn (b price credit want : Int) (hb : 0 < b) (hc : 0 ≤ credit) (hw : 0 ≤ want) : 0 ≤ fitN b price credit want ∧ fitN b price credit want ≤ want := by
  unfold fitN
  split
  · rename_i h
    have := Int.mul_nonneg (Int.ediv_nonneg hc (Int.le_of_lt h)) (Int.le_of_lt hb)
    omega
  · omega
theorem good_far : ∀ (ts : List Tr) (ahead : Int), Good ahead ts → ∀ t ∈ ts, t.upto ≤ 1099511627776 ∨ t.upto = 0
  | [], _, h, _, _ => h.elim
  | x :: r, ahead, h, t, ht => by
    unfold Good at h
    rcases List.mem_cons.1 ht with rfl | ht
    · by_cases hr : r = []
      · rw [if_pos hr] at h; exact .inr h.2
      · rw [if_neg hr] at h; exact .inl h.2.1.2
    · have hr : r ≠ [] := by rintro rfl; cases ht
      rw [if_neg hr] at h
      exact good_far r _ h.2.2 t ht
def priceAt (ts : List Tr) (i : Nat) : Int := match ts[i]? with | some t => t.price | none => 0
/-- The lines of so many blocks behind a position. -/
def splitL (t : Tar) (pos n : Int) : List Ln := if t.mode = 2 ∧ 0 < n then [⟨idx (pos + n) t.ts, n, priceAt t.ts (idx (pos + n) t.ts)⟩] else splitG 0 0 t.ts pos (pos + n)
def posOk (pos : Int) : Prop := 0 ≤ pos ∧ pos ≤ 1099511627776
instance (pos : Int) : Decidable (posOk pos) := by unfold posOk; infer_instance
def splitO (t : Tar) (pos n : Int) : List Ln := if posOk pos then splitL t pos n else []
theorem splitG_len : ∀ (ts : List Tr) (k prev lo hi : Int), (splitG k prev ts lo hi).length ≤ ts.length
  | [], _, _, _, _ => by simp [splitG]
  | t :: r, k, prev, lo, hi => by
    have := splitG_len r (k + 1) t.upto lo hi
    unfold splitG
    have one : ∀ (b : Prop) [Decidable b] (l : Ln), (if b then [l] else []).length ≤ 1 := fun b _ l => by split <;> simp
    rw [List.length_append, List.length_cons]
    exact Nat.le_trans (Nat.add_le_add (one _ _) this) (by omega)
theorem good0_price {ts : List Tr} (h : Good 0 ts) : ∀ t ∈ ts, (0 ≤ t.price ∧ t.price ≤ 1048576) ∧ 0 ≤ t.upto := fun t ht => (good_price ts 0 h t ht).elim id fun k => by omega
theorem splitL_ok {t : Tar} (h : chkE t = 0) {pos n : Int} (hp : 0 ≤ pos) (hn : 0 ≤ n) :
    (∀ l ∈ splitL t pos n, (0 < l.blocks ∧ l.blocks ≤ n) ∧ (0 ≤ l.price ∧ l.price ≤ 1048576) ∧ l.price ≤ dearT t.ts) ∧ blocksOf (splitL t pos n) = n ∧ (splitL t pos n).length ≤ 6 := by
  obtain ⟨_, _, hl, hg⟩ := chk_ok h
  unfold splitL
  split
  · rename_i hm
    have hi := idx_lt (pos + n) t.ts 0 hg
    have hx := List.getElem?_eq_getElem hi
    refine ⟨fun l hl => ?_, by simp [blocksOf], by simp⟩
    rw [List.mem_singleton] at hl
    subst hl
    have hmem := List.getElem_mem hi
    have he : priceAt t.ts (idx (pos + n) t.ts) = (t.ts[idx (pos + n) t.ts]'hi).price := by unfold priceAt; rw [hx]
    refine ⟨⟨hm.2, Int.le_refl _⟩, ?_, ?_⟩
    · show 0 ≤ priceAt _ _ ∧ priceAt _ _ ≤ _
      rw [he]; exact (good0_price hg _ hmem).1
    · show priceAt _ _ ≤ _
      rw [he]; exact dearT_mem _ _ hmem
  · refine ⟨fun l hl => ?_, ?_, Nat.le_trans (splitG_len _ _ _ _ _) hl.2⟩
    · obtain ⟨⟨h1, h2⟩, x, hx, h3⟩ := splitG_mem t.ts 0 0 pos (pos + n) l hg (by omega) hl
      have := good0_price hg x hx
      refine ⟨⟨h1, by omega⟩, by omega, ?_⟩
      rw [h3]; exact dearT_mem _ _ hx
    · rw [splitG_blocks _ _ _ _ _ hg (by omega)]; omega
theorem splitL_cost {t : Tar} (h : chkE t = 0) {pos n : Int} (hp : 0 ≤ pos) (hn : 0 ≤ n) : 0 ≤ costOf (splitL t pos n) ∧ costOf (splitL t pos n) ≤ n * dearT t.ts := by
  obtain ⟨h1, h2, h3⟩ := splitL_ok h hp hn
  have := costOf_le (dearT t.ts) (dearT_nn _) (splitL t pos n) fun l hl => ⟨by have := (h1 l hl).1; omega, (h1 l hl).2.1.1, (h1 l hl).2.2⟩
  rw [h2] at this
  exact ⟨this.1, this.2.1⟩
theorem dear_small {t : Tar} (h : chkE t = 0) : 0 ≤ dearT t.ts ∧ dearT t.ts ≤ 1048576 := ⟨dearT_nn _, dearT_le _ _ (by omega) fun x hx => (good0_price (chk_ok h).2.2.2 x hx).1.2⟩
structure Rtd where
  ls : List Ln
  blocks : Int
  cost : Int
  pos : Int
def rateE (p : Pl) (now pos n : Int) : Int := if planE p ≠ 0 ∨ now < 0 ∨ ¬ (0 ≤ n ∧ n ≤ 1073741824) ∨ ¬ posOk pos then 1 else 0
def rateR (p : Pl) (now pos n : Int) : Rtd := if rateE p now pos n = 0 then ⟨splitL (atT p now) pos (blk n p.base.block), blk n p.base.block, costOf (splitL (atT p now) pos (blk n p.base.block)), pos + blk n p.base.block⟩ else ⟨[], 0, 0, 0⟩
theorem rateE_ok {p : Pl} {now pos n : Int} (h : rateE p now pos n = 0) : planE p = 0 ∧ 0 ≤ now ∧ (0 ≤ n ∧ n ≤ 1073741824) ∧ posOk pos := by
  unfold rateE at h
  split at h
  · cases h
  · rename_i h1
    refine ⟨Decidable.not_not.1 fun k => h1 (.inl k), by omega, by omega, Decidable.not_not.1 fun k => h1 (.inr (.inr (.inr k)))⟩
theorem rateE_01 (p : Pl) (now pos n : Int) : rateE p now pos n = 0 ∨ rateE p now pos n = 1 := by unfold rateE; split <;> simp
def worstE (p : Pl) (n : Int) : Int := if planE p ≠ 0 ∨ ¬ (0 ≤ n ∧ n ≤ 1073741824) then 1 else 0
def worstN (p : Pl) (n : Int) : Int := if worstE p n = 0 then blk n p.base.block * dear p else 0
def fitE (p : Pl) (credit want : Int) : Int := if planE p ≠ 0 ∨ ¬ (0 ≤ want ∧ want ≤ 1073741824) ∨ credit < 0 then 1 else 0
def fitU (p : Pl) (credit want : Int) : Int := if fitE p credit want = 0 then fitN p.base.block (dear p) credit want else 0
def fitC (p : Pl) (credit want : Int) : Int := if fitE p credit want = 0 then blk (fitU p credit want) p.base.block * dear p else 0
theorem dear_plan {p : Pl} (h : planE p = 0) : 0 ≤ dear p ∧ dear p ≤ 1048576 := by
  obtain ⟨h1, h2⟩ := plan_ok h
  have a := dear_small h1
  unfold dear
  rcases h2 with ⟨_, _, _, h3⟩ | ⟨_, _, h3, _⟩
  · rw [h3.2.2.2]; simp only [dearT]; omega
  · have b := dear_small h3; omega
theorem worst_small {p : Pl} (h : planE p = 0) {n : Int} (hn : 0 ≤ n ∧ n ≤ 1073741824) : 0 ≤ blk n p.base.block * dear p ∧ blk n p.base.block * dear p ≤ 1125899906842624 := by
  have hb := (chk_ok (plan_ok h).1).1.2
  have h1 := dear_plan h
  have h2 := blk_nn n p.base.block (by omega) hn.1
  have h3 := blk_self n p.base.block (by omega) hn.1
  exact ⟨Int.mul_nonneg h2 h1.1, mul_le_mul_i (show blk n p.base.block ≤ 1073741824 by omega) h1.2 h1.1 (by omega)⟩
end Go.Proofs.Ytecmpjccdhmeeaa
end
section
/- Tariffs and plans: are they ones; which is it; the dearest; walked. -/
namespace Go.Proofs.Ytecmpjccdhmeeaa
open Go.RowKit
def trCells (t : Tr) : List Value := [.int .i64 t.upto, .int .i64 t.price]
theorem tr_len (t : Tr) : (trCells t).length = 2 := rfl
theorem tr_one (t : Tr) : ∀ v ∈ trCells t, v.oneCell' = true := by
  intro v hv
  simp [trCells] at hv
  rcases hv with rfl | rfl <;> rfl
abbrev TsAt (n0 : Nat) (w : World) (a : Option Addr) (ts : List Tr) : Prop := Rws trCells 2 n0 w a ts
def tarV (t : Tar) (a : Option Addr) (c : Nat) : Value := .agg #[.int .i64 t.grp, .int .i64 t.mode, .int .i64 t.block, .slice a t.ts.length c]
def planV (p : Pl) (a : Option Addr) (c : Nat) (a2 : Option Addr) (c2 : Nat) : Value :=
  .agg #[.int .i64 p.day, .int .i64 p.frm, .int .i64 p.til, .int .i64 p.base.grp, .int .i64 p.base.mode, .int .i64 p.base.block, .slice a p.base.ts.length c, .int .i64 p.other.grp, .int .i64 p.other.mode, .int .i64 p.other.block, .slice a2 p.other.ts.length c2]
/-- A plan's tiers lie in memory, not too many. -/
structure PlAt (w : World) (p : Pl) (a a2 : Option Addr) : Prop where
  base : TsAt 0 w a p.base.ts
  other : TsAt 0 w a2 p.other.ts
  lb : p.base.ts.length ≤ 1000
  lo : p.other.ts.length ≤ 1000
theorem PlAt.to {w w' : World} {p : Pl} {a a2 : Option Addr} (h : PlAt w p a a2) (b : Below w.heap.size w w') : PlAt w' p a a2 := ⟨h.base.below b, h.other.below b, h.lb, h.lo⟩
theorem within_ret (x lo hi : Int) (w : World) : Calls Try.prog 60 #[.int .i64 x, .int .i64 lo, .int .i64 hi] w (Ret (.bool (decide (lo ≤ x ∧ x ≤ hi))) w) := by
  refine ret_in (GTar.within_calls x lo hi w (fun u w' => u = .bool (decide (lo ≤ x ∧ x ≤ hi)) ∧ Below w.heap.size w w') ?_)
  unfold GTar.within_vc
  refine br_dec (fun h => ⟨?_, Bs.refl _⟩) fun h => ⟨?_, Bs.refl _⟩
  · congr 1; exact decide_eq_decide.2 (by omega)
  · congr 1; exact (decide_eq_false (by omega)).symm
theorem tiersE_cons (ahead : Int) (t : Tr) (r : List Tr) : tiersE ahead (t :: r) = if ¬ (0 ≤ t.price ∧ t.price ≤ 1048576) then 1 else if r = [] then (if t.upto ≠ 0 then 15 else 0) else if ¬ (ahead + 1 ≤ t.upto ∧ t.upto ≤ 1099511627776) then 15 else tiersE t.upto r := rfl
theorem tiers_ret (a : Option Addr) (c : Nat) (ts : List Tr) (w : World) (h : TsAt 0 w a ts) (hl : ts.length ≤ 1000) : Calls Try.prog 85 #[.slice a ts.length c] w (Ret (.int .i64 (tiersE 0 ts)) w) := by
  refine ret_in (GTar.tiers_calls a ts.length c w (fun u w' => u = .int .i64 (tiersE 0 ts) ∧ Below w.heap.size w w') ?_)
  unfold GTar.tiers_vc
  refine ⟨fun x y wx => ∃ i : Nat, y = i ∧ i ≤ ts.length ∧ tiersE 0 ts = tiersE x (ts.drop i) ∧ 0 ≤ x ∧ x ≤ 1099511627776 ∧ Bs w wx, fun _ y _ => ts.length - y.toNat, ⟨0, rfl, by omega, by simp, by omega, by omega, Bs.refl _⟩, ?_⟩
  rintro x y wx ⟨i, rfl, hi, he, hx0, hx1, B⟩
  refine br_dec (fun hlt => ?_) fun hge => ?_
  · have hil : i < ts.length := by omega
    obtain ⟨b, off, rfl, hc⟩ := (h.below B).get hil
    have hlast : (ts.drop (i + 1) = []) ↔ i = ts.length - 1 := by rw [List.drop_eq_nil_iff]; omega
    rw [List.drop_eq_getElem_cons hil, tiersE_cons] at he
    refine ⟨by omega, by omega, ts[i].upto, ts[i].price, by rw [Int.toNat_natCast]; exact hc, newB B fun g w3 g0 sg n3 z3 b3 B3 => boxB B3 g0 fun w4 h4 B4 z4 => callB B4 (within_ret _ _ _ _) fun w5 b5 B5 => ⟨_, rfl, ?_⟩⟩
    refine br_not (br_dec (fun hp => ?_) fun hp => ⟨by rw [he, if_pos hp], B5⟩)
    rw [if_neg (not_not_intro hp)] at he
    rw [wr64 (show -9223372036854775808 ≤ ((ts.length : Nat) : Int) - 1 by omega) (by omega), wr64 (show -9223372036854775808 ≤ ((i : Nat) : Int) + 1 by omega) (by omega), wr64 (show -9223372036854775808 ≤ x + 1 by omega) (by omega)]
    have next : ∀ wy, Bs w wy → 0 ≤ ts[i].upto → ts[i].upto ≤ 1099511627776 → tiersE 0 ts = tiersE ts[i].upto (ts.drop (i + 1)) → (∃ j : Nat, ((i : Nat) : Int) + 1 = j ∧ j ≤ ts.length ∧ tiersE 0 ts = tiersE ts[i].upto (ts.drop j) ∧ 0 ≤ ts[i].upto ∧ ts[i].upto ≤ 1099511627776 ∧ Bs w wy) ∧ ts.length - (((i : Nat) : Int) + 1).toNat < ts.length - ((i : Nat) : Int).toNat :=
      fun wy By h0 h1 h2 => ⟨⟨i + 1, by omega, by omega, h2, h0, h1, By⟩, by omega⟩
    by_cases hla : i = ts.length - 1
    · rw [if_pos (hlast.2 hla)] at he
      refine br_y (by omega) (br_dec (fun hu => ⟨by rw [he, if_pos hu], B5⟩) fun hu => br_f (by simp; omega) ?_)
      have hu := Decidable.not_not.1 hu
      exact next w5 B5 (by omega) (by omega) (by rw [he, if_neg (not_not_intro hu), hlast.2 hla]; rfl)
    · rw [if_neg (fun h => hla (hlast.1 h))] at he
      refine br_n (by omega) (br_t (by simp; omega) (callB B5 (within_ret _ _ _ _) fun w6 b6 B6 => ⟨_, rfl, br_not (br_dec (fun hu => ?_) fun hu => ⟨by rw [he, if_pos hu], B6⟩)⟩))
      exact next w6 B6 (by omega) (by omega) (by rw [he, if_neg (not_not_intro hu)])
  · obtain rfl : i = ts.length := by omega
    refine ⟨?_, B⟩
    rw [he, List.drop_length]; rfl
theorem check_ret (t : Tar) (a : Option Addr) (c : Nat) (w : World) (h : TsAt 0 w a t.ts) (hl : t.ts.length ≤ 1000) : Calls Try.prog 58 #[tarV t a c] w (Ret (.int .i64 (chkE t)) w) := by
  refine ret_in (GTar.check_calls t.grp t.mode t.block a t.ts.length c w (fun u w' => u = .int .i64 (chkE t) ∧ Below w.heap.size w w') ?_)
  unfold GTar.check_vc chkE
  refine newB (Bs.refl w) fun g w2 g0 sg n2 z2 b2 B2 => callB B2 (within_ret _ _ _ _) fun w3 b3 B3 => ⟨_, rfl, br_not (br_dec (fun h1 => ?_) fun h1 => ⟨by rw [if_pos (by omega)], B3⟩)⟩
  refine callB B3 (within_ret _ _ _ _) fun w4 b4 B4 => ⟨_, rfl, br_not (br_dec (fun h2 => ?_) fun h2 => ⟨by rw [if_pos (by omega)], B4⟩)⟩
  rw [if_neg (by omega)]
  have rest : ∀ w4, Bs w w4 → ¬ (t.mode ≠ 1 ∧ t.mode ≠ 2) → Calls Try.prog 60 #[.int .i64 ((t.ts.length : Nat) : Int), .int .i64 1, .int .i64 6] w4 fun e w5 => KeepG [g] w4 w5 ∧ ∃ b : Bool, e = .returned (.bool b) ∧ br (!b) (Value.int .i64 5 = .int .i64 (if t.mode ≠ 1 ∧ t.mode ≠ 2 then 21 else if ¬ (1 ≤ t.ts.length ∧ t.ts.length ≤ 6) then 5 else tiersE 0 t.ts) ∧ Below w.heap.size w w5)
      (Calls Try.prog 85 #[.slice a t.ts.length c] w5 fun e w6 => KeepG [g] w5 w6 ∧ ∃ x : Int, e = .returned (.int .i64 x) ∧ (Value.int .i64 x = .int .i64 (if t.mode ≠ 1 ∧ t.mode ≠ 2 then 21 else if ¬ (1 ≤ t.ts.length ∧ t.ts.length ≤ 6) then 5 else tiersE 0 t.ts) ∧ Below w.heap.size w w6)) := by
    intro w4 B4 hm
    refine callB B4 (within_ret _ _ _ _) fun w5 b5 B5 => ⟨_, rfl, br_not (br_dec (fun h3 => ?_) fun h3 => ⟨by rw [if_neg hm, if_pos (by omega)], B5⟩)⟩
    exact callB B5 (tiers_ret a c t.ts w5 (h.below B5) hl) fun w6 b6 B6 => ⟨_, rfl, by rw [if_neg hm, if_neg (by omega)], B6⟩
  refine br_dec (fun h3 => br_dec (fun h4 => ⟨by rw [if_pos ⟨h3, h4⟩], B4⟩) fun h4 => rest w4 B4 (by omega)) fun h3 => rest w4 B4 (by omega)
theorem nothing_ret (t : Tar) (a : Option Addr) (c : Nat) (w : World) : Calls Try.prog 59 #[tarV t a c] w (Ret (.bool (decide (nothingT t))) w) := by
  refine ret_in (GTar.nothing_calls t.grp t.mode t.block a t.ts.length c w (fun u w' => u = .bool (decide (nothingT t)) ∧ Below w.heap.size w w') ?_)
  unfold GTar.nothing_vc nothingT
  refine newB (Bs.refl w) fun g w2 g0 sg n2 z2 b2 B2 => br_dec (fun h1 => br_dec (fun h2 => br_dec (fun h3 => ⟨?_, B2⟩) fun h => ⟨?_, B2⟩) fun h => ⟨?_, B2⟩) fun h => ⟨?_, B2⟩
  · congr 1
    exact decide_eq_decide.2 ⟨fun h => ⟨h1, h2, h3, List.length_eq_zero_iff.1 (by omega)⟩, fun h => by rw [h.2.2.2]; rfl⟩
  · congr 1; exact (decide_eq_false fun k => h k.2.2.1).symm
  · congr 1; exact (decide_eq_false fun k => h k.2.1).symm
  · congr 1; exact (decide_eq_false fun k => h k.1).symm
theorem cplan_ret (p : Pl) (a a2 : Option Addr) (c c2 : Nat) (w : World) (h : PlAt w p a a2) (hd : -9223372036854775808 ≤ p.day) (hd2 : p.day ≤ 9223372036854775807) : Calls Try.prog 22 #[planV p a c a2 c2] w (Ret (.int .i64 (planE p)) w) := by
  refine ret_in (GTar.cplan_calls p.day p.frm p.til p.base.grp p.base.mode p.base.block a p.base.ts.length c p.other.grp p.other.mode p.other.block a2 p.other.ts.length c2 w (fun u w' => u = .int .i64 (planE p) ∧ Below w.heap.size w w') ?_)
  unfold GTar.cplan_vc planE
  refine newB (Bs.refl w) fun g w2 g0 sg n2 z2 b2 B2 => callB B2 (check_ret p.base a c w2 (h.base.below B2) h.lb) fun w3 b3 B3 => ⟨_, rfl, br_dec (fun h1 => ⟨by rw [if_pos h1], B3⟩) fun h1 => ?_⟩
  rw [if_neg h1]
  refine br_dec (fun h0 => ?_) fun h0 => ?_
  · rw [if_pos h0]
    refine br_dec (fun h2 => ⟨by rw [if_neg (fun k => h2 k.1)], B3⟩) fun h2 => br_dec (fun h3 => ⟨by rw [if_neg (fun k => h3 k.2.1)], B3⟩) fun h3 => callB B3 (nothing_ret p.other a2 c2 w3) fun w4 b4 B4 => ⟨_, rfl, br_not (br_dec (fun h4 => ⟨?_, B4⟩) fun h4 => ⟨by rw [if_neg (fun k => h4 k.2.2)], B4⟩)⟩
    rw [if_pos ⟨Decidable.not_not.1 h2, Decidable.not_not.1 h3, h4⟩]
  · rw [if_neg h0]
    have no : ∀ {q : Prop}, ¬ q → (dayOk p → q) → ∀ z : Int, (1 : Int) = if ¬ dayOk p then 1 else z := fun hq hk z => by rw [if_pos fun k => hq (hk k)]
    refine callB B3 (within_ret _ _ _ _) fun w4 b4 B4 => ⟨_, rfl, br_not (br_dec (fun h2 => ?_) fun h2 => ⟨by rw [← no h2 fun k => k.1], B4⟩)⟩
    rw [wr64 (show -9223372036854775808 ≤ p.day - 1 by omega) (by omega)]
    refine callB B4 (within_ret _ _ _ _) fun w5 b5 B5 => ⟨_, rfl, br_not (br_dec (fun h3 => ?_) fun h3 => ⟨by rw [← no h3 fun k => k.2.1], B5⟩)⟩
    refine callB B5 (within_ret _ _ _ _) fun w6 b6 B6 => ⟨_, rfl, br_not (br_dec (fun h4 => ?_) fun h4 => ⟨by rw [← no h4 fun k => k.2.2.1], B6⟩)⟩
    refine br_dec (fun h5 => ⟨by rw [← no (not_not_intro h5) fun k => k.2.2.2], B6⟩) fun h5 => ?_
    rw [if_neg (not_not_intro (show dayOk p from ⟨h2, h3, h4, h5⟩))]
    refine callB B6 (check_ret p.other a2 c2 w6 (h.other.below B6) h.lo) fun w7 b7 B7 => ⟨_, rfl, br_dec (fun h6 => ⟨by rw [if_pos h6], B7⟩) fun h6 => ?_⟩
    rw [if_neg h6]
    exact br_dec (fun h7 => ⟨by rw [if_pos (.inl h7)], B7⟩) fun h7 => br_dec (fun h8 => ⟨by rw [if_pos (.inr h8)], B7⟩) fun h8 => ⟨by rw [if_neg (by omega)], B7⟩
theorem isOther_day {p : Pl} {now : Int} (h : p.day ≠ 0) : isOther p now ↔ if p.frm < p.til then p.frm ≤ Int.tmod now p.day ∧ Int.tmod now p.day < p.til else p.frm ≤ Int.tmod now p.day ∨ Int.tmod now p.day < p.til := ⟨fun k => k.2, fun k => ⟨h, k⟩⟩
theorem other_ret (p : Pl) (a a2 : Option Addr) (c c2 : Nat) (now : Int) (w : World) : Calls Try.prog 78 #[planV p a c a2 c2, .int .i64 now] w (Ret (.bool (decide (isOther p now))) w) := by
  refine ret_in (GTar.other_calls p.day p.frm p.til p.base.grp p.base.mode p.base.block a p.base.ts.length c p.other.grp p.other.mode p.other.block a2 p.other.ts.length c2 now w (fun u w' => u = .bool (decide (isOther p now)) ∧ Below w.heap.size w w') ?_)
  unfold GTar.other_vc
  refine newB (Bs.refl w) fun g w2 g0 sg n2 z2 b2 B2 => br_dec (fun h0 => ⟨by rw [decide_eq_false fun k => k.1 h0], B2⟩) fun h0 => ⟨h0, drewB B2 fun w3 b3 B3 _ => ?_⟩
  refine br_dec (fun h1 => br_dec (fun h2 => ⟨?_, B3⟩) fun h2 => ⟨?_, B3⟩) fun h1 => br_dec (fun h2 => ⟨?_, B3⟩) fun h2 => ⟨?_, B3⟩
  · congr 1; exact decide_eq_decide.2 (by rw [isOther_day h0, if_pos h1]; omega)
  · congr 1; exact (decide_eq_false (by rw [isOther_day h0, if_pos h1]; omega)).symm
  · congr 1; exact (decide_eq_true (by rw [isOther_day h0, if_neg h1]; omega)).symm
  · congr 1; exact decide_eq_decide.2 (by rw [isOther_day h0, if_neg h1]; omega)
theorem clone_new (a : Option Addr) (c : Nat) (ts : List Tr) (w : World) (h : TsAt 0 w a ts) (hl : ts.length ≤ 1000) :
    Calls Try.prog 96 #[.slice a ts.length c] w fun e w' => (∃ a' c', e = .returned (.slice a' ts.length c') ∧ TsAt w.heap.size w' a' ts) ∧ Below w.heap.size w w' := by
  refine (GTar.clone_calls a ts.length c w (fun u w' => (∃ a' c', u = .slice a' ts.length c' ∧ TsAt w.heap.size w' a' ts) ∧ Below w.heap.size w w') ?_).mono (by rintro e w' ⟨v, rfl, ⟨a', c', rfl, h⟩, h2⟩; exact ⟨⟨a', c', rfl, h⟩, h2⟩)
  unfold GTar.clone_vc
  cases a with
  | none =>
    have h0 : ts = [] := by
      rcases h with h | ⟨b, off, ha, _⟩
      · exact h
      · cases ha
    subst h0
    exact br_t rfl ⟨⟨none, 0, rfl, Rws.nil⟩, Bs.refl _⟩
  | some ad =>
    refine br_f rfl (newB (Bs.refl w) fun g w2 g0 sg n2 z2 b2 B2 => ?_)
    have o2 : Own w2 w.heap.size 120 2 (.slice (some ⟨g, 0, none⟩) 0 0) 0 [] := (own_empty 2 n2).base_le fun k hk => by simp [Value.ownBlock] at hk; omega
    refine appB B2 o2 (Nat.le_refl _) B2.size ((h.below B2).src (c := c) Try.underlying22 (by decide) tr_len tr_one) (by unfold maxLen; omega) (by omega) (by simp) fun a' c' w3 o3 g3 B3 z3 => ?_
    rw [Nat.zero_add, List.nil_append] at o3
    rw [Nat.zero_add]
    exact ⟨⟨a', c', rfl, Rws.ofOwn (by decide) tr_len o3⟩, B3⟩
theorem copy_new (t : Tar) (a : Option Addr) (c : Nat) (w : World) (h : TsAt 0 w a t.ts) (hl : t.ts.length ≤ 1000) :
    Calls Try.prog 79 #[tarV t a c] w fun e w' => (∃ a' c', e = .returned (tarV t a' c') ∧ TsAt w.heap.size w' a' t.ts) ∧ Below w.heap.size w w' := by
  refine (GTar.copy_calls t.grp t.mode t.block a t.ts.length c w (fun u w' => (∃ a' c', u = tarV t a' c' ∧ TsAt w.heap.size w' a' t.ts) ∧ Below w.heap.size w w') ?_).mono (by rintro e w' ⟨v, rfl, ⟨a', c', rfl, h⟩, h2⟩; exact ⟨⟨a', c', rfl, h⟩, h2⟩)
  unfold GTar.copy_vc
  refine newB (Bs.refl w) fun g w2 g0 sg n2 z2 b2 B2 => newB B2 fun g' w3 g0' sg' n3 z3 b3 B3 => callQ B3 (clone_new a c t.ts w3 (h.below B3) hl) ?_
  rintro e w4 ⟨a4, c4, rfl, h4⟩ b4 B4
  refine ⟨_, _, _, rfl, boxB B4 g0 fun w5 h5 B5 z5 => boxB B5 g0' fun w6 h6 B6 z6 => ⟨⟨a4, c4, rfl, ?_⟩, B6⟩⟩
  exact ((h4.box h5 (by omega)).box h6 (by omega)).low (by omega)
theorem at_new (p : Pl) (a a2 : Option Addr) (c c2 : Nat) (now : Int) (w : World) (h : PlAt w p a a2) (hd : -9223372036854775808 ≤ p.day) (hd2 : p.day ≤ 9223372036854775807) (hn : 0 ≤ now) (hp : planE p = 0) :
    Calls Try.prog 45 #[planV p a c a2 c2, .int .i64 now] w fun e w' => (∃ a' c', e = .returned (.tuple #[tarV (atT p now) a' c', .bool (decide (isOther p now))]) ∧ TsAt w.heap.size w' a' (atT p now).ts) ∧ Below w.heap.size w w' := by
  refine (GTar.at_calls p.day p.frm p.til p.base.grp p.base.mode p.base.block a p.base.ts.length c p.other.grp p.other.mode p.other.block a2 p.other.ts.length c2 now w (fun u w' => (∃ a' c', u = .tuple #[tarV (atT p now) a' c', .bool (decide (isOther p now))] ∧ TsAt w.heap.size w' a' (atT p now).ts) ∧ Below w.heap.size w w') ?_).mono (by rintro e w' ⟨v, rfl, ⟨a', c', rfl, h⟩, h2⟩; exact ⟨⟨a', c', rfl, h⟩, h2⟩)
  unfold GTar.at_vc atT
  refine newB (Bs.refl w) fun g w2 g0 sg n2 z2 b2 B2 => newB B2 fun g' w3 g0' sg' n3 z3 b3 B3 => br_n (by omega) (callB B3 (cplan_ret p a a2 c c2 w3 (h.to B3) hd hd2) fun w5 b5 B5 => ⟨_, rfl, br_n (by omega) (callB B5 (other_ret p a a2 c c2 now w5) fun w7 b7 B7 => ⟨_, rfl, br_dec (fun ho => ?_) fun ho => ?_⟩)⟩)
  · rw [if_pos ho]
    have b5s := b5.size
    have b7s := b7.size
    refine callQ B7 (copy_new p.other a2 c2 w7 (h.other.below B7) h.lo) ?_
    rintro e w8 ⟨a8, c8, rfl, h8⟩ b8 B8
    exact ⟨_, _, _, _, _, _, rfl, boxB B8 g0' fun w9 h9 B9 z9 => ⟨⟨a8, c8, by rw [decide_eq_true ho]; rfl, (h8.box h9 (by omega)).low (by omega)⟩, B9⟩⟩
  · rw [if_neg ho]
    have b5s := b5.size
    have b7s := b7.size
    refine callQ B7 (copy_new p.base a c w7 (h.base.below B7) h.lb) ?_
    rintro e w8 ⟨a8, c8, rfl, h8⟩ b8 B8
    exact ⟨_, _, _, _, _, _, rfl, boxB B8 g0' fun w9 h9 B9 z9 => ⟨⟨a8, c8, by rw [decide_eq_false ho]; rfl, (h8.box h9 (by omega)).low (by omega)⟩, B9⟩⟩
theorem dearest_ret (t : Tar) (a : Option Addr) (c : Nat) (w : World) (h : TsAt 0 w a t.ts) (hl : t.ts.length ≤ 1000) : Calls Try.prog 46 #[tarV t a c] w (Ret (.int .i64 (dearT t.ts)) w) := by
  refine ret_in (GTar.dearest_calls t.grp t.mode t.block a t.ts.length c w (fun u w' => u = .int .i64 (dearT t.ts) ∧ Below w.heap.size w w') ?_)
  unfold GTar.dearest_vc
  have nn := dearT_nn t.ts
  refine newB (Bs.refl w) fun g w2 g0 sg n2 z2 b2 B2 => ⟨fun x y wx => ∃ i : Nat, y = i ∧ i ≤ t.ts.length ∧ dearT t.ts = max x (dearT (t.ts.drop i)) ∧ 0 ≤ x ∧ Bs w wx, fun _ y _ => t.ts.length - y.toNat, ⟨0, rfl, by omega, by simp; omega, by omega, B2⟩, ?_⟩
  rintro x y wx ⟨i, rfl, hi, he, hx, B⟩
  refine br_dec (fun hlt => ?_) fun hge => ?_
  · have hil : i < t.ts.length := by omega
    obtain ⟨b, off, rfl, hc⟩ := (h.below B).get hil
    rw [List.drop_eq_getElem_cons hil, dearT] at he
    refine ⟨by omega, by omega, t.ts[i].upto, t.ts[i].price, by rw [Int.toNat_natCast]; exact hc, newB B fun g' w4 g0' sg' n4 z4 b4 B4 => boxB B4 g0' fun w5 h5 B5 z5 => ?_⟩
    rw [wr64 (by omega) (by omega)]
    exact ⟨⟨i + 1, by omega, by omega, by omega, by omega, B5⟩, by dsimp only; omega⟩
  · obtain rfl : i = t.ts.length := by omega
    refine ⟨?_, B⟩
    rw [List.drop_length] at he
    congr 1
    simp only [dearT] at he
    omega
end Go.Proofs.Ytecmpjccdhmeeaa
end
section
/- Numbers in ten parts of 32 bits: what one part of a sum, a difference, a product is. No program in sight. -/
namespace Go.Proofs.Ytecmpjccdhmeeaa
open Go.RowKit
def limb (n i : Nat) : Nat := n / 2 ^ (32 * i) % 4294967296
def uV (n : Nat) : Value := .int .u64 n
def arr (f : Nat → Nat) (neg : Bool) : Array Value := #[uV (f 0), uV (f 1), uV (f 2), uV (f 3), uV (f 4), uV (f 5), uV (f 6), uV (f 7), uV (f 8), uV (f 9), .bool neg]
def bigM (n : Nat) (neg : Bool) : Value := .agg (arr (limb n) neg)
def bigOf (z : Int) : Value := bigM z.natAbs (decide (z < 0))
theorem limb_lt (n i : Nat) : limb n i < 4294967296 := Nat.mod_lt _ (by omega)
theorem cases10 {P : Nat → Prop} (h0 : P 0) (h1 : P 1) (h2 : P 2) (h3 : P 3) (h4 : P 4) (h5 : P 5) (h6 : P 6) (h7 : P 7) (h8 : P 8) (h9 : P 9) : ∀ i, i < 10 → P i := by
  intro i hi
  match i, hi with
  | 0, _ => exact h0
  | 1, _ => exact h1
  | 2, _ => exact h2
  | 3, _ => exact h3
  | 4, _ => exact h4
  | 5, _ => exact h5
  | 6, _ => exact h6
  | 7, _ => exact h7
  | 8, _ => exact h8
  | 9, _ => exact h9
  | n + 10, h => omega
theorem arr_get (f : Nat → Nat) (neg : Bool) : ∀ i, i < 10 → (arr f neg)[i]? = some (.int .u64 (f i)) := cases10 rfl rfl rfl rfl rfl rfl rfl rfl rfl rfl
theorem arr_neg (f : Nat → Nat) (neg : Bool) : (arr f neg)[10]? = some (.bool neg) := rfl
theorem arr_size (f : Nat → Nat) (neg : Bool) : (arr f neg).size = 11 := rfl
theorem arr_congr {f g : Nat → Nat} (neg : Bool) (h : ∀ i, i < 10 → f i = g i) : arr f neg = arr g neg := by
  unfold arr
  rw [h 0 (by omega), h 1 (by omega), h 2 (by omega), h 3 (by omega), h 4 (by omega), h 5 (by omega), h 6 (by omega), h 7 (by omega), h 8 (by omega), h 9 (by omega)]
theorem arr_set (f : Nat → Nat) (neg : Bool) (v : Nat) : ∀ i, i < 10 → (arr f neg).setIfInBounds i (.int .u64 v) = arr (fun k => if k = i then v else f k) neg := cases10 rfl rfl rfl rfl rfl rfl rfl rfl rfl rfl
theorem arr_setNeg (f : Nat → Nat) (neg b : Bool) : (arr f neg).setIfInBounds 10 (.bool b) = arr f b := rfl
theorem arr_one (f : Nat → Nat) (neg : Bool) : (arr f neg).all (·.oneCell') = true := by simp [arr, uV, Value.oneCell']
theorem arr_zero : arr (fun _ => 0) false = #[.int .u64 0, .int .u64 0, .int .u64 0, .int .u64 0, .int .u64 0, .int .u64 0, .int .u64 0, .int .u64 0, .int .u64 0, .int .u64 0, .bool false] := rfl
theorem limb_zero (i : Nat) : limb 0 i = 0 := by unfold limb; rw [Nat.zero_div]
theorem bigOf_zero : bigOf 0 = .agg (arr (fun _ => 0) false) := by
  show Value.agg (arr (limb 0) false) = _
  rw [arr_congr false (g := fun _ => 0) (fun i _ => limb_zero i)]

/-! One step of a sum. -/
def carry (n m i : Nat) : Nat := (n % 2 ^ (32 * i) + m % 2 ^ (32 * i)) / 2 ^ (32 * i)
theorem pow_succ32 (i : Nat) : 2 ^ (32 * (i + 1)) = 2 ^ (32 * i) * 4294967296 := by rw [Nat.mul_add, Nat.pow_add]
theorem mod_limb (n i : Nat) : n % 2 ^ (32 * (i + 1)) = n % 2 ^ (32 * i) + 2 ^ (32 * i) * limb n i := by
  rw [pow_succ32, Nat.mod_mul]; rfl
theorem carry_zero (n m : Nat) : carry n m 0 = 0 := by unfold carry; simp [Nat.mod_one]
theorem carry_le (n m i : Nat) : carry n m i ≤ 1 := by
  unfold carry
  have hp : 0 < 2 ^ (32 * i) := Nat.pow_pos (by omega)
  have h1 := Nat.mod_lt n hp
  have h2 := Nat.mod_lt m hp
  have : (n % 2 ^ (32 * i) + m % 2 ^ (32 * i)) / 2 ^ (32 * i) < 2 := by rw [Nat.div_lt_iff_lt_mul hp]; omega
  omega
theorem add_step (n m i : Nat) : (limb n i + limb m i + carry n m i) / 4294967296 = carry n m (i + 1) ∧ (limb n i + limb m i + carry n m i) % 4294967296 = limb (n + m) i := by
  have hp : 0 < 2 ^ (32 * i) := Nat.pow_pos (by omega)
  constructor
  · unfold carry
    rw [mod_limb, mod_limb, pow_succ32]
    generalize 2 ^ (32 * i) = p at *
    rw [← Nat.div_div_eq_div_mul]
    congr 1
    rw [show n % p + p * limb n i + (m % p + p * limb m i) = (n % p + m % p) + p * (limb n i + limb m i) by rw [Nat.mul_add]; omega, Nat.add_mul_div_left _ _ hp]
    omega
  · unfold carry limb
    generalize 2 ^ (32 * i) = p at *
    have h : (n + m) / p = n / p + m / p + (n % p + m % p) / p := by
      conv => lhs; rw [← Nat.div_add_mod n p, ← Nat.div_add_mod m p]
      rw [show p * (n / p) + n % p + (p * (m / p) + m % p) = (n % p + m % p) + p * (n / p + m / p) by rw [Nat.mul_add]; omega, Nat.add_mul_div_left _ _ hp]
      omega
    rw [h]
    omega
theorem u64_mask (s : Nat) (h : s < 18446744073709551616) : bits BinOp.and IntKind.u64 (s : Int) 4294967295 = ((s % 4294967296 : Nat) : Int) := by
  rw [show (4294967295 : Int) = ((4294967295 : Nat) : Int) from rfl, u64_and_nat _ _ h (by omega), show (4294967295 : Nat) = 2 ^ 32 - 1 from rfl, Nat.and_two_pow_sub_one_eq_mod]
/-! One step of a difference. -/
def borrow (n m i : Nat) : Nat := if n % 2 ^ (32 * i) < m % 2 ^ (32 * i) then 1 else 0
theorem borrow_zero (n m : Nat) : borrow n m 0 = 0 := by unfold borrow; simp [Nat.mod_one]
theorem borrow_le (n m i : Nat) : borrow n m i ≤ 1 := by unfold borrow; split <;> omega
theorem sub_step (n m i : Nat) (h : m ≤ n) : 1 - (limb n i + 4294967296 - limb m i - borrow n m i) / 4294967296 = borrow n m (i + 1) ∧ (limb n i + 4294967296 - limb m i - borrow n m i) % 4294967296 = limb (n - m) i := by
  have hp : 0 < 2 ^ (32 * i) := Nat.pow_pos (by omega)
  constructor
  · unfold borrow
    rw [mod_limb, mod_limb]
    have lx := limb_lt n i
    have ly := limb_lt m i
    have r1 := Nat.mod_lt n hp
    have r2 := Nat.mod_lt m hp
    generalize limb n i = x at *
    generalize limb m i = y at *
    generalize 2 ^ (32 * i) = p at *
    generalize n % p = r at *
    generalize m % p = s at *
    rcases Nat.lt_trichotomy x y with hxy | hxy | hxy
    · have h1 : p * (x + 1) ≤ p * y := Nat.mul_le_mul_left p hxy
      rw [Nat.mul_add, Nat.mul_one] at h1
      rw [if_pos (show r + p * x < s + p * y by omega)]
      split <;> omega
    · subst hxy
      by_cases hrs : r < s
      · rw [if_pos hrs, if_pos (by omega)]; omega
      · rw [if_neg hrs, if_neg (by omega)]; omega
    · have h1 : p * (y + 1) ≤ p * x := Nat.mul_le_mul_left p hxy
      rw [Nat.mul_add, Nat.mul_one] at h1
      rw [if_neg (show ¬ (r + p * x < s + p * y) by omega)]
      split <;> omega
  · unfold borrow limb
    have r1 := Nat.mod_lt n hp
    have r2 := Nat.mod_lt m hp
    generalize 2 ^ (32 * i) = p at *
    have e1 := Nat.div_add_mod n p
    have e2 := Nat.div_add_mod m p
    have hd : m / p ≤ n / p := Nat.div_le_div_right h
    have key : (n - m) / p = n / p - m / p - (if n % p < m % p then 1 else 0) := by
      split
      · rename_i hlt
        have hne : m / p < n / p := by
          rcases Nat.lt_or_ge (m / p) (n / p) with h1 | h1
          · exact h1
          · have : n / p = m / p := by omega
            rw [this] at e1
            omega
        have hm : p * (m / p + 1) ≤ p * (n / p) := Nat.mul_le_mul_left p hne
        rw [Nat.mul_add, Nat.mul_one] at hm
        have e3 : n - m = (p + n % p - m % p) + p * (n / p - m / p - 1) := by
          rw [Nat.mul_sub, Nat.mul_sub]
          omega
        rw [e3, Nat.add_mul_div_left _ _ hp, Nat.div_eq_of_lt (by omega)]
        omega
      · have hm : p * (m / p) ≤ p * (n / p) := Nat.mul_le_mul_left p hd
        have e3 : n - m = (n % p - m % p) + p * (n / p - m / p) := by
          rw [Nat.mul_sub]
          omega
        rw [e3, Nat.add_mul_div_left _ _ hp, Nat.div_eq_of_lt (by omega)]
        omega
    rw [key]
    have hb : n % p < m % p → m / p < n / p := fun hlt => by
      rcases Nat.lt_or_ge (m / p) (n / p) with h1 | h1
      · exact h1
      · have : n / p = m / p := by omega
        rw [this] at e1
        omega
    generalize n / p = a at *
    generalize m / p = b at *
    split
    · rename_i hlt
      have := hb hlt
      omega
    · omega
/-! From the top: the first part that parts them decides. -/
theorem div_limb (n i : Nat) : n / 2 ^ (32 * i) = 4294967296 * (n / 2 ^ (32 * (i + 1))) + limb n i := by
  rw [pow_succ32, ← Nat.div_div_eq_div_mul]
  unfold limb
  omega
theorem less_same {n m i : Nat} (h : n / 2 ^ (32 * (i + 1)) = m / 2 ^ (32 * (i + 1))) (h2 : limb n i = limb m i) : n / 2 ^ (32 * i) = m / 2 ^ (32 * i) := by rw [div_limb n, div_limb m, h, h2]
theorem less_apart {n m i : Nat} (h : n / 2 ^ (32 * (i + 1)) = m / 2 ^ (32 * (i + 1))) (h2 : limb n i ≠ limb m i) : decide (limb n i < limb m i) = decide (n < m) := by
  have e1 := div_limb n i
  have e2 := div_limb m i
  rw [h] at e1
  have hp : 0 < 2 ^ (32 * i) := Nat.pow_pos (by omega)
  have f1 := Nat.div_add_mod n (2 ^ (32 * i))
  have f2 := Nat.div_add_mod m (2 ^ (32 * i))
  have r1 := Nat.mod_lt n hp
  have r2 := Nat.mod_lt m hp
  generalize 2 ^ (32 * i) = p at *
  generalize limb n i = x at *
  generalize limb m i = y at *
  rcases Nat.lt_or_gt_of_ne h2 with hxy | hxy
  · have h3 : n / p + 1 ≤ m / p := by omega
    have h4 := Nat.mul_le_mul_left p h3
    rw [Nat.mul_add, Nat.mul_one] at h4
    rw [decide_eq_true hxy, decide_eq_true (by omega)]
  · have h3 : m / p + 1 ≤ n / p := by omega
    have h4 := Nat.mul_le_mul_left p h3
    rw [Nat.mul_add, Nat.mul_one] at h4
    rw [decide_eq_false (by omega), decide_eq_false (by omega)]
/-- More than all ten parts hold. (A name: the number itself is never to be reckoned.) -/
def lim : Nat := 2 ^ (32 * 10)
theorem lim_eq : lim = 2 ^ (32 * 10) := by unfold lim; rfl
theorem lim_div {n : Nat} (h : n < lim) : n / 2 ^ (32 * 10) = 0 := by rw [← lim_eq]; exact Nat.div_eq_of_lt h
theorem lim_big {n k : Nat} (hk : k ≤ 32 * 10) (h : n < 2 ^ k) : n < lim := by
  have h2 := Nat.pow_le_pow_right (n := 2) (by omega) hk
  rw [← lim_eq] at h2
  exact Nat.lt_of_lt_of_le h h2
theorem top_zero {n : Nat} (h : n < lim) : n / 2 ^ (32 * (9 + 1)) = 0 := by
  rw [show 9 + 1 = 10 from rfl]; exact lim_div h
theorem all_same {n m : Nat} (h : n / 2 ^ (32 * 0) = m / 2 ^ (32 * 0)) : n = m := by simpa using h
/-- Nought has no part. -/
theorem limb_all_zero {n : Nat} (h : n < lim) (h0 : ∀ i, i < 10 → limb n i = 0) : n = 0 := by
  have e : ∀ k, k ≤ 10 → n / 2 ^ (32 * (10 - k)) = 0 := by
    intro k
    induction k with
    | zero => intro _; rw [Nat.sub_zero]; exact lim_div h
    | succ k ih =>
      intro hk
      have h1 := ih (by omega)
      rw [div_limb, show 10 - (k + 1) + 1 = 10 - k by omega, h1, h0 _ (by omega)]
  have := e 10 (by omega)
  simpa using this
theorem limb_small {n i : Nat} (h : n < 2 ^ (32 * i)) : limb n i = 0 := by unfold limb; rw [Nat.div_eq_of_lt h]
end Go.Proofs.Ytecmpjccdhmeeaa
end
section
/- 'add' of the reference, walked. -/
namespace Go.Proofs.Ytecmpjccdhmeeaa
open Go.RowKit
/-- A block that holds a row, whole. -/
def Blk (w : World) (g : Nat) (cs : Array Value) (t : TypeId) : Prop := w.heap[g]? = some (.cells cs t (0, 0))
theorem Blk.cell {w : World} {g : Nat} {cs : Array Value} {t : TypeId} (h : Blk w g cs t) (i : Nat) : w.cell? ⟨g, i, none⟩ = cs[i]? := cell_of_row _ _ _ _ _ _ h
theorem Blk.frozen {w : World} {g : Nat} {cs : Array Value} {t : TypeId} (h : Blk w g cs t) (i : Nat) : w.frozen? ⟨g, i, none⟩ = false := frozen_of_row _ _ _ _ _ h
theorem Blk.setCell {w : World} {g : Nat} {cs : Array Value} {t : TypeId} (h : Blk w g cs t) (i : Nat) (v : Value) : Blk (w.setCell ⟨g, i, none⟩ v) g (cs.setIfInBounds i v) t := heap_setCell_same _ _ _ _ _ _ h
theorem Blk.other {w : World} {g k i : Nat} {cs : Array Value} {t : TypeId} {v : Value} (h : Blk w g cs t) (hne : g ≠ k) : Blk (w.setCell ⟨k, i, none⟩ v) g cs t := (heap_setCell_other _ _ _ _ hne).trans h
theorem Blk.new {w : World} {cs : Array Value} {t : TypeId} {k : Nat} (h : k = w.heap.size) : Blk (w.alloc (.cells cs t)) k cs t := al_new h
theorem Blk.alloc {w : World} {g : Nat} {cs : Array Value} {t : TypeId} (h : Blk w g cs t) (o : Obj) : Blk (w.alloc o) g cs t := al_old h
theorem Blk.setRow {w : World} {g : Nat} {cs : Array Value} {t : TypeId} (h : Blk w g cs t) (ds : Array Value) : Blk (w.setRow g ds) g ds t := setRow_heap _ _ _ _ _ _ h
theorem Blk.otherRow {w : World} {g k : Nat} {cs : Array Value} {t : TypeId} (h : Blk w g cs t) (ds : Array Value) (hne : g ≠ k) : Blk (w.setRow k ds) g cs t := by
  unfold Blk at *
  simp only [World.setRow, Array.getElem?_modify]
  rw [if_neg (fun e => hne e.symm)]
  exact h
theorem Blk.lt {w : World} {g : Nat} {cs : Array Value} {t : TypeId} (h : Blk w g cs t) : g < w.heap.size := heap_lt h
theorem Blk.below {w w' : World} {g B : Nat} {cs : Array Value} {t : TypeId} (h : Blk w g cs t) (hb : Below B w w') (hB : w.heap.size ≤ B) : Blk w' g cs t := Below.kept hb (Nat.lt_of_lt_of_le h.lt hB) h
theorem al3 (w : World) (A B C : Obj) : ((w.alloc A).alloc B |>.alloc C).heap[w.heap.size]? = some A ∧ ((w.alloc A).alloc B |>.alloc C).heap[w.heap.size + 1]? = some B ∧ ((w.alloc A).alloc B |>.alloc C).heap[w.heap.size + 1 + 1]? = some C ∧
    Below w.heap.size w ((w.alloc A).alloc B |>.alloc C) :=
  ⟨al_old (al_old (al_new rfl)), al_old (al_new (by simp)), al_new (by simp), ((Below_one A).alloc (by simp) B).alloc (by simp; omega) C⟩
def mix (n m i k : Nat) : Nat := if k < i then limb (n + m) k else limb n k
set_option maxRecDepth 100000 in
set_option maxHeartbeats 1000000 in
theorem radd_any (n m : Nat) (na nb : Bool) (w : World) :
    Calls Try.prog 93 #[bigM n na, bigM m nb] w fun e w' => e = .returned (bigM (n + m) na) ∧ Below w.heap.size w w' := by
  unfold bigM
  go_enter Try.func93, Try.ntmps93
  go_wp2
  rw [← arr_zero]
  obtain ⟨h1, h2, h3, hb⟩ := al3 w (.cells (arr (limb n) na) 123) (.cells (arr (limb m) nb) 123) (.cells (arr (fun _ => 0) false) 123)
  generalize ((w.alloc (.cells (arr (limb n) na) 123)).alloc (.cells (arr (limb m) nb) 123)).alloc (.cells (arr (fun _ => 0) false) 123) = W at *
  have H1 := hid h1; have H2 := hid h2; have H3 := hid h3; have HB := hid hb
  clear h1 h2 h3 hb
  go_loopw [5,6,7,8,9,10,11,12,13,14,15,16,17,18,19,20,21,22,23,24,25,26,27,28,29] (fun t5 t6 _ _ _ _ _ _ _ _ _ _ _ _ _ _ _ _ _ _ _ _ _ _ _ wr => ∃ i : Nat, i ≤ 10 ∧ t6 = .int .i64 i ∧ t5 = uV (carry n m i) ∧ Blk wr w.heap.size (arr (mix n m i) na) 123 ∧ Blk wr (w.heap.size + 1) (arr (limb m) nb) 123 ∧ Blk wr (w.heap.size + 1 + 1) (arr (fun _ => 0) false) 123 ∧ Below w.heap.size w wr) (fun t5 t6 _ _ _ _ _ _ _ _ _ _ _ _ _ _ _ _ _ _ _ _ _ _ _ wr => 10 - (intOf t6).toNat)
  case atStart => exact ⟨0, by omega, rfl, by rw [carry_zero]; rfl, by rw [arr_congr (g := limb n) na (fun i _ => by unfold mix; rw [if_neg (by omega)])]; exact H1.out, H2.out, H3.out, HB.out⟩
  case round =>
    obtain ⟨i, hi, rfl, rfl, hA, hB, hC, hW⟩ := hrel
    have HA := hid hA; have HBb := hid hB; have HC := hid hC; have HW := hid hW
    clear hA hB hC hW
    by_cases hlt : i < 10
    · have c1 : wr.cell? ⟨w.heap.size, i, none⟩ = some (.int .u64 (limb n i : Nat)) := by rw [HA.out.cell, arr_get _ _ i hlt]; unfold mix; rw [if_neg (by omega)]
      have c2 : wr.cell? ⟨w.heap.size + 1, i, none⟩ = some (.int .u64 (limb m i : Nat)) := by rw [HBb.out.cell, arr_get _ _ i hlt]
      have hst := add_step n m i
      have l1 := limb_lt n i
      have l2 := limb_lt m i
      have l3 := carry_le n m i
      generalize limb n i = x at *
      generalize limb m i = y at *
      generalize carry n m i = o at *
      obtain ⟨s1, s2⟩ := hst
      have S1 := hid s1; have S2 := hid s2
      clear s1 s2
      have q1 : IntKind.u64.wrap ((x : Int) + (y : Int)) = (x : Int) + (y : Int) := by rw [IntKind.wrap_u64]; omega
      have q2 : IntKind.u64.wrap ((x : Int) + (y : Int) + (o : Int)) = (x : Int) + (y : Int) + (o : Int) := by rw [IntKind.wrap_u64]; omega
      have q3 : bits BinOp.and IntKind.u64 ((x : Int) + (y : Int) + (o : Int)) 4294967295 = (((x + y + o) % 4294967296 : Nat) : Int) := by rw [← u64_mask (x + y + o) (by omega)]; simp
      have i0 : (0 : Int) ≤ (i : Int) := by omega
      have i1 : (i : Int) < 10 := by omega
      unfold uV
      go_wp2
      refine wp_region_early [0, 1, 2, 3, 4, 5, 6, 7, 8, 9, 10, 11] [] [] (fun wx => wx.cell? ⟨w.heap.size, i, none⟩ = some (.int .u64 (x : Int)) ∧ wx.cell? ⟨w.heap.size + 1, i, none⟩ = some (.int .u64 (y : Int))) (by kernel_rfl) (by kernel_rfl) (by kernel_rfl) (by rfl) ⟨c1, c2⟩ ?_
      apply Exists.intro
      refine ⟨fun wx hx => ?_, ?_⟩
      · obtain ⟨x1, x2⟩ := hx
        repeat (refine seI_step rfl (fun K hK => ?_); go_simp; refine hK _ ?_; clear hK K)
        exact seI_nil rfl
      refine wpTA_nil .nil ?_
      go_wp2
      refine NoPanic.normal ?_
      have f1 : wr.frozen? ⟨w.heap.size, i, none⟩ = false := HA.out.frozen i
      go_wp2
      go_roundw
      case rel =>
        refine ⟨i + 1, by omega, by go_num, by rw [← S1.out]; rfl, ?_, HBb.out.other (by omega), HC.out.other (by omega), (HW.out.setCell (p := ⟨w.heap.size, i, none⟩) (Nat.le_refl _) _).drew⟩
        have h1 := HA.out.setCell i (.int .u64 (((x + y + o) % 4294967296 : Nat) : Int))
        rw [arr_set _ _ _ i hlt, S2.out] at h1
        rw [arr_congr (g := fun k => if k = i then limb (n + m) i else mix n m i k) na (fun k _ => by
          unfold mix
          by_cases hk : k = i
          · subst hk; simp
          · by_cases hk2 : k < i
            · simp [hk, hk2, show k < i + 1 by omega]
            · simp [hk, hk2, show ¬ k < i + 1 by omega])]
        have q4 : ((x : Int) + (y : Int) + (o : Int)) % 4294967296 = ((limb (n + m) i : Nat) : Int) := by rw [← S2.out]; omega
        rw [q4]
        exact h1
      case measure => simp [intOf]; omega
    · obtain rfl : i = 10 := by omega
      have hA : Blk wr w.heap.size (arr (limb (n + m)) na) 123 := by
        have := HA.out
        rw [arr_congr (g := limb (n + m)) na (fun k hk => by unfold mix; rw [if_pos hk])] at this
        exact this
      have HA := hid hA
      clear hA
      go_wp2_with (first | (refine wpList_load_row rfl 123 (.tmp 2) rfl w.heap.size rfl 123 (arr (limb (n + m)) na) (0, 0) _ HA.out Try.underlying123 rfl (by kernel_rfl) ?_) | (refine wpList_store_row rfl 123 (.tmp 4) (.tmp 30) rfl (w.heap.size + 1 + 1) (arr (limb (n + m)) na) rfl rfl 123 (arr (fun _ => 0) false) HC.out (by kernel_rfl) rfl (arr_one _ _) ?_))
      refine bodyPost_ret (results_cell_row rfl _ _ (w.heap.size + 1 + 1) 123 (arr (limb (n + m)) na) (0, 0) _ rfl (HC.out.setRow _) Try.underlying123 rfl (by kernel_rfl)) rfl ⟨rfl, ?_⟩
      exact HW.out.trans (Below_setRow (Below.refl _ _) (by omega) _)
end Go.Proofs.Ytecmpjccdhmeeaa
end
section
/- '==' of two arrays of integers. No program in sight. -/
namespace Go.Proofs.Ytecmpjccdhmeeaa
open Go.RowKit
variable {P : Program}
theorem run_part1 {e : TypeId} {k : IntKind} (he : P.underlying e = some (.int k)) (w : World) (cs : Array Value) (i : Nat) (v : Value) (h : cs[i]? = some v) : (part e cs i).run P w = .ok v w := by
  simp [part, isAgg, run_underlying he, h]
theorem run_eqRange {e : TypeId} {k : IntKind} (he : P.underlying e = some (.int k)) (w : World) (xs ys : Array Value) (d : Nat) (f g : Nat → Int) : ∀ (l : List Nat), (∀ i ∈ l, xs[i]? = some (.int k (f i)) ∧ ys[i]? = some (.int k (g i))) →
    (forIn (m := Sem) l ((none, ()) : Option Bool × Unit) fun i (_ : Option Bool × Unit) => do
      let a ← part e xs (i * 1)
      let b ← part e ys (i * 1)
      let r ← Op.equalIn (d + 1) e a b
      if (!r) = true then pure (ForInStep.done (some false, ())) else pure (ForInStep.yield (none, ()))).run P w =
      .ok (if l.all (fun i => f i == g i) then (none, ()) else (some false, ())) w := by
  intro l
  induction l with
  | nil => intro _; rfl
  | cons i l ih =>
    intro h
    obtain ⟨h1, h2⟩ := h i (by simp)
    have e1 := run_part1 he w xs (i * 1) _ (by rw [Nat.mul_one]; exact h1)
    have e2 := run_part1 he w ys (i * 1) _ (by rw [Nat.mul_one]; exact h2)
    have e3 := run_equalIn_int (P := P) w d e k k (f i) (g i) he
    simp only [List.forIn_cons, Sem.run_bind, e1, e2, e3, Result.andThen_ok]
    cases hq : (f i == g i)
    · simp [hq]
    · simp only [Bool.not_true, Bool.false_eq_true, if_false, Sem.run_pure, Result.andThen_ok, List.all_cons, hq, Bool.true_and]
      exact ih fun j hj => h j (by simp [hj])
theorem run_equalIn_arr {t e : TypeId} {k : IntKind} {n : Nat} (d : Nat) (ht : P.underlying t = some (.array n e)) (he : P.underlying e = some (.int k)) (hs : ∀ w, (sizeOf e).run P w = .ok 1 w) (xs ys : Array Value) (f g : Nat → Int)
    (h : ∀ i, i < n → xs[i]? = some (.int k (f i)) ∧ ys[i]? = some (.int k (g i))) (w : World) : (Op.equalIn (d + 2) t (.agg xs) (.agg ys)).run P w = .ok ((List.range n).all fun i => f i == g i) w := by
  unfold Op.equalIn
  simp only [Sem.run_bind, run_underlying ht, Result.andThen_ok, hs]
  rw [Std.Legacy.Range.forIn_eq_forIn_range']
  have hr := run_eqRange (P := P) he w xs ys d f g (List.range n) (fun i hi => h i (List.mem_range.1 hi))
  simp only [Std.Legacy.Range.size, Nat.sub_zero, Nat.add_sub_cancel, Nat.div_one, ← List.range_eq_range']
  rw [hr]
  split
  · rename_i hq
    simp [hq]
  · rename_i hq
    simp [hq]
end Go.Proofs.Ytecmpjccdhmeeaa
end
section
/- 'sub', 'less', 'zero' of the reference, walked. -/
namespace Go.Proofs.Ytecmpjccdhmeeaa
open Go.RowKit
def mixS (n m i k : Nat) : Nat := if k < i then limb (n - m) k else limb n k
set_option maxRecDepth 100000 in
set_option maxHeartbeats 1000000 in
theorem rsub_any (n m : Nat) (na nb : Bool) (hmn : m ≤ n) (w : World) :
    Calls Try.prog 95 #[bigM n na, bigM m nb] w fun e w' => e = .returned (bigM (n - m) na) ∧ Below w.heap.size w w' := by
  unfold bigM
  have HMN := hid hmn; clear hmn
  go_enter Try.func95, Try.ntmps95
  go_wp2
  rw [← arr_zero]
  obtain ⟨h1, h2, h3, hb⟩ := al3 w (.cells (arr (limb n) na) 123) (.cells (arr (limb m) nb) 123) (.cells (arr (fun _ => 0) false) 123)
  generalize ((w.alloc (.cells (arr (limb n) na) 123)).alloc (.cells (arr (limb m) nb) 123)).alloc (.cells (arr (fun _ => 0) false) 123) = W at *
  have H1 := hid h1; have H2 := hid h2; have H3 := hid h3; have HB := hid hb
  clear h1 h2 h3 hb
  go_loopw [5,6,7,8,9,10,11,12,13,14,15,16,17,18,19,20,21,22,23,24,25,26,27,28,29,30,31] (fun t5 t6 _ _ _ _ _ _ _ _ _ _ _ _ _ _ _ _ _ _ _ _ _ _ _ _ _ wr => ∃ i : Nat, i ≤ 10 ∧ t6 = .int .i64 i ∧ t5 = uV (borrow n m i) ∧ Blk wr w.heap.size (arr (mixS n m i) na) 123 ∧ Blk wr (w.heap.size + 1) (arr (limb m) nb) 123 ∧ Blk wr (w.heap.size + 1 + 1) (arr (fun _ => 0) false) 123 ∧ Below w.heap.size w wr) (fun t5 t6 _ _ _ _ _ _ _ _ _ _ _ _ _ _ _ _ _ _ _ _ _ _ _ _ _ wr => 10 - (intOf t6).toNat)
  case atStart => exact ⟨0, by omega, rfl, by rw [borrow_zero]; rfl, by rw [arr_congr (g := limb n) na (fun i _ => by unfold mixS; rw [if_neg (by omega)])]; exact H1.out, H2.out, H3.out, HB.out⟩
  case round =>
    obtain ⟨i, hi, rfl, rfl, hA, hB, hC, hW⟩ := hrel
    have HA := hid hA; have HBb := hid hB; have HC := hid hC; have HW := hid hW
    clear hA hB hC hW
    by_cases hlt : i < 10
    · have c1 : wr.cell? ⟨w.heap.size, i, none⟩ = some (.int .u64 (limb n i : Nat)) := by rw [HA.out.cell, arr_get _ _ i hlt]; unfold mixS; rw [if_neg (by omega)]
      have c2 : wr.cell? ⟨w.heap.size + 1, i, none⟩ = some (.int .u64 (limb m i : Nat)) := by rw [HBb.out.cell, arr_get _ _ i hlt]
      have hst := sub_step n m i HMN.out
      have l1 := limb_lt n i
      have l2 := limb_lt m i
      have l3 := borrow_le n m i
      generalize limb n i = x at *
      generalize limb m i = y at *
      generalize borrow n m i = o at *
      obtain ⟨s1, s2⟩ := hst
      have S1 := hid s1; have S2 := hid s2
      clear s1 s2
      have q0 : IntKind.u64.wrap ((x : Int) + 4294967296) = (x : Int) + 4294967296 := by rw [IntKind.wrap_u64]; omega
      have q1 : IntKind.u64.wrap ((x : Int) + 4294967296 - (y : Int)) = (x : Int) + 4294967296 - (y : Int) := by rw [IntKind.wrap_u64]; omega
      have q2 : IntKind.u64.wrap ((x : Int) + 4294967296 - (y : Int) - (o : Int)) = (x : Int) + 4294967296 - (y : Int) - (o : Int) := by rw [IntKind.wrap_u64]; omega
      have i0 : (0 : Int) ≤ (i : Int) := by omega
      have i1 : (i : Int) < 10 := by omega
      unfold uV
      go_wp2
      refine wp_region_early [0, 1, 2, 3, 4, 5, 6, 7, 8, 9, 10, 11, 12] [] [] (fun wx => wx.cell? ⟨w.heap.size, i, none⟩ = some (.int .u64 (x : Int)) ∧ wx.cell? ⟨w.heap.size + 1, i, none⟩ = some (.int .u64 (y : Int))) (by kernel_rfl) (by kernel_rfl) (by kernel_rfl) (by rfl) ⟨c1, c2⟩ ?_
      apply Exists.intro
      refine ⟨fun wx hx => ?_, ?_⟩
      · obtain ⟨x1, x2⟩ := hx
        repeat (refine seI_step rfl (fun K hK => ?_); go_simp; refine hK _ ?_; clear hK K)
        exact seI_nil rfl
      refine wpTA_nil .nil ?_
      go_wp2
      refine NoPanic.normal ?_
      have f1 : wr.frozen? ⟨w.heap.size, i, none⟩ = false := HA.out.frozen i
      clear q0 q1 q2
      go_wp2
      go_roundw
      case rel =>
        refine ⟨i + 1, by omega, by go_num, by rw [← S1.out]; congr 1; omega, ?_, HBb.out.other (by omega), HC.out.other (by omega), (HW.out.setCell (p := ⟨w.heap.size, i, none⟩) (Nat.le_refl _) _).drew⟩
        have h1 := HA.out.setCell i (.int .u64 (((x + 4294967296 - y - o) % 4294967296 : Nat) : Int))
        rw [arr_set _ _ _ i hlt, S2.out] at h1
        rw [arr_congr (g := fun k => if k = i then limb (n - m) i else mixS n m i k) na (fun k _ => by
          unfold mixS
          by_cases hk : k = i
          · subst hk; simp
          · by_cases hk2 : k < i
            · simp [hk, hk2, show k < i + 1 by omega]
            · simp [hk, hk2, show ¬ k < i + 1 by omega])]
        have q4 : bits BinOp.and IntKind.u64 ((x : Int) + 4294967296 - (y : Int) - (o : Int)) 4294967295 = ((limb (n - m) i : Nat) : Int) := by rw [show (x : Int) + 4294967296 - (y : Int) - (o : Int) = ((x + 4294967296 - y - o : Nat) : Int) by omega, u64_mask _ (by omega), S2.out]
        rw [q4]
        exact h1
      case measure => simp [intOf]; omega
    · obtain rfl : i = 10 := by omega
      have hA : Blk wr w.heap.size (arr (limb (n - m)) na) 123 := by
        have := HA.out
        rw [arr_congr (g := limb (n - m)) na (fun k hk => by unfold mixS; rw [if_pos hk])] at this
        exact this
      have HA := hid hA
      clear hA
      go_wp2_with (first | (refine wpList_load_row rfl 123 (.tmp 2) rfl w.heap.size rfl 123 (arr (limb (n - m)) na) (0, 0) _ HA.out Try.underlying123 rfl (by kernel_rfl) ?_) | (refine wpList_store_row rfl 123 (.tmp 4) (.tmp 32) rfl (w.heap.size + 1 + 1) (arr (limb (n - m)) na) rfl rfl 123 (arr (fun _ => 0) false) HC.out (by kernel_rfl) rfl (arr_one _ _) ?_))
      refine bodyPost_ret (results_cell_row rfl _ _ (w.heap.size + 1 + 1) 123 (arr (limb (n - m)) na) (0, 0) _ rfl (HC.out.setRow _) Try.underlying123 rfl (by kernel_rfl)) rfl ⟨rfl, ?_⟩
      exact HW.out.trans (Below_setRow (Below.refl _ _) (by omega) _)
theorem al2 (w : World) (A B : Obj) : ((w.alloc A).alloc B).heap[w.heap.size]? = some A ∧ ((w.alloc A).alloc B).heap[w.heap.size + 1]? = some B ∧ Below w.heap.size w ((w.alloc A).alloc B) :=
  ⟨al_old (al_new rfl), al_new (by simp), (Below_one A).alloc (by simp) B⟩
set_option maxRecDepth 100000 in
set_option maxHeartbeats 1000000 in
theorem rless_any (n m : Nat) (na nb : Bool) (hn : n < lim) (hm : m < lim) (w : World) :
    Calls Try.prog 94 #[bigM n na, bigM m nb] w fun e w' => e = .returned (.bool (decide (n < m))) ∧ Below w.heap.size w w' := by
  unfold bigM
  have HT := hid (show n / 2 ^ (32 * (9 + 1)) = m / 2 ^ (32 * (9 + 1)) by rw [top_zero hn, top_zero hm])
  clear hn hm
  go_enter Try.func94, Try.ntmps94
  go_wp2
  obtain ⟨h1, h2, hb⟩ := al2 w (.cells (arr (limb n) na) 123) (.cells (arr (limb m) nb) 123)
  generalize (w.alloc (.cells (arr (limb n) na) 123)).alloc (.cells (arr (limb m) nb) 123) = W at *
  have H1 := hid h1; have H2 := hid h2; have HB := hid hb
  clear h1 h2 hb
  go_loopw [5,6,7,8,9,10,11,12,13,14,15,16,17,18,19,20,21,22,23,24,25,26,27] (fun t5 _ _ _ _ _ _ _ _ _ _ _ _ _ _ _ _ _ _ _ _ _ _ wr => ∃ j : Int, -1 ≤ j ∧ j ≤ 9 ∧ t5 = .int .i64 j ∧ n / 2 ^ (32 * (j + 1).toNat) = m / 2 ^ (32 * (j + 1).toNat) ∧ Blk wr w.heap.size (arr (limb n) na) 123 ∧ Blk wr (w.heap.size + 1) (arr (limb m) nb) 123 ∧ Below w.heap.size w wr) (fun t5 _ _ _ _ _ _ _ _ _ _ _ _ _ _ _ _ _ _ _ _ _ _ wr => (intOf t5 + 1).toNat)
  case atStart => exact ⟨9, by omega, by omega, rfl, (by rw [show ((9 : Int) + 1).toNat = 9 + 1 from rfl]; exact HT.out), H1.out, H2.out, HB.out⟩
  case round =>
    obtain ⟨j, hj1, hj2, rfl, hup, hA, hB, hW⟩ := hrel
    have HU := hid hup; have HA := hid hA; have HBb := hid hB; have HW := hid hW
    clear hup hA hB hW
    by_cases hlt : 0 ≤ j
    · obtain ⟨i, rfl⟩ := Int.eq_ofNat_of_zero_le hlt
      have hU := HU.out
      rw [show ((i : Int) + 1).toNat = i + 1 by omega] at hU
      have hlt : i < 10 := by omega
      have c1 : wr.cell? ⟨w.heap.size, i, none⟩ = some (.int .u64 (limb n i : Nat)) := by rw [HA.out.cell, arr_get _ _ i hlt]
      have c2 : wr.cell? ⟨w.heap.size + 1, i, none⟩ = some (.int .u64 (limb m i : Nat)) := by rw [HBb.out.cell, arr_get _ _ i hlt]
      have i0 : (0 : Int) ≤ (i : Int) := by omega
      have i1 : (i : Int) < 10 := by omega
      have HU2 := hid hU
      clear hU HU
      by_cases hxy : limb n i = limb m i
      · have hs := hid (less_same HU2.out hxy)
        rw [hxy] at c1
        clear hxy
        generalize limb m i = y at *
        have hne : ((y : Int) != (y : Int)) = false := by simp
        go_wp2
        refine wp_region_early [0, 1, 2, 3, 4, 5, 6, 7, 8] [] [] (fun wx => wx.cell? ⟨w.heap.size, i, none⟩ = some (.int .u64 (y : Int)) ∧ wx.cell? ⟨w.heap.size + 1, i, none⟩ = some (.int .u64 (y : Int))) (by kernel_rfl) (by kernel_rfl) (by kernel_rfl) (by rfl) ⟨c1, c2⟩ ?_
        apply Exists.intro
        refine ⟨fun wx hx => ?_, ?_⟩
        · obtain ⟨x1, x2⟩ := hx
          repeat (refine seI_step rfl (fun K hK => ?_); go_simp; refine hK _ ?_; clear hK K)
          exact seI_nil rfl
        refine wpTA_nil .nil ?_
        go_wp2
        refine NoPanic.normal ?_
        go_wp2
        go_roundw
        case rel => exact ⟨(i : Int) - 1, by omega, by omega, rfl, by rw [show ((i : Int) - 1 + 1).toNat = i by omega]; exact hs.out, HA.out, HBb.out, HW.out.drew⟩
        case measure => simp [intOf]
      · have hs := hid (less_apart HU2.out hxy)
        have hne : ((limb n i : Int) != (limb m i : Int)) = true := by simp; omega
        generalize limb n i = x at *
        generalize limb m i = y at *
        clear hxy
        go_wp2
        refine wp_region_early [0, 1, 2, 3, 4, 5, 6, 7, 8] [] [] (fun wx => wx.cell? ⟨w.heap.size, i, none⟩ = some (.int .u64 (x : Int)) ∧ wx.cell? ⟨w.heap.size + 1, i, none⟩ = some (.int .u64 (y : Int))) (by kernel_rfl) (by kernel_rfl) (by kernel_rfl) (by rfl) ⟨c1, c2⟩ ?_
        apply Exists.intro
        refine ⟨fun wx hx => ?_, ?_⟩
        · obtain ⟨x1, x2⟩ := hx
          repeat (refine seI_step rfl (fun K hK => ?_); go_simp; refine hK _ ?_; clear hK K)
          exact seI_nil rfl
        refine wpTA_nil .nil ?_
        go_wp2
        refine NoPanic.normal ?_
        go_wp2
        refine wp_region_early [0, 1, 2, 3, 4, 5, 6, 7, 8, 9] [] [] (fun wx => wx.cell? ⟨w.heap.size, i, none⟩ = some (.int .u64 (x : Int)) ∧ wx.cell? ⟨w.heap.size + 1, i, none⟩ = some (.int .u64 (y : Int))) (by kernel_rfl) (by kernel_rfl) (by kernel_rfl) (by rfl) ⟨c1, c2⟩ ?_
        apply Exists.intro
        refine ⟨fun wx hx => ?_, ?_⟩
        · obtain ⟨x1, x2⟩ := hx
          repeat (refine seI_step rfl (fun K hK => ?_); go_simp; refine hK _ ?_; clear hK K)
          exact seI_nil rfl
        refine wpTA_nil .nil ?_
        go_wp2
        refine NoPanic.normal ?_
        go_wp2
        go_ret
        exact ⟨by rw [← hs.out]; simp, HW.out.drew.drew⟩
    · obtain rfl : j = -1 := by omega
      have hs := hid (show n = m from all_same HU.out)
      go_wp2
      go_ret
      exact ⟨by rw [hs.out]; simp, HW.out⟩
theorem all_limbs (n : Nat) (hn : n < lim) : ((List.range 10).all fun i => ((limb n i : Nat) : Int) == 0) = decide (n = 0) := by
  by_cases h : n = 0
  · subst h
    rw [decide_eq_true rfl, List.all_eq_true]
    intro i _
    rw [limb_zero]; rfl
  · rw [decide_eq_false h, List.all_eq_false]
    refine Classical.byContradiction fun hc => h (limb_all_zero hn fun i hi => Classical.byContradiction fun h0 => hc ⟨i, List.mem_range.2 hi, ?_⟩)
    simp; omega
set_option maxRecDepth 100000 in
set_option maxHeartbeats 1000000 in
theorem rzero_any (n : Nat) (na : Bool) (hn : n < lim) (w : World) :
    Calls Try.prog 92 #[bigM n na] w fun e w' => e = .returned (.bool (decide (n = 0))) ∧ Below w.heap.size w w' := by
  have heq : ∀ W : World, (Op.equalIn 10000 121 (.agg #[uV (limb n 0), uV (limb n 1), uV (limb n 2), uV (limb n 3), uV (limb n 4), uV (limb n 5), uV (limb n 6), uV (limb n 7), uV (limb n 8), uV (limb n 9)])
      (.agg #[.int .u64 0, .int .u64 0, .int .u64 0, .int .u64 0, .int .u64 0, .int .u64 0, .int .u64 0, .int .u64 0, .int .u64 0, .int .u64 0])).run Try.prog W = .ok (decide (n = 0)) W := fun W => by
    have h := run_equalIn_arr (P := Try.prog) 9998 Try.underlying121 Try.underlying50 (fun w => by kernel_rfl) #[uV (limb n 0), uV (limb n 1), uV (limb n 2), uV (limb n 3), uV (limb n 4), uV (limb n 5), uV (limb n 6), uV (limb n 7), uV (limb n 8), uV (limb n 9)]
      #[.int .u64 0, .int .u64 0, .int .u64 0, .int .u64 0, .int .u64 0, .int .u64 0, .int .u64 0, .int .u64 0, .int .u64 0, .int .u64 0] (fun i => ((limb n i : Nat) : Int)) (fun _ => 0) (cases10 ⟨rfl, rfl⟩ ⟨rfl, rfl⟩ ⟨rfl, rfl⟩ ⟨rfl, rfl⟩ ⟨rfl, rfl⟩ ⟨rfl, rfl⟩ ⟨rfl, rfl⟩ ⟨rfl, rfl⟩ ⟨rfl, rfl⟩ ⟨rfl, rfl⟩) W
    rw [all_limbs n hn] at h
    exact h
  unfold bigM arr
  clear hn
  generalize decide (n = 0) = r at *
  go_enter Try.func92, Try.ntmps92
  go_wp2
  go_ret
  exact ⟨by simp, Below_one _⟩
end Go.Proofs.Ytecmpjccdhmeeaa
end
section
/- 'Plus', 'Of', 'Minus', 'Int' of the reference, walked. -/
namespace Go.Proofs.Ytecmpjccdhmeeaa
open Go.RowKit
theorem loadBig {ops : Array Oper} {rest : List Oper} {o : Oper} {a : Act} {w : World} {Q : Exit → Act → World → Prop} (hgd : o.guard = none) (x : Operand) (ho : o.op = .load 123 x) (g : Nat) (hx : a.eval x = .pointer (some ⟨g, 0, none⟩))
    (f : Nat → Nat) (neg : Bool) (hg : Blk w g (arr f neg) 123) (h : wpList Try.prog ops Q rest (a.put o.dst (.agg (arr f neg))) w) : wpList Try.prog ops Q (o :: rest) a w :=
  wpList_load_row hgd 123 x ho g hx 123 (arr f neg) (0, 0) _ hg Try.underlying123 rfl (by kernel_rfl) h
theorem storeBig {ops : Array Oper} {rest : List Oper} {o : Oper} {a : Act} {w : World} {Q : Exit → Act → World → Prop} (hgd : o.guard = none) (x y : Operand) (ho : o.op = .store 123 x y) (g : Nat) (f : Nat → Nat) (neg : Bool) (hx : a.eval x = .pointer (some ⟨g, 0, none⟩)) (hy : a.eval y = .agg (arr f neg))
    (old : Array Value) (hg : Blk w g old 123) (ho2 : old.size = 11) (h : wpList Try.prog ops Q rest (a.put o.dst undef) (w.setRow g (arr f neg))) : wpList Try.prog ops Q (o :: rest) a w :=
  wpList_store_row hgd 123 x y ho g (arr f neg) hx hy 123 old hg (by kernel_rfl) ho2 (arr_one _ _) h
theorem retBig {fn : Func} {p : Tmp} (h : fn.results = #[.cell p 123]) (tmps : Array Value) (w : World) (g : Nat) (f : Nat → Nat) (neg : Bool) (hp : tmps.getD p undef = .pointer (some ⟨g, 0, none⟩)) (hg : Blk w g (arr f neg) 123) : (results fn tmps).run Try.prog w = .ok (.agg (arr f neg)) w :=
  results_cell_row h tmps w g 123 (arr f neg) (0, 0) _ hp hg Try.underlying123 rfl (by kernel_rfl)
set_option maxRecDepth 100000 in
set_option maxHeartbeats 1000000 in
theorem plus_same (n m : Nat) (na : Bool) (w : World) :
    Calls Try.prog 75 #[bigM n na, bigM m na] w fun e w' => e = .returned (bigM (n + m) na) ∧ Below w.heap.size w w' := by
  unfold bigM
  have hn := arr_neg (limb n) na
  have hm := arr_neg (limb m) na
  go_enter Try.func75, Try.ntmps75
  have hbool : ((na == na) = true) := by simp
  obtain ⟨h1, h2, h3, hb⟩ := al3 w (.cells (arr (limb n) na) 123) (.cells (arr (limb m) na) 123) (.cells (arr (fun _ => 0) false) 123)
  rw [arr_zero] at h1 h2 h3 hb
  have H1 := hid h1; have H2 := hid h2; have H3 := hid h3; have HB := hid hb
  clear h1 h2 h3 hb
  go_wp2_with (first
    | (refine loadBig rfl (.tmp 2) rfl w.heap.size rfl (limb n) na H1.out ?_)
    | (refine loadBig rfl (.tmp 3) rfl (w.heap.size + 1) rfl (limb m) na H2.out ?_))
  refine (radd_any n m na na _).mono ?_
  rintro e W1 ⟨rfl, hb1⟩
  have K3 := hid (Blk.below (show Blk _ (w.heap.size + 1 + 1) _ 123 from H3.out) hb1 (Nat.le_refl _))
  have B1 := hid (HB.out.trans (hb1.mono HB.out.size))
  clear hb1 hn hm hbool H1 H2 H3 HB
  go_wp2_with (refine storeBig rfl (.tmp 4) (.tmp 13) rfl (w.heap.size + 1 + 1) (limb (n + m)) na rfl rfl _ (K3.out) rfl ?_)
  refine bodyPost_ret (retBig rfl _ _ (w.heap.size + 1 + 1) (limb (n + m)) na rfl (K3.out.setRow _)) rfl ⟨rfl, ?_⟩
  exact B1.out.trans (Below_setRow (Below.refl _ _) (by omega) _)
/-- What is left of two numbers of unlike signs. -/
def diffM (n m : Nat) (na nb : Bool) : Value := if n < m then bigM (m - n) nb else bigM (n - m) (if n = m then false else na)
set_option maxRecDepth 100000 in
set_option maxHeartbeats 2000000 in
theorem plus_less (n m : Nat) (na nb : Bool) (hne : na ≠ nb) (hn3 : n < lim) (hm3 : m < lim) (hlt : n < m) (w : World) :
    Calls Try.prog 75 #[bigM n na, bigM m nb] w fun e w' => e = .returned (bigM (m - n) nb) ∧ Below w.heap.size w w' := by
  unfold bigM
  have hn := arr_neg (limb n) na
  have hm := arr_neg (limb m) nb
  have hbool : ((na == nb) = false) := by simpa using hne
  have HN := hid hn3; have HM := hid hm3; have HL := hid hlt
  clear hn3 hm3 hne hlt
  go_enter Try.func75, Try.ntmps75
  obtain ⟨h1, h2, h3, hb⟩ := al3 w (.cells (arr (limb n) na) 123) (.cells (arr (limb m) nb) 123) (.cells (arr (fun _ => 0) false) 123)
  rw [arr_zero] at h1 h2 h3 hb
  have H1 := hid h1; have H2 := hid h2; have H3 := hid h3; have HB := hid hb
  clear h1 h2 h3 hb
  go_wp2_with (first
    | (refine loadBig rfl (.tmp 2) rfl w.heap.size rfl (limb n) na H1.out ?_)
    | (refine loadBig rfl (.tmp 3) rfl (w.heap.size + 1) rfl (limb m) nb H2.out ?_))
  refine (rless_any n m na nb HN.out HM.out _).mono ?_
  rintro e W1 ⟨rfl, hb1⟩
  rw [decide_eq_true HL.out]
  have K1 := hid (Blk.below (show Blk _ w.heap.size _ 123 from H1.out) hb1 (Nat.le_refl _))
  have K2 := hid (Blk.below (show Blk _ (w.heap.size + 1) _ 123 from H2.out) hb1 (Nat.le_refl _))
  have K3 := hid (Blk.below (show Blk _ (w.heap.size + 1 + 1) _ 123 from H3.out) hb1 (Nat.le_refl _))
  have B1 := hid (HB.out.trans (hb1.mono HB.out.size))
  clear hb1 hn hm hbool H1 H2 H3 HB
  have L2 := hid ((K2.out.otherRow (k := w.heap.size) (arr (limb m) nb) (by omega)).setRow (arr (limb n) na))
  have L1 := hid ((K1.out.setRow (arr (limb m) nb)).otherRow (k := w.heap.size + 1) (arr (limb n) na) (by omega))
  have L3 := hid ((K3.out.otherRow (k := w.heap.size) (arr (limb m) nb) (by omega)).otherRow (k := w.heap.size + 1) (arr (limb n) na) (by omega))
  have LB := hid (Below_setRow (Below_setRow B1.out (Nat.le_refl _) (arr (limb m) nb)) (show w.heap.size ≤ w.heap.size + 1 by omega) (arr (limb n) na))
  go_wp2_with (first
    | (refine loadBig rfl (.tmp 3) rfl (w.heap.size + 1) rfl (limb m) nb K2.out ?_)
    | (refine loadBig rfl (.tmp 2) rfl w.heap.size rfl (limb n) na K1.out ?_)
    | (refine storeBig rfl (.tmp 2) (.tmp 17) rfl w.heap.size (limb m) nb rfl rfl _ (K1.out) rfl ?_)
    | (refine storeBig rfl (.tmp 3) (.tmp 18) rfl (w.heap.size + 1) (limb n) na rfl rfl _ ((K2.out.otherRow _ (by omega))) rfl ?_)
    | (refine loadBig rfl (.tmp 2) rfl w.heap.size rfl (limb m) nb L1.out ?_)
    | (refine loadBig rfl (.tmp 3) rfl (w.heap.size + 1) rfl (limb n) na L2.out ?_))
  generalize (W1.setRow w.heap.size (arr (limb m) nb)).setRow (w.heap.size + 1) (arr (limb n) na) = W2 at *
  refine (rsub_any m n nb na (Nat.le_of_lt HL.out) _).mono ?_
  rintro e W3 ⟨rfl, hb3⟩
  clear K1 K2 K3 L1 L2
  have M3 := hid (L3.out.below hb3 (Nat.le_refl _))
  have MB := hid (LB.out.trans (hb3.mono LB.out.size))
  clear hb3 L3
  have hsz : ∀ k, k < w.heap.size + 1 + 1 + 1 → k < W3.heap.size ∨ k = w.heap.size + 1 + 1 := fun k hk => by have := M3.out.lt; omega
  have HS := hid hsz; clear hsz
  go_wp2_with (first
    | (refine storeBig rfl (.tmp 5) (.tmp 21) rfl W3.heap.size (limb (m - n)) nb rfl rfl _ (.new rfl) rfl ?_)
    | (refine loadBig rfl (.tmp 5) rfl W3.heap.size rfl (limb (m - n)) nb ((Blk.new rfl).setRow _) ?_))
  refine (rzero_any (m - n) nb (by have := HM.out; omega) _).mono ?_
  rintro e W4 ⟨rfl, hb4⟩
  rw [decide_eq_false (show ¬ (m - n = 0) by have := HL.out; omega)]
  have N5 := hid (Blk.below ((Blk.new (w := W3) rfl).setRow (arr (limb (m - n)) nb)) hb4 (Nat.le_refl _))
  have N3 := hid (Blk.below ((M3.out.alloc _).otherRow (arr (limb (m - n)) nb) (by have := M3.out.lt; omega)) hb4 (Nat.le_refl _))
  have NB := hid ((Below_setRow (MB.out.alloc MB.out.size _) (g := W3.heap.size) MB.out.size (arr (limb (m - n)) nb)).trans (hb4.mono (by have := MB.out.size; simp; omega)))
  clear hb4
  go_wp2_with (first
    | (refine loadBig rfl (.tmp 5) rfl W3.heap.size rfl (limb (m - n)) nb N5.out ?_)
    | (refine storeBig rfl (.tmp 4) (.tmp 25) rfl (w.heap.size + 1 + 1) (limb (m - n)) nb rfl rfl _ N3.out rfl ?_))
  refine bodyPost_ret (retBig rfl _ _ (w.heap.size + 1 + 1) (limb (m - n)) nb rfl (N3.out.setRow _)) rfl ⟨rfl, ?_⟩
  exact NB.out.trans (Below_setRow (Below.refl _ _) (by omega) _)
set_option maxRecDepth 100000 in
set_option maxHeartbeats 2000000 in
theorem plus_ge (n m : Nat) (na nb : Bool) (hne : na ≠ nb) (hn3 : n < lim) (hm3 : m < lim) (hlt : m ≤ n) (r : Bool) (hr0 : r = if n = m then false else na) (w : World) :
    Calls Try.prog 75 #[bigM n na, bigM m nb] w fun e w' => e = .returned (bigM (n - m) r) ∧ Below w.heap.size w w' := by
  unfold bigM
  have hn := arr_neg (limb n) na
  have hm := arr_neg (limb m) nb
  have hbool : ((na == nb) = false) := by simpa using hne
  have HN := hid hn3; have HM := hid hm3; have HL := hid hlt; have HR := hid hr0
  clear hn3 hm3 hne hlt hr0
  go_enter Try.func75, Try.ntmps75
  obtain ⟨h1, h2, h3, hb⟩ := al3 w (.cells (arr (limb n) na) 123) (.cells (arr (limb m) nb) 123) (.cells (arr (fun _ => 0) false) 123)
  rw [arr_zero] at h1 h2 h3 hb
  have H1 := hid h1; have H2 := hid h2; have H3 := hid h3; have HB := hid hb
  clear h1 h2 h3 hb
  go_wp2_with (first
    | (refine loadBig rfl (.tmp 2) rfl w.heap.size rfl (limb n) na H1.out ?_)
    | (refine loadBig rfl (.tmp 3) rfl (w.heap.size + 1) rfl (limb m) nb H2.out ?_))
  refine (rless_any n m na nb HN.out HM.out _).mono ?_
  rintro e W1 ⟨rfl, hb1⟩
  rw [decide_eq_false (show ¬ n < m by have := HL.out; omega)]
  have K1 := hid (Blk.below (show Blk _ w.heap.size _ 123 from H1.out) hb1 (Nat.le_refl _))
  have K2 := hid (Blk.below (show Blk _ (w.heap.size + 1) _ 123 from H2.out) hb1 (Nat.le_refl _))
  have K3 := hid (Blk.below (show Blk _ (w.heap.size + 1 + 1) _ 123 from H3.out) hb1 (Nat.le_refl _))
  have B1 := hid (HB.out.trans (hb1.mono HB.out.size))
  clear hb1 hn hm hbool H1 H2 H3 HB
  go_wp2_with (first
    | (refine loadBig rfl (.tmp 2) rfl w.heap.size rfl (limb n) na K1.out ?_)
    | (refine loadBig rfl (.tmp 3) rfl (w.heap.size + 1) rfl (limb m) nb K2.out ?_))
  refine (rsub_any n m na nb HL.out _).mono ?_
  rintro e W3 ⟨rfl, hb3⟩
  have M3 := hid (K3.out.below hb3 (Nat.le_refl _))
  have MB := hid (B1.out.trans (hb3.mono B1.out.size))
  clear hb3 K1 K2 K3
  go_wp2_with (first
    | (refine storeBig rfl (.tmp 5) (.tmp 21) rfl W3.heap.size (limb (n - m)) na rfl rfl _ (.new rfl) rfl ?_)
    | (refine loadBig rfl (.tmp 5) rfl W3.heap.size rfl (limb (n - m)) na ((Blk.new rfl).setRow _) ?_))
  refine (rzero_any (n - m) na (by have := HN.out; omega) _).mono ?_
  rintro e W4 ⟨rfl, hb4⟩
  have N5 := hid (Blk.below ((Blk.new (w := W3) rfl).setRow (arr (limb (n - m)) na)) hb4 (Nat.le_refl _))
  have N3 := hid (Blk.below ((M3.out.alloc _).otherRow (arr (limb (n - m)) na) (by have := M3.out.lt; omega)) hb4 (Nat.le_refl _))
  have NB := hid ((Below_setRow (MB.out.alloc MB.out.size _) (g := W3.heap.size) MB.out.size (arr (limb (n - m)) na)).trans (hb4.mono (by have := MB.out.size; simp; omega)))
  have hl5 := M3.out.lt
  have HL5 := hid hl5
  clear hb4 hl5
  by_cases heq : n = m
  · have hl := HL.out
    obtain rfl : r = false := by rw [HR.out, if_pos heq]
    rw [decide_eq_true (show n - m = 0 by omega)]
    clear heq hl
    have hc : W4.cell? ⟨W3.heap.size, 10, none⟩ = some (.bool na) := N5.out.cell 10
    have hf := N5.out.frozen 10
    have P5 := hid ((N5.out.setCell 10 (.bool false)))
    have P3 := hid (N3.out.other (k := W3.heap.size) (i := 10) (v := .bool false) (by have := HL5.out; omega))
    have PB := hid (NB.out.setCell (p := ⟨W3.heap.size, 10, none⟩) MB.out.size (.bool false))
    rw [arr_setNeg] at P5
    go_wp2_with (first
      | (refine loadBig rfl (.tmp 5) rfl W3.heap.size rfl (limb (n - m)) false P5.out ?_)
      | (refine storeBig rfl (.tmp 4) (.tmp 25) rfl (w.heap.size + 1 + 1) (limb (n - m)) false rfl rfl _ P3.out rfl ?_))
    refine bodyPost_ret (retBig rfl _ _ (w.heap.size + 1 + 1) (limb (n - m)) false rfl (P3.out.setRow _)) rfl ⟨rfl, ?_⟩
    exact PB.out.trans (Below_setRow (Below.refl _ _) (by omega) _)
  · have hl := HL.out
    obtain rfl : na = r := by rw [HR.out, if_neg heq]
    rw [decide_eq_false (show ¬ n - m = 0 by omega)]
    clear heq hl
    go_wp2_with (first
      | (refine loadBig rfl (.tmp 5) rfl W3.heap.size rfl (limb (n - m)) na N5.out ?_)
      | (refine storeBig rfl (.tmp 4) (.tmp 25) rfl (w.heap.size + 1 + 1) (limb (n - m)) na rfl rfl _ N3.out rfl ?_))
    refine bodyPost_ret (retBig rfl _ _ (w.heap.size + 1 + 1) (limb (n - m)) na rfl (N3.out.setRow _)) rfl ⟨rfl, ?_⟩
    exact NB.out.trans (Below_setRow (Below.refl _ _) (by omega) _)
theorem rPlus_any (x y : Int) (hx : 2 * x.natAbs < lim) (hy : 2 * y.natAbs < lim) (w : World) :
    Calls Try.prog 75 #[bigOf x, bigOf y] w fun e w' => e = .returned (bigOf (x + y)) ∧ Below w.heap.size w w' := by
  have p1 : x.natAbs < lim := by omega
  have p2 : y.natAbs < lim := by omega
  by_cases h : decide (x < 0) = decide (y < 0)
  · refine (show Calls Try.prog 75 #[bigM x.natAbs (decide (x < 0)), bigM y.natAbs (decide (y < 0))] w _ from ?_)
    rw [← h]
    refine (plus_same x.natAbs y.natAbs (decide (x < 0)) w).mono ?_
    rintro e w' ⟨rfl, hb⟩
    refine ⟨?_, hb⟩
    unfold bigOf
    have h2 : (x < 0) ↔ (y < 0) := by simpa using h
    rw [show (x + y).natAbs = x.natAbs + y.natAbs by omega, show decide (x + y < 0) = decide (x < 0) by rw [decide_eq_decide]; omega]
  · have h2 : ¬ ((x < 0) ↔ (y < 0)) := by simpa using h
    by_cases hlt : x.natAbs < y.natAbs
    · refine (plus_less x.natAbs y.natAbs _ _ h p1 p2 hlt w).mono ?_
      rintro e w' ⟨rfl, hb⟩
      refine ⟨?_, hb⟩
      unfold bigOf
      rw [show (x + y).natAbs = y.natAbs - x.natAbs by omega, show decide (x + y < 0) = decide (y < 0) by rw [decide_eq_decide]; omega]
    · refine (plus_ge x.natAbs y.natAbs _ _ h p1 p2 (by omega) _ rfl w).mono ?_
      rintro e w' ⟨rfl, hb⟩
      refine ⟨?_, hb⟩
      unfold bigOf
      rw [show (x + y).natAbs = x.natAbs - y.natAbs by omega]
      split
      · rw [show decide (x + y < 0) = false by rw [decide_eq_false_iff_not]; omega]
      · rw [show decide (x + y < 0) = decide (x < 0) by rw [decide_eq_decide]; omega]
end Go.Proofs.Ytecmpjccdhmeeaa
end
section
/- 'Of', 'Minus', 'Int' of the reference, walked. -/
namespace Go.Proofs.Ytecmpjccdhmeeaa
open Go.RowKit
theorem ofArr (u : Nat) (h : u < 18446744073709551616) (neg : Bool) : arr (limb u) neg = #[.int .u64 ((u % 4294967296 : Nat) : Int), .int .u64 ((u / 4294967296 : Nat) : Int), .int .u64 0, .int .u64 0, .int .u64 0, .int .u64 0, .int .u64 0, .int .u64 0, .int .u64 0, .int .u64 0, .bool neg] := by
  have hz : ∀ i, 2 ≤ i → limb u i = 0 := fun i hi => limb_small (Nat.lt_of_lt_of_le h (Nat.pow_le_pow_right (n := 2) (by omega) (show 64 ≤ 32 * i by omega)))
  have h0 : limb u 0 = u % 4294967296 := by unfold limb; simp
  have h1 : limb u 1 = u / 4294967296 := by unfold limb; rw [show 2 ^ (32 * 1) = 4294967296 from rfl]; omega
  unfold arr uV
  rw [h0, h1, hz 2 (by omega), hz 3 (by omega), hz 4 (by omega), hz 5 (by omega), hz 6 (by omega), hz 7 (by omega), hz 8 (by omega), hz 9 (by omega)]
  rfl
set_option maxRecDepth 100000 in
set_option maxHeartbeats 1000000 in
theorem rOf_any (n : Int) (w : World) (h1 : -9223372036854775808 ≤ n) (h2 : n ≤ 9223372036854775807) :
    Calls Try.prog 72 #[.int .i64 n] w fun e w' => e = .returned (bigOf n) ∧ Below w.heap.size w w' := by
  by_cases hn : 0 ≤ n
  · obtain ⟨u, rfl⟩ := Int.eq_ofNat_of_zero_le hn
    have ha := hid (ofArr u (by omega) false)
    have hm := u64_mask u (by omega)
    have hf : ¬ ((u : Int) < 0) := by omega
    go_enter Try.func72, Try.ntmps72
    go_wp2
    refine bodyPost_ret (retBig rfl _ _ w.heap.size (limb u) false rfl ?_) rfl ⟨?_, (Below_one _).alloc (by simp) _⟩
    · rw [ha.out]
      exact al_old (al_new rfl)
    · unfold bigOf bigM
      rw [show ((u : Int)).natAbs = u by omega, show decide ((u : Int) < 0) = false by simp]
  · obtain ⟨u, rfl⟩ : ∃ u : Nat, n = -(u : Int) := ⟨n.natAbs, by omega⟩
    have ha := hid (ofArr u (by omega) true)
    have hm := u64_mask u (by omega)
    have hw : IntKind.u64.wrap (-(u : Int)) = 18446744073709551616 - (u : Int) := by rw [IntKind.wrap_u64]; omega
    have hw2 : IntKind.u64.wrap (-(18446744073709551616 - (u : Int))) = (u : Int) := by rw [IntKind.wrap_u64]; omega
    have hlt : (-(u : Int) < 0) = True := by simp; omega
    go_enter Try.func72, Try.ntmps72
    go_wp2
    refine bodyPost_ret (retBig rfl _ _ w.heap.size (limb u) true rfl ?_) rfl ⟨?_, (Below_one _).alloc (by simp) _⟩
    · rw [ha.out]
      exact al_old (al_new rfl)
    · unfold bigOf bigM
      rw [show (-(u : Int)).natAbs = u by omega, show decide (-(u : Int) < 0) = true by simp; omega]
def fitB (z : Int) : Bool := decide (-9223372036854775808 ≤ z ∧ z ≤ 9223372036854775807)
/-- A number and whether it is an int. -/
def fitV (z : Int) : Value := .tuple #[.int .i64 (if fitB z = true then z else 0), .bool (fitB z)]
theorem fitV_yes {z : Int} (h1 : -9223372036854775808 ≤ z) (h2 : z ≤ 9223372036854775807) : fitV z = .tuple #[.int .i64 z, .bool true] := by
  have : fitB z = true := by unfold fitB; simp [h1, h2]
  unfold fitV; rw [this]; rfl
theorem fitV_no {z : Int} (h : z < -9223372036854775808 ∨ 9223372036854775807 < z) : fitV z = .tuple #[.int .i64 0, .bool false] := by
  have : fitB z = false := by unfold fitB; simp; omega
  unfold fitV; rw [this]; rfl
theorem high_zero {n : Nat} (hn : n < lim) (h : ∀ k, 2 ≤ k → k < 10 → limb n k = 0) : n < 18446744073709551616 := by
  have e : ∀ k, k ≤ 8 → n / 2 ^ (32 * (10 - k)) = 0 := by
    intro k
    induction k with
    | zero => intro _; rw [Nat.sub_zero]; exact lim_div hn
    | succ k ih =>
      intro hk
      rw [div_limb, show 10 - (k + 1) + 1 = 10 - k by omega, ih (by omega), h _ (by omega) (by omega)]
  have := e 8 (by omega)
  have h2 : n / 18446744073709551616 = 0 := this
  omega
theorem or_limbs (n : Nat) (h : n < 18446744073709551616) : bits BinOp.or IntKind.u64 ((limb n 0 : Nat) : Int) (((limb n 1 : Nat) : Int) * 4294967296) = (n : Int) := by
  have h0 : limb n 0 = n % 4294967296 := by unfold limb; simp
  have h1 : limb n 1 = n / 4294967296 := by unfold limb; rw [show 2 ^ (32 * 1) = 4294967296 from rfl]; omega
  rw [h0, h1, show ((n / 4294967296 : Nat) : Int) * 4294967296 = ((n / 4294967296 * 4294967296 : Nat) : Int) by omega, u64_or_nat _ _ (by omega) (by omega), Nat.or_comm, nat_join 32 _ _ (by omega) (by omega)]
  omega
set_option maxRecDepth 100000 in
set_option maxHeartbeats 1000000 in
theorem rInt_any (n : Nat) (neg : Bool) (hn : n < lim) (w : World) (v : Value) (hv : v = fitV (if neg = true then -(n : Int) else n)) :
    Calls Try.prog 74 #[bigM n neg] w fun e w' => e = .returned v ∧ Below w.heap.size w w' := by
  unfold bigM
  have HV := hid hv; have HN := hid hn
  clear hv hn
  go_enter Try.func74, Try.ntmps74
  go_wp2
  have hB := hid (Blk.new (w := w) (cs := arr (limb n) neg) (t := 123) rfl)
  have hb := hid (Below_one (w := w) (.cells (arr (limb n) neg) 123))
  generalize w.alloc (.cells (arr (limb n) neg) 123) = W at *
  go_loop [4,6,7,8,9,10,11,12,13,14] (fun t4 _ _ _ _ _ _ _ _ _ => ∃ i : Nat, 2 ≤ i ∧ i ≤ 10 ∧ t4 = .int .i64 i ∧ ∀ k, 2 ≤ k → k < i → limb n k = 0) (fun t4 _ _ _ _ _ _ _ _ _ => 10 - (intOf t4).toNat)
  case atStart => exact ⟨2, by omega, by omega, rfl, fun k _ _ => by omega⟩
  case round =>
    obtain ⟨i, hi2, hi, rfl, hz⟩ := hrel
    have HZ := hid hz; clear hz
    by_cases hlt : i < 10
    · have hc : W.cell? ⟨w.heap.size, i, none⟩ = some (.int .u64 (limb n i : Nat)) := by rw [hB.out.cell, arr_get _ _ i hlt]
      by_cases h0 : limb n i = 0
      · rw [h0] at hc
        have H0 := hid h0; clear h0
        go_wp2
        go_round
        case rel => exact ⟨i + 1, by omega, by omega, by go_num, fun k hk hk2 => by
          by_cases hki : k = i
          · rw [hki]; exact H0.out
          · exact HZ.out k hk (by omega)⟩
        case measure => simp [intOf]; omega
      · have hne : (((limb n i : Nat) : Int) != 0) = true := by simp; omega
        have hbig : 18446744073709551616 ≤ n := by
          refine Classical.byContradiction fun hc => h0 (limb_small (Nat.lt_of_lt_of_le (show n < 2 ^ 64 by omega) (Nat.pow_le_pow_right (by omega) (by omega))))
        obtain rfl : v = .tuple #[.int .i64 0, .bool false] := by rw [HV.out]; split <;> exact fitV_no (by omega)
        clear HV h0 hbig
        generalize limb n i = x at *
        go_wp2
        go_ret2
        exact ⟨rfl, hb.out⟩
    · obtain rfl : i = 10 := by omega
      have hsm := high_zero HN.out HZ.out
      have c0 : W.cell? ⟨w.heap.size, 0, none⟩ = some (.int .u64 (limb n 0 : Nat)) := by rw [hB.out.cell, arr_get _ _ 0 (by omega)]
      have c1 : W.cell? ⟨w.heap.size, 1, none⟩ = some (.int .u64 (limb n 1 : Nat)) := by rw [hB.out.cell, arr_get _ _ 1 (by omega)]
      have c2 : W.cell? ⟨w.heap.size, 10, none⟩ = some (.bool neg) := by rw [hB.out.cell, arr_neg]
      have l0 := limb_lt n 0
      have l1 := limb_lt n 1
      have hor := or_limbs n hsm
      have HSM := hid hsm; clear hsm
      generalize limb n 0 = x0 at *
      generalize limb n 1 = x1 at *
      cases neg with
      | true =>
        by_cases hbig : (9223372036854775808 : Int) < (n : Int)
        · obtain rfl : v = .tuple #[.int .i64 0, .bool false] := by rw [HV.out]; simp; exact fitV_no (by omega)
          go_wp2
          go_ret2
          exact ⟨rfl, hb.out⟩
        · obtain rfl : v = .tuple #[.int .i64 (-(n : Int)), .bool true] := by rw [HV.out]; simp; exact fitV_yes (by omega) (by omega)
          have hw : wrap64 (IntKind.u64.wrap (-(n : Int))) = -(n : Int) := by rw [IntKind.wrap_u64]; unfold wrap64; omega
          go_wp2
          go_ret2
          exact ⟨rfl, hb.out⟩
      | false =>
        by_cases hbig : (9223372036854775808 : Int) ≤ (n : Int)
        · obtain rfl : v = .tuple #[.int .i64 0, .bool false] := by rw [HV.out]; simp; exact fitV_no (by omega)
          go_wp2
          go_ret2
          exact ⟨rfl, hb.out⟩
        · obtain rfl : v = .tuple #[.int .i64 (n : Int), .bool true] := by rw [HV.out]; simp; exact fitV_yes (by omega) (by omega)
          go_wp2
          go_ret2
          exact ⟨rfl, hb.out⟩
theorem rIntZ_any (z : Int) (hz : z.natAbs < lim) (w : World) : Calls Try.prog 74 #[bigOf z] w fun e w' => e = .returned (fitV z) ∧ Below w.heap.size w w' :=
  rInt_any z.natAbs (decide (z < 0)) hz w (fitV z) (by
    by_cases h : z < 0
    · rw [decide_eq_true h, if_pos rfl, show -((z.natAbs : Nat) : Int) = z by omega]
    · rw [decide_eq_false h, if_neg (by simp), show ((z.natAbs : Nat) : Int) = z by omega])
/-- The same load behind a guard that lets it run. -/
theorem loadBigG {ops : Array Oper} {rest : List Oper} {o : Oper} {a : Act} {w : World} {Q : Exit → Act → World → Prop} (hgd : Region.wanted o (yielded ops a.tmps) = true) (x : Operand) (ho : o.op = .load 123 x) (g : Nat) (hx : a.eval x = .pointer (some ⟨g, 0, none⟩))
    (f : Nat → Nat) (neg : Bool) (hg : Blk w g (arr f neg) 123) (h : wpList Try.prog ops Q rest (a.put o.dst (.agg (arr f neg))) w) : wpList Try.prog ops Q (o :: rest) a w :=
  wpList_step fun _ hK => by
    rw [if_pos hgd]
    exact wp_load_row 123 x ho g hx 123 (arr f neg) (0, 0) _ hg Try.underlying123 rfl (by kernel_rfl) (hK _ _ h)
end Go.Proofs.Ytecmpjccdhmeeaa
end
section
/- 'Add', 'Sub', 'Mul' of the code, walked. -/
namespace Go.Proofs.Ytecmpjccdhmeeaa
open Go.RowKit
set_option maxHeartbeats 2000000 in
theorem asize_any (a : Int) (ha1 : -9223372036854775808 ≤ a) (ha2 : a ≤ 9223372036854775807) (w : World) :
    Calls Try.prog 91 #[.int .i64 a] w fun e w' => e = .returned (.int .u64 a.natAbs) ∧ w' = w := by
  by_cases hA : a < 0
  · have hw : IntKind.u64.wrap a = a + 18446744073709551616 := by rw [IntKind.wrap_u64]; omega
    have hw2 : IntKind.u64.wrap (-(a + 18446744073709551616)) = ((a.natAbs : Nat) : Int) := by rw [IntKind.wrap_u64]; omega
    go_enter Try.func91, Try.ntmps91
    go_wp2
    go_ret
    exact ⟨rfl, rfl⟩
  · have hw : IntKind.u64.wrap a = ((a.natAbs : Nat) : Int) := by rw [IntKind.wrap_u64]; omega
    go_enter Try.func91, Try.ntmps91
    go_wp2
    go_ret
    exact ⟨rfl, rfl⟩
theorem maskN (a : Nat) (ha : a < 18446744073709551616) : bits .and .u64 (a : Int) 4294967295 = ((a % 4294967296 : Nat) : Int) := u64_mask a ha
theorem divN (a : Nat) : (a : Int) / 4294967296 = ((a / 4294967296 : Nat) : Int) := by omega
theorem mulN (a b : Nat) : (a : Int) * (b : Int) = ((a * b : Nat) : Int) := (Int.natCast_mul a b).symm
theorem addN (a b : Nat) : (a : Int) + (b : Int) = ((a + b : Nat) : Int) := (Int.natCast_add a b).symm
theorem wrapN (a : Nat) (ha : a < 18446744073709551616) : IntKind.u64.wrap (a : Int) = (a : Int) := by rw [IntKind.wrap_u64]; omega
theorem wrapM (a : Nat) : IntKind.u64.wrap (a : Int) = ((a % 18446744073709551616 : Nat) : Int) := by rw [IntKind.wrap_u64]; omega
set_option maxHeartbeats 2000000 in
theorem Mul64_any (x y : Nat) (hx : x < 18446744073709551616) (hy : y < 18446744073709551616) (w : World) :
    Calls Try.prog 90 #[.int .u64 x, .int .u64 y] w fun e w' => e = .returned (.tuple #[.int .u64 ((x * y / 18446744073709551616 : Nat) : Int), .int .u64 ((x * y % 18446744073709551616 : Nat) : Int)]) ∧ w' = w := by
  obtain ⟨bd, bt, bw, hhi⟩ := Lib.mul64_hi x y hx hy
  have ba := Lib.half_mul_le (a := x / 4294967296) (b := y / 4294967296) (by omega) (by omega)
  have bb := Lib.half_mul_le (a := x / 4294967296) (b := y % 4294967296) (by omega) (by omega)
  have bc := Lib.half_mul_le (a := x % 4294967296) (b := y / 4294967296) (by omega) (by omega)
  have ba' : x / 4294967296 * (y / 4294967296) < 18446744073709551616 := by omega
  have bb' : x / 4294967296 * (y % 4294967296) < 18446744073709551616 := by omega
  have bc' : x % 4294967296 * (y / 4294967296) < 18446744073709551616 := by omega
  have bh1 : x / 4294967296 * (y / 4294967296) + (x / 4294967296 * (y % 4294967296) + x % 4294967296 * (y % 4294967296) / 4294967296) / 4294967296 < 18446744073709551616 := by omega
  have bh : x / 4294967296 * (y / 4294967296) + (x / 4294967296 * (y % 4294967296) + x % 4294967296 * (y % 4294967296) / 4294967296) / 4294967296 + ((x / 4294967296 * (y % 4294967296) + x % 4294967296 * (y % 4294967296) / 4294967296) % 4294967296 + x % 4294967296 * (y / 4294967296)) / 4294967296 < 18446744073709551616 := by omega
  go_enter Try.func90, Try.ntmps90
  go_wp2
  simp only [maskN x hx, maskN y hy, divN, mulN, addN, wrapN _ bd, wrapN _ bb', wrapN _ bt, maskN _ bt, wrapN _ bc', wrapN _ bw, wrapN _ ba', wrapN _ bh1, wrapN _ bh, wrapM (x * y)]
  rw [hhi]
  go_ret2
  exact ⟨rfl, rfl⟩
set_option maxRecDepth 100000 in
set_option maxHeartbeats 2000000 in
theorem aMul_any (a b : Int) (ha1 : -9223372036854775808 ≤ a) (ha2 : a ≤ 9223372036854775807) (hb1 : -9223372036854775808 ≤ b) (hb2 : b ≤ 9223372036854775807) (w : World) (v : Value) (hv : v = fitV (a * b)) :
    Calls Try.prog 71 #[.int .i64 a, .int .i64 b] w fun e w' => e = .returned v ∧ w' = w := by
  have HV := hid hv; clear hv
  have HA := hid (show a.natAbs < 18446744073709551616 by omega)
  have HB := hid (show b.natAbs < 18446744073709551616 by omega)
  have HN := hid (Int.natAbs_mul a b)
  have HS : Hid ((a < 0 ∧ 0 ≤ b → a * b ≤ 0) ∧ (0 ≤ a ∧ b < 0 → a * b ≤ 0) ∧ (a < 0 ∧ b < 0 → 0 ≤ a * b) ∧ (0 ≤ a ∧ 0 ≤ b → 0 ≤ a * b)) := by
    refine ⟨fun h => ?_, fun h => ?_, fun h => ?_, fun h => ?_⟩
    · exact Int.mul_nonpos_of_nonpos_of_nonneg (by omega) h.2
    · exact Int.mul_nonpos_of_nonneg_of_nonpos h.1 (by omega)
    · exact Int.mul_nonneg_of_nonpos_of_nonpos (by omega) (by omega)
    · exact Int.mul_nonneg h.1 h.2
  generalize a * b = p at *
  go_enter Try.func71, Try.ntmps71
  go_wp2_with fail
  refine (asize_any a ha1 ha2 w).mono ?_
  rintro e W ⟨rfl, rfl⟩
  go_wp2_with fail
  refine (asize_any b hb1 hb2 _).mono ?_
  rintro e W ⟨rfl, rfl⟩
  go_wp2_with fail
  refine (Mul64_any a.natAbs b.natAbs HA.out HB.out _).mono ?_
  rintro e W ⟨rfl, rfl⟩
  generalize a.natAbs * b.natAbs = m at *
  have mul0 : ((m / 18446744073709551616 : Nat) : Int) = 0 → IntKind.u64.wrap 0 = 0 := fun _ => rfl
  clear mul0
  obtain ⟨H, hH⟩ : ∃ H, H = m / 18446744073709551616 := ⟨_, rfl⟩
  obtain ⟨L, hL⟩ : ∃ L, L = m % 18446744073709551616 := ⟨_, rfl⟩
  rw [← hH, ← hL]
  have M := hid (show m = H * 18446744073709551616 + L ∧ L < 18446744073709551616 by omega)
  clear hH hL HA HB
  by_cases hz : H = 0
  · subst hz
    have T := hid (show p = (m : Int) ∨ p = -(m : Int) by have := HN.out; omega)
    have G := hid (show (a < 0 ∧ 0 ≤ b ∨ 0 ≤ a ∧ b < 0 → p = -(L : Int)) ∧ (¬ (a < 0 ∧ 0 ≤ b ∨ 0 ≤ a ∧ b < 0) → p = (L : Int)) by
      have h1 := HS.out; have h2 := T.out; have h3 := M.out
      obtain ⟨g1, g2, g3, g4⟩ := h1
      constructor <;> intro h <;> omega)
    have HL := hid (show (0 : Int) ≤ ((L : Nat) : Int) by omega)
    clear HN HS T
    obtain ⟨z, hz⟩ : ∃ z : Int, z = ((L : Nat) : Int) := ⟨_, rfl⟩
    rw [← hz] at HL G ⊢
    clear hz
    by_cases hb : (9223372036854775808 : Int) ≤ z
    · by_cases hm : a < 0 ∧ 0 ≤ b ∨ 0 ≤ a ∧ b < 0
      · have P := G.out.1 hm
        by_cases he : z = 9223372036854775808
        · obtain rfl : v = .tuple #[.int .i64 (-9223372036854775808), .bool true] := by rw [HV.out, P, he]; exact fitV_yes (by have := HL.out; omega) (by have := HL.out; omega)
          clear P HV G
          rcases hm with ⟨h1, h2⟩ | ⟨h1, h2⟩
          · have h2' : decide (b < 0) = false := by simp; omega
            go_wp2
            go_ret2
            exact ⟨rfl, rfl⟩
          · have h1' : decide (a < 0) = false := by simp; omega
            go_wp2
            go_ret2
            exact ⟨rfl, rfl⟩
        · obtain rfl : v = .tuple #[.int .i64 0, .bool false] := by rw [HV.out]; exact fitV_no (by omega)
          clear P HV G
          have he2 : (z == 9223372036854775808) = false := by simp; omega
          rcases hm with ⟨h1, h2⟩ | ⟨h1, h2⟩
          · have h2' : decide (b < 0) = false := by simp; omega
            go_wp2
            go_ret2
            exact ⟨rfl, rfl⟩
          · have h1' : decide (a < 0) = false := by simp; omega
            go_wp2
            go_ret2
            exact ⟨rfl, rfl⟩
      · have P := G.out.2 hm
        obtain rfl : v = .tuple #[.int .i64 0, .bool false] := by rw [HV.out]; exact fitV_no (by omega)
        have hm2 : (a < 0 ∧ b < 0) ∨ (¬ a < 0 ∧ ¬ b < 0) := by omega
        clear P HV G hm
        rcases hm2 with ⟨h1, h2⟩ | ⟨h1, h2⟩
        · go_wp2
          go_ret2
          exact ⟨rfl, rfl⟩
        · go_wp2
          go_ret2
          exact ⟨rfl, rfl⟩
    · have hc : wrap64 z = z := by have := HL.out; unfold wrap64; omega
      have HC := hid (show wrap64 (-z) = -z by have := HL.out; unfold wrap64; omega)
      have HD := hid hc
      clear hc
      have hge : decide (9223372036854775808 ≤ z) = false := by simp; omega
      by_cases hm : a < 0 ∧ 0 ≤ b ∨ 0 ≤ a ∧ b < 0
      · have P := G.out.1 hm
        obtain rfl : v = .tuple #[.int .i64 (-z), .bool true] := by rw [HV.out, P]; exact fitV_yes (by have := HL.out; omega) (by have := HL.out; omega)
        have he2 : (z == 9223372036854775808) = false := by simp; omega
        clear P HV G
        rcases hm with ⟨h1, h2⟩ | ⟨h1, h2⟩
        · have h2' : decide (b < 0) = false := by simp; omega
          go_wp2
          go_ret2
          refine ⟨?_, rfl⟩
          show Ending.returned (.tuple #[.int .i64 (wrap64 (-wrap64 z)), .bool true]) = _
          rw [HD.out, HC.out]
        · have h1' : decide (a < 0) = false := by simp; omega
          go_wp2
          go_ret2
          refine ⟨?_, rfl⟩
          show Ending.returned (.tuple #[.int .i64 (wrap64 (-wrap64 z)), .bool true]) = _
          rw [HD.out, HC.out]
      · have P := G.out.2 hm
        obtain rfl : v = .tuple #[.int .i64 z, .bool true] := by rw [HV.out, P]; exact fitV_yes (by have := HL.out; omega) (by have := HL.out; omega)
        have hm2 : (a < 0 ∧ b < 0) ∨ (¬ a < 0 ∧ ¬ b < 0) := by omega
        clear P HV G hm
        rcases hm2 with ⟨h1, h2⟩ | ⟨h1, h2⟩
        · go_wp2
          go_ret2
          refine ⟨?_, rfl⟩
          show Ending.returned (.tuple #[.int .i64 (wrap64 z), .bool true]) = _
          rw [HD.out]
        · go_wp2
          go_ret2
          refine ⟨?_, rfl⟩
          show Ending.returned (.tuple #[.int .i64 (wrap64 z), .bool true]) = _
          rw [HD.out]
  · obtain rfl : v = .tuple #[.int .i64 0, .bool false] := by
      have h2 := HN.out; have h3 := M.out
      rw [HV.out]; exact fitV_no (by omega)
    have hz2 : (((H : Nat) : Int) != 0) = true := by simp; omega
    clear HV HN HS M
    by_cases h1 : a < 0 <;> by_cases h2 : b < 0
    all_goals
      go_wp2
      go_ret2
      exact ⟨rfl, rfl⟩
end Go.Proofs.Ytecmpjccdhmeeaa
end
