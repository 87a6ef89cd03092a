import Derived.Test.YtjcabccolkmlmaaMFunds3
import Derived.Test.YtjcabccolkmlmaaMFunds1
import Derived.Shelf.SlIterI.Nil
import Derived.Shelf.SortM.Plain
import Derived.Shelf.SortM.SortNone
import Derived.Ground.GgzProg
import Derived.Ground.SlgmProg
import Derived.WideShapes
import Derived.Test.YtjcabccolkmlmaaProg
import Derived.Test.YtjcabccolkmlmaaMFunds2
set_option linter.unusedVariables false
section
/- One element less: what 'slices.Delete' does to a list that is owned. No program in sight. -/
namespace Go.Proofs.Ytjcabccolkmlmaa
open Go.RowKit
variable {P : Program} {w : World} {b : Nat} {e : TypeId} {k : Nat} {xs : List Value}
theorem Own.pre {a : Option Addr} {n c i : Nat} (h : Own w b e k (.slice a n c) n xs) (hi : i ≤ n) : Own w b e k (.slice a i c) i (xs.take (i * k)) := by
  obtain ⟨hl, h⟩ := h
  have hm : i * k ≤ n * k := Nat.mul_le_mul_right k hi
  refine ⟨by rw [List.length_take]; omega, ?_⟩
  rcases h with ⟨h0, h1⟩ | ⟨g, off, cap, cur, hv, hb, hg, hn, hm2, hs, ht⟩
  · injection h0 with q1 q2 q3
    subst q1; subst q3
    obtain rfl : i = 0 := by omega
    exact .inl ⟨rfl, rfl⟩
  · injection hv with q1 q2 q3
    subst q1; subst q3
    refine .inr ⟨g, off, c, cur, rfl, hb, hg, by omega, hm2, hs, ?_⟩
    rw [← ht, List.take_take, Nat.min_eq_left hm]
theorem own_somewhere {a : Option Addr} {n c : Nat} (h : Own w b e k (.slice a n c) n xs) (hn : 0 < n) : ∃ g off, a = some ⟨g, off, none⟩ ∧ n ≤ c := by
  rcases h.2 with ⟨_, h0⟩ | ⟨g, off, cap, cur, hv, _, _, hc, _⟩
  · omega
  · injection hv with q1 q2 q3
    subst q1; subst q3
    exact ⟨g, off, rfl, hc⟩
theorem Own.tail {a : Option Addr} {n c i : Nat} (h : Own w b e k (.slice a n c) n xs) (hi : i < n) {tx e' : TypeId} (hk : P.underlying tx = some (.slice e')) (h1 : ∀ v ∈ xs, v.oneCell' = true) :
    Src P k tx (.slice (sliceBase a c (i + 1) k) (n - (i + 1)) (c - (i + 1))) (n - (i + 1)) (xs.drop ((i + 1) * k)) w := by
  obtain ⟨g, off, rfl, hc⟩ := own_somewhere h (by omega)
  have hx := h.1
  have e1 : (n - (i + 1)) * k + (i + 1) * k = n * k := by rw [← Nat.add_mul]; congr 1; omega
  have hl : (xs.drop ((i + 1) * k)).length = (n - (i + 1)) * k := by rw [List.length_drop]; omega
  have h1' : ∀ v ∈ xs.drop ((i + 1) * k), v.oneCell' = true := fun v hv => h1 v (List.mem_of_mem_drop hv)
  unfold sliceBase
  split
  · rename_i hce
    have h0 : n - (i + 1) = 0 := by omega
    have hd : xs.drop ((i + 1) * k) = [] := List.eq_nil_of_length_eq_zero (by rw [hl, h0, Nat.zero_mul])
    rw [hd] at hl h1' ⊢
    exact Src.ofSlice w hk _ _ _ _ hl (fun j u hu => by cases hu) h1'
  · refine Src.ofSlice w hk _ _ _ _ hl (fun j u hu => ?_) h1'
    rw [List.getElem?_drop] at hu
    have := h.cells g off c rfl _ u hu
    show w.cell? (((⟨g, off, none⟩ : Addr).add ((i + 1) * k)).add j) = some u
    rw [Addr.add_lit, Addr.add_lit, Nat.add_assoc]
    exact this
theorem own_beyond1 {g off n c j : Nat} (h : Own w b e k (.slice (some ⟨g, off, none⟩) n c) n xs) (hj : n * k ≤ j) (hc : j < c * k) (v : Value) :
    (w.cell? ⟨g, off + j, none⟩).isSome = true ∧ w.frozen? ⟨g, off + j, none⟩ = false ∧ Own (w.setCell ⟨g, off + j, none⟩ v) b e k (.slice (some ⟨g, off, none⟩) n c) n xs := by
  obtain ⟨hl, h⟩ := h
  rcases h with ⟨h0, h1⟩ | ⟨g', off', cap, cur, hv, hb, hg, hn, hm2, hs, ht⟩
  · cases h0
  · injection hv with q1 q2 q3
    injection q1 with q1
    injection q1 with q1 q4
    subst q1; subst q3; subst q4
    have hB : Bk w g cur e := hg
    refine ⟨?_, hB.frozen _, hl, .inr ⟨g, off, c, _, rfl, hb, hB.setCell (off + j) v, hn, hm2, by simpa using hs, ?_⟩⟩
    · rw [hB.cell, Array.getElem?_eq_getElem (by omega)]; rfl
    · rw [← ht, Array.toList_setIfInBounds, List.drop_set]
      rw [if_neg (by omega), show off + j - off = j by omega, List.take_set, List.set_eq_of_length_le (by rw [List.length_take]; omega)]
theorem own_beyond {g off n c : Nat} : ∀ (vs : List Value) (j : Nat) (w : World), Own w b e k (.slice (some ⟨g, off, none⟩) n c) n xs → n * k ≤ j → j + vs.length ≤ c * k →
    w.there g (off + j) vs.length ∧ Own (w.setCells g (off + j) vs) b e k (.slice (some ⟨g, off, none⟩) n c) n xs ∧ Fr [g] w (w.setCells g (off + j) vs) ∧ (w.setCells g (off + j) vs).heap.size = w.heap.size
  | [], j, w, h, _, _ => ⟨fun i hi => by simp at hi, h, Fr.refl _ _, rfl⟩
  | v :: r, j, w, h, hj, hc => by
    rw [List.length_cons] at hc
    obtain ⟨h1, h2, h3⟩ := own_beyond1 h hj (by omega) v
    obtain ⟨k1, k2, k3, k4⟩ := own_beyond r (j + 1) _ h3 (by omega) (by omega)
    rw [← Nat.add_assoc] at k1 k2 k3 k4
    refine ⟨fun i hi => ?_, k2, ((Fr.refl [g] w).setCell (p := ⟨g, off + j, none⟩) (.inl (by simp)) v).trans k3 (Gr.refl _ _), k4.trans (by simp)⟩
    rw [List.length_cons] at hi
    refine ⟨?_, ?_⟩
    · obtain ⟨a1, a2, _⟩ := own_beyond1 h (j := j + i) (by omega) (by omega) v
      rw [Nat.add_assoc]; exact a1
    · obtain ⟨a1, a2, _⟩ := own_beyond1 h (j := j + i) (by omega) (by omega) v
      rw [Nat.add_assoc]; exact a2
theorem els_one {α : Type} {R : World → List Nat → α → List Value → Prop} {M : List Nat} {es : List α} (h : ElsOk R k w M es xs) (hR : ∀ w M e cs, R w M e cs → ∀ v ∈ cs, v.oneCell' = true) : ∀ v ∈ xs, v.oneCell' = true := by
  intro v hv
  obtain ⟨j, hj⟩ := List.getElem?_of_mem hv
  have hlt := (List.getElem?_eq_some_iff.1 hj).1
  have hl := h.1
  have hk : 0 < k := by
    rcases Nat.eq_zero_or_pos k with h0 | h0
    · subst h0; omega
    · exact h0
  have hi : j / k < es.length := Nat.div_lt_of_lt_mul (by rw [Nat.mul_comm]; omega)
  have := h.2 _ _ (List.getElem?_eq_getElem hi)
  refine hR _ _ _ _ this v ?_
  have hm : j = j / k * k + j % k := by rw [Nat.mul_comm]; exact (Nat.div_add_mod j k).symm
  have hmod := Nat.mod_lt j hk
  refine List.mem_iff_getElem?.2 ⟨j % k, ?_⟩
  rw [List.getElem?_take, if_pos hmod, List.getElem?_drop, ← hm]
  exact hj
end Go.Proofs.Ytjcabccolkmlmaa
end
section
/- One element of an owned list is written over. No program in sight. -/
namespace Go.Proofs.Ytjcabccolkmlmaa
open Go.RowKit
variable {w : World} {b : Nat} {e : TypeId} {k : Nat} {xs : List Value}
def setL : List Value → Nat → List Value → List Value
  | xs, _, [] => xs
  | xs, j, v :: r => setL (xs.set j v) (j + 1) r
theorem setL_len : ∀ (vs : List Value) (xs : List Value) (j : Nat), (setL xs j vs).length = xs.length
  | [], _, _ => rfl
  | v :: r, xs, j => by rw [setL, setL_len r, List.length_set]
theorem setL_get : ∀ (vs : List Value) (xs : List Value) (j i : Nat), j + vs.length ≤ xs.length → (setL xs j vs)[i]? = if j ≤ i ∧ i < j + vs.length then vs[i - j]? else xs[i]?
  | [], xs, j, i, _ => by rw [setL, if_neg (by simp only [List.length_nil]; omega)]
  | v :: r, xs, j, i, h => by
    rw [List.length_cons] at h
    rw [setL, setL_get r (xs.set j v) (j + 1) i (by rw [List.length_set]; omega), List.length_cons]
    by_cases h1 : i = j
    · subst h1
      rw [if_neg (by omega), if_pos (by omega), Nat.sub_self, List.getElem?_set_self (by omega)]
      rfl
    · by_cases h2 : j + 1 ≤ i ∧ i < j + 1 + r.length
      · rw [if_pos h2, if_pos (by omega), show i - j = (i - (j + 1)) + 1 by omega, List.getElem?_cons_succ]
      · rw [if_neg h2, if_neg (by omega), List.getElem?_set_ne (by omega)]
theorem own_in1 {g off n c j : Nat} (h : Own w b e k (.slice (some ⟨g, off, none⟩) n c) n xs) (hj : j < n * k) (v : Value) :
    (w.cell? ⟨g, off + j, none⟩).isSome = true ∧ w.frozen? ⟨g, off + j, none⟩ = false ∧ Own (w.setCell ⟨g, off + j, none⟩ v) b e k (.slice (some ⟨g, off, none⟩) n c) n (xs.set j v) := by
  obtain ⟨hl, h⟩ := h
  rcases h with ⟨h0, h1⟩ | ⟨g', off', cap, cur, hv, hb, hg, hn, hm2, hs, ht⟩
  · cases h0
  · injection hv with q1 q2 q3
    injection q1 with q1
    injection q1 with q1 q4
    subst q1; subst q3; subst q4
    have hB : Bk w g cur e := hg
    have hm : n * k ≤ c * k := Nat.mul_le_mul_right k hn
    refine ⟨?_, hB.frozen _, by rw [List.length_set]; exact hl, .inr ⟨g, off, c, _, rfl, hb, hB.setCell (off + j) v, hn, hm2, by simpa using hs, ?_⟩⟩
    · rw [hB.cell, Array.getElem?_eq_getElem (by omega)]; rfl
    · rw [← ht, Array.toList_setIfInBounds, List.drop_set]
      rw [if_neg (by omega), show off + j - off = j by omega, List.take_set]
theorem own_setL {g off n c : Nat} : ∀ (vs : List Value) (j : Nat) (w : World) (xs : List Value), Own w b e k (.slice (some ⟨g, off, none⟩) n c) n xs → j + vs.length ≤ n * k →
    w.there g (off + j) vs.length ∧ Own (w.setCells g (off + j) vs) b e k (.slice (some ⟨g, off, none⟩) n c) n (setL xs j vs) ∧ Fr [g] w (w.setCells g (off + j) vs) ∧ (w.setCells g (off + j) vs).heap.size = w.heap.size
  | [], j, w, xs, h, _ => ⟨fun i hi => by simp at hi, h, Fr.refl _ _, rfl⟩
  | v :: r, j, w, xs, h, hc => by
    rw [List.length_cons] at hc
    obtain ⟨h1, h2, h3⟩ := own_in1 h (j := j) (by omega) v
    obtain ⟨k1, k2, k3, k4⟩ := own_setL r (j + 1) _ _ h3 (by omega)
    rw [← Nat.add_assoc] at k1 k2 k3 k4
    refine ⟨fun i hi => ?_, k2, ((Fr.refl [g] w).setCell (p := ⟨g, off + j, none⟩) (.inl (by simp)) v).trans k3 (Gr.refl _ _), k4.trans (by simp)⟩
    rw [List.length_cons] at hi
    obtain ⟨a1, a2, _⟩ := own_in1 h (j := j + i) (by omega) v
    rw [Nat.add_assoc]
    exact ⟨a1, a2⟩
/-- An element of so many cells is stored. -/
theorem Own.storeK {g off n c i : Nat} (h : Own w b e k (.slice (some ⟨g, off, none⟩) n c) n xs) (hi : i < n) {vs : List Value} (hv : vs.length = k) {gs : List Nat} (hgs : ∀ x ∈ gs, x ≠ g) {K : World → Prop}
    (hk : ∀ w1, Own w1 b e k (.slice (some ⟨g, off, none⟩) n c) n (setL xs (i * k) vs) → Fr [g] w w1 → w1.heap.size = w.heap.size → K w1) : stO gs w g (off + i * k) vs K := by
  have hm : i * k + k ≤ n * k := by
    have := Nat.mul_le_mul_right k (show i + 1 ≤ n from hi)
    rw [Nat.add_mul, Nat.one_mul] at this; exact this
  obtain ⟨k1, k2, k3, k4⟩ := own_setL vs (i * k) w xs h (by omega)
  exact ⟨hgs, k1, fun w1 e1 => by subst e1; exact hk _ k2 k3 k4⟩
theorem ElsOk.set {α : Type} {R : World → List Nat → α → List Value → Prop} {M : List Nat} {es : List α} (hR : RStable R k) (h : ElsOk R k w M es xs) {i : Nat} (hi : i < es.length) {x : α} {cs : List Value} (hx : R w M x cs) : ElsOk R k w M (es.set i x) (setL xs (i * k) cs) := by
  have hl := h.1
  have hc := hR.len hx
  have hm : ∀ j, j < es.length → j * k + k ≤ xs.length := fun j hj => by
    rw [hl]
    have := Nat.mul_le_mul_right k (show j + 1 ≤ es.length from hj)
    rw [Nat.add_mul, Nat.one_mul] at this; exact this
  refine ⟨by rw [setL_len, List.length_set, hl], fun j y hy => ?_⟩
  have hj : j < es.length := by have := (List.getElem?_eq_some_iff.1 hy).1; rwa [List.length_set] at this
  have key : ((setL xs (i * k) cs).drop (j * k)).take k = if i = j then cs else (xs.drop (j * k)).take k := by
    apply List.ext_getElem?
    intro q
    rw [List.getElem?_take]
    by_cases hq : q < k
    · rw [if_pos hq, List.getElem?_drop, setL_get _ _ _ _ (by have := hm i hi; omega)]
      by_cases hij : i = j
      · subst hij
        rw [if_pos rfl, if_pos (by omega)]
        congr 1; omega
      · rw [if_neg hij]
        have hne : ¬ (i * k ≤ j * k + q ∧ j * k + q < i * k + cs.length) := by
          rintro ⟨h1, h2⟩
          rcases Nat.lt_or_gt_of_ne hij with h3 | h3
          · have := Nat.mul_le_mul_right k (show i + 1 ≤ j from h3)
            rw [Nat.add_mul, Nat.one_mul] at this; omega
          · have := Nat.mul_le_mul_right k (show j + 1 ≤ i from h3)
            rw [Nat.add_mul, Nat.one_mul] at this; omega
        rw [if_neg hne, List.getElem?_take, if_pos hq, List.getElem?_drop]
    · rw [if_neg hq]
      symm
      split
      · rw [List.getElem?_eq_none (by omega)]
      · rw [List.getElem?_take, if_neg hq]
  rw [key]
  by_cases hij : i = j
  · subst hij
    rw [List.getElem?_set_self hi] at hy
    injection hy with hy; subst hy
    rw [if_pos rfl]; exact hx
  · rw [List.getElem?_set_ne hij] at hy
    rw [if_neg hij]
    exact h.2 j y hy
end Go.Proofs.Ytjcabccolkmlmaa
end
section
/- Functions that write nothing but blocks of their own: their steps, seen from the world that they began in. No program in sight. -/
namespace Go.Proofs.Ytjcabccolkmlmaa
open Go.RowKit
theorem box_below {w w1 w2 : World} {g : Nat} (h : Below w.heap.size w w1) (hg : w.heap.size ≤ g) (hb : BoxSt g w1 w2) : Below w.heap.size w w2 := h.trans (hb.1.below (fun k hk => by rw [List.mem_singleton] at hk; omega) h.size)
/-- One value comes back, and what was there is as it was. -/
def Ret (v : Value) (w : World) : Ending → World → Prop := fun e w' => e = .returned v ∧ Below w.heap.size w w'
theorem ret_in {P : Program} {f : FuncId} {av : Array Value} {w : World} {v : Value} (h : Calls P f av w fun e w' => ∃ u, e = .returned u ∧ (u = v ∧ Below w.heap.size w w')) : Calls P f av w (Ret v w) :=
  h.mono (by rintro e w' ⟨u, rfl, rfl, b⟩; exact ⟨rfl, b⟩)
theorem ret_same {P : Program} {f : FuncId} {av : Array Value} {w : World} {v : Value} (h : Calls P f av w fun e w' => e = .returned v ∧ w' = w) : Calls P f av w (Ret v w) :=
  h.mono (by rintro e w' ⟨rfl, rfl⟩; exact ⟨rfl, Below.refl _ _⟩)
section
variable {w0 w : World}
abbrev Bs (w0 w : World) : Prop := Below w0.heap.size w0 w
theorem Bs.refl (w : World) : Bs w w := Below.refl _ _
theorem Bs.to {w1 : World} (B : Bs w0 w) (b : Below w.heap.size w w1) : Bs w0 w1 := Below.trans B (b.mono B.size)
theorem Bs.box {g : Nat} {w1 : World} (B : Bs w0 w) (hg : w0.heap.size ≤ g) (h : BoxSt g w w1) : Bs w0 w1 := box_below B hg h
theorem newB (B : Bs w0 w) {o : Obj} {K : Nat → World → Prop} (h : ∀ g w1, w0.heap.size ≤ g → w.heap.size = g → w1.heap[g]? = some o → w1.heap.size = g + 1 → Below w.heap.size w w1 → Bs w0 w1 → K g w1) : newO w o K := by
  rintro g w1 rfl rfl
  exact h _ _ B.size rfl (al_new rfl) (by simp) (Below_one o) (B.to (Below_one o))
theorem drewB (B : Bs w0 w) {K : World → Prop} (h : ∀ w1, Below w.heap.size w w1 → Bs w0 w1 → w1.heap = w.heap → K w1) : drewO w K := fun w1 h1 h2 => h w1 h2 (B.to h2) h1
theorem boxB {g : Nat} (B : Bs w0 w) (hg : w0.heap.size ≤ g) {K : World → Prop} (h : ∀ w1, BoxSt g w w1 → Bs w0 w1 → w1.heap.size = w.heap.size → K w1) : ∀ w1, BoxSt g w w1 → K w1 := fun w1 h1 => h w1 h1 (B.box hg h1) h1.2
theorem callB {P : Program} {f : FuncId} {av : Array Value} {v : Value} {gs : List Nat} {R : Ending → World → Prop} (B : Bs w0 w) (h : Calls P f av w (Ret v w)) (k : ∀ w1, Below w.heap.size w w1 → Bs w0 w1 → R (.returned v) w1) :
    Calls P f av w (fun e w1 => KeepG gs w w1 ∧ R e w1) := h.mono (by rintro e w1 ⟨rfl, b⟩; exact ⟨keepG_below b, k w1 b (B.to b)⟩)
theorem callQ {P : Program} {f : FuncId} {av : Array Value} {gs : List Nat} {Q R : Ending → World → Prop} (B : Bs w0 w) (h : Calls P f av w (fun e w1 => Q e w1 ∧ Below w.heap.size w w1)) (k : ∀ e w1, Q e w1 → Below w.heap.size w w1 → Bs w0 w1 → R e w1) :
    Calls P f av w (fun e w1 => KeepG gs w w1 ∧ R e w1) := h.mono (by rintro e w1 ⟨q, b⟩; exact ⟨keepG_below b, k e w1 q b (B.to b)⟩)
end
/-- Elements of k cells each, one behind the other, in a block from n0 on. -/
def Rws {α : Type} (enc : α → List Value) (k n0 : Nat) (w : World) (a : Option Addr) (xs : List α) : Prop := xs = [] ∨ ∃ b off, a = some ⟨b, off, none⟩ ∧ n0 ≤ b ∧ ∀ i x, xs[i]? = some x → cellsAt w b (off + i * k) (enc x)
section
variable {α : Type} {enc : α → List Value} {k n0 : Nat} {w w' : World} {a : Option Addr} {xs : List α}
theorem Rws.nil : Rws enc k n0 w a [] := .inl rfl
theorem Rws.ofRows (h : RowsAt (fun w b off x => cellsAt w b off (enc x)) k w a xs) : Rws enc k 0 w a xs := h.elim .inl fun ⟨b, off, h1, h2⟩ => .inr ⟨b, off, h1, Nat.zero_le _, h2⟩
theorem Rws.low {n1 : Nat} (h : Rws enc k n0 w a xs) (hn : n1 ≤ n0) : Rws enc k n1 w a xs := h.elim .inl fun ⟨b, off, h1, h2, h3⟩ => .inr ⟨b, off, h1, Nat.le_trans hn h2, h3⟩
theorem Rws.keep (h : Rws enc k n0 w a xs) (hk : ∀ b, n0 ≤ b → b < w.heap.size → w'.heap[b]? = w.heap[b]?) : Rws enc k n0 w' a xs := by
  rcases h with h | ⟨b, off, ha, hb, h⟩
  · exact .inl h
  · refine .inr ⟨b, off, ha, hb, fun i x hx => cellsAt_of fun j v hj => ?_⟩
    have h1 := cellsAt_get (h i x hx) j v hj
    have h2 := block_lt_of_cell h1
    rw [cell_keep (hk b hb h2)]
    exact h1
theorem Rws.below (h : Rws enc k n0 w a xs) (hb : Below w.heap.size w w') : Rws enc k n0 w' a xs := h.keep fun b _ h2 => hb.block b h2
theorem Rws.box {g : Nat} (h : Rws enc k n0 w a xs) (hb : BoxSt g w w') (hg : g < n0) : Rws enc k n0 w' a xs := h.keep fun b h1 h2 => hb.1.block b h2 (by rw [List.mem_singleton]; omega)
theorem Rws.newbox {g : Nat} {w1 w2 : World} (h : Rws enc k n0 w a xs) (hb : Below w.heap.size w w1) (sg : w.heap.size = g) (hx : BoxSt g w1 w2) : Rws enc k n0 w2 a xs := h.keep fun b _ h2 => (hx.1.block b (by have := hb.size; omega) (by rw [List.mem_singleton]; omega)).trans (hb.block b h2)
theorem Rws.grown {r : Option Nat} (h : Rws enc k n0 w a xs) (hg : w.grownBy w' r) (hr : ∀ b, r = some b → b < n0) : Rws enc k n0 w' a xs := h.keep fun b h1 h2 => hg.block b h2 fun e => by have := hr b e.symm; omega
theorem Rws.get (h : Rws enc k n0 w a xs) {i : Nat} (hi : i < xs.length) : ∃ b off, a = some ⟨b, off, none⟩ ∧ cellsAt w b (off + i * k) (enc xs[i]) := by
  rcases h with rfl | ⟨b, off, ha, _, h⟩
  · simp at hi
  · exact ⟨b, off, ha, h i _ (List.getElem?_eq_getElem hi)⟩
theorem Rws.take (h : Rws enc k n0 w a xs) (n : Nat) : Rws enc k n0 w a (xs.take n) := by
  rcases h with rfl | ⟨b, off, ha, h0, h⟩
  · exact .inl (by simp)
  · refine .inr ⟨b, off, ha, h0, fun i x hx => h i x ?_⟩
    rw [List.getElem?_take] at hx
    split at hx
    · exact hx
    · cases hx
theorem flatK_len (hk : ∀ x, (enc x).length = k) : ∀ es : List α, (es.flatMap enc).length = es.length * k
  | [] => by simp
  | e :: r => by rw [List.flatMap_cons, List.length_append, flatK_len hk r, hk, List.length_cons, Nat.add_mul]; omega
theorem flatK_get (hk : ∀ x, (enc x).length = k) : ∀ (es : List α) (i : Nat) (e : α) (j : Nat), es[i]? = some e → j < k → (es.flatMap enc)[i * k + j]? = (enc e)[j]?
  | x :: r, 0, e, j, h, hj => by
    cases h
    rw [List.flatMap_cons, List.getElem?_append_left (by rw [hk]; omega)]
    congr 1; omega
  | x :: r, i + 1, e, j, h, hj => by
    have e1 : (i + 1) * k = i * k + k := by rw [Nat.add_mul, Nat.one_mul]
    rw [List.flatMap_cons, List.getElem?_append_right (by rw [hk]; omega), hk, show (i + 1) * k + j - k = i * k + j by omega]
    exact flatK_get hk r i e j (by simpa using h) hj
theorem Rws.ofOwn {t : TypeId} {n c : Nat} (hkp : 0 < k) (hk : ∀ x, (enc x).length = k) (h : Own w n0 t k (.slice a n c) n (xs.flatMap enc)) : Rws enc k n0 w a xs := by
  by_cases h0 : xs = []
  · exact .inl h0
  rcases h.2 with ⟨h1, h2⟩ | ⟨g, off, cap, cur, hv, hb, hg, hn, hm, hs, ht⟩
  · have h3 := h.1
    rw [flatK_len hk, h2, Nat.zero_mul] at h3
    exact absurd (List.length_eq_zero_iff.1 ((Nat.mul_eq_zero.1 h3).resolve_right (by omega))) h0
  · injection hv with h1 h2 h3
    subst h1; subst h3
    refine .inr ⟨g, off, rfl, hb, fun i x hx => cellsAt_list fun j v hv => ?_⟩
    have hj : j < k := by have := (List.getElem?_eq_some_iff.1 hv).1; rw [hk] at this; exact this
    have := flatK_get hk xs i x j hx hj
    rw [Nat.add_assoc]
    exact h.cells g off c rfl _ v (by rw [this]; exact hv)
theorem Rws.src {P : Program} {tx e' : TypeId} {c : Nat} (hT : P.underlying tx = some (.slice e')) (hkp : 0 < k) (hk : ∀ x, (enc x).length = k) (h1 : ∀ x, ∀ v ∈ enc x, v.oneCell' = true) (h : Rws enc k n0 w a xs) : Src P k tx (.slice a xs.length c) xs.length (xs.flatMap enc) w := by
  have hone : ∀ v ∈ xs.flatMap enc, v.oneCell' = true := fun v hv => by
    obtain ⟨x, _, hx⟩ := List.mem_flatMap.1 hv
    exact h1 x v hx
  cases a with
  | none =>
    rcases h with rfl | ⟨b, off, ha, _⟩
    · exact Src.ofNil w hT c
    · cases ha
  | some ad =>
    refine Src.ofSlice w hT ad _ _ _ (flatK_len hk xs) (fun j u hu => ?_) hone
    rcases h with rfl | ⟨b, off, ha, _, h⟩
    · cases hu
    · injection ha with ha; subst ha
      have hlt := (List.getElem?_eq_some_iff.1 hu).1
      rw [flatK_len hk] at hlt
      have hi : j / k < xs.length := (Nat.div_lt_iff_lt_mul hkp).2 hlt
      have hm : j % k < k := Nat.mod_lt _ hkp
      have hx := List.getElem?_eq_getElem hi
      have h1 := flatK_get hk xs (j / k) _ (j % k) hx hm
      have hd : j / k * k + j % k = j := by rw [Nat.mul_comm]; exact Nat.div_add_mod j k
      rw [hd, hu] at h1
      have := cellsAt_get (h _ _ hx) (j % k) u h1.symm
      rw [Addr.add_lit]
      rwa [Nat.add_assoc, hd] at this
end
theorem Rws.one {α : Type} {enc : α → List Value} {k n0 g : Nat} {w : World} {x : α} {t : TypeId} {fr : Nat × Nat} (h : w.heap[g]? = some (.cells (enc x).toArray t fr)) (hg : n0 ≤ g) : Rws enc k n0 w (some ⟨g, 0, none⟩) [x] := by
  refine .inr ⟨g, 0, rfl, hg, fun i y hy => ?_⟩
  have hi : i = 0 := by have := (List.getElem?_eq_some_iff.1 hy).1; simp at this; omega
  subst hi
  simp at hy
  subst hy
  rw [Nat.zero_mul]
  exact cellsAt_row h (by simp)
theorem Own.box {w w1 : World} {n1 size n g : Nat} {e : TypeId} {v : Value} {xs : List Value} (h : Own w n1 e size v n xs) (hb : BoxSt g w w1) (hg : ∀ k, v.ownBlock = some k → k ≠ g) : Own w1 n1 e size v n xs := h.keep fun k hk => hb.1.block k (h.lt k hk).2 (by rw [List.mem_singleton]; exact hg k hk)
/-- A new box was made and filled. -/
theorem Own.newbox {w w1 w2 : World} {n1 size n g : Nat} {e : TypeId} {v : Value} {xs : List Value} (h : Own w n1 e size v n xs) (hb : Below w.heap.size w w1) (sg : w.heap.size = g) (hx : BoxSt g w1 w2) : Own w2 n1 e size v n xs := (h.below hb (Nat.le_refl _)).box hx fun k hk => by have := (h.lt k hk).2; omega
/-- What is appended to, is one's own. -/
theorem appB {P : Program} {gs : List Nat} {w0 w : World} {e : TypeId} {size bytes n1 n c m : Nat} {tx : TypeId} {a : Option Addr} {x : Value} {xs news : List Value} {K : Nat → Option Addr → Nat → World → Prop}
    (B : Bs w0 w) (o : Own w n1 e size (.slice a n c) n xs) (hn1 : w0.heap.size ≤ n1) (hn2 : n1 ≤ w.heap.size) (s : Src P size tx x m news w) (h1 : n + m ≤ maxLen) (h2 : (n + m) * bytes ≤ 140737488355328)
    (hg : ∀ g ∈ gs, (Value.slice a n c).ownBlock ≠ some g)
    (k : ∀ a' c' w1, Own w1 n1 e size (.slice a' (n + m) c') (n + m) (xs ++ news) → w.grownBy w1 (Value.slice a n c).ownBlock → Bs w0 w1 → w.heap.size ≤ w1.heap.size → K m a' c' w1) :
    appO P gs w e size bytes tx a n c x K := by
  refine ⟨m, xs, news, o.base_le fun _ _ => Nat.zero_le _, s, h1, h2, hg, fun a' c' w1 o1 g1 or1 _ => k a' c' w1 (o1.base_le fun q hq => ?_) g1 ?_ g1.size⟩
  · rcases or1 with h | ⟨g, h, h3⟩
    · exact (o.lt q (h ▸ hq)).1
    · rw [h] at hq; injection hq with hq; omega
  · exact ⟨g1.os.trans B.os, g1.tape.trans B.tape, g1.output.trans B.output, Nat.le_trans B.size g1.size, fun q hq => (g1.block q (by have := B.size; omega) fun e => by have := (o.lt q e.symm).1; omega).trans (B.block q hq)⟩
end Go.Proofs.Ytjcabccolkmlmaa
end
section
/- More steps of functions seen from the world that they began in: blocks that are written over. No program in sight. -/
namespace Go.Proofs.Ytjcabccolkmlmaa
open Go.RowKit
/-- Cells of a block that are written over. -/
theorem stO_part {w : World} {g off : Nat} {t : TypeId} {cs : Array Value} {vs : List Value} {gs : List Nat} {K : World → Prop} (h : Bk w g cs t) (hl : off + vs.length ≤ cs.size) (hg : ∀ x ∈ gs, x ≠ g)
    (k : ∀ w1, Bk w1 g (setL cs.toList off vs).toArray t → Fr [g] w w1 → w1.heap.size = w.heap.size → K w1) : stO gs w g off vs K := by
  have key : ∀ (vs : List Value) (w : World) (cs : Array Value) (off : Nat), Bk w g cs t → off + vs.length ≤ cs.size → Bk (w.setCells g off vs) g (setL cs.toList off vs).toArray t ∧ Fr [g] w (w.setCells g off vs) ∧ (w.setCells g off vs).heap.size = w.heap.size := by
    intro vs
    induction vs with
    | nil => intro w cs off h _; exact ⟨by simpa [World.setCells, setL] using h, Fr.refl _ _, rfl⟩
    | cons v r ih =>
      intro w cs off h hl
      rw [List.length_cons] at hl
      obtain ⟨k1, k2, k3⟩ := ih (w.setCell ⟨g, off, none⟩ v) (cs.setIfInBounds off v) (off + 1) (h.setCell off v) (by simp; omega)
      refine ⟨?_, ((Fr.refl [g] w).setCell (p := ⟨g, off, none⟩) (.inl (by simp)) v).trans k2 (Gr.refl _ _), by rw [show w.setCells g off (v :: r) = (w.setCell ⟨g, off, none⟩ v).setCells g (off + 1) r from rfl, k3]; simp [World.setCell]⟩
      rw [Array.toList_setIfInBounds] at k1
      exact k1
  obtain ⟨k1, k2, k3⟩ := key vs w cs off h hl
  exact ⟨hg, h.there hl, fun w1 e => by subst e; exact k _ k1 k2 k3⟩
theorem setL_whole {vs xs : List Value} (h : vs.length = xs.length) : setL xs 0 vs = vs := by
  apply List.ext_getElem?
  intro i
  rw [setL_get vs xs 0 i (by omega)]
  by_cases hi : i < vs.length
  · rw [if_pos ⟨Nat.zero_le _, by omega⟩]; rfl
  · rw [if_neg (by omega), List.getElem?_eq_none (by omega), List.getElem?_eq_none (by omega)]
theorem Bs.fr {w0 w w1 : World} {L : List Nat} (B : Bs w0 w) (h : Fr L w w1) (hL : ∀ k ∈ L, w0.heap.size ≤ k) : Bs w0 w1 := Below.trans B (h.below hL B.size)
theorem Bs.fr1 {w0 w w1 : World} {g : Nat} (B : Bs w0 w) (h : Fr [g] w w1) (hg : w0.heap.size ≤ g) : Bs w0 w1 := B.fr h fun k hk => by rw [List.mem_singleton] at hk; omega
/-- A block of one's own is written over, wholly. -/
theorem stB {w0 w : World} {g : Nat} {t : TypeId} {cs : Array Value} {vs : List Value} {gs : List Nat} {K : World → Prop} (B : Bs w0 w) (hg0 : w0.heap.size ≤ g) (h : Bk w g cs t) (hl : vs.length = cs.size) (hg : ∀ x ∈ gs, x ≠ g)
    (k : ∀ w1, Bk w1 g vs.toArray t → Fr [g] w w1 → Bs w0 w1 → w1.heap.size = w.heap.size → K w1) : stO gs w g 0 vs K :=
  stO_part h (by omega) hg fun w1 h1 f1 z1 => k w1 (by rw [setL_whole (by simpa using hl)] at h1; exact h1) f1 (B.fr1 f1 hg0) z1
/-- One cell of it. -/
theorem stB1 {w0 w : World} {g i : Nat} {t : TypeId} {cs : Array Value} {v : Value} {gs : List Nat} {K : World → Prop} (B : Bs w0 w) (hg0 : w0.heap.size ≤ g) (h : Bk w g cs t) (hi : i < cs.size) (hg : ∀ x ∈ gs, x ≠ g)
    (k : ∀ w1, Bk w1 g (cs.setIfInBounds i v) t → Fr [g] w w1 → Bs w0 w1 → w1.heap.size = w.heap.size → K w1) : stO gs w g i [v] K :=
  stO_bk h hi hg fun w1 h1 f1 z1 => k w1 h1 f1 (B.fr1 f1 hg0) z1
theorem Bk.below {w w1 : World} {g : Nat} {cs : Array Value} {t : TypeId} (h : Bk w g cs t) (hb : Below w.heap.size w w1) : Bk w1 g cs t := h.keep (hb.block g h.lt)
theorem Bk.box {w w1 : World} {g k : Nat} {cs : Array Value} {t : TypeId} (h : Bk w g cs t) (hb : BoxSt k w w1) (hk : g ≠ k) : Bk w1 g cs t := h.keep (hb.1.block g h.lt (by rw [List.mem_singleton]; exact hk))
theorem Bk.fr {w w1 : World} {g : Nat} {L : List Nat} {cs : Array Value} {t : TypeId} (h : Bk w g cs t) (hb : Fr L w w1) (hk : g ∉ L) : Bk w1 g cs t := h.keep (hb.block g h.lt hk)
theorem Bk.fr1 {w w1 : World} {g k : Nat} {cs : Array Value} {t : TypeId} (h : Bk w g cs t) (hb : Fr [k] w w1) (hk : g ≠ k) : Bk w1 g cs t := h.fr hb (by rw [List.mem_singleton]; exact hk)
end Go.Proofs.Ytjcabccolkmlmaa
end
section
/- Arrays of structs in a block, told by a function of the place. No program in sight. -/
namespace Go.Proofs.Ytjcabccolkmlmaa
open Go.RowKit
def fArr (n : Nat) (f : Nat → Value) : Array Value := ((List.range n).map f).toArray
theorem fArr_size (n : Nat) (f : Nat → Value) : (fArr n f).size = n := by simp [fArr]
theorem fArr_get {n j : Nat} (f : Nat → Value) (h : j < n) : (fArr n f)[j]? = some (f j) := by simp [fArr, h]
theorem fArr_congr {n : Nat} {f f' : Nat → Value} (h : ∀ j, j < n → f j = f' j) : fArr n f = fArr n f' := by
  unfold fArr
  congr 1
  exact List.map_congr_left fun j hj => h j (List.mem_range.1 hj)
theorem fArr_of {n : Nat} {f : Nat → Value} {cs : Array Value} (hs : cs.size = n) (h : ∀ j, j < n → cs[j]? = some (f j)) : cs = fArr n f := by
  apply Array.ext_getElem?
  intro j
  by_cases hj : j < n
  · rw [h j hj, fArr_get f hj]
  · rw [Array.getElem?_eq_none (by omega), Array.getElem?_eq_none (by rw [fArr_size]; omega)]
/-- n structs of k cells each, one behind the other. -/
def sArr (n k : Nat) (enc : Nat → List Value) : Array Value := fArr (n * k) fun j => (enc (j / k)).getD (j % k) (.bool false)
section
variable {n k : Nat} {enc enc' : Nat → List Value}
theorem sArr_size (n k : Nat) (enc : Nat → List Value) : (sArr n k enc).size = n * k := fArr_size _ _
theorem div_lt_of {j n k : Nat} (h : j < n * k) : j / k < n ∧ j % k < k ∧ 0 < k := by
  have hk : 0 < k := by
    rcases Nat.eq_zero_or_pos k with rfl | h'
    · simp at h
    · exact h'
  exact ⟨(Nat.div_lt_iff_lt_mul hk).2 h, Nat.mod_lt _ hk, hk⟩
theorem place_div {i c k : Nat} (hc : c < k) : (i * k + c) / k = i ∧ (i * k + c) % k = c := by
  have hk : 0 < k := by omega
  refine ⟨?_, ?_⟩
  · rw [Nat.mul_comm, Nat.mul_add_div hk, Nat.div_eq_of_lt hc, Nat.add_zero]
  · rw [Nat.mul_comm, Nat.mul_add_mod, Nat.mod_eq_of_lt hc]
theorem place_lt {i c n k : Nat} (hi : i < n) (hc : c < k) : i * k + c < n * k := by
  have : (i + 1) * k ≤ n * k := Nat.mul_le_mul_right k hi
  rw [Nat.add_mul, Nat.one_mul] at this
  omega
theorem sArr_get {i c : Nat} {v : Value} (hi : i < n) (hc : c < k) (hv : (enc i)[c]? = some v) : (sArr n k enc)[i * k + c]? = some v := by
  unfold sArr
  rw [fArr_get _ (place_lt hi hc), (place_div hc).1, (place_div hc).2, List.getD_eq_getElem?_getD, hv]
  rfl
theorem sArr_congr (h : ∀ i, i < n → enc i = enc' i) : sArr n k enc = sArr n k enc' := fArr_congr fun j hj => by rw [h _ (div_lt_of hj).1]
theorem sArr_of {cs : Array Value} (hk : ∀ i, i < n → (enc i).length = k) (hs : cs.size = n * k) (h : ∀ i c, i < n → c < k → cs[i * k + c]? = (enc i)[c]?) : cs = sArr n k enc := by
  refine fArr_of hs fun j hj => ?_
  obtain ⟨h1, h2, h3⟩ := div_lt_of hj
  have hjk : j / k * k + j % k = j := by rw [Nat.mul_comm]; exact Nat.div_add_mod j k
  have := h (j / k) (j % k) h1 h2
  rw [hjk] at this
  have hl : j % k < (enc (j / k)).length := by rw [hk _ h1]; exact h2
  rw [this, List.getD_eq_getElem?_getD, List.getElem?_eq_getElem hl]
  rfl
theorem sArr_cells {w : World} {g : Nat} {t : TypeId} (h : Bk w g (sArr n k enc) t) {i : Nat} (hi : i < n) (hk : (enc i).length = k) : cellsAt w g (i * k) (enc i) := cellsAt_of fun c v hv => by
  have hc : c < k := by rw [← hk]; exact (List.getElem?_eq_some_iff.1 hv).1
  rw [h.cell]; exact sArr_get hi hc hv
theorem sArr_cell {w : World} {g : Nat} {t : TypeId} (h : Bk w g (sArr n k enc) t) {i c : Nat} {v : Value} (hi : i < n) (hc : c < k) (hv : (enc i)[c]? = some v) : w.cell? ⟨g, i * k + c, none⟩ = some v := by
  rw [h.cell]; exact sArr_get hi hc hv
/-- One struct is written over. -/
theorem sArr_setL {i : Nat} {vs : List Value} (hi : i < n) (hv : vs.length = k) (hk : ∀ i, i < n → (enc i).length = k) : (setL (sArr n k enc).toList (i * k) vs).toArray = sArr n k (fun j => if j = i then vs else enc j) := by
  refine sArr_of (fun j hj => ?_) (by simp [setL_len, sArr_size]) fun j c hj hc => ?_
  · split
    · exact hv
    · exact hk j hj
  · have hle : i * k + vs.length ≤ (sArr n k enc).toList.length := by
      simp [sArr_size, hv]
      have : (i + 1) * k ≤ n * k := Nat.mul_le_mul_right k hi
      rw [Nat.add_mul, Nat.one_mul] at this
      omega
    rw [List.getElem?_toArray, setL_get _ _ _ _ hle]
    by_cases he : j = i
    · subst he
      rw [if_pos ⟨by omega, by omega⟩, if_pos rfl, show j * k + c - j * k = c by omega]
    · have hne : ¬ (i * k ≤ j * k + c ∧ j * k + c < i * k + vs.length) := by
        rintro ⟨h1, h2⟩
        rw [hv] at h2
        have h3 := (place_div (i := j) hc).1
        have h4 := (place_div (i := i) (c := j * k + c - i * k) (k := k) (by omega)).1
        rw [show i * k + (j * k + c - i * k) = j * k + c by omega, h3] at h4
        exact he h4
      have hl : c < (enc j).length := by rw [hk j hj]; exact hc
      rw [if_neg he, if_neg hne, Array.getElem?_toList, sArr_get hj hc (List.getElem?_eq_getElem hl), List.getElem?_eq_getElem hl]
/-- One cell of one struct is written over. -/
theorem sArr_set {i c : Nat} {v : Value} (hi : i < n) (hc : c < k) (hk : ∀ i, i < n → (enc i).length = k) : (sArr n k enc).setIfInBounds (i * k + c) v = sArr n k (fun j => if j = i then (enc j).set c v else enc j) := by
  refine sArr_of (fun j hj => ?_) (by simp [sArr_size]) fun j d hj hd => ?_
  · split
    · rw [List.length_set]; exact hk j hj
    · exact hk j hj
  · have hl : d < (enc j).length := by rw [hk j hj]; exact hd
    have hg := sArr_get hj hd (List.getElem?_eq_getElem hl)
    by_cases he : i * k + c = j * k + d
    · have h1 := place_div (i := i) hc
      have h2 := place_div (i := j) hd
      rw [he] at h1
      obtain rfl : j = i := h2.1.symm.trans h1.1
      obtain rfl : d = c := h2.2.symm.trans h1.2
      rw [if_pos rfl, Array.getElem?_setIfInBounds_self_of_lt (by rw [sArr_size]; exact place_lt hi hc), List.getElem?_set_self hl]
    · rw [Array.getElem?_setIfInBounds_ne he, hg]
      by_cases hji : j = i
      · subst hji
        rw [if_pos rfl, List.getElem?_set_ne (by omega), List.getElem?_eq_getElem hl]
      · rw [if_neg hji, List.getElem?_eq_getElem hl]
end
end Go.Proofs.Ytjcabccolkmlmaa
end
section
/- 'slices.Sorted(maps.Keys(m))' of a map with int keys, out of the library's contracts. No program in sight. -/
namespace Go.Proofs.Ytjcabccolkmlmaa
open Go.RowKit Go.Maps Go.Sort Go.Shelf Go.MapKept
variable {P : Program}
abbrev R0 : Value → Option (DataW Unit × List MemPlace) := fun _ => some (.nil, [])
def litOf (p : Int × Value) : Lit × DataW Unit := (.int .i64 p.1, .nil)
theorem in64_wf {x : Int} (h : -9223372036854775808 ≤ x ∧ x ≤ 9223372036854775807) : (Lit.int .i64 x).wf = true := by
  have h1 : IntKind.i64.min = -9223372036854775808 := by decide
  have h2 : IntKind.i64.max = 9223372036854775807 := by decide
  simp [Lit.wf, h1, h2]
  omega
theorem MapAt.owns {k : TypeId} (hk : P.underlying k = some (.int .i64)) {w : World} {b : Nat} {m : List (Int × Value)} (h : MapAt w b m) (hr : ∀ p ∈ m, -9223372036854775808 ≤ p.1 ∧ p.1 ≤ 9223372036854775807) (hl : m.length ≤ maxLen) :
    w.ownsMap P k R0 b m.length (.map ((m.map litOf).foldr DataW.insert [])) := by
  obtain ⟨es, clock, hb, hs, hm⟩ := h
  have hlen : es.size = m.length := by have := congrArg List.length hm; simpa using this
  have hrd : ∀ x ∈ es.toList, ∃ p ∈ m, x.key = .int .i64 p.1 ∧ WideElems.rd P k R0 x = some (litOf p) := by
    intro x hx
    have : (x.key, x.val) ∈ m.map kvOf := hm ▸ List.mem_map.2 ⟨x, hx, rfl⟩
    obtain ⟨p, hp, hpe⟩ := List.mem_map.1 this
    have hkey : x.key = .int .i64 p.1 := (congrArg Prod.fst hpe).symm
    refine ⟨p, hp, hkey, ?_⟩
    have := keyOf_int_mk hk (in64_wf (hr p hp))
    unfold WideElems.rd
    rw [hkey, this]
    rfl
  refine ⟨es, clock, hb, ⟨by omega, hs, fun x hx => ?_⟩, by omega, ?_⟩
  · obtain ⟨p, _, _, h⟩ := hrd x hx
    exact ⟨_, h⟩
  · have : es.toList.map (WideElems.rg P k R0) = m.map litOf := by
      have key : ∀ (l : List MapEntry) (m : List (Int × Value)), l.map (fun e => (e.key, e.val)) = m.map kvOf → (∀ x ∈ l, ∃ p : Int × Value, x.key = .int .i64 p.1 ∧ WideElems.rd P k R0 x = some (litOf p)) → l.map (WideElems.rg P k R0) = m.map litOf := by
        intro l
        induction l with
        | nil => intro m h _; cases m with | nil => rfl | cons _ _ => cases h
        | cons x l ih =>
          intro m h hx
          cases m with
          | nil => cases h
          | cons q m =>
            injection h with h1 h2
            obtain ⟨p, e1, e2⟩ := hx x (List.mem_cons_self ..)
            have e3 : x.key = .int .i64 q.1 := congrArg Prod.fst h1
            have e4 : p.1 = q.1 := kv_inj (e1.symm.trans e3)
            rw [List.map_cons, List.map_cons, ih m h2 fun y hy => hx y (List.mem_cons_of_mem _ hy)]
            congr 1
            unfold WideElems.rg
            rw [e2]
            show litOf p = litOf q
            unfold litOf
            rw [e4]
      exact key _ _ hm fun x hx => by obtain ⟨p, _, h1, h2⟩ := hrd x hx; exact ⟨p, h1, h2⟩
    rw [this]
theorem intKeys_perm (m : List (Int × Value)) : (intKeys (.map ((m.map litOf).foldr DataW.insert []) : DataW Unit)).Perm (m.map (·.1)) := by
  show (((m.map litOf).foldr DataW.insert []).map fun p : Lit × DataW Unit => Go.intOf p.1).Perm _
  refine ((WideShapes.sorted_perm (m.map litOf)).map _).trans ?_
  rw [List.map_map]
  exact List.Perm.refl _
/-- The keys, sorted. -/
def sortK (m : List (Int × Value)) : List Int := (m.map (·.1)).mergeSort leI
theorem Own.ofRow {w : World} {base : Nat} {e : TypeId} {size : Nat} {v : Value} {n : Nat} {xs : List Value} (h : w.ownsRow base e size v n xs) : Own w base e size v n xs := by
  refine ⟨h.1, h.2.elim .inl fun ⟨g, cap, cur, h1, h2, h3, h4, h5, h6, h7⟩ => .inr ⟨g, 0, cap, cur, h1, h2, h3, h4, h5, by omega, by rw [List.drop_zero]; exact h7⟩⟩
section
variable {ρK ρS ρQ : Ren}
theorem sortK_calls (LK : SlLaysZI.n10 P ρK) (LS : SlLaysZI.n6 P ρS) (hk : P.underlying (ρK.t 26) = some (.int .i64)) (hsort : AnyZI.SortsIn P ρS Fence.wide 4)
    (e9 : ∀ args w, (callFunc (ρS.f 9) args).run P w = .ok (.enter (ρS.f 9) args) w) (eg : ∀ args w, (callFunc (ρK.f 10) args).run P w = .ok (.enter (ρK.f 10) args) w)
    (w : World) (Bm b : Nat) (m : List (Int × Value)) (hBm : Bm < w.heap.size) (hc : w.cell? ⟨Bm, 0, none⟩ = some (.map (some b))) (h : MapAt w b m)
    (hr : ∀ p ∈ m, -9223372036854775808 ≤ p.1 ∧ p.1 ≤ 9223372036854775807) (hl : m.length ≤ 1000000) :
    Calls P (ρS.f 6) #[.func (.func (ρK.f 10)) #[] #[.pointer (some ⟨Bm, 0, none⟩)]] w fun e w' => ∃ a c, e = .returned (.slice a (sortK m).length c) ∧
      Own w' w.heap.size (ρS.t 26) 1 (.slice a (sortK m).length c) (sortK m).length ((sortK m).map (Value.int .i64)) ∧ (a = none ↔ sortK m = []) ∧ Below w.heap.size w w' := by
  have hlm : m.length ≤ maxLen := by unfold maxLen; omega
  have hown := h.owns hk hr hlm
  have hsz : Maps.size (.map ((m.map litOf).foldr DataW.insert []) : DataW Unit) = m.length := by
    show ((m.map litOf).foldr DataW.insert []).length = _
    rw [length_sorted]; simp
  have hseq : SeqGives Fence.wide 2 P (ρK.f 10) #[.pointer (some ⟨Bm, 0, none⟩)] encZ (fun ss => ss.Perm (intKeys (.map ((m.map litOf).foldr DataW.insert []) : DataW Unit))) m.length w := by
    have := AnyZI.keys_gives (ρ := ρK) LK Fence.wide 2 trivial rfl (by omega) Bm b m.length (.map ((m.map litOf).foldr DataW.insert []) : DataW Unit) w hBm hc hown
    rw [hsz] at this
    exact this
  have cS := AnyZI.sorted_in LS Fence.wide 5 trivial trivial trivial trivial rfl (by omega) (by exact hsort) e9 (ρK.f 10) #[.pointer (some ⟨Bm, 0, none⟩)] trivial eg _ m.length hlm (by omega) w hseq
  refine ((callsIn_wide (n := 5)).1 cS).mono ?_
  rintro e w' ⟨v, ss, rfl, hS, hrow, hnil, hb⟩
  have hp : ss.Perm (m.map (·.1)) := hS.trans (intKeys_perm m)
  have hms : ss.mergeSort (fun x y => decide (x ≤ y)) = sortK m := mergeSort_of_perm_i hp
  rw [hms] at hrow
  have hlen : ss.length = (sortK m).length := by rw [← hms]; exact (List.mergeSort_perm ss _).length_eq.symm
  rw [hlen] at hrow
  have ho := Own.ofRow hrow
  obtain ⟨a, c, rfl⟩ := ho.isSlice
  refine ⟨a, c, rfl, ho, ?_, hb⟩
  have hss : ss = [] ↔ sortK m = [] := by
    rw [← List.length_eq_zero_iff, ← List.length_eq_zero_iff, hlen]
  rw [← hss, ← hnil]
  constructor
  · rintro rfl
    rcases ho.2 with ⟨h1, h2⟩ | ⟨g, off, cap, cur, h1, _⟩
    · rw [h1]
    · cases h1
  · intro e; injection e
end
end Go.Proofs.Ytjcabccolkmlmaa
end
section
/- The tree of layer 13, as a function: nodes, errors, paths. No program in sight. -/
namespace Go.Proofs.Ytjcabccolkmlmaa
open Go.RowKit
structure Dn where
  par : Int
  knd : Int
  lim : Int
  cls : Bool
abbrev DT := Int → Dn
def dn0 : Dn := ⟨0, 0, 0, false⟩
def There (D : DT) (k : Int) : Prop := 1 ≤ k ∧ k ≤ 32 ∧ 0 < (D k).knd
instance (D : DT) (k : Int) : Decidable (There D k) := by unfold There; infer_instance
def ndV (k : Int) (d : Dn) : Value := .agg #[.int .i64 k, .int .i64 d.par, .int .i64 d.knd, .int .i64 d.lim, .bool d.cls]
def nd0 : Value := .agg #[.int .i64 0, .int .i64 0, .int .i64 0, .int .i64 0, .bool false]
def nodeD (D : DT) (k : Int) : Option Value := if There D k then some (ndV k (D k)) else none
def getV (D : DT) (k : Int) : Value := if There D k then ndV k (D k) else nd0
def getE (D : DT) (k : Int) : Int := if There D k then 0 else 7
def openE (D : DT) (k : Int) : Int := if There D k then (if (D k).cls = true then 16 else 0) else 7
def LimOk (n : Int) : Prop := -1 ≤ n ∧ n ≤ 9007199254740992
instance (n : Int) : Decidable (LimOk n) := by unfold LimOk; infer_instance
def underE (D : DT) (knd par : Int) : Int := if There D par then (if (D par).knd ≠ knd - 1 then 21 else 0) else 7
def putE (D : DT) (id par knd lim : Int) (cls : Bool) : Int :=
  if id < 1 ∨ id > 32 ∨ ¬ LimOk lim then 1
  else if knd < 1 ∨ knd > 3 ∨ ¬ (par = 0 ↔ knd = 1) then 21
  else if There D id then 8
  else if knd ≠ 1 ∧ underE D knd par ≠ 0 then underE D knd par
  else if knd ≠ 1 ∧ (D par).cls = true ∧ cls = false then 16 else 0
def upD (D : DT) (k : Int) (d : Dn) : DT := fun j => if j = k then d else D j
def putD (D : DT) (id par knd lim : Int) (cls : Bool) : DT := if putE D id par knd lim cls = 0 then upD D id ⟨par, knd, lim, cls⟩ else D
def moveE (D : DT) (id par : Int) : Int :=
  if ¬ There D id then 7 else if (D id).cls = true then 16 else if (D id).knd = 1 then 21 else if underE D (D id).knd par ≠ 0 then underE D (D id).knd par
  else if (D par).cls = true then 16 else if (D id).par = par then 8 else 0
def moveD (D : DT) (id par : Int) : DT := if moveE D id par = 0 then upD D id { D id with par := par } else D
def BusyAt (D : DT) (id k : Int) : Prop := There D k ∧ (D k).par = id ∧ (D k).cls = false
instance (D : DT) (id k : Int) : Decidable (BusyAt D id k) := by unfold BusyAt; infer_instance
def Busy (D : DT) (id : Int) : Prop := ∃ i, i < 32 ∧ BusyAt D id ((i : Nat) + 1 : Int)
instance (D : DT) (id : Int) : Decidable (Busy D id) := by unfold Busy; infer_instance
theorem busy_iff {D : DT} {id : Int} : Busy D id ↔ ∃ k, BusyAt D id k := by
  constructor
  · rintro ⟨i, _, h⟩; exact ⟨_, h⟩
  · rintro ⟨k, h⟩
    obtain ⟨⟨h1, h2, h3⟩, h4⟩ := h
    refine ⟨(k - 1).toNat, by omega, ?_⟩
    rw [show (((k - 1).toNat : Nat) : Int) + 1 = k by omega]
    exact ⟨⟨h1, h2, h3⟩, h4⟩
def closeE (D : DT) (id : Int) : Int := if ¬ There D id then 7 else if (D id).cls = true then 16 else if Busy D id then 17 else 0
def closeD (D : DT) (id : Int) : DT := if closeE D id = 0 then upD D id { D id with cls := true } else D
def limE (D : DT) (id lim : Int) : Int := if ¬ There D id then 7 else if ¬ LimOk lim then 1 else if (D id).cls = true then 16 else 0
def limD (D : DT) (id lim : Int) : DT := if limE D id lim = 0 then upD D id { D id with lim := lim } else D
/-- What all trees that come up are. -/
structure TWf (D : DT) : Prop where
  knd : ∀ k, There D k → (D k).knd ≤ 3
  org : ∀ k, There D k → ((D k).par = 0 ↔ (D k).knd = 1)
  up : ∀ k, There D k → (D k).knd ≠ 1 → There D (D k).par ∧ (D (D k).par).knd = (D k).knd - 1
theorem twf0 : TWf fun _ => dn0 := ⟨fun _ h => by have := h.2.2; simp [dn0] at this, fun _ h => by have := h.2.2; simp [dn0] at this, fun _ h => by have := h.2.2; simp [dn0] at this⟩
theorem upD_same (D : DT) (k : Int) (d : Dn) : upD D k d k = d := if_pos rfl
theorem upD_other (D : DT) {k j : Int} (d : Dn) (h : j ≠ k) : upD D k d j = D j := if_neg h
theorem there_up {D : DT} {k : Int} {d : Dn} (hk : 1 ≤ k ∧ k ≤ 32) (hd : 0 < d.knd) (j : Int) : There (upD D k d) j ↔ j = k ∨ There D j := by
  unfold There
  by_cases h : j = k
  · subst h; rw [upD_same]; exact ⟨fun _ => .inl rfl, fun _ => ⟨hk.1, hk.2, hd⟩⟩
  · rw [upD_other _ _ h]; exact ⟨.inr, fun q => q.resolve_left h⟩
theorem underE_zero {D : DT} {knd par : Int} (h : underE D knd par = 0) : There D par ∧ (D par).knd = knd - 1 := by
  unfold underE at h
  split at h
  · rename_i h1
    split at h
    · cases h
    · rename_i h2; exact ⟨h1, Decidable.byContradiction h2⟩
  · cases h
theorem putE_zero {D : DT} {id par knd lim : Int} {cls : Bool} (h : putE D id par knd lim cls = 0) :
    (1 ≤ id ∧ id ≤ 32) ∧ LimOk lim ∧ (1 ≤ knd ∧ knd ≤ 3) ∧ (par = 0 ↔ knd = 1) ∧ ¬ There D id ∧ (knd ≠ 1 → There D par ∧ (D par).knd = knd - 1 ∧ ¬ ((D par).cls = true ∧ cls = false)) := by
  unfold putE at h
  split at h
  · cases h
  rename_i h1
  split at h
  · cases h
  rename_i h2
  split at h
  · cases h
  rename_i h3
  split at h
  · rename_i h4; exact absurd h h4.2
  rename_i h4
  split at h
  · cases h
  rename_i h5
  refine ⟨⟨?_, ?_⟩, Decidable.byContradiction fun q => h1 (.inr (.inr q)), ⟨?_, ?_⟩, Decidable.byContradiction fun q => h2 (.inr (.inr q)), h3, fun hk => ?_⟩
  · exact Int.not_lt.1 fun q => h1 (.inl q)
  · exact Int.not_lt.1 fun q => h1 (.inr (.inl q))
  · exact Int.not_lt.1 fun q => h2 (.inl q)
  · exact Int.not_lt.1 fun q => h2 (.inr (.inl q))
  · have := underE_zero (Decidable.byContradiction fun q => h4 ⟨hk, q⟩)
    exact ⟨this.1, this.2, fun q => h5 ⟨hk, q⟩⟩
theorem moveE_zero {D : DT} {id par : Int} (h : moveE D id par = 0) : There D id ∧ (D id).cls = false ∧ (D id).knd ≠ 1 ∧ There D par ∧ (D par).knd = (D id).knd - 1 ∧ (D par).cls = false ∧ (D id).par ≠ par := by
  unfold moveE at h
  split at h
  · cases h
  rename_i h1
  split at h
  · cases h
  rename_i h2
  split at h
  · cases h
  rename_i h3
  split at h
  · rename_i h4; exact absurd h h4
  rename_i h4
  split at h
  · cases h
  rename_i h5
  split at h
  · cases h
  rename_i h6
  have := underE_zero (Decidable.byContradiction h4)
  exact ⟨Decidable.byContradiction h1, by simpa using h2, h3, this.1, this.2, by simpa using h5, h6⟩
theorem closeE_zero {D : DT} {id : Int} (h : closeE D id = 0) : There D id ∧ (D id).cls = false ∧ ¬ Busy D id := by
  unfold closeE at h
  split at h
  · cases h
  rename_i h1
  split at h
  · cases h
  rename_i h2
  split at h
  · cases h
  rename_i h3
  exact ⟨Decidable.byContradiction h1, by simpa using h2, h3⟩
theorem limE_zero {D : DT} {id lim : Int} (h : limE D id lim = 0) : There D id ∧ LimOk lim ∧ (D id).cls = false := by
  unfold limE at h
  split at h
  · cases h
  rename_i h1
  split at h
  · cases h
  rename_i h2
  split at h
  · cases h
  rename_i h3
  exact ⟨Decidable.byContradiction h1, Decidable.byContradiction h2, by simpa using h3⟩
/-- A node that keeps its kind and its place's kind keeps the tree. -/
theorem TWf.same {D : DT} (h : TWf D) {k : Int} {d : Dn} (hk : There D k) (hd : d.knd = (D k).knd) (h1 : d.par = 0 ↔ d.knd = 1) (h2 : d.knd ≠ 1 → There D d.par ∧ (D d.par).knd = d.knd - 1) : TWf (upD D k d) := by
  have hp : 0 < d.knd := by rw [hd]; exact hk.2.2
  have ht := there_up (D := D) ⟨hk.1, hk.2.1⟩ hp
  have hthere : ∀ j, There (upD D k d) j ↔ There D j := fun j => (ht j).trans ⟨fun q => q.elim (fun e => e ▸ hk) id, .inr⟩
  have hkn : ∀ j, (upD D k d j).knd = (D j).knd := fun j => by
    by_cases e : j = k
    · subst e; rw [upD_same, hd]
    · rw [upD_other _ _ e]
  refine ⟨fun j hj => by rw [hkn]; exact h.knd j ((hthere j).1 hj), fun j hj => ?_, fun j hj hn => ?_⟩
  · by_cases e : j = k
    · subst e; rw [upD_same]; exact h1
    · rw [upD_other _ _ e]; exact h.org j ((hthere j).1 hj)
  · by_cases e : j = k
    · subst e; rw [upD_same] at hn ⊢
      rw [hthere, hkn]; exact h2 hn
    · rw [upD_other _ _ e] at hn ⊢
      rw [hthere, hkn]; exact h.up j ((hthere j).1 hj) hn
theorem TWf.put {D : DT} (h : TWf D) (id par knd lim : Int) (cls : Bool) : TWf (putD D id par knd lim cls) := by
  unfold putD
  split
  · rename_i he
    obtain ⟨hid, hl, hk, ho, hn, hu⟩ := putE_zero he
    have ht := there_up (D := D) (k := id) (d := ⟨par, knd, lim, cls⟩) hid (by show 0 < knd; omega)
    have hne : ∀ j, There D j → j ≠ id := fun j hj e => hn (e ▸ hj)
    refine ⟨fun j hj => ?_, fun j hj => ?_, fun j hj hkn => ?_⟩
    · rcases (ht j).1 hj with rfl | q
      · rw [upD_same]; exact hk.2
      · rw [upD_other _ _ (hne j q)]; exact h.knd j q
    · rcases (ht j).1 hj with rfl | q
      · rw [upD_same]; exact ho
      · rw [upD_other _ _ (hne j q)]; exact h.org j q
    · rcases (ht j).1 hj with rfl | q
      · rw [upD_same] at hkn ⊢
        obtain ⟨u1, u2, _⟩ := hu hkn
        show There _ par ∧ (upD D j _ par).knd = knd - 1
        rw [upD_other _ _ (hne par u1)]
        exact ⟨(ht par).2 (.inr u1), u2⟩
      · rw [upD_other _ _ (hne j q)] at hkn ⊢
        obtain ⟨u1, u2⟩ := h.up j q hkn
        rw [upD_other _ _ (hne _ u1)]
        exact ⟨(ht _).2 (.inr u1), u2⟩
  · exact h
theorem TWf.move {D : DT} (h : TWf D) (id par : Int) : TWf (moveD D id par) := by
  unfold moveD
  split
  · rename_i he
    obtain ⟨h1, h2, h3, h4, h5, h6, h7⟩ := moveE_zero he
    refine h.same h1 rfl ⟨fun (e : par = 0) => ?_, fun e => absurd e h3⟩ fun _ => ⟨h4, h5⟩
    have := h4.1
    omega
  · exact h
theorem TWf.close {D : DT} (h : TWf D) (id : Int) : TWf (closeD D id) := by
  unfold closeD
  split
  · rename_i he
    obtain ⟨h1, h2, h3⟩ := closeE_zero he
    exact h.same h1 rfl (h.org id h1) (h.up id h1)
  · exact h
theorem TWf.limit {D : DT} (h : TWf D) (id lim : Int) : TWf (limD D id lim) := by
  unfold limD
  split
  · rename_i he
    obtain ⟨h1, h2, h3⟩ := limE_zero he
    exact h.same h1 rfl (h.org id h1) (h.up id h1)
  · exact h
/-- From the top down. -/
def pathN (D : DT) : Nat → Int → List Int
  | 0, _ => []
  | n + 1, k => if There D k then pathN D n (D k).par ++ [k] else []
def pathD (D : DT) (k : Int) : List Int := pathN D 3 k
theorem pathN_no {D : DT} {n : Nat} {k : Int} (h : ¬ There D k) : pathN D n k = [] := by
  cases n with
  | zero => rfl
  | succ n => unfold pathN; rw [if_neg h]
theorem pathN_eq {D : DT} (h : TWf D) : ∀ (n m : Nat) (k : Int), (There D k → (D k).knd ≤ n) → (There D k → (D k).knd ≤ m) → pathN D n k = pathN D m k
  | 0, m, k, h1, _ => by
    by_cases ht : There D k
    · have := h1 ht; have := ht.2.2; omega
    · rw [pathN_no ht, pathN_no ht]
  | n + 1, 0, k, _, h2 => by
    by_cases ht : There D k
    · have := h2 ht; have := ht.2.2; omega
    · rw [pathN_no ht, pathN_no ht]
  | n + 1, m + 1, k, h1, h2 => by
    by_cases ht : There D k
    · unfold pathN
      rw [if_pos ht, if_pos ht]
      congr 1
      have k1 := h1 ht
      have k2 := h2 ht
      refine pathN_eq h n m _ (fun hp => ?_) (fun hp => ?_)
      · by_cases e : (D k).knd = 1
        · have := (h.org k ht).2 e; have := hp.1; omega
        · have := (h.up k ht e).2; omega
      · by_cases e : (D k).knd = 1
        · have := (h.org k ht).2 e; have := hp.1; omega
        · have := (h.up k ht e).2; omega
    · rw [pathN_no ht, pathN_no ht]
theorem pathD_step {D : DT} (h : TWf D) {k : Int} (ht : There D k) : pathD D k = pathD D (D k).par ++ [k] := by
  have e1 : pathD D k = pathN D 4 k := pathN_eq h 3 4 k (fun ht => h.knd k ht) (fun ht => by have := h.knd k ht; omega)
  rw [e1]
  show (if There D k then pathN D 3 (D k).par ++ [k] else []) = _
  rw [if_pos ht]
  rfl
theorem pathD_no {D : DT} {k : Int} (h : ¬ There D k) : pathD D k = [] := pathN_no h
theorem not_there_zero (D : DT) : ¬ There D 0 := fun h => by have := h.1; omega
/-- A path's nodes: there, of the kinds 1, 2, 3 in their order. -/
theorem pathD_len {D : DT} (h : TWf D) : ∀ (n : Nat) (k : Int), There D k → (D k).knd = n → (pathD D k).length = n ∧ ∀ (i : Nat) (x : Int), (pathD D k)[i]? = some x → There D x ∧ (D x).knd = i + 1 := by
  intro n
  induction n with
  | zero => intro k ht hk; have := ht.2.2; omega
  | succ n ih =>
    intro k ht hk
    rw [pathD_step h ht]
    by_cases e : (D k).knd = 1
    · have hp : ¬ There D (D k).par := by rw [(h.org k ht).2 e]; exact not_there_zero D
      rw [pathD_no hp, List.nil_append]
      refine ⟨by simp; omega, fun i x hx => ?_⟩
      cases i with
      | zero => cases hx; exact ⟨ht, by omega⟩
      | succ i => cases hx
    · obtain ⟨u1, u2⟩ := h.up k ht e
      obtain ⟨k1, k2⟩ := ih _ u1 (by omega)
      refine ⟨by simp [k1], fun i x hx => ?_⟩
      by_cases hi : i < (pathD D (D k).par).length
      · rw [List.getElem?_append_left hi] at hx
        exact k2 i x hx
      · rw [List.getElem?_append_right (by omega)] at hx
        have : i - (pathD D (D k).par).length = 0 := by
          have := (List.getElem?_eq_some_iff.1 hx).1
          simp at this
          omega
        rw [this] at hx
        cases hx
        exact ⟨ht, by omega⟩
theorem pathD_nodup {D : DT} (h : TWf D) (k : Int) : (pathD D k).Nodup := by
  by_cases ht : There D k
  · obtain ⟨n, hn⟩ := Int.eq_ofNat_of_zero_le (show 0 ≤ (D k).knd by have := ht.2.2; omega)
    obtain ⟨_, h2⟩ := pathD_len h n k ht hn
    rw [List.nodup_iff_pairwise_ne, List.pairwise_iff_getElem]
    intro i j hi hj hij he
    have a := (h2 i _ (List.getElem?_eq_getElem hi)).2
    have b := (h2 j _ (List.getElem?_eq_getElem hj)).2
    rw [he] at a
    omega
  · rw [pathD_no ht]; exact List.nodup_nil
theorem pathD_last {D : DT} (h : TWf D) {k : Int} (ht : There D k) : k ∈ pathD D k := by rw [pathD_step h ht]; simp
/-- All ids; those below a node. -/
def ids32 : List Int := (List.range 32).map fun (i : Nat) => (i : Int) + 1
def idsD (D : DT) : List Int := ids32.filter fun k => decide (There D k)
def belowD (D : DT) (k : Int) : List Int := (idsD D).filter fun i => decide (k ∈ pathD D i)
theorem mem_ids {D : DT} {k : Int} : k ∈ idsD D ↔ There D k := by
  unfold idsD ids32
  rw [List.mem_filter, List.mem_map]
  simp only [List.mem_range, decide_eq_true_eq]
  constructor
  · exact fun q => q.2
  · intro q
    obtain ⟨h1, h2, h3⟩ := id q
    exact ⟨⟨(k - 1).toNat, by omega, by omega⟩, q⟩
theorem ids32_sorted : ids32.Pairwise (· < ·) := by
  unfold ids32
  rw [List.pairwise_map]
  exact List.pairwise_lt_range.imp fun h => by omega
theorem idsD_sorted (D : DT) : (idsD D).Pairwise (· < ·) := ids32_sorted.filter _
theorem mem_below {D : DT} {k i : Int} : i ∈ belowD D k ↔ There D i ∧ k ∈ pathD D i := by
  unfold belowD
  rw [List.mem_filter, mem_ids]
  simp
theorem nodup_bound : ∀ (n : Nat) (l : List Int), l.Nodup → (∀ x ∈ l, 1 ≤ x ∧ x ≤ n) → l.length ≤ n
  | 0, l, _, h => by
    cases l with
    | nil => simp
    | cons x r => have := h x (List.mem_cons_self ..); omega
  | n + 1, l, hn, h => by
    by_cases hm : ((n : Int) + 1) ∈ l
    · have h1 := List.length_erase_of_mem hm
      have h2 := nodup_bound n (l.erase ((n : Int) + 1)) (hn.erase _) fun x hx => by
        have h3 := h x (List.mem_of_mem_erase hx)
        have h4 : x ≠ (n : Int) + 1 := fun e => by
          subst e
          exact (List.Nodup.mem_erase_iff hn).1 hx |>.1 rfl
        omega
      omega
    · have := nodup_bound n l hn fun x hx => by
        have h3 := h x hx
        have : x ≠ (n : Int) + 1 := fun e => hm (e ▸ hx)
        omega
      omega
end Go.Proofs.Ytjcabccolkmlmaa
end
section
/- The accounts of layer 14, as a function: errors, what moves, the room. No program in sight. -/
namespace Go.Proofs.Ytjcabccolkmlmaa
open Go.RowKit
structure Ac where
  t : Int
  c : Int
  e : Int
  u : Int
  h : Int
abbrev FB := Int → Ac
def ac0 : Ac := ⟨0, 0, 0, 0, 0⟩
def Ac.left (a : Ac) : Int := a.t + a.c - a.e - a.u - a.h
def Ac.Nil (a : Ac) : Prop := a.t = 0 ∧ a.c = 0 ∧ a.e = 0 ∧ a.u = 0 ∧ a.h = 0
instance (a : Ac) : Decidable a.Nil := by unfold Ac.Nil; infer_instance
theorem Ac.nil_eq {a : Ac} (h : a.Nil) : a = ac0 := by
  obtain ⟨t, c, e, u, hh⟩ := a
  obtain ⟨h1, h2, h3, h4, h5⟩ := h
  simp only at h1 h2 h3 h4 h5
  subst h1; subst h2; subst h3; subst h4; subst h5; rfl
def Ac.In (a : Ac) : Prop := (0 ≤ a.t ∧ a.t ≤ 9007199254740992) ∧ (0 ≤ a.c ∧ a.c ≤ 9007199254740992) ∧ (0 ≤ a.e ∧ a.e ≤ 9007199254740992) ∧ (0 ≤ a.u ∧ a.u ≤ 9007199254740992) ∧ 0 ≤ a.h ∧ a.h ≤ 9007199254740992
instance (a : Ac) : Decidable a.In := by unfold Ac.In; infer_instance
def Ac.Ok (a : Ac) : Prop := a.In ∧ a.t + a.c ≤ 9007199254740992 ∧ 0 ≤ a.left
instance (a : Ac) : Decidable a.Ok := by unfold Ac.Ok; infer_instance
theorem ac0_ok : ac0.Ok := by decide
theorem Ac.mk_ok {t c e u h : Int} (h1 : 0 ≤ t) (h2 : 0 ≤ c) (h3 : 0 ≤ e) (h4 : 0 ≤ u) (h5 : 0 ≤ h) (h6 : t + c ≤ 9007199254740992) (h7 : e + u + h ≤ t + c) : Ac.Ok ⟨t, c, e, u, h⟩ := by
  unfold Ac.Ok Ac.In Ac.left
  dsimp only
  omega
theorem Ac.Ok.all {a : Ac} (h : a.Ok) : (0 ≤ a.t ∧ 0 ≤ a.c ∧ 0 ≤ a.e ∧ 0 ≤ a.u ∧ 0 ≤ a.h) ∧ a.t + a.c ≤ 9007199254740992 ∧ a.e + a.u + a.h ≤ a.t + a.c := by
  obtain ⟨⟨h1, h2, h3, h4, h5⟩, h6, h7⟩ := h
  unfold Ac.left at h7
  omega
def NodeOk (n : Int) : Prop := 1 ≤ n ∧ n ≤ 32
instance (n : Int) : Decidable (NodeOk n) := by unfold NodeOk; infer_instance
def AmtOk (n : Int) : Prop := 1 ≤ n ∧ n ≤ 9007199254740992
instance (n : Int) : Decidable (AmtOk n) := by unfold AmtOk; infer_instance
def PathOk (l : List Int) : Prop := (1 ≤ l.length ∧ l.length ≤ 3) ∧ (∀ x ∈ l, NodeOk x) ∧ l.Nodup
instance (l : List Int) : Decidable (PathOk l) := by unfold PathOk; infer_instance
def LimsOk (l lim : List Int) : Prop := PathOk l ∧ lim.length = l.length ∧ ∀ x ∈ lim, LimOk x
instance (l lim : List Int) : Decidable (LimsOk l lim) := by unfold LimsOk; infer_instance
def upF (A : FB) (k : Int) (a : Ac) : FB := fun j => if j = k then a else A j
theorem upF_same (A : FB) (k : Int) (a : Ac) : upF A k a k = a := if_pos rfl
theorem upF_other (A : FB) {k j : Int} (a : Ac) (h : j ≠ k) : upF A k a j = A j := if_neg h
def FWf (A : FB) : Prop := ∀ k, (A k).Ok ∧ (¬ NodeOk k → A k = ac0)
theorem fwf0 : FWf fun _ => ac0 := fun _ => ⟨ac0_ok, fun _ => rfl⟩
theorem FWf.up {A : FB} (h : FWf A) {k : Int} {a : Ac} (hk : NodeOk k) (ha : a.Ok) : FWf (upF A k a) := fun j => by
  unfold upF
  split
  · rename_i e; subst e; exact ⟨ha, fun q => absurd hk q⟩
  · exact h j
def topE (A : FB) (n more : Int) : Int := if ¬ NodeOk n ∨ ¬ AmtOk more then 1 else if (A n).t + (A n).c + more > 9007199254740992 then 6 else 0
def topD (A : FB) (n more : Int) : FB := if topE A n more = 0 then upF A n ⟨(A n).t + more, (A n).c, (A n).e, (A n).u, (A n).h⟩ else A
theorem topE_zero {A : FB} {n more : Int} (h : topE A n more = 0) : NodeOk n ∧ AmtOk more ∧ (A n).t + (A n).c + more ≤ 9007199254740992 := by
  unfold topE at h
  split at h
  · omega
  · rename_i h1
    split at h
    · omega
    · exact ⟨Decidable.byContradiction fun q => h1 (.inl q), Decidable.byContradiction fun q => h1 (.inr q), by omega⟩
theorem FWf.top {A : FB} (h : FWf A) (n more : Int) : FWf (topD A n more) := by
  unfold topD
  split
  · rename_i he
    obtain ⟨h1, h2, h3⟩ := topE_zero he
    obtain ⟨⟨k1, k2, k3, k4, k5⟩, k6, k7⟩ := (h n).1.all
    unfold AmtOk at h2
    exact h.up h1 (Ac.mk_ok (by omega) (by omega) (by omega) (by omega) (by omega) (by omega) (by omega))
  · exact h
/-! What moves along a path. -/
def addA (a : Ac) (du dh : Int) : Ac := ⟨a.t, a.c, a.e, a.u + du, a.h + dh⟩
def mvF (A : FB) (l : List Int) (du dh : Int) : FB := fun k => if k ∈ l then addA (A k) du dh else A k
theorem mvF_nil (A : FB) (du dh : Int) : mvF A [] du dh = A := by funext k; unfold mvF; rw [if_neg (by simp)]
theorem mvF_in {A : FB} {l : List Int} {du dh k : Int} (h : k ∈ l) : mvF A l du dh k = addA (A k) du dh := if_pos h
theorem mvF_out {A : FB} {l : List Int} {du dh k : Int} (h : k ∉ l) : mvF A l du dh k = A k := if_neg h
theorem mvF_mv (A : FB) (l : List Int) (a b c d : Int) : mvF (mvF A l a b) l c d = mvF A l (a + c) (b + d) := by
  funext k
  by_cases h : k ∈ l
  · rw [mvF_in h, mvF_in h, mvF_in h]; unfold addA; dsimp only; rw [Int.add_assoc, Int.add_assoc]
  · rw [mvF_out h, mvF_out h, mvF_out h]
theorem mvF_zero (A : FB) (l : List Int) : mvF A l 0 0 = A := by
  funext k
  by_cases h : k ∈ l
  · rw [mvF_in h]; unfold addA; rw [Int.add_zero, Int.add_zero]
  · rw [mvF_out h]
theorem nodup_take {l : List Int} (hn : l.Nodup) {i : Nat} (hi : i < l.length) : l[i] ∉ l.take i := fun q => by
  obtain ⟨j, hj, e⟩ := List.mem_iff_getElem.1 q
  rw [List.length_take] at hj
  rw [List.getElem_take] at e
  have := (List.getElem_inj (i := j) (j := i) (h₀ := by omega) (h₁ := hi) hn).1 e
  omega
theorem mvF_at {A : FB} {l : List Int} (hn : l.Nodup) {i : Nat} (hi : i < l.length) (du dh : Int) : mvF A (l.take i) du dh l[i] = A l[i] := mvF_out (nodup_take hn hi)
theorem mvF_step {A : FB} {l : List Int} (hn : l.Nodup) {i : Nat} (hi : i < l.length) (du dh : Int) : upF (mvF A (l.take i) du dh) l[i] (addA (A l[i]) du dh) = mvF A (l.take (i + 1)) du dh := by
  funext k
  unfold upF
  by_cases e : k = l[i]
  · subst e
    rw [if_pos rfl, mvF_in (by rw [List.take_succ_eq_append_getElem hi, List.mem_append, List.mem_singleton]; exact .inr rfl)]
  · rw [if_neg e]
    by_cases h : k ∈ l.take i
    · rw [mvF_in h, mvF_in (by rw [List.take_succ_eq_append_getElem hi, List.mem_append]; exact .inl h)]
    · rw [mvF_out h, mvF_out (by rw [List.take_succ_eq_append_getElem hi, List.mem_append, List.mem_singleton]; exact fun q => q.elim h e)]
theorem FWf.mv {A : FB} (h : FWf A) {l : List Int} {du dh : Int} (hl : ∀ k ∈ l, NodeOk k ∧ (addA (A k) du dh).Ok) : FWf (mvF A l du dh) := fun k => by
  by_cases hk : k ∈ l
  · rw [mvF_in hk]; exact ⟨(hl k hk).2, fun q => absurd (hl k hk).1 q⟩
  · rw [mvF_out hk]; exact h k
/-! Holding. -/
def spendF (a : Ac) (lim : Int) : Int := if lim = -1 then 9007199254740992 else max (lim - a.u - a.h) 0
def holdN (A : FB) (l lim : List Int) (n : Int) : Nat → Int
  | 0 => 0
  | i + 1 => if holdN A l lim n i ≠ 0 then holdN A l lim n i else if (A (l.getD i 0)).left < n then 9 else if lim.getD i 0 ≠ -1 ∧ (A (l.getD i 0)).u + (A (l.getD i 0)).h + n > lim.getD i 0 then 18 else 0
def holdE (A : FB) (l lim : List Int) (n : Int) : Int := if ¬ LimsOk l lim ∨ ¬ AmtOk n then 1 else holdN A l lim n l.length
def holdD (A : FB) (l lim : List Int) (n : Int) : FB := if holdE A l lim n = 0 then mvF A l 0 n else A
theorem holdN_stay {A : FB} {l lim : List Int} {n : Int} {i : Nat} : ∀ {j : Nat}, i ≤ j → holdN A l lim n i ≠ 0 → holdN A l lim n j = holdN A l lim n i
  | 0, hj, _ => by rw [show i = 0 by omega]
  | j + 1, hj, h => by
    by_cases e : i = j + 1
    · rw [e]
    · have := holdN_stay (j := j) (by omega) h
      rw [holdN, if_pos (by rw [this]; exact h), this]
theorem holdN_zero {A : FB} {l lim : List Int} {n : Int} : ∀ {j : Nat}, holdN A l lim n j = 0 ↔ ∀ i, i < j → n ≤ (A (l.getD i 0)).left ∧ (lim.getD i 0 = -1 ∨ (A (l.getD i 0)).u + (A (l.getD i 0)).h + n ≤ lim.getD i 0)
  | 0 => by simp [holdN]
  | j + 1 => by
    have ih := holdN_zero (A := A) (l := l) (lim := lim) (n := n) (j := j)
    rw [holdN]
    constructor
    · intro h
      split at h
      · rename_i q; exact absurd h q
      · rename_i q
        have q : holdN A l lim n j = 0 := Decidable.byContradiction q
        split at h
        · omega
        · split at h
          · omega
          · intro i hi
            by_cases e : i = j
            · subst e; exact ⟨by omega, by omega⟩
            · exact ih.1 q i (by omega)
    · intro h
      rw [if_neg (fun q => q (ih.2 fun i hi => h i (by omega)))]
      have := h j (by omega)
      rw [if_neg (by omega), if_neg (by omega)]
theorem holdE_zero {A : FB} {l lim : List Int} {n : Int} (h : holdE A l lim n = 0) : LimsOk l lim ∧ AmtOk n ∧ holdN A l lim n l.length = 0 := by
  unfold holdE at h
  split at h
  · omega
  · rename_i h1
    exact ⟨Decidable.byContradiction fun q => h1 (.inl q), Decidable.byContradiction fun q => h1 (.inr q), h⟩
theorem getD_of {l : List Int} {i : Nat} (h : i < l.length) : l.getD i 0 = l[i] := by rw [List.getD_eq_getElem?_getD, List.getElem?_eq_getElem h]; rfl
theorem hold_left {A : FB} {l lim : List Int} {n : Int} (h : holdN A l lim n l.length = 0) : ∀ k ∈ l, n ≤ (A k).left := fun k hk => by
  obtain ⟨i, hi, e⟩ := List.mem_iff_getElem.1 hk
  have := (holdN_zero.1 h i hi).1
  rwa [getD_of hi, e] at this
theorem FWf.hold {A : FB} (h : FWf A) (l lim : List Int) (n : Int) : FWf (holdD A l lim n) := by
  unfold holdD
  split
  · rename_i he
    obtain ⟨h1, h2, h3⟩ := holdE_zero he
    refine h.mv fun k hk => ⟨h1.1.2.1 k hk, ?_⟩
    obtain ⟨⟨k1, k2, k3, k4, k5⟩, k6, k7⟩ := (h k).1.all
    have := hold_left h3 k hk
    unfold AmtOk at h2
    unfold Ac.left at this
    exact Ac.mk_ok (by omega) (by omega) (by omega) (by omega) (by omega) (by omega) (by omega)
  · exact h
/-! Taking away: 0 what is held is let go, 1 it is used, 2 what was used comes back. -/
def selF (what : Int) (a : Ac) : Int := if what = 2 then a.u else a.h
def duF (what n : Int) : Int := if what = 1 then n else if what = 2 then -n else 0
def dhF (what n : Int) : Int := if what = 2 then 0 else -n
def awayE (A : FB) (what : Int) (l : List Int) (n : Int) : Int := if ¬ PathOk l ∨ ¬ AmtOk n then 1 else if ∃ k ∈ l, selF what (A k) < n then 20 else 0
def awayD (A : FB) (what : Int) (l : List Int) (n : Int) : FB := if awayE A what l n = 0 then mvF A l (duF what n) (dhF what n) else A
theorem awayE_zero {A : FB} {what : Int} {l : List Int} {n : Int} (h : awayE A what l n = 0) : PathOk l ∧ AmtOk n ∧ ∀ k ∈ l, n ≤ selF what (A k) := by
  unfold awayE at h
  split at h
  · omega
  · rename_i h1
    split at h
    · omega
    · rename_i h2
      exact ⟨Decidable.byContradiction fun q => h1 (.inl q), Decidable.byContradiction fun q => h1 (.inr q), fun k hk => by
        by_cases q : selF what (A k) < n
        · exact absurd ⟨k, hk, q⟩ h2
        · omega⟩
theorem awayE_is {A : FB} {what : Int} {l : List Int} {n : Int} (h1 : PathOk l) (h2 : AmtOk n) (h3 : ∀ k ∈ l, n ≤ selF what (A k)) : awayE A what l n = 0 := by
  unfold awayE
  rw [if_neg fun q => q.elim (fun q => q h1) fun q => q h2, if_neg]
  rintro ⟨k, hk, q⟩
  have := h3 k hk
  omega
theorem FWf.away {A : FB} (h : FWf A) (what : Int) (l : List Int) (n : Int) : FWf (awayD A what l n) := by
  unfold awayD
  split
  · rename_i he
    obtain ⟨h1, h2, h3⟩ := awayE_zero he
    refine h.mv fun k hk => ⟨h1.2.1 k hk, ?_⟩
    obtain ⟨⟨k1, k2, k3, k4, k5⟩, k6, k7⟩ := (h k).1.all
    have := h3 k hk
    unfold AmtOk at h2
    unfold selF at this
    unfold addA duF dhF
    by_cases e2 : what = 2
    · subst e2
      rw [if_pos rfl] at this
      rw [if_neg (by decide), if_pos rfl, if_pos rfl]
      exact Ac.mk_ok (by omega) (by omega) (by omega) (by omega) (by omega) (by omega) (by omega)
    · rw [if_neg e2] at this
      rw [if_neg e2, if_neg e2]
      split
      · exact Ac.mk_ok (by omega) (by omega) (by omega) (by omega) (by omega) (by omega) (by omega)
      · exact Ac.mk_ok (by omega) (by omega) (by omega) (by omega) (by omega) (by omega) (by omega)
  · exact h
/-! The next period. -/
def goneF (A : FB) (n : Int) (carry : Bool) : Int := if NodeOk n then (if carry = true then 0 else (A n).left) else 0
def rollE (n : Int) : Int := if NodeOk n then 0 else 1
def rollA (a : Ac) (carry : Bool) : Ac := ⟨0, a.left + a.h - (if carry = true then 0 else a.left), 0, 0, a.h⟩
def rollD (A : FB) (n : Int) (carry : Bool) : FB := if NodeOk n then upF A n (rollA (A n) carry) else A
theorem FWf.roll {A : FB} (h : FWf A) (n : Int) (carry : Bool) : FWf (rollD A n carry) := by
  unfold rollD
  split
  · rename_i hn
    obtain ⟨⟨k1, k2, k3, k4, k5⟩, k6, k7⟩ := (h n).1.all
    refine h.up hn ?_
    unfold rollA Ac.left
    split
    · exact Ac.mk_ok (by omega) (by omega) (by omega) (by omega) (by omega) (by omega) (by omega)
    · exact Ac.mk_ok (by omega) (by omega) (by omega) (by omega) (by omega) (by omega) (by omega)
  · exact h
def setE (n : Int) (a : Ac) : Int := if NodeOk n ∧ a.Ok then 0 else 1
def setD (A : FB) (n : Int) (a : Ac) : FB := if NodeOk n ∧ a.Ok then upF A n a else A
theorem FWf.set {A : FB} (h : FWf A) (n : Int) (a : Ac) : FWf (setD A n a) := by
  unfold setD
  split
  · rename_i hn; exact h.up hn.1 hn.2
  · exact h
/-! The room. -/
def roomN (A : FB) (l lim : List Int) : Nat → Int
  | 0 => 9007199254740992
  | i + 1 => min (min (roomN A l lim i) (A (l.getD i 0)).left) (spendF (A (l.getD i 0)) (lim.getD i 0))
def roomF (A : FB) (l lim : List Int) : Int := if LimsOk l lim then roomN A l lim l.length else 0
def roomE (l lim : List Int) : Int := if LimsOk l lim then 0 else 1
theorem roomN_le (A : FB) (l lim : List Int) : ∀ i, roomN A l lim i ≤ 9007199254740992
  | 0 => Int.le_refl _
  | i + 1 => by have := roomN_le A l lim i; rw [roomN]; omega
theorem roomN_ge {A : FB} (hW : FWf A) (l lim : List Int) : ∀ i, 0 ≤ roomN A l lim i
  | 0 => by rw [roomN]; decide
  | i + 1 => by
    have := roomN_ge hW l lim i
    have h2 := (hW (l.getD i 0)).1.2.2
    rw [roomN]
    unfold spendF
    split <;> omega
theorem room_hold {A : FB} {l lim : List Int} {n : Int} (hn : AmtOk n) : ∀ {j : Nat}, holdN A l lim n j = 0 ↔ n ≤ roomN A l lim j := by
  intro j
  rw [holdN_zero]
  unfold AmtOk at hn
  induction j with
  | zero => simp only [roomN]; exact ⟨fun _ => hn.2, fun _ i hi => absurd hi (Nat.not_lt_zero _)⟩
  | succ j ih =>
    rw [roomN]
    have key : (n ≤ (A (l.getD j 0)).left ∧ (lim.getD j 0 = -1 ∨ (A (l.getD j 0)).u + (A (l.getD j 0)).h + n ≤ lim.getD j 0)) ↔ n ≤ (A (l.getD j 0)).left ∧ n ≤ spendF (A (l.getD j 0)) (lim.getD j 0) := by
      unfold spendF
      split <;> omega
    constructor
    · intro h
      have h1 := ih.1 fun i hi => h i (by omega)
      have h2 := key.1 (h j (by omega))
      omega
    · intro h i hi
      by_cases e : i = j
      · subst e; exact key.2 (by omega)
      · exact ih.2 (by omega) i (by omega)
/-! Values. -/
def acL (a : Ac) : List Value := [.int .i64 a.t, .int .i64 a.c, .int .i64 a.e, .int .i64 a.u, .int .i64 a.h]
def acV (a : Ac) : Value := .agg #[.int .i64 a.t, .int .i64 a.c, .int .i64 a.e, .int .i64 a.u, .int .i64 a.h]
def accD (A : FB) (k : Int) : Option Value := if (A k).Nil then none else some (acV (A k))
theorem accD_get (A : FB) (k : Int) : (accD A k).getD (acV ac0) = acV (A k) := by
  unfold accD
  split
  · rename_i h; rw [Ac.nil_eq h]; rfl
  · rfl
def nodesF (A : FB) : List Int := ids32.filter fun k => decide (¬ (A k).Nil)
theorem mem_ids32 {k : Int} : k ∈ ids32 ↔ NodeOk k := by
  unfold ids32 NodeOk
  rw [List.mem_map]
  constructor
  · rintro ⟨i, hi, rfl⟩
    rw [List.mem_range] at hi
    omega
  · intro h
    exact ⟨(k - 1).toNat, by rw [List.mem_range]; omega, by omega⟩
theorem mem_nodes {A : FB} (hW : FWf A) {k : Int} : k ∈ nodesF A ↔ ¬ (A k).Nil := by
  unfold nodesF
  rw [List.mem_filter, mem_ids32]
  simp only [decide_not, Bool.not_eq_true', decide_eq_false_iff_not]
  exact ⟨fun q => q.2, fun q => ⟨Decidable.byContradiction fun r => q (by rw [(hW k).2 r]; exact ⟨rfl, rfl, rfl, rfl, rfl⟩), q⟩⟩
theorem nodes_sorted (A : FB) : (nodesF A).Pairwise (· < ·) := ids32_sorted.filter _
end Go.Proofs.Ytjcabccolkmlmaa
end
section
/- Conditions of functions, printed by a program of this claim's own (vcgen.py) out of the loaded code; each is proved to be enough. -/
set_option maxRecDepth 100000
namespace Go.Proofs.Ytjcabccolkmlmaa
open Go.RowKit
namespace GSl
def env : Env := ⟨[(3, ⟨.int .i64, 1, .int .i64 0, 8, [.int .i64]⟩), (23, ⟨.slice 3, 1, .slice none 0 0, 24, [.slice]⟩)], [(118, [.lf (.int .i64)])], []⟩
theorem ty3 : TyOk Try.prog 3 ⟨.int .i64, 1, .int .i64 0, 8, [.int .i64]⟩ := tyok (by kernel_rfl) (by kernel_rfl)
theorem ty23 : TyOk Try.prog 23 ⟨.slice 3, 1, .slice none 0 0, 24, [.slice]⟩ := tyok (by kernel_rfl) (by kernel_rfl)
theorem fn118 : FnOk Try.prog 118 := fnok Try.func118 (by kernel_rfl) (by kernel_rfl)
theorem envOk : EOk Try.prog env := ⟨(by simp only [env, List.forall_mem_cons, List.not_mem_nil, false_implies, implies_true, and_true]; exact ⟨ty3, ty23⟩), (by simp only [env, List.forall_mem_cons, List.not_mem_nil, false_implies, implies_true, and_true]; exact fn118), by kernel_rfl, (fun _ h => by cases h)⟩
/-- slices.Contains[[]int,int] -/
def contains_vc (a0 : Option Addr) (n0 : Nat) (c0 : Nat) (x1 : Int) (w : World) (K : Value → World → Prop) : Prop :=
  Calls Try.prog 118 #[.slice a0 n0 c0, .int .i64 x1] w fun e w_2 => KeepG [] w w_2 ∧
  ∃ (x7 : Int),
  e = .returned (.int .i64 x7) ∧
  K (.bool (decide (x7 ≥ 0))) w_2
def contains_notes : Notes := ⟨[], [], []⟩
theorem contains_calls (a0 : Option Addr) (n0 : Nat) (c0 : Nat) (x1 : Int) (w : World) (K : Value → World → Prop) (h : contains_vc a0 n0 c0 x1 w K) : Calls Try.prog 96 #[.slice a0 n0 c0, .int .i64 x1] w fun e w' => ∃ v, e = .returned v ∧ K v w' :=
  calls_of_fvc envOk Try.func96 contains_notes [] [.slice a0 n0 c0, .int .i64 x1] w K (use_vc h (by as_aux_lemma => kernel_rfl))
/-- slices.Index[[]int,int] -/
def index_vc (a0 : Option Addr) (n0 : Nat) (c0 : Nat) (x1 : Int) (w : World) (K : Value → World → Prop) : Prop :=
  ∃ (I : Int → World → Prop) (μ : Int → World → Nat),
  I 0 w ∧
  ∀ (x8 : Int) (w_2 : World), I x8 w_2 →
  br (decide (x8 < ((n0 : Nat) : Int))) (
    withP a0 fun g14 o14 =>
    (0 : Int) ≤ x8 ∧ x8 < (((n0 : Nat) : Int) : Int) ∧
    ∃ (x15 : Int), w_2.cell? ⟨g14, o14 + x8.toNat * 1, none⟩ = some (.int .i64 x15) ∧
    br (decide (x1 = x15)) (
      K (.int .i64 x8) w_2
    ) (
      I (IntKind.i64.wrap (x8 + 1)) w_2 ∧ μ (IntKind.i64.wrap (x8 + 1)) w_2 < μ x8 w_2
    )
  ) (
    K (.int .i64 (-1)) w_2
  )
def index_notes : Notes := ⟨[], [(2, ⟨[(8, .lf (.int .i64))], [], [9, 10, 5, 11, 12, 13, 14, 15, 16, 17, 4, 18, 8], []⟩)], []⟩
theorem index_calls (a0 : Option Addr) (n0 : Nat) (c0 : Nat) (x1 : Int) (w : World) (K : Value → World → Prop) (h : index_vc a0 n0 c0 x1 w K) : Calls Try.prog 118 #[.slice a0 n0 c0, .int .i64 x1] w fun e w' => ∃ v, e = .returned v ∧ K v w' :=
  calls_of_fvc envOk Try.func118 index_notes [] [.slice a0 n0 c0, .int .i64 x1] w K (use_vc h (by as_aux_lemma => kernel_rfl))
/-- slices.Reverse[[]int,int] -/
def reverse_vc (a0 : Option Addr) (n0 : Nat) (c0 : Nat) (w : World) (K : Value → World → Prop) : Prop :=
  ∃ (I : Int → Int → World → Prop) (μ : Int → Int → World → Nat),
  I 0 (IntKind.i64.wrap (((n0 : Nat) : Int) - 1)) w ∧
  ∀ (x2 : Int) (x3 : Int) (w_2 : World), I x2 x3 w_2 →
  br (decide (x2 < x3)) (
    drewO w_2 fun w_3 =>
    withP a0 fun g20 o20 =>
    (0 : Int) ≤ x3 ∧ x3 < (((n0 : Nat) : Int) : Int) ∧
    ∃ (x21 : Int), w_3.cell? ⟨g20, o20 + x3.toNat * 1, none⟩ = some (.int .i64 x21) ∧
    withP a0 fun g24 o24 =>
    (0 : Int) ≤ x2 ∧ x2 < (((n0 : Nat) : Int) : Int) ∧
    ∃ (x25 : Int), w_3.cell? ⟨g24, o24 + x2.toNat * 1, none⟩ = some (.int .i64 x25) ∧
    withP a0 fun g26 o26 =>
    (0 : Int) ≤ x2 ∧ x2 < (((n0 : Nat) : Int) : Int) ∧
    stO [] w_3 g26 (o26 + x2.toNat * 1) [.int .i64 x21] fun w_4 =>
    withP a0 fun g27 o27 =>
    (0 : Int) ≤ x3 ∧ x3 < (((n0 : Nat) : Int) : Int) ∧
    stO [] w_4 g27 (o27 + x3.toNat * 1) [.int .i64 x25] fun w_5 =>
    I (IntKind.i64.wrap (x2 + 1)) (IntKind.i64.wrap (x3 - 1)) w_5 ∧ μ (IntKind.i64.wrap (x2 + 1)) (IntKind.i64.wrap (x3 - 1)) w_5 < μ x2 x3 w_2
  ) (
    K (.tuple #[]) w_2
  )
def reverse_notes : Notes := ⟨[(3, ⟨[0, 0, 0, 0, 0, 0, 48, 112, 0, 0, 768, 1792, 4083, 8179, 16383, 32767], [13, 15], [0, 1, 2, 3, 4, 5, 6, 7, 8, 9, 10, 11, 12, 14]⟩)], [(1, ⟨[(2, .lf (.int .i64)), (3, .lf (.int .i64))], [], [7, 8, 9, 14, 15, 16, 17, 18, 19, 20, 21, 22, 23, 24, 25, 26, 27, 10, 11, 12, 13, 2, 3], []⟩)], []⟩
theorem reverse_calls (a0 : Option Addr) (n0 : Nat) (c0 : Nat) (w : World) (K : Value → World → Prop) (h : reverse_vc a0 n0 c0 w K) : Calls Try.prog 95 #[.slice a0 n0 c0] w fun e w' => ∃ v, e = .returned v ∧ K v w' :=
  calls_of_fvc envOk Try.func95 reverse_notes [] [.slice a0 n0 c0] w K (use_vc h (by as_aux_lemma => kernel_rfl))
end GSl
end Go.Proofs.Ytjcabccolkmlmaa
end
section
/- Rows of ints. No program in sight. -/
namespace Go.Proofs.Ytjcabccolkmlmaa
open Go.RowKit Go.ChangeShapes
def iV (z : Int) : Value := .int .i64 z
def ints (zs : List Int) : Prop := ∀ z ∈ zs, -9223372036854775808 ≤ z ∧ z ≤ 9223372036854775807
theorem RowAt.int {w : World} {a : Option Addr} {zs : List Int} (h : RowAt w a (zs.map iV)) {k : Nat} (hk : k < zs.length) : ∃ b off, a = some ⟨b, off, none⟩ ∧ w.cell? ⟨b, off + k, none⟩ = some (.int .i64 zs[k]) := by
  rcases h with h | ⟨b, off, ha, h⟩
  · rw [List.map_eq_nil_iff] at h; subst h; simp at hk
  · exact ⟨b, off, ha, h k _ (by rw [List.getElem?_map, List.getElem?_eq_getElem hk]; rfl)⟩
theorem one_iV {zs : List Int} : ∀ u ∈ zs.map iV, u.oneCell' = true := by
  intro u hu
  obtain ⟨x, _, rfl⟩ := List.mem_map.1 hu
  rfl
theorem min_takeI (zs : List Int) (n : Nat) : min (zs.length : Int) (n : Int) = ((zs.take n).length : Int) := by
  rw [List.length_take]; omega
variable {P : Program} {W : World} {H : Type} {enc : TypeId × Value → H}
theorem row_of_ints {a : Addr} {zs : List Int} {len : Nat} (hl : len ≤ zs.length) (hc : ∀ i, i < zs.length → W.cell? (a.add i) = some (.int .i64 (zs.getD i 0))) : (zs.take len).length = len ∧ RowAt W (some a) ((zs.take len).map iV) := by
  refine ⟨by simp; omega, ?_⟩
  cases hz : zs with
  | nil => exact .inl (by simp)
  | cons z0 r =>
    rw [← hz]
    have h0 := hc 0 (by rw [hz]; simp)
    have ha := addr_plain h0
    refine .inr ⟨a.block, a.off, by rw [← ha], fun i v hv => ?_⟩
    rw [List.getElem?_map, List.getElem?_take] at hv
    split at hv
    · rcases hq : zs[i]? with _ | z
      · rw [hq] at hv; cases hv
      · rw [hq] at hv
        simp only [Option.map_some, Option.some.injEq] at hv
        have hi : i < zs.length := (List.getElem?_eq_some_iff.1 hq).1
        have h1 := hc i hi
        rw [ha, Addr.add_lit, List.getD_eq_getElem?_getD, hq] at h1
        rw [← hv]
        exact h1
    · cases hv
theorem open_i64s {t e : TypeId} {v : Value} {d : DataW H} {p : List MemPlace} (ht : P.underlying t = some (.slice e)) (he : P.underlying e = some (.int .i64)) (hc : P.cellsOf e = 1)
    (hv : ∃ a l c, v = .slice a l c) (h : DataW.Trod enc P W 0 (fun _ => true) true t v d p) : ∃ (zs : List Int) (a : Option Addr) (c : Nat), v = .slice a zs.length c ∧ zs.length ≤ c ∧ c ≤ maxLen ∧ RowAt W a (zs.map iV) ∧ ints zs := by
  obtain ⟨a, l, c, rfl⟩ := hv
  obtain ⟨fuel, hf⟩ := h
  rcases open_ints ht he hc hf with ⟨hcs, _⟩ | ⟨x, l', c', zs, hcs, _, hl, hm, hz, _, hcell, hwz⟩
  · simp [Value.cells] at hcs
    obtain ⟨rfl, rfl, rfl⟩ := hcs
    exact ⟨[], none, 0, rfl, Nat.le_refl _, by decide, .inl rfl, fun _ h => by cases h⟩
  · simp [Value.cells] at hcs
    obtain ⟨rfl, rfl, rfl⟩ := hcs
    simp only [if_true] at hz
    obtain ⟨h1, h2⟩ := row_of_ints (len := l) (by omega) hcell
    exact ⟨zs.take l, some x, c, by rw [h1], by rw [h1]; exact hl, hm, h2, fun z hz => i64_range (hwz z (List.mem_of_mem_take hz))⟩
end Go.Proofs.Ytjcabccolkmlmaa
end
section
/- slices.Contains and slices.Reverse at ints; walked. -/
namespace Go.Proofs.Ytjcabccolkmlmaa
open Go.RowKit
theorem slIndex_any (a : Option Addr) (c : Nat) (zs : List Int) (x : Int) (w : World) (h : RowAt w a (zs.map iV)) (hl : zs.length ≤ 1000000) :
    Calls Try.prog 118 #[.slice a zs.length c, .int .i64 x] w fun e w' => (∃ r : Int, e = .returned (.int .i64 r) ∧ (0 ≤ r ↔ x ∈ zs)) ∧ Below w.heap.size w w' := by
  refine (GSl.index_calls a zs.length c x w (fun v w' => (∃ r : Int, v = .int .i64 r ∧ (0 ≤ r ↔ x ∈ zs)) ∧ Below w.heap.size w w') ?_).mono (by rintro e w' ⟨v, rfl, ⟨r, rfl, h⟩, h2⟩; exact ⟨⟨r, rfl, h⟩, h2⟩)
  unfold GSl.index_vc
  refine ⟨fun y wx => ∃ i : Nat, y = i ∧ i ≤ zs.length ∧ x ∉ zs.take i ∧ wx = w, fun y _ => zs.length - y.toNat, ⟨0, rfl, by omega, by simp, rfl⟩, ?_⟩
  rintro y wx ⟨i, rfl, hi, hno, rfl⟩
  refine br_dec (fun hlt => ?_) fun hge => ?_
  · have hil : i < zs.length := by omega
    obtain ⟨b, off, rfl, hc⟩ := h.int hil
    have htk : zs.take (i + 1) = zs.take i ++ [zs[i]] := by rw [List.take_add_one, List.getElem?_eq_getElem hil]; rfl
    refine ⟨by omega, by omega, zs[i], by rw [Int.toNat_natCast, Nat.mul_one]; exact hc, br_dec (fun he => ?_) fun he => ?_⟩
    · refine ⟨⟨_, rfl, fun _ => ?_, fun _ => by omega⟩, Bs.refl _⟩
      rw [he]; exact List.getElem_mem hil
    · rw [wr64 (by omega) (by omega)]
      refine ⟨⟨i + 1, by omega, by omega, ?_, rfl⟩, by dsimp only; omega⟩
      rw [htk, List.mem_append]
      rintro (h1 | h1)
      · exact hno h1
      · rw [List.mem_singleton] at h1; exact he h1
  · obtain rfl : i = zs.length := by omega
    rw [List.take_length] at hno
    exact ⟨⟨-1, rfl, fun h => by omega, fun h => absurd h hno⟩, Bs.refl _⟩
theorem slContains_ret (a : Option Addr) (c : Nat) (zs : List Int) (x : Int) (w : World) (h : RowAt w a (zs.map iV)) (hl : zs.length ≤ 1000000) :
    Calls Try.prog 96 #[.slice a zs.length c, .int .i64 x] w (Ret (.bool (decide (x ∈ zs))) w) := by
  refine ret_in (GSl.contains_calls a zs.length c x w (fun u w' => u = .bool (decide (x ∈ zs)) ∧ Below w.heap.size w w') ?_)
  unfold GSl.contains_vc
  refine callQ (Bs.refl w) (slIndex_any a c zs x w h hl) ?_
  rintro e w2 ⟨r, rfl, hr⟩ b2 B2
  refine ⟨r, rfl, ?_, B2⟩
  congr 1
  exact decide_eq_decide.2 hr
/-- What stands there when so many from both ends have been exchanged. -/
def revL (zs : List Int) (i : Nat) : List Int := (List.range zs.length).map fun k => if k < i ∨ zs.length - 1 - i < k then zs.getD (zs.length - 1 - k) 0 else zs.getD k 0
theorem revL_len (zs : List Int) (i : Nat) : (revL zs i).length = zs.length := by simp [revL]
theorem revL_get (zs : List Int) (i k : Nat) (hk : k < zs.length) : (revL zs i)[k]? = some (if k < i ∨ zs.length - 1 - i < k then zs.getD (zs.length - 1 - k) 0 else zs.getD k 0) := by simp [revL, hk]
theorem revL_zero (zs : List Int) : revL zs 0 = zs := by
  apply List.ext_getElem?
  intro k
  by_cases hk : k < zs.length
  · rw [revL_get zs 0 k hk, if_neg (by omega), List.getD_eq_getElem?_getD, List.getElem?_eq_getElem hk]; rfl
  · rw [List.getElem?_eq_none (by rw [revL_len]; omega), List.getElem?_eq_none (by omega)]
theorem revL_all (zs : List Int) (i : Nat) (hi : zs.length ≤ 2 * i + 1) : revL zs i = zs.reverse := by
  apply List.ext_getElem?
  intro k
  by_cases hk : k < zs.length
  · rw [revL_get zs i k hk, List.getElem?_reverse hk]
    have hj : zs.length - 1 - k < zs.length := by omega
    split
    · rw [List.getD_eq_getElem?_getD, List.getElem?_eq_getElem hj]; rfl
    · rw [show zs.length - 1 - k = k by omega, List.getD_eq_getElem?_getD, List.getElem?_eq_getElem hk]; rfl
  · rw [List.getElem?_eq_none (by rw [revL_len]; omega), List.getElem?_eq_none (by simp; omega)]
theorem revL_step (zs : List Int) (i : Nat) (hi : i < zs.length - 1 - i) : ((revL zs i).set i (zs.getD (zs.length - 1 - i) 0)).set (zs.length - 1 - i) (zs.getD i 0) = revL zs (i + 1) := by
  apply List.ext_getElem?
  intro k
  by_cases hk : k < zs.length
  · rw [revL_get zs (i + 1) k hk]
    by_cases h1 : k = zs.length - 1 - i
    · subst h1
      rw [List.getElem?_set_self (by simp [revL_len]; omega), if_pos (by omega), show zs.length - 1 - (zs.length - 1 - i) = i by omega]
    · rw [List.getElem?_set_ne (by omega)]
      by_cases h2 : k = i
      · subst h2
        rw [List.getElem?_set_self (by rw [revL_len]; omega), if_pos (by omega)]
      · rw [List.getElem?_set_ne (by omega), revL_get zs i k hk]
        by_cases h3 : k < i ∨ zs.length - 1 - i < k
        · rw [if_pos h3, if_pos (by omega)]
        · rw [if_neg h3, if_neg (by omega)]
  · rw [List.getElem?_eq_none (by simp [revL_len]; omega), List.getElem?_eq_none (by rw [revL_len]; omega)]
theorem slReverse_own (a : Option Addr) (c : Nat) (zs : List Int) (b : Nat) (w : World) (h : Own w b 3 1 (.slice a zs.length c) zs.length (zs.map iV)) (hl : zs.length ≤ 1000000) (hb : ∀ k, (Value.slice a zs.length c).ownBlock = some k → b ≤ k) :
    Calls Try.prog 95 #[.slice a zs.length c] w fun e w' => e = .returned (.tuple #[]) ∧ Own w' b 3 1 (.slice a zs.length c) zs.length (zs.reverse.map iV) ∧ Fr (Value.slice a zs.length c).ownBlock.toList w w' := by
  refine (GSl.reverse_calls a zs.length c w (fun v w' => v = .tuple #[] ∧ Own w' b 3 1 (.slice a zs.length c) zs.length (zs.reverse.map iV) ∧ Fr (Value.slice a zs.length c).ownBlock.toList w w') ?_).mono (by rintro e w' ⟨v, rfl, rfl, h⟩; exact ⟨rfl, h⟩)
  unfold GSl.reverse_vc
  rw [wr64 (by omega) (by omega)]
  refine ⟨fun x y wx => ∃ i : Nat, x = i ∧ y = (zs.length : Int) - 1 - i ∧ 2 * i ≤ zs.length ∧ Own wx b 3 1 (.slice a zs.length c) zs.length ((revL zs i).map iV) ∧ Fr (Value.slice a zs.length c).ownBlock.toList w wx, fun x _ _ => zs.length - x.toNat, ⟨0, rfl, by omega, by omega, by rw [revL_zero]; exact h, Fr.refl _ _⟩, ?_⟩
  rintro x y wx ⟨i, rfl, rfl, hi, ho, hf⟩
  refine br_dec (fun hlt => drewO_in fun w3 b3 e3 => ?_) fun hge => ?_
  · have hij : i < zs.length - 1 - i := by omega
    have hil : i < zs.length := by omega
    obtain ⟨j, hj⟩ : ∃ j : Nat, j = zs.length - 1 - i := ⟨_, rfl⟩
    have hjn : (zs.length : Int) - 1 - i = (j : Int) := by omega
    rw [hjn]
    have hjl : j < zs.length := by omega
    have ho3 := ho.below b3 (Nat.le_refl _)
    obtain ⟨g, off, rfl, hgb, hgl⟩ := ho3.someAddr (by omega)
    have cj := ho3.cells g off c rfl j (iV (zs.getD j 0)) (by rw [List.getElem?_map, revL_get zs i j hjl, if_neg (by omega)]; rfl)
    have ci := ho3.cells g off c rfl i (iV (zs.getD i 0)) (by rw [List.getElem?_map, revL_get zs i i hil, if_neg (by omega)]; rfl)
    refine ⟨by omega, by omega, zs.getD j 0, by rw [Int.toNat_natCast, Nat.mul_one]; exact cj, by omega, by omega, zs.getD i 0, by rw [Int.toNat_natCast, Nat.mul_one]; exact ci, by omega, by omega, ?_⟩
    rw [Int.toNat_natCast, Int.toNat_natCast]
    refine ho3.storeAt hil (fun x hx => by cases hx) fun w4 o4 f4 z4 => ⟨by omega, by omega, o4.storeAt hjl (fun x hx => by cases hx) fun w5 o5 f5 z5 => ?_⟩
    rw [wr64 (by omega) (by omega), wr64 (by omega) (by omega)]
    have hstep : (((revL zs i).map iV).set i (iV (zs.getD j 0))).set j (iV (zs.getD i 0)) = (revL zs (i + 1)).map iV := by
      rw [← List.map_set, ← List.map_set, hj, revL_step zs i (by omega)]
    have o5' : Own w5 b 3 1 (.slice (some ⟨g, off, none⟩) zs.length c) zs.length ((revL zs (i + 1)).map iV) := by rw [← hstep]; exact o5
    refine ⟨⟨i + 1, by omega, by omega, by omega, o5', ?_⟩, by dsimp only; omega⟩
    have hL : (Value.slice (some ⟨g, off, none⟩) zs.length c).ownBlock.toList = [g] := rfl
    rw [hL] at hf ⊢
    exact ((hf.trans (Fr.ofBelow (L := [g]) b3) (Gr.refl _ _)).trans f4 (Gr.refl _ _)).trans f5 (Gr.refl _ _)
  · rw [revL_all zs i (by omega)] at ho
    exact ⟨rfl, ho, hf⟩
/-- As 'app1', and where the list lies then. -/
theorem app1o {gs : List Nat} {w0 w w2 : World} {n1 n c g2 : Nat} {a : Option Addr} {z : Int} {zs : List Int} {K : Nat → Option Addr → Nat → World → Prop}
    (B : Bs w0 w2) (o : Own w n1 3 1 (.slice a n c) n (zs.map iV)) (b : Below w.heap.size w w2) (hn1 : w0.heap.size ≤ n1) (hn2 : n1 ≤ w.heap.size) (hg2 : w2.heap[g2]? = some (.cells #[.int .i64 z] 3 (0, 0))) (hl : n ≤ 1000000) (hgs : ∀ g ∈ gs, g < n1)
    (k : ∀ a' c' w1, Own w1 n1 3 1 (.slice a' (n + 1) c') (n + 1) ((zs ++ [z]).map iV) → Bs w0 w1 → w2.grownBy w1 (Value.slice a n c).ownBlock → w2.heap.size ≤ w1.heap.size → ((Value.slice a' (n + 1) c').ownBlock = (Value.slice a n c).ownBlock ∨ ∃ g, (Value.slice a' (n + 1) c').ownBlock = some g ∧ w2.heap.size ≤ g) → K 1 a' c' w1) :
    appO Try.prog gs w2 3 1 8 23 a n c (.slice (some ⟨g2, 0, none⟩) 1 1) K := by
  have o2 := o.below b (Nat.le_refl _)
  refine ⟨1, _, _, o2.base_le fun _ _ => Nat.zero_le _, src_block (cs := [.int .i64 z]) Try.underlying23 hg2 rfl rfl, by unfold maxLen; omega, by omega, fun g hg e => by have := (o.lt g e).1; have := hgs g hg; omega, fun a' c' w1 o1 g1 or1 _ => ?_⟩
  have hB : Bs w0 w1 := ⟨g1.os.trans B.os, g1.tape.trans B.tape, g1.output.trans B.output, Nat.le_trans B.size g1.size, fun q hq => (g1.block q (by have := B.size; omega) fun e => by have := (o.lt q e.symm).1; omega).trans (B.block q hq)⟩
  have o1' := o1.base_le (b' := n1) fun q hq => by
    rcases or1 with h | ⟨g, h, h3⟩
    · exact (o.lt q (h ▸ hq)).1
    · rw [h] at hq; injection hq with hq; have := b.size; omega
  exact k a' c' w1 (by rw [List.map_append]; exact o1') hB g1 g1.size or1
/-- One more int behind a list of one's own. -/
theorem app1 {gs : List Nat} {w0 w w2 : World} {n1 n c g2 : Nat} {a : Option Addr} {z : Int} {zs : List Int} {K : Nat → Option Addr → Nat → World → Prop}
    (B : Bs w0 w2) (o : Own w n1 3 1 (.slice a n c) n (zs.map iV)) (b : Below w.heap.size w w2) (hn1 : w0.heap.size ≤ n1) (hn2 : n1 ≤ w.heap.size) (hg2 : w2.heap[g2]? = some (.cells #[.int .i64 z] 3 (0, 0))) (hl : n ≤ 1000000) (hgs : ∀ g ∈ gs, g < n1)
    (k : ∀ a' c' w1, Own w1 n1 3 1 (.slice a' (n + 1) c') (n + 1) ((zs ++ [z]).map iV) → Bs w0 w1 → w2.grownBy w1 (Value.slice a n c).ownBlock → w2.heap.size ≤ w1.heap.size → K 1 a' c' w1) :
    appO Try.prog gs w2 3 1 8 23 a n c (.slice (some ⟨g2, 0, none⟩) 1 1) K := by
  refine appB B (o.below b (Nat.le_refl _)) hn1 (Nat.le_trans hn2 b.size) (src_block (cs := [.int .i64 z]) Try.underlying23 hg2 rfl rfl) (by unfold maxLen; omega) (by omega) (fun g hg e => by have := (o.lt g e).1; have := hgs g hg; omega) fun a' c' w1 o1 g1 B1 z1 => k a' c' w1 ?_ B1 g1 z1
  rw [List.map_append]
  exact o1
end Go.Proofs.Ytjcabccolkmlmaa
end
section
/- The sorted keys of a book of funds: the library's contracts at this program. -/
namespace Go.Proofs.Ytjcabccolkmlmaa
open Go.RowKit Go.Maps Go.Sort Go.Shelf
shelf_lay_g SlLaysZI.n7 Ggz 7 at Try 102 as Try.keysFunds
shelf_lay_g SlLaysZI.n6 Ggz 6 at Try 87 as Try.sortedI
shelf_lay_g SlLaysM.n5 Slgm 5 at Try 115 as Try.sortI
theorem sortsIF (m : Nat) : AnyZI.SortsIn Try.prog Try.sortedI_ren Fence.wide m :=
  ⟨fun blk off cap ss W hH hblk hsz => callsIn_wide.2 (AnyM.slices_Sort_int Try.sortI blk off cap ss W hH hblk hsz),
   fun p cap W => callsIn_wide.2 (AnyM.slices_Sort_int_none Try.sortI p cap W)⟩
theorem keysFunds_calls (mb : Option Nat) (w : World) : Calls Try.prog 102 #[.map mb] w fun e w' => e = .returned (.func (.func 122) #[] #[.pointer (some ⟨w.heap.size, 0, none⟩)]) ∧ w' = w.alloc (.cells #[.map mb] 112) :=
  (callsIn_wide (n := 5)).1 (AnyZI.keys_in Try.keysFunds Fence.wide 5 trivial rfl mb w)
theorem sortFunds_calls (w : World) (Bm b : Nat) (m : List (Int × Value)) (hBm : Bm < w.heap.size) (hc : w.cell? ⟨Bm, 0, none⟩ = some (.map (some b))) (h : MapAt w b m)
    (hr : ∀ p ∈ m, -9223372036854775808 ≤ p.1 ∧ p.1 ≤ 9223372036854775807) (hl : m.length ≤ 1000000) :
    Calls Try.prog 87 #[.func (.func 122) #[] #[.pointer (some ⟨Bm, 0, none⟩)]] w fun e w' => ∃ a c, e = .returned (.slice a (sortK m).length c) ∧
      Own w' w.heap.size 3 1 (.slice a (sortK m).length c) (sortK m).length ((sortK m).map (Value.int .i64)) ∧ (a = none ↔ sortK m = []) ∧ Below w.heap.size w w' :=
  sortK_calls (ρK := Try.keysFunds_ren) (ρS := Try.sortedI_ren) { Try.keysFunds with } Try.sortedI Try.underlying3 (sortsIF 4) (enters_of Try.func115 (by kernel_rfl) rfl) (enters_of Try.func122 (by kernel_rfl) rfl) w Bm b m hBm hc h hr hl
/-- 'slices.Sorted(maps.Keys(m))': a new slice with the keys, ascending. -/
theorem keysFunds_new {w : World} {mb : Nat} {m : List (Int × Value)} (h : MapAt w mb m) (hr : ∀ p ∈ m, -9223372036854775808 ≤ p.1 ∧ p.1 ≤ 9223372036854775807) (hl : m.length ≤ 1000000) {gs : List Nat} {w0 : World} {K : Value → World → Prop} (B : Bs w0 w)
    (k : ∀ a c w2, Own w2 w.heap.size 3 1 (.slice a (sortK m).length c) (sortK m).length ((sortK m).map (Value.int .i64)) → (a = none ↔ sortK m = []) → Below w.heap.size w w2 → Bs w0 w2 → K (.slice a (sortK m).length c) w2) :
    Calls Try.prog 102 #[.map (some mb)] w fun e w1 => KeepG gs w w1 ∧ ∃ v : Value, e = .returned v ∧ Calls Try.prog 87 #[v] w1 fun e w2 => KeepG gs w1 w2 ∧ ∃ (a : Option Addr) (n c : Nat), e = .returned (.slice a n c) ∧ K (.slice a n c) w2 := by
  refine (keysFunds_calls (some mb) w).mono ?_
  rintro e w1 ⟨rfl, rfl⟩
  have b1 : Below w.heap.size w (w.alloc (.cells #[.map (some mb)] 112)) := Below_one _
  refine ⟨keepG_below b1, _, rfl, ?_⟩
  have hc : (w.alloc (.cells #[.map (some mb)] 112)).cell? ⟨w.heap.size, 0, none⟩ = some (.map (some mb)) := by rw [cell_of_row _ _ _ _ _ _ (al_new rfl)]; rfl
  refine (sortFunds_calls _ w.heap.size mb m (by simp) hc (h.below b1) hr hl).mono ?_
  rintro e w2 ⟨a, c, rfl, ho, hn, hb⟩
  have hb' : Below w.heap.size w w2 := b1.trans (hb.mono b1.size)
  exact ⟨keepG_below hb, _, _, _, rfl, k a c w2 (ho.base_le fun j hj => Nat.le_trans b1.size (ho.lt j hj).1) hn hb' (B.to hb')⟩
end Go.Proofs.Ytjcabccolkmlmaa
end
section
/- The program's book: what reads it; walked. -/
namespace Go.Proofs.Ytjcabccolkmlmaa
open Go.RowKit
structure FbAt (w : World) (g mb : Nat) (A : FB) : Prop where
  blk : Bk w g #[.map (some mb)] 114
  map : ∃ m, MapAt w mb m ∧ ∀ k, lkM m k = accD A k
section
variable {w w1 : World} {g mb : Nat} {A : FB}
theorem FbAt.cell (h : FbAt w g mb A) : w.cell? ⟨g, 0, none⟩ = some (.map (some mb)) := by rw [h.blk.cell]; rfl
theorem FbAt.lt (h : FbAt w g mb A) : g < w.heap.size ∧ mb < w.heap.size := by
  obtain ⟨m, hm, _⟩ := h.map
  exact ⟨h.blk.lt, hm.lt⟩
theorem FbAt.keep (h : FbAt w g mb A) (h1 : w1.heap[g]? = w.heap[g]?) (h2 : w1.heap[mb]? = w.heap[mb]?) : FbAt w1 g mb A := by
  obtain ⟨m, hm, hl⟩ := h.map
  exact ⟨h.blk.keep h1, m, hm.keep h2, hl⟩
theorem FbAt.below (h : FbAt w g mb A) (b : Below w.heap.size w w1) : FbAt w1 g mb A := h.keep (b.block g h.lt.1) (b.block mb h.lt.2)
theorem FbAt.fr {L : List Nat} (h : FbAt w g mb A) (b : Fr L w w1) (h1 : g ∉ L) (h2 : mb ∉ L) : FbAt w1 g mb A := h.keep (b.block g h.lt.1 h1) (b.block mb h.lt.2 h2)
theorem FbAt.look (h : FbAt w g mb A) (k : Int) : ∃ r, MLk w (some mb) k r ∧ r.getD (.agg #[.int .i64 0, .int .i64 0, .int .i64 0, .int .i64 0, .int .i64 0]) = .agg #[.int .i64 (A k).t, .int .i64 (A k).c, .int .i64 (A k).e, .int .i64 (A k).u, .int .i64 (A k).h] := by
  obtain ⟨m, hm, hl⟩ := h.map
  exact ⟨_, ⟨m, hm, rfl⟩, by rw [hl k]; exact accD_get A k⟩
theorem FbAt.ne (h : FbAt w g mb A) : g ≠ mb := by
  obtain ⟨m, hm, _⟩ := h.map
  exact hm.ne_cells h.blk
theorem FbAt.put (h : FbAt w g mb A) {k : Int} {a : Ac} (ha : ¬ a.Nil) {K : World → Prop} (hK : ∀ w1, FbAt w1 g mb (upF A k a) → Fr [mb] w w1 → w1.heap.size = w.heap.size → K w1) :
    mapO w (some mb) (fun m => putM m k (acV a)) K := by
  have hne := h.ne
  obtain ⟨m, hm, hl⟩ := h.map
  refine ⟨mb, m, rfl, hm, fun w1 m1 f1 z1 => hK w1 ⟨h.blk.keep (f1.block g h.lt.1 (by rw [List.mem_singleton]; exact hne)), _, m1, fun j => ?_⟩ f1 z1⟩
  rw [lkM_put, hl]
  unfold accD
  by_cases e : k = j
  · subst e
    rw [if_pos rfl, upF_same, if_neg ha]
  · rw [if_neg e, upF_other _ _ fun q => e q.symm]
theorem FbAt.del (h : FbAt w g mb A) {k : Int} {a : Ac} (ha : a.Nil) {K : World → Prop} (hK : ∀ w1, FbAt w1 g mb (upF A k a) → Fr [mb] w w1 → w1.heap.size = w.heap.size → K w1) :
    mapO w (some mb) (fun m => delM m k) K := by
  have hne := h.ne
  obtain ⟨m, hm, hl⟩ := h.map
  refine ⟨mb, m, rfl, hm, fun w1 m1 f1 z1 => hK w1 ⟨h.blk.keep (f1.block g h.lt.1 (by rw [List.mem_singleton]; exact hne)), _, m1, fun j => ?_⟩ f1 z1⟩
  rw [lkM_del m hm.nodup, hl]
  unfold accD
  by_cases e : k = j
  · subst e
    rw [if_pos rfl, upF_same, if_pos ha]
  · rw [if_neg e, upF_other _ _ fun q => e q.symm]
end
theorem fnode_ret (n : Int) (w : World) : Calls Try.prog 81 #[.int .i64 n] w (Ret (.bool (decide (NodeOk n))) w) := by
  refine ret_in (GFu.fnode_calls n w (fun u w' => u = .bool (decide (NodeOk n)) ∧ Below w.heap.size w w') ?_)
  unfold GFu.fnode_vc
  refine br_dec (fun h => ⟨?_, Bs.refl _⟩) fun h => ⟨?_, Bs.refl _⟩
  · congr 1; exact decide_eq_decide.2 ⟨fun q => ⟨by omega, q⟩, fun q => q.2⟩
  · rw [decide_eq_false fun q : NodeOk n => h (by have := q.1; omega)]
theorem famount_ret (n : Int) (w : World) : Calls Try.prog 79 #[.int .i64 n] w (Ret (.bool (decide (AmtOk n))) w) := by
  refine ret_in (GFu.famount_calls n w (fun u w' => u = .bool (decide (AmtOk n)) ∧ Below w.heap.size w w') ?_)
  unfold GFu.famount_vc
  refine br_dec (fun h => ⟨?_, Bs.refl _⟩) fun h => ⟨?_, Bs.refl _⟩
  · congr 1; exact decide_eq_decide.2 ⟨fun q => ⟨by omega, q⟩, fun q => q.2⟩
  · rw [decide_eq_false fun q : AmtOk n => h (by have := q.1; omega)]
theorem fwithin_ret (n : Int) (w : World) : Calls Try.prog 121 #[.int .i64 n] w (Ret (.bool (decide (0 ≤ n ∧ n ≤ 9007199254740992))) w) := by
  refine ret_in (GFu.fwithin_calls n w (fun u w' => u = .bool (decide (0 ≤ n ∧ n ≤ 9007199254740992)) ∧ Below w.heap.size w w') ?_)
  unfold GFu.fwithin_vc
  refine br_dec (fun h => ⟨?_, Bs.refl _⟩) fun h => ⟨?_, Bs.refl _⟩
  · congr 1; exact decide_eq_decide.2 ⟨fun q => ⟨by omega, q⟩, fun q => q.2⟩
  · rw [decide_eq_false fun q : 0 ≤ n ∧ n ≤ 9007199254740992 => h (by have := q.1; omega)]
theorem left_wr {a : Ac} (h : a.In) : IntKind.i64.wrap (IntKind.i64.wrap (IntKind.i64.wrap (IntKind.i64.wrap (a.t + a.c) - a.e) - a.u) - a.h) = a.left := by
  obtain ⟨h1, h2, h3, h4, h5⟩ := h
  unfold Ac.left
  rw [wr64 (z := a.t + a.c) (by omega) (by omega), wr64 (z := a.t + a.c - a.e) (by omega) (by omega), wr64 (z := a.t + a.c - a.e - a.u) (by omega) (by omega), wr64 (by omega) (by omega)]
theorem fleft_ret {a : Ac} (h : a.In) (w : World) : Calls Try.prog 77 #[acV a] w (Ret (.int .i64 a.left) w) := by
  refine ret_in (GFu.fleft_calls a.t a.c a.e a.u a.h w (fun u w' => u = .int .i64 a.left ∧ Below w.heap.size w w') ?_)
  unfold GFu.fleft_vc
  refine newB (Bs.refl w) fun g1 w2 g10 sg1 n2 z2 b2 B2 => ⟨by rw [left_wr h], B2⟩
theorem fspend_ret {a : Ac} (h : a.In) {lim : Int} (hl : LimOk lim) (w : World) : Calls Try.prog 78 #[acV a, .int .i64 lim] w (Ret (.int .i64 (spendF a lim)) w) := by
  refine ret_in (GFu.fspend_calls a.t a.c a.e a.u a.h lim w (fun u w' => u = .int .i64 (spendF a lim) ∧ Below w.heap.size w w') ?_)
  unfold GFu.fspend_vc spendF
  unfold LimOk at hl
  obtain ⟨h1, h2, h3, h4, h5⟩ := h
  refine newB (Bs.refl w) fun g1 w2 g10 sg1 n2 z2 b2 B2 => br_dec (fun q => ⟨by rw [if_pos q], B2⟩) fun q => ⟨?_, B2⟩
  rw [if_neg q, wr64 (z := lim - a.u) (by omega) (by omega), wr64 (by omega) (by omega)]
def a5 (a : Ac) : Nat → Int
  | 0 => a.t
  | 1 => a.c
  | 2 => a.e
  | 3 => a.u
  | _ => a.h
theorem fright_ret (a : Ac) (w : World) : Calls Try.prog 101 #[acV a] w (Ret (.bool (decide a.Ok)) w) := by
  refine ret_in (GFu.fright_calls a.t a.c a.e a.u a.h w (fun u w' => u = .bool (decide a.Ok) ∧ Below w.heap.size w w') ?_)
  unfold GFu.fright_vc
  refine newB (Bs.refl w) fun g1 w2 g10 sg1 n2 z2 b2 B2 => newB B2 fun g2 w3 g20 sg2 n3 z3 b3 B3 => ?_
  refine ⟨fun x wx => ∃ i : Nat, x = i ∧ i ≤ 5 ∧ (∀ j, j < i → 0 ≤ a5 a j ∧ a5 a j ≤ 9007199254740992) ∧ Below w3.heap.size w3 wx, fun x _ => 5 - x.toNat, ⟨0, rfl, by omega, fun j hj => absurd hj (Nat.not_lt_zero _), Below.refl _ _⟩, ?_⟩
  rintro x wx ⟨i, rfl, hi, hj, bx⟩
  have Bx : Bs w wx := B3.to bx
  refine br_dec (fun hlt => ?_) fun hge => ?_
  · have hi5 : i < 5 := by omega
    have hcell : wx.cell? ⟨g2, 0 + ((i : Nat) : Int).toNat * 1, none⟩ = some (.int .i64 (a5 a i)) := by
      rw [((show Bk w3 g2 _ _ from n3).below bx).cell, Int.toNat_natCast, Nat.mul_one, Nat.zero_add]
      match i, hi5 with
      | 0, _ => rfl
      | 1, _ => rfl
      | 2, _ => rfl
      | 3, _ => rfl
      | 4, _ => rfl
    refine ⟨by omega, by omega, _, hcell, callB Bx (fwithin_ret (a5 a i) wx) fun w4 b4 B4 => ⟨_, rfl, br_not (br_dec (fun hw => ?_) fun hw => ⟨?_, B4⟩)⟩⟩
    · rw [wr64 (by omega) (by omega)]
      refine ⟨⟨i + 1, by omega, by omega, fun j hj' => ?_, bx.trans (b4.mono bx.size)⟩, by dsimp only; omega⟩
      by_cases e : j = i
      · rw [e]; exact hw
      · exact hj j (by omega)
    · rw [decide_eq_false]
      rintro ⟨⟨h1, h2, h3, h4, h5⟩, _⟩
      match i, hi5 with
      | 0, _ => exact hw h1
      | 1, _ => exact hw h2
      | 2, _ => exact hw h3
      | 3, _ => exact hw h4
      | 4, _ => exact hw h5
  · obtain rfl : i = 5 := by omega
    have hin : a.In := ⟨hj 0 (by omega), hj 1 (by omega), hj 2 (by omega), hj 3 (by omega), hj 4 (by omega)⟩
    have hin' := hin
    obtain ⟨h1, h2, h3, h4, h5⟩ := hin'
    rw [wr64 (by omega) (by omega)]
    refine callB Bx (fwithin_ret (a.t + a.c) wx) fun w4 b4 B4 => ⟨_, rfl, br_dec (fun hw => ?_) fun hw => ⟨?_, B4⟩⟩
    · refine callB B4 (fleft_ret hin w4) fun w5 b5 B5 => ⟨_, rfl, ?_, B5⟩
      congr 1
      exact decide_eq_decide.2 ⟨fun q => ⟨hin, hw.2, q⟩, fun q => q.2.2⟩
    · rw [decide_eq_false fun q : a.Ok => hw ⟨by omega, q.2.1⟩]
end Go.Proofs.Ytjcabccolkmlmaa
end
section
/- The program's book: paths, limits, accounts; walked. -/
namespace Go.Proofs.Ytjcabccolkmlmaa
open Go.RowKit
theorem RowAt.fr1 {w w1 : World} {a : Option Addr} {vs : List Value} {k : Nat} (h : RowAt w a vs) (f : Fr [k] w w1) (hn : ∀ q, a = some q → q.block ≠ k) : RowAt w1 a vs := by
  rcases h with h | ⟨b, off, ha, h⟩
  · exact .inl h
  · refine .inr ⟨b, off, ha, fun i v hv => ?_⟩
    have hc := h i v hv
    have hlt := block_lt_of_cell hc
    have hb := f.block b hlt (by rw [List.mem_singleton]; exact hn _ ha)
    unfold World.cell? at hc ⊢
    simp only [hb]
    exact hc
theorem RowAt.map {w w1 : World} {a : Option Addr} {vs : List Value} {mb : Nat} {m : List (Int × Value)} (h : RowAt w a vs) (hm : MapAt w mb m) (f : Fr [mb] w w1) : RowAt w1 a vs := by
  rcases h with h | ⟨b, off, ha, h⟩
  · exact .inl h
  · by_cases e : b = mb
    · subst e
      cases vs with
      | nil => exact .inl rfl
      | cons v r =>
        have hc := h 0 v rfl
        obtain ⟨es, clock, hb, _⟩ := hm
        unfold World.cell? at hc
        simp only [hb] at hc
        cases hc
    · exact RowAt.fr1 (.inr ⟨b, off, ha, h⟩) f fun q hq => by rw [ha] at hq; cases hq; exact e
theorem fpath_ret {p : Addr} {a : Option Addr} {c : Nat} {l : List Int} {w : World} (h : RowAt w a (l.map iV)) (hl : l.length ≤ 1000000) (hc : l.length ≤ c) : Calls Try.prog 109 #[.pointer (some p), .slice a l.length c] w (Ret (.bool (decide (PathOk l))) w) := by
  refine ret_in (GFu.fpath_calls (some p) a l.length c w (fun u w' => u = .bool (decide (PathOk l)) ∧ Below w.heap.size w w') ?_)
  unfold GFu.fpath_vc
  refine br_f rfl (br_dec (fun q => ⟨?_, Bs.refl _⟩) fun q1 => br_dec (fun q => ⟨?_, Bs.refl _⟩) fun q2 => ?_)
  · rw [decide_eq_false fun r : PathOk l => by have := r.1.1; omega]
  · rw [decide_eq_false fun r : PathOk l => by have := r.1.2; omega]
  refine ⟨fun x wx => ∃ i : Nat, x = i ∧ i ≤ l.length ∧ (∀ y ∈ l.take i, NodeOk y) ∧ (l.take i).Nodup ∧ Bs w wx, fun x _ => l.length - x.toNat, ⟨0, rfl, by omega, by simp, by simp, Bs.refl _⟩, ?_⟩
  rintro x wx ⟨i, rfl, hi, hno, hnd, B⟩
  refine br_dec (fun hlt => ?_) fun hge => ⟨?_, B⟩
  · have hil : i < l.length := by omega
    obtain ⟨b1, o1, rfl, c1⟩ := (h.below B (Nat.le_refl _)).int hil
    refine ⟨by omega, by omega, l[i], by rw [Int.toNat_natCast, Nat.mul_one]; exact c1, callB B (fnode_ret l[i] wx) fun w3 b3 B3 => ⟨_, rfl, br_not (br_dec (fun hn => ?_) fun hn => ⟨?_, B3⟩)⟩⟩
    · refine ⟨by omega, by omega, ?_⟩
      have ht : (l.take i).length = i := by rw [List.length_take]; omega
      have hr := (h.below B3 (Nat.le_refl _)).take i
      rw [← List.map_take] at hr
      have hcc := slContains_ret _ c (l.take i) l[i] w3 hr (by omega)
      rw [ht] at hcc
      rw [Int.toNat_natCast]
      refine callB B3 hcc fun w4 b4 B4 => ⟨_, rfl, br_dec (fun hm => ⟨?_, B4⟩) fun hm => ?_⟩
      · rw [decide_eq_false fun r : PathOk l => nodup_take r.2.2 hil hm]
      · rw [wr64 (by omega) (by omega)]
        refine ⟨⟨i + 1, by omega, by omega, ?_, ?_, B4⟩, by dsimp only; omega⟩
        · rw [List.take_succ_eq_append_getElem hil]
          intro y hy
          rcases List.mem_append.1 hy with hy | hy
          · exact hno y hy
          · rw [List.mem_singleton.1 hy]; exact hn
        · rw [List.take_succ_eq_append_getElem hil]
          exact List.nodup_append.2 ⟨hnd, by simp, fun u hu v hv e => by rw [List.mem_singleton] at hv; rw [e, hv] at hu; exact hm hu⟩
    · rw [decide_eq_false fun r : PathOk l => hn (r.2.1 _ (List.getElem_mem hil))]
  · obtain rfl : i = l.length := by omega
    rw [List.take_length] at hno hnd
    rw [decide_eq_true (show PathOk l from ⟨by omega, hno, hnd⟩)]
theorem fpath_nil (a : Option Addr) (n c : Nat) (w : World) : Calls Try.prog 109 #[.pointer none, .slice a n c] w (Ret (.bool false) w) := by
  refine ret_in (GFu.fpath_calls none a n c w (fun u w' => u = .bool false ∧ Below w.heap.size w w') ?_)
  unfold GFu.fpath_vc
  exact br_t rfl ⟨rfl, Bs.refl _⟩
theorem flim1_ret (n : Int) (w : World) : Calls Try.prog 111 #[.int .i64 n] w (Ret (.bool (decide (¬ LimOk n))) w) := by
  refine ret_in (GFu.flim1_calls n w (fun u w' => u = .bool (decide (¬ LimOk n)) ∧ Below w.heap.size w w') ?_)
  unfold GFu.flim1_vc
  refine br_dec (fun h => ⟨?_, Bs.refl _⟩) fun h => ⟨?_, Bs.refl _⟩
  · rw [decide_eq_true (p := ¬ LimOk n) fun q => by have := q.1; omega]
  · congr 1; exact decide_eq_decide.2 ⟨fun q r => by have := r.2; omega, fun q => by unfold LimOk at q; omega⟩
theorem fif_any (a : Option Addr) (c : Nat) (l : List Int) (w : World) (h : RowAt w a (l.map iV)) (hl : l.length ≤ 1000000) :
    Calls Try.prog 123 #[.slice a l.length c, .func (.func 111) #[] #[]] w fun e w' => (∃ r : Int, e = .returned (.int .i64 r) ∧ (r ≥ 0 ↔ ¬ ∀ x ∈ l, LimOk x)) ∧ Below w.heap.size w w' := by
  refine (GFu.fif_calls a l.length c w (fun u w' => (∃ r : Int, u = .int .i64 r ∧ (r ≥ 0 ↔ ¬ ∀ x ∈ l, LimOk x)) ∧ Below w.heap.size w w') ?_).mono (by rintro e w' ⟨v, rfl, ⟨r, rfl, hr⟩, hb⟩; exact ⟨⟨r, rfl, hr⟩, hb⟩)
  unfold GFu.fif_vc
  refine ⟨fun x wx => ∃ i : Nat, x = i ∧ i ≤ l.length ∧ (∀ y ∈ l.take i, LimOk y) ∧ Bs w wx, fun x _ => l.length - x.toNat, ⟨0, rfl, by omega, by simp, Bs.refl _⟩, ?_⟩
  rintro x wx ⟨i, rfl, hi, hno, B⟩
  refine br_dec (fun hlt => ?_) fun hge => ?_
  · have hil : i < l.length := by omega
    obtain ⟨b1, o1, rfl, c1⟩ := (h.below B (Nat.le_refl _)).int hil
    refine ⟨by omega, by omega, l[i], by rw [Int.toNat_natCast, Nat.mul_one]; exact c1, callB B (flim1_ret l[i] wx) fun w3 b3 B3 => ⟨_, rfl, br_dec (fun hn => ⟨⟨_, rfl, fun _ q => hn (q _ (List.getElem_mem hil)), fun _ => by omega⟩, B3⟩) fun hn => ?_⟩⟩
    rw [wr64 (by omega) (by omega)]
    refine ⟨⟨i + 1, by omega, by omega, ?_, B3⟩, by dsimp only; omega⟩
    rw [List.take_succ_eq_append_getElem hil]
    intro y hy
    rcases List.mem_append.1 hy with hy | hy
    · exact hno y hy
    · rw [List.mem_singleton.1 hy]; exact Decidable.byContradiction hn
  · obtain rfl : i = l.length := by omega
    rw [List.take_length] at hno
    exact ⟨⟨-1, rfl, fun q => by omega, fun q => absurd hno q⟩, B⟩
theorem fcf_ret (a : Option Addr) (c : Nat) (l : List Int) (w : World) (h : RowAt w a (l.map iV)) (hl : l.length ≤ 1000000) :
    Calls Try.prog 110 #[.slice a l.length c, .func (.func 111) #[] #[]] w (Ret (.bool (decide (¬ ∀ x ∈ l, LimOk x))) w) := by
  refine ret_in (GFu.fcf_calls a l.length c w (fun u w' => u = .bool (decide (¬ ∀ x ∈ l, LimOk x)) ∧ Below w.heap.size w w') ?_)
  unfold GFu.fcf_vc
  refine callQ (Bs.refl w) (fif_any a c l w h hl) ?_
  rintro e w2 ⟨r, rfl, hr⟩ b2 B2
  refine ⟨r, rfl, ?_, B2⟩
  congr 1
  exact decide_eq_decide.2 hr
theorem flimited_ret {p : Addr} {a a2 : Option Addr} {c c2 : Nat} {l lim : List Int} {w : World} (h : RowAt w a (l.map iV)) (hl : l.length ≤ 1000000) (hc : l.length ≤ c) (h2 : RowAt w a2 (lim.map iV)) (hl2 : lim.length ≤ 1000000) :
    Calls Try.prog 76 #[.pointer (some p), .slice a l.length c, .slice a2 lim.length c2] w (Ret (.bool (decide (LimsOk l lim))) w) := by
  refine ret_in (GFu.flimited_calls (some p) a l.length c a2 lim.length c2 w (fun u w' => u = .bool (decide (LimsOk l lim)) ∧ Below w.heap.size w w') ?_)
  unfold GFu.flimited_vc
  refine callB (Bs.refl w) (fpath_ret h hl hc) fun w3 b3 B3 => ⟨_, rfl, br_not (br_dec (fun hp => br_dec (fun hn => ⟨?_, B3⟩) fun hn => ?_) fun hp => ⟨?_, B3⟩)⟩
  · rw [decide_eq_false fun q : LimsOk l lim => hn (by have := q.2.1; omega)]
  · refine callB B3 (fcf_ret a2 c2 lim w3 (h2.below b3 (Nat.le_refl _)) hl2) fun w4 b4 B4 => ⟨_, rfl, ?_, B4⟩
    congr 1
    rw [← decide_not]
    exact decide_eq_decide.2 ⟨fun q => ⟨hp, by omega, Decidable.byContradiction q⟩, fun q r => r q.2.2⟩
  · rw [decide_eq_false fun q : LimsOk l lim => hp q.1]
theorem flimited_nil (a a2 : Option Addr) (n c n2 c2 : Nat) (w : World) : Calls Try.prog 76 #[.pointer none, .slice a n c, .slice a2 n2 c2] w (Ret (.bool false) w) := by
  refine ret_in (GFu.flimited_calls none a n c a2 n2 c2 w (fun u w' => u = .bool false ∧ Below w.heap.size w w') ?_)
  unfold GFu.flimited_vc
  exact callB (Bs.refl w) (fpath_nil a n c w) fun w3 b3 B3 => ⟨_, rfl, br_t rfl ⟨rfl, B3⟩⟩
/-- What a call leaves: it tells v, and the book is the one behind it. -/
def FDo (w : World) (g mb : Nat) (u : Value) (A' : FB) : Ending → World → Prop := fun e w' => e = .returned u ∧ FbAt w' g mb A' ∧ Fr [mb] w w'
def FDoV (w : World) (g mb : Nat) (u : Value) (A' : FB) : Value → World → Prop := fun v w' => v = u ∧ FbAt w' g mb A' ∧ Fr [mb] w w'
theorem fdo_in {P : Program} {f : FuncId} {av : Array Value} {w : World} {g mb : Nat} {u : Value} {A' : FB} (h : Calls P f av w fun e w' => ∃ v, e = .returned v ∧ FDoV w g mb u A' v w') : Calls P f av w (FDo w g mb u A') :=
  h.mono (by rintro e w' ⟨v, rfl, rfl, hh⟩; exact ⟨rfl, hh⟩)
theorem fdo_no {w wx : World} {g mb : Nat} {A A' : FB} {u v : Value} (h : FbAt w g mb A) (B : Bs w wx) (hv : v = u) (hd : A' = A) : FDoV w g mb u A' v wx := by
  subst hv; subst hd
  exact ⟨rfl, h.below B, Fr.ofBelow B⟩
theorem fset_any {w : World} {g mb : Nat} {A : FB} (h : FbAt w g mb A) (n : Int) (a : Ac) :
    Calls Try.prog 82 #[.pointer (some ⟨g, 0, none⟩), .int .i64 n, acV a] w (FDo w g mb (.tuple #[]) (upF A n a)) := by
  refine fdo_in (GFu.fset_calls (some ⟨g, 0, none⟩) n a.t a.c a.e a.u a.h w (FDoV w g mb (.tuple #[]) (upF A n a)) ?_)
  unfold GFu.fset_vc
  refine newB (Bs.refl w) fun g1 w2 g10 sg1 n2 z2 b2 B2 => ?_
  by_cases hz : a.Nil
  · refine br_t ?_ ⟨some mb, (h.below B2).cell, .inr ((h.below B2).del hz fun w3 t3 f3 z3 => ⟨rfl, t3, (Fr.ofBelow B2).trans f3 (Gr.refl _ _)⟩)⟩
    obtain ⟨h1, h2, h3, h4, h5⟩ := hz
    simp [h1, h2, h3, h4, h5]
  · refine br_f ?_ (drewB B2 fun w3 b3 B3 e3 => ⟨some mb, (h.below B3).cell, (h.below B3).put hz fun w4 t4 f4 z4 => ⟨rfl, t4, (Fr.ofBelow B3).trans f4 (Gr.refl _ _)⟩⟩)
    rw [Bool.eq_false_iff]
    intro q
    simp at q
    exact hz ⟨q.1, q.2.1, q.2.2.1, q.2.2.2.1, q.2.2.2.2⟩
theorem fget_ret {w : World} {g mb : Nat} {A : FB} (h : FbAt w g mb A) (n : Int) : Calls Try.prog 21 #[.pointer (some ⟨g, 0, none⟩), .int .i64 n] w (Ret (acV (A n)) w) := by
  refine ret_in (GFu.fget_calls (some ⟨g, 0, none⟩) n w (fun u w' => u = acV (A n) ∧ Below w.heap.size w w') ?_)
  unfold GFu.fget_vc
  refine newB (Bs.refl w) fun g1 w2 g10 sg1 n2 z2 b2 B2 => br_f rfl ⟨some mb, (h.below B2).cell, _, _, _, _, _, (h.below B2).look n, boxB B2 g10 fun w3 h3 B3 z3 => ⟨rfl, B3⟩⟩
theorem fget_nil (n : Int) (w : World) : Calls Try.prog 21 #[.pointer none, .int .i64 n] w (Ret (acV ac0) w) := by
  refine ret_in (GFu.fget_calls none n w (fun u w' => u = acV ac0 ∧ Below w.heap.size w w') ?_)
  unfold GFu.fget_vc
  exact newB (Bs.refl w) fun g1 w2 g10 sg1 n2 z2 b2 B2 => br_t rfl (boxB B2 g10 fun w3 h3 B3 z3 => ⟨rfl, B3⟩)
theorem favail_ret {w : World} {g mb : Nat} {A : FB} (h : FbAt w g mb A) (hW : FWf A) (n : Int) : Calls Try.prog 22 #[.pointer (some ⟨g, 0, none⟩), .int .i64 n] w (Ret (.int .i64 (A n).left) w) := by
  refine ret_in (GFu.favail_calls (some ⟨g, 0, none⟩) n w (fun u w' => u = .int .i64 (A n).left ∧ Below w.heap.size w w') ?_)
  unfold GFu.favail_vc
  exact callB (Bs.refl w) (fget_ret h n) fun w2 b2 B2 => ⟨_, _, _, _, _, rfl, callB B2 (fleft_ret (hW n).1.1 w2) fun w3 b3 B3 => ⟨_, rfl, rfl, B3⟩⟩
theorem favail_nil (n : Int) (w : World) : Calls Try.prog 22 #[.pointer none, .int .i64 n] w (Ret (.int .i64 0) w) := by
  refine ret_in (GFu.favail_calls none n w (fun u w' => u = .int .i64 0 ∧ Below w.heap.size w w') ?_)
  unfold GFu.favail_vc
  exact callB (Bs.refl w) (fget_nil n w) fun w2 b2 B2 => ⟨_, _, _, _, _, rfl, callB B2 (fleft_ret (a := ac0) ac0_ok.1 w2) fun w3 b3 B3 => ⟨_, rfl, rfl, B3⟩⟩
end Go.Proofs.Ytjcabccolkmlmaa
end
section
/- The program's book: what sets, tops up, holds; walked. -/
namespace Go.Proofs.Ytjcabccolkmlmaa
open Go.RowKit
theorem FbAt.row {w w1 : World} {g mb : Nat} {A : FB} {a : Option Addr} {vs : List Value} (h : FbAt w g mb A) (r : RowAt w a vs) (f : Fr [mb] w w1) : RowAt w1 a vs := by
  obtain ⟨m, hm, _⟩ := h.map
  exact r.map hm f
theorem fseta_any {w : World} {g mb : Nat} {A : FB} (h : FbAt w g mb A) (n : Int) (a : Ac) :
    Calls Try.prog 60 #[.pointer (some ⟨g, 0, none⟩), .int .i64 n, acV a] w (FDo w g mb (.int .i64 (setE n a)) (setD A n a)) := by
  refine fdo_in (GFu.fseta_calls (some ⟨g, 0, none⟩) n a.t a.c a.e a.u a.h w (FDoV w g mb (.int .i64 (setE n a)) (setD A n a)) ?_)
  unfold GFu.fseta_vc setE setD
  obtain ⟨l1, l2⟩ := h.lt
  refine newB (Bs.refl w) fun g1 w2 g10 sg1 n2 z2 b2 B2 => br_f rfl (callB B2 (fnode_ret n w2) fun w3 b3 B3 => ⟨_, rfl, br_not (br_dec (fun hn => ?_) fun hn => fdo_no h B3 (by rw [if_neg fun q => hn q.1]) (by rw [if_neg fun q => hn q.1]))⟩)
  refine callB B3 (fright_ret a w3) fun w4 b4 B4 => ⟨_, rfl, br_not (br_dec (fun hr => ?_) fun hr => fdo_no h B4 (by rw [if_neg fun q => hr q.2]) (by rw [if_neg fun q => hr q.2]))⟩
  rw [if_pos ⟨hn, hr⟩, if_pos ⟨hn, hr⟩]
  refine (fset_any (h.below B4) n a).mono ?_
  rintro e w5 ⟨rfl, t5, f5⟩
  exact ⟨keepG_fr f5 (fun q hq hq2 => by simp at hq hq2; omega), rfl, rfl, t5, (Fr.ofBelow B4).trans f5 (Gr.refl _ _)⟩
theorem fseta_nil (n : Int) (a : Ac) (w : World) : Calls Try.prog 60 #[.pointer none, .int .i64 n, acV a] w (Ret (.int .i64 1) w) := by
  refine ret_in (GFu.fseta_calls none n a.t a.c a.e a.u a.h w (fun u w' => u = .int .i64 1 ∧ Below w.heap.size w w') ?_)
  unfold GFu.fseta_vc
  exact newB (Bs.refl w) fun g1 w2 g10 sg1 n2 z2 b2 B2 => br_t rfl ⟨rfl, B2⟩
theorem ftop_any {w : World} {g mb : Nat} {A : FB} (h : FbAt w g mb A) (hW : FWf A) (n more : Int) :
    Calls Try.prog 62 #[.pointer (some ⟨g, 0, none⟩), .int .i64 n, .int .i64 more] w (FDo w g mb (.int .i64 (topE A n more)) (topD A n more)) := by
  refine fdo_in (GFu.ftop_calls (some ⟨g, 0, none⟩) n more w (FDoV w g mb (.int .i64 (topE A n more)) (topD A n more)) ?_)
  unfold GFu.ftop_vc
  obtain ⟨l1, l2⟩ := h.lt
  have fail : ∀ z, topE A n more = z → z ≠ 0 → ∀ {wx : World}, Bs w wx → FDoV w g mb (.int .i64 (topE A n more)) (topD A n more) (.int .i64 z) wx := fun z he hz wx B => fdo_no h B (by rw [he]) (by unfold topD; rw [if_neg (by rw [he]; exact hz)])
  refine br_f rfl (callB (Bs.refl w) (fnode_ret n w) fun w3 b3 B3 => ⟨_, rfl, br_not (br_dec (fun hn => ?_) fun hn => fail 1 (by unfold topE; rw [if_pos (.inl hn)]) (by decide) B3)⟩)
  refine callB B3 (famount_ret more w3) fun w4 b4 B4 => ⟨_, rfl, br_not (br_dec (fun ha => ?_) fun ha => fail 1 (by unfold topE; rw [if_pos (.inr ha)]) (by decide) B4)⟩
  obtain ⟨⟨k1, k2, k3, k4, k5⟩, k6, k7⟩ := (hW n).1.all
  have ha' := ha
  unfold AmtOk at ha'
  have hne : ¬ (¬ NodeOk n ∨ ¬ AmtOk more) := fun q => q.elim (fun q => q hn) fun q => q ha
  refine ⟨some mb, (h.below B4).cell, _, _, _, _, _, (h.below B4).look n, newB B4 fun g1 w5 g10 sg1 n5 z5 b5 B5 => boxB B5 g10 fun w6 h6 B6 z6 => ?_⟩
  rw [wr64 (z := (A n).t + (A n).c) (by omega) (by omega), wr64 (z := 9007199254740992 - more) (by omega) (by omega), wr64 (z := (A n).t + more) (by omega) (by omega)]
  refine br_dec (fun hq => fail 6 (by unfold topE; rw [if_neg hne, if_pos (by omega)]) (by decide) B6) fun hq => boxB B6 g10 fun w7 h7 B7 z7 => ?_
  have he : topE A n more = 0 := by unfold topE; rw [if_neg hne, if_neg (by omega)]
  refine (fset_any (h.below B7) n ⟨(A n).t + more, (A n).c, (A n).e, (A n).u, (A n).h⟩).mono ?_
  rintro e w8 ⟨rfl, t8, f8⟩
  refine ⟨keepG_fr f8 (fun q hq hq2 => by have := B4.size; simp at hq hq2; omega), rfl, by rw [he], ?_, (Fr.ofBelow B7).trans f8 (Gr.refl _ _)⟩
  unfold topD
  rw [if_pos he]
  exact t8
theorem ftop_nil (n more : Int) (w : World) : Calls Try.prog 62 #[.pointer none, .int .i64 n, .int .i64 more] w (Ret (.int .i64 1) w) := by
  refine ret_in (GFu.ftop_calls none n more w (fun u w' => u = .int .i64 1 ∧ Below w.heap.size w w') ?_)
  unfold GFu.ftop_vc
  exact br_t rfl ⟨rfl, Bs.refl _⟩
theorem fmove_any {w : World} {g mb : Nat} {A : FB} {a : Option Addr} {c : Nat} {l : List Int} (h : FbAt w g mb A) (hW : FWf A) (hr : RowAt w a (l.map iV)) (hn : l.Nodup) (hl : l.length ≤ 1000000) {du dh : Int} (hu : -9007199254740992 ≤ du ∧ du ≤ 9007199254740992) (hh : -9007199254740992 ≤ dh ∧ dh ≤ 9007199254740992) :
    Calls Try.prog 80 #[.pointer (some ⟨g, 0, none⟩), .slice a l.length c, .agg #[.int .i64 0, .int .i64 0, .int .i64 0, .int .i64 du, .int .i64 dh]] w (FDo w g mb (.tuple #[]) (mvF A l du dh)) := by
  refine fdo_in (GFu.fmove_calls (some ⟨g, 0, none⟩) a l.length c 0 0 0 du dh w (FDoV w g mb (.tuple #[]) (mvF A l du dh)) ?_)
  unfold GFu.fmove_vc
  obtain ⟨l1, l2⟩ := h.lt
  refine newB (Bs.refl w) fun g1 w2 g10 sg1 n2 z2 b2 B2 => ?_
  refine ⟨fun x wx => ∃ i : Nat, x = i ∧ i ≤ l.length ∧ FbAt wx g mb (mvF A (l.take i) du dh) ∧ Fr [mb] w wx ∧ w2.heap.size ≤ wx.heap.size, fun x _ => l.length - x.toNat, ⟨0, rfl, by omega, ?_, Fr.ofBelow B2, Nat.le_refl _⟩, ?_⟩
  · rw [List.take_zero, mvF_nil]; exact h.below B2
  rintro x wx ⟨i, rfl, hi, ht, f, hs⟩
  refine br_dec (fun hlt => ?_) fun hge => ⟨rfl, ?_, f⟩
  · have hil : i < l.length := by omega
    obtain ⟨b1, o1, rfl, c1⟩ := (h.row hr f).int hil
    obtain ⟨⟨k1, k2, k3, k4, k5⟩, k6, k7⟩ := (hW l[i]).1.all
    have hlk := ht.look l[i]
    rw [mvF_at hn hil] at hlk
    rw [wr64 (z := (i : Int) + 1) (by omega) (by omega)]
    refine ⟨by omega, by omega, l[i], by rw [Int.toNat_natCast, Nat.mul_one]; exact c1, some mb, ht.cell, _, _, _, _, _, hlk, ?_⟩
    refine newB (Bs.refl wx) fun g3 w3 g30 sg3 n3 z3 b3 B3 => boxB B3 g30 fun w4 h4 B4 z4 => boxB B4 g30 fun w5 h5 B5 z5 => boxB B5 g30 fun w6 h6 B6 z6 => ?_
    rw [wr64 (z := (A l[i]).u + du) (by omega) (by omega), wr64 (z := (A l[i]).h + dh) (by omega) (by omega)]
    refine (fset_any (ht.below B6) l[i] (addA (A l[i]) du dh)).mono ?_
    rintro e w7 ⟨rfl, t7, f7⟩
    rw [mvF_step hn hil] at t7
    have hsz := B6.size
    have hf := f.size
    refine ⟨keepG_fr f7 (fun q hq hq2 => by simp at hq hq2; omega), rfl, ⟨i + 1, by omega, by omega, t7, (f.trans (Fr.ofBelow B6) (Gr.refl _ _)).trans f7 (Gr.refl _ _), by have := f7.size; omega⟩, by dsimp only; omega⟩
  · obtain rfl : i = l.length := by omega
    rw [List.take_length] at ht
    exact ht
theorem fhold_any {w : World} {g mb : Nat} {A : FB} {a a2 : Option Addr} {c c2 : Nat} {l lim : List Int} (h : FbAt w g mb A) (hW : FWf A) (hr : RowAt w a (l.map iV)) (hl : l.length ≤ 1000000) (hc : l.length ≤ c) (hr2 : RowAt w a2 (lim.map iV)) (hl2 : lim.length ≤ 1000000) (n : Int) :
    Calls Try.prog 20 #[.pointer (some ⟨g, 0, none⟩), .slice a l.length c, .slice a2 lim.length c2, .int .i64 n] w (FDo w g mb (.int .i64 (holdE A l lim n)) (holdD A l lim n)) := by
  refine fdo_in (GFu.fhold_calls (some ⟨g, 0, none⟩) a l.length c a2 lim.length c2 n w (FDoV w g mb (.int .i64 (holdE A l lim n)) (holdD A l lim n)) ?_)
  unfold GFu.fhold_vc
  have fail : ∀ z, holdE A l lim n = z → z ≠ 0 → ∀ {wx : World}, Bs w wx → FDoV w g mb (.int .i64 (holdE A l lim n)) (holdD A l lim n) (.int .i64 z) wx := fun z he hz wx B => fdo_no h B (by rw [he]) (by unfold holdD; rw [if_neg (by rw [he]; exact hz)])
  refine callB (Bs.refl w) (flimited_ret hr hl hc hr2 hl2) fun w3 b3 B3 => ⟨_, rfl, br_not (br_dec (fun hp => ?_) fun hp => fail 1 (by unfold holdE; rw [if_pos (.inl hp)]) (by decide) B3)⟩
  refine callB B3 (famount_ret n w3) fun w4 b4 B4 => ⟨_, rfl, br_not (br_dec (fun ha => ?_) fun ha => fail 1 (by unfold holdE; rw [if_pos (.inr ha)]) (by decide) B4)⟩
  have hE : holdE A l lim n = holdN A l lim n l.length := by unfold holdE; rw [if_neg fun q => q.elim (fun q => q hp) fun q => q ha]
  have hlen : lim.length = l.length := hp.2.1
  have ha' := ha
  unfold AmtOk at ha'
  refine ⟨fun x wx => ∃ i : Nat, x = i ∧ i ≤ l.length ∧ holdN A l lim n i = 0 ∧ Bs w wx, fun x _ => l.length - x.toNat, ⟨0, rfl, by omega, rfl, B4⟩, ?_⟩
  rintro x wx ⟨i, rfl, hi, h0, B⟩
  refine br_dec (fun hlt => ?_) fun hge => ?_
  · have hil : i < l.length := by omega
    obtain ⟨b1, o1, rfl, c1⟩ := (hr.below B (Nat.le_refl _)).int hil
    obtain ⟨⟨k1, k2, k3, k4, k5⟩, k6, k7⟩ := (hW l[i]).1.all
    have hstep : holdN A l lim n (i + 1) = if (A l[i]).left < n then 9 else if lim[i] ≠ -1 ∧ (A l[i]).u + (A l[i]).h + n > lim[i] then 18 else 0 := by
      rw [holdN, if_neg fun q => q h0, getD_of hil, getD_of (l := lim) (by omega)]
    have hst : ∀ z, holdN A l lim n (i + 1) = z → z ≠ 0 → holdE A l lim n = z := fun z he hz => by rw [hE, holdN_stay (i := i + 1) (by omega) (by rw [he]; exact hz), he]
    rw [wr64 (z := (i : Int) + 1) (by omega) (by omega)]
    refine ⟨by omega, by omega, l[i], by rw [Int.toNat_natCast, Nat.mul_one]; exact c1, some mb, (h.below B).cell, _, _, _, _, _, (h.below B).look l[i], ?_⟩
    refine newB B fun g5 w5 g50 sg5 n5 z5 b5 B5 => boxB B5 g50 fun w6 h6 B6 z6 => callB B6 (fleft_ret (hW l[i]).1.1 w6) fun w7 b7 B7 => ⟨_, rfl, br_dec (fun q => fail 9 (hst 9 (by rw [hstep, if_pos q]) (by decide)) (by decide) B7) fun q1 => drewB B7 fun w8 b8 B8 e8 => ?_⟩
    obtain ⟨b2, o2, rfl, c2⟩ := (hr2.below B8 (Nat.le_refl _)).int (k := i) (by omega)
    have hI : holdN A l lim n (i + 1) = 0 → (∃ j : Nat, (i : Int) + 1 = j ∧ j ≤ l.length ∧ holdN A l lim n j = 0 ∧ Bs w w8) ∧ l.length - ((i : Int) + 1).toNat < l.length - (i : Int).toNat := fun q => ⟨⟨i + 1, by omega, by omega, q, B8⟩, by omega⟩
    rw [wr64 (z := (A l[i]).u + (A l[i]).h) (by omega) (by omega), wr64 (z := (A l[i]).u + (A l[i]).h + n) (by omega) (by omega)]
    refine ⟨by omega, by omega, lim[i], by rw [Int.toNat_natCast, Nat.mul_one]; exact c2, br_dec (fun q2 => ⟨by omega, by omega, lim[i], by rw [Int.toNat_natCast, Nat.mul_one]; exact c2, br_dec (fun q3 => fail 18 (hst 18 (by rw [hstep, if_neg q1, if_pos ⟨q2, q3⟩]) (by decide)) (by decide) B8) fun q3 => hI (by rw [hstep, if_neg q1, if_neg fun q => q3 q.2])⟩) fun q2 => hI (by rw [hstep, if_neg q1, if_neg fun q => q2 q.1])⟩
  · obtain rfl : i = l.length := by omega
    have he : holdE A l lim n = 0 := by rw [hE]; exact h0
    refine (fmove_any (h.below B) hW (hr.below B (Nat.le_refl _)) hp.1.2.2 hl (du := 0) (dh := n) (by omega) (by omega)).mono ?_
    rintro e w7 ⟨rfl, t7, f7⟩
    refine ⟨keepG_nil _ _, rfl, by rw [he], ?_, (Fr.ofBelow B).trans f7 (Gr.refl _ _)⟩
    unfold holdD
    rw [if_pos he]
    exact t7
theorem fhold_nil (a a2 : Option Addr) (n c n2 c2 : Nat) (m : Int) (w : World) : Calls Try.prog 20 #[.pointer none, .slice a n c, .slice a2 n2 c2, .int .i64 m] w (Ret (.int .i64 1) w) := by
  refine ret_in (GFu.fhold_calls none a n c a2 n2 c2 m w (fun u w' => u = .int .i64 1 ∧ Below w.heap.size w w') ?_)
  unfold GFu.fhold_vc
  exact callB (Bs.refl w) (flimited_nil a a2 n c n2 c2 w) fun w3 b3 B3 => ⟨_, rfl, br_t rfl ⟨rfl, B3⟩⟩
end Go.Proofs.Ytjcabccolkmlmaa
end
section
/- The program's book: the room, what goes away, the next period, the nodes; walked. -/
namespace Go.Proofs.Ytjcabccolkmlmaa
open Go.RowKit Go.Maps Go.Sort Go.Shelf
theorem froom_ret {w : World} {g mb : Nat} {A : FB} {a a2 : Option Addr} {c c2 : Nat} {l lim : List Int} (h : FbAt w g mb A) (hW : FWf A) (hr : RowAt w a (l.map iV)) (hl : l.length ≤ 1000000) (hc : l.length ≤ c) (hr2 : RowAt w a2 (lim.map iV)) (hl2 : lim.length ≤ 1000000) :
    Calls Try.prog 18 #[.pointer (some ⟨g, 0, none⟩), .slice a l.length c, .slice a2 lim.length c2] w (Ret (.tuple #[.int .i64 (roomF A l lim), .int .i64 (roomE l lim)]) w) := by
  refine ret_in (GFu.froom_calls (some ⟨g, 0, none⟩) a l.length c a2 lim.length c2 w (fun u w' => u = .tuple #[.int .i64 (roomF A l lim), .int .i64 (roomE l lim)] ∧ Below w.heap.size w w') ?_)
  unfold GFu.froom_vc roomF roomE
  refine callB (Bs.refl w) (flimited_ret hr hl hc hr2 hl2) fun w3 b3 B3 => ⟨_, rfl, br_not (br_dec (fun hp => ?_) fun hp => ⟨by rw [if_neg hp, if_neg hp], B3⟩)⟩
  rw [if_pos hp, if_pos hp]
  have hlen : lim.length = l.length := hp.2.1
  refine ⟨fun x y wx => ∃ i : Nat, y = i ∧ i ≤ l.length ∧ x = roomN A l lim i ∧ Bs w wx, fun _ y _ => l.length - y.toNat, ⟨0, rfl, by omega, rfl, B3⟩, ?_⟩
  rintro x y wx ⟨i, rfl, hi, rfl, B⟩
  refine br_dec (fun hlt => ?_) fun hge => ⟨?_, B⟩
  · have hil : i < l.length := by omega
    obtain ⟨b1, o1, rfl, c1⟩ := (hr.below B (Nat.le_refl _)).int hil
    rw [wr64 (z := (i : Int) + 1) (by omega) (by omega)]
    refine ⟨by omega, by omega, l[i], by rw [Int.toNat_natCast, Nat.mul_one]; exact c1, some mb, (h.below B).cell, _, _, _, _, _, (h.below B).look l[i], ?_⟩
    refine newB B fun g5 w5 g50 sg5 n5 z5 b5 B5 => boxB B5 g50 fun w6 h6 B6 z6 => drewB B6 fun w7 b7 B7 e7 => ?_
    obtain ⟨b2, o2, rfl, c2⟩ := (hr2.below B7 (Nat.le_refl _)).int (k := i) (by omega)
    refine ⟨by omega, by omega, lim[i], by rw [Int.toNat_natCast, Nat.mul_one]; exact c2, callB B7 (fleft_ret (hW l[i]).1.1 w7) fun w8 b8 B8 => ⟨_, rfl, ?_, callB B8 (fspend_ret (hW l[i]).1.1 (hp.2.2 lim[i] (List.getElem_mem _)) w8) fun w9 b9 B9 => ⟨_, rfl, ⟨i + 1, by omega, by omega, ?_, B9⟩, by dsimp only; omega⟩⟩⟩
    · rw [Int.toNat_natCast, Nat.mul_one]
      exact (b8.cell (block_lt_of_cell c2)).trans c2
    · rw [roomN, getD_of hil, getD_of (l := lim) (by omega)]
  · obtain rfl : i = l.length := by omega
    rfl
theorem froom_nil (a a2 : Option Addr) (n c n2 c2 : Nat) (w : World) : Calls Try.prog 18 #[.pointer none, .slice a n c, .slice a2 n2 c2] w (Ret (.tuple #[.int .i64 0, .int .i64 1]) w) := by
  refine ret_in (GFu.froom_calls none a n c a2 n2 c2 w (fun u w' => u = .tuple #[.int .i64 0, .int .i64 1] ∧ Below w.heap.size w w') ?_)
  unfold GFu.froom_vc
  exact callB (Bs.refl w) (flimited_nil a a2 n c n2 c2 w) fun w3 b3 B3 => ⟨_, rfl, br_t rfl ⟨rfl, B3⟩⟩
theorem fheld_ret (a : Ac) (w : World) : Calls Try.prog 104 #[acV a] w (Ret (.int .i64 a.h) w) := by
  refine ret_in (GFu.fheld_calls a.t a.c a.e a.u a.h w (fun u w' => u = .int .i64 a.h ∧ Below w.heap.size w w') ?_)
  unfold GFu.fheld_vc
  exact newB (Bs.refl w) fun g1 w2 g10 sg1 n2 z2 b2 B2 => ⟨rfl, B2⟩
theorem fawayh_any {w : World} {g mb : Nat} {A : FB} {a : Option Addr} {c : Nat} {l : List Int} (h : FbAt w g mb A) (hW : FWf A) (hr : RowAt w a (l.map iV)) (hl : l.length ≤ 1000000) (hc : l.length ≤ c) {what : Int} (hs : ∀ a, selF what a = a.h) (n du dh : Int) (hd : AmtOk n → du = duF what n ∧ dh = dhF what n) :
    Calls Try.prog 103 #[.pointer (some ⟨g, 0, none⟩), .slice a l.length c, .int .i64 n, .func (.func 104) #[] #[], .agg #[.int .i64 0, .int .i64 0, .int .i64 0, .int .i64 du, .int .i64 dh]] w (FDo w g mb (.int .i64 (awayE A what l n)) (awayD A what l n)) := by
  refine fdo_in (GFu.fawayh_calls (some ⟨g, 0, none⟩) a l.length c n 0 0 0 du dh w (FDoV w g mb (.int .i64 (awayE A what l n)) (awayD A what l n)) ?_)
  unfold GFu.fawayh_vc
  obtain ⟨l1, l2⟩ := h.lt
  have fail : ∀ z, awayE A what l n = z → z ≠ 0 → ∀ {wx : World}, Bs w wx → FDoV w g mb (.int .i64 (awayE A what l n)) (awayD A what l n) (.int .i64 z) wx := fun z he hz wx B => fdo_no h B (by rw [he]) (by unfold awayD; rw [if_neg (by rw [he]; exact hz)])
  refine newB (Bs.refl w) fun g1 w2 g10 sg1 n2 z2 b2 B2 => callB B2 (fpath_ret (hr.below b2 (Nat.le_refl _)) hl hc) fun w3 b3 B3 => ⟨_, rfl, br_not (br_dec (fun hp => ?_) fun hp => fail 1 (by unfold awayE; rw [if_pos (.inl hp)]) (by decide) B3)⟩
  refine callB B3 (famount_ret n w3) fun w4 b4 B4 => ⟨_, rfl, br_not (br_dec (fun ha => ?_) fun ha => fail 1 (by unfold awayE; rw [if_pos (.inr ha)]) (by decide) B4)⟩
  have hne : ¬ (¬ PathOk l ∨ ¬ AmtOk n) := fun q => q.elim (fun q => q hp) fun q => q ha
  obtain ⟨rfl, rfl⟩ := hd ha
  have hsz := b3.size
  have hsz4 := b4.size
  refine ⟨fun x wx => ∃ i : Nat, x = i ∧ i ≤ l.length ∧ (∀ y ∈ l.take i, n ≤ selF what (A y)) ∧ Bs w wx ∧ w4.heap.size ≤ wx.heap.size, fun x _ => l.length - x.toNat, ⟨0, rfl, by omega, by simp, B4, Nat.le_refl _⟩, ?_⟩
  rintro x wx ⟨i, rfl, hi, h0, B, hs4⟩
  refine br_dec (fun hlt => ?_) fun hge => ?_
  · have hil : i < l.length := by omega
    obtain ⟨b1, o1, rfl, c1⟩ := (hr.below B (Nat.le_refl _)).int hil
    rw [wr64 (z := (i : Int) + 1) (by omega) (by omega)]
    refine ⟨by omega, by omega, l[i], by rw [Int.toNat_natCast, Nat.mul_one]; exact c1, some mb, (h.below B).cell, _, _, _, _, _, (h.below B).look l[i], ?_⟩
    refine callB B (fheld_ret (A l[i]) wx) fun w7 b7 B7 => ⟨_, rfl, br_dec (fun q => fail 20 ?_ (by decide) B7) fun q1 => ⟨⟨i + 1, by omega, by omega, ?_, B7, Nat.le_trans hs4 b7.size⟩, by dsimp only; omega⟩⟩
    · unfold awayE
      rw [if_neg hne, if_pos ⟨l[i], List.getElem_mem hil, by rw [hs]; exact q⟩]
    · rw [List.take_succ_eq_append_getElem hil]
      intro y hy
      rcases List.mem_append.1 hy with hy | hy
      · exact h0 y hy
      · rw [List.mem_singleton.1 hy, hs]; omega
  · obtain rfl : i = l.length := by omega
    rw [List.take_length] at h0
    have he : awayE A what l n = 0 := awayE_is hp ha h0
    have ha' := ha
    unfold AmtOk at ha'
    refine (fmove_any (h.below B) hW (hr.below B (Nat.le_refl _)) hp.2.2 hl (du := duF what n) (dh := dhF what n) ?_ ?_).mono ?_
    · unfold duF; split
      · omega
      · split <;> omega
    · unfold dhF; split <;> omega
    rintro e w7 ⟨rfl, t7, f7⟩
    refine ⟨keepG_fr f7 (fun q hq hq2 => by simp at hq hq2; omega), rfl, by rw [he], ?_, (Fr.ofBelow B).trans f7 (Gr.refl _ _)⟩
    unfold awayD
    rw [if_pos he]
    exact t7
theorem fawayh_nil (a : Option Addr) (n c : Nat) (m du dh : Int) (w : World) : Calls Try.prog 103 #[.pointer none, .slice a n c, .int .i64 m, .func (.func 104) #[] #[], .agg #[.int .i64 0, .int .i64 0, .int .i64 0, .int .i64 du, .int .i64 dh]] w (Ret (.int .i64 1) w) := by
  refine ret_in (GFu.fawayh_calls none a n c m 0 0 0 du dh w (fun u w' => u = .int .i64 1 ∧ Below w.heap.size w w') ?_)
  unfold GFu.fawayh_vc
  exact newB (Bs.refl w) fun g1 w2 g10 sg1 n2 z2 b2 B2 => callB B2 (fpath_nil a n c w2) fun w3 b3 B3 => ⟨_, rfl, br_t rfl ⟨rfl, B3⟩⟩
theorem fused_ret (a : Ac) (w : World) : Calls Try.prog 105 #[acV a] w (Ret (.int .i64 a.u) w) := by
  refine ret_in (GFu.fused_calls a.t a.c a.e a.u a.h w (fun u w' => u = .int .i64 a.u ∧ Below w.heap.size w w') ?_)
  unfold GFu.fused_vc
  exact newB (Bs.refl w) fun g1 w2 g10 sg1 n2 z2 b2 B2 => ⟨rfl, B2⟩
theorem fawayu_any {w : World} {g mb : Nat} {A : FB} {a : Option Addr} {c : Nat} {l : List Int} (h : FbAt w g mb A) (hW : FWf A) (hr : RowAt w a (l.map iV)) (hl : l.length ≤ 1000000) (hc : l.length ≤ c) {what : Int} (hs : ∀ a, selF what a = a.u) (n du dh : Int) (hd : AmtOk n → du = duF what n ∧ dh = dhF what n) :
    Calls Try.prog 103 #[.pointer (some ⟨g, 0, none⟩), .slice a l.length c, .int .i64 n, .func (.func 105) #[] #[], .agg #[.int .i64 0, .int .i64 0, .int .i64 0, .int .i64 du, .int .i64 dh]] w (FDo w g mb (.int .i64 (awayE A what l n)) (awayD A what l n)) := by
  refine fdo_in (GFu.fawayu_calls (some ⟨g, 0, none⟩) a l.length c n 0 0 0 du dh w (FDoV w g mb (.int .i64 (awayE A what l n)) (awayD A what l n)) ?_)
  unfold GFu.fawayu_vc
  obtain ⟨l1, l2⟩ := h.lt
  have fail : ∀ z, awayE A what l n = z → z ≠ 0 → ∀ {wx : World}, Bs w wx → FDoV w g mb (.int .i64 (awayE A what l n)) (awayD A what l n) (.int .i64 z) wx := fun z he hz wx B => fdo_no h B (by rw [he]) (by unfold awayD; rw [if_neg (by rw [he]; exact hz)])
  refine newB (Bs.refl w) fun g1 w2 g10 sg1 n2 z2 b2 B2 => callB B2 (fpath_ret (hr.below b2 (Nat.le_refl _)) hl hc) fun w3 b3 B3 => ⟨_, rfl, br_not (br_dec (fun hp => ?_) fun hp => fail 1 (by unfold awayE; rw [if_pos (.inl hp)]) (by decide) B3)⟩
  refine callB B3 (famount_ret n w3) fun w4 b4 B4 => ⟨_, rfl, br_not (br_dec (fun ha => ?_) fun ha => fail 1 (by unfold awayE; rw [if_pos (.inr ha)]) (by decide) B4)⟩
  have hne : ¬ (¬ PathOk l ∨ ¬ AmtOk n) := fun q => q.elim (fun q => q hp) fun q => q ha
  obtain ⟨rfl, rfl⟩ := hd ha
  have hsz := b3.size
  have hsz4 := b4.size
  refine ⟨fun x wx => ∃ i : Nat, x = i ∧ i ≤ l.length ∧ (∀ y ∈ l.take i, n ≤ selF what (A y)) ∧ Bs w wx ∧ w4.heap.size ≤ wx.heap.size, fun x _ => l.length - x.toNat, ⟨0, rfl, by omega, by simp, B4, Nat.le_refl _⟩, ?_⟩
  rintro x wx ⟨i, rfl, hi, h0, B, hs4⟩
  refine br_dec (fun hlt => ?_) fun hge => ?_
  · have hil : i < l.length := by omega
    obtain ⟨b1, o1, rfl, c1⟩ := (hr.below B (Nat.le_refl _)).int hil
    rw [wr64 (z := (i : Int) + 1) (by omega) (by omega)]
    refine ⟨by omega, by omega, l[i], by rw [Int.toNat_natCast, Nat.mul_one]; exact c1, some mb, (h.below B).cell, _, _, _, _, _, (h.below B).look l[i], ?_⟩
    refine callB B (fused_ret (A l[i]) wx) fun w7 b7 B7 => ⟨_, rfl, br_dec (fun q => fail 20 ?_ (by decide) B7) fun q1 => ⟨⟨i + 1, by omega, by omega, ?_, B7, Nat.le_trans hs4 b7.size⟩, by dsimp only; omega⟩⟩
    · unfold awayE
      rw [if_neg hne, if_pos ⟨l[i], List.getElem_mem hil, by rw [hs]; exact q⟩]
    · rw [List.take_succ_eq_append_getElem hil]
      intro y hy
      rcases List.mem_append.1 hy with hy | hy
      · exact h0 y hy
      · rw [List.mem_singleton.1 hy, hs]; omega
  · obtain rfl : i = l.length := by omega
    rw [List.take_length] at h0
    have he : awayE A what l n = 0 := awayE_is hp ha h0
    have ha' := ha
    unfold AmtOk at ha'
    refine (fmove_any (h.below B) hW (hr.below B (Nat.le_refl _)) hp.2.2 hl (du := duF what n) (dh := dhF what n) ?_ ?_).mono ?_
    · unfold duF; split
      · omega
      · split <;> omega
    · unfold dhF; split <;> omega
    rintro e w7 ⟨rfl, t7, f7⟩
    refine ⟨keepG_fr f7 (fun q hq hq2 => by simp at hq hq2; omega), rfl, by rw [he], ?_, (Fr.ofBelow B).trans f7 (Gr.refl _ _)⟩
    unfold awayD
    rw [if_pos he]
    exact t7
theorem fawayu_nil (a : Option Addr) (n c : Nat) (m du dh : Int) (w : World) : Calls Try.prog 103 #[.pointer none, .slice a n c, .int .i64 m, .func (.func 105) #[] #[], .agg #[.int .i64 0, .int .i64 0, .int .i64 0, .int .i64 du, .int .i64 dh]] w (Ret (.int .i64 1) w) := by
  refine ret_in (GFu.fawayu_calls none a n c m 0 0 0 du dh w (fun u w' => u = .int .i64 1 ∧ Below w.heap.size w w') ?_)
  unfold GFu.fawayu_vc
  exact newB (Bs.refl w) fun g1 w2 g10 sg1 n2 z2 b2 B2 => callB B2 (fpath_nil a n c w2) fun w3 b3 B3 => ⟨_, rfl, br_t rfl ⟨rfl, B3⟩⟩
theorem frel_any {w : World} {g mb : Nat} {A : FB} {a : Option Addr} {c : Nat} {l : List Int} (h : FbAt w g mb A) (hW : FWf A) (hr : RowAt w a (l.map iV)) (hl : l.length ≤ 1000000) (hc : l.length ≤ c) (n : Int) :
    Calls Try.prog 63 #[.pointer (some ⟨g, 0, none⟩), .slice a l.length c, .int .i64 n] w (FDo w g mb (.int .i64 (awayE A 0 l n)) (awayD A 0 l n)) := by
  refine fdo_in (GFu.frel_calls (some ⟨g, 0, none⟩) a l.length c n w (FDoV w g mb (.int .i64 (awayE A 0 l n)) (awayD A 0 l n)) ?_)
  unfold GFu.frel_vc
  refine (fawayh_any h hW hr hl hc (what := 0) (fun _ => rfl) n (0) (IntKind.i64.wrap (0 - n)) fun ha => ?_).mono ?_
  · unfold AmtOk at ha
    constructor
    · first | rfl | (rw [wr64 (by omega) (by omega)]; unfold duF; simp)
    · first | rfl | (rw [wr64 (by omega) (by omega)]; unfold dhF; simp)
  rintro e w2 ⟨rfl, h⟩
  exact ⟨keepG_nil _ _, _, rfl, rfl, h⟩
theorem frel_nil (a : Option Addr) (n c : Nat) (m : Int) (w : World) : Calls Try.prog 63 #[.pointer none, .slice a n c, .int .i64 m] w (Ret (.int .i64 1) w) := by
  refine ret_in (GFu.frel_calls none a n c m w (fun u w' => u = .int .i64 1 ∧ Below w.heap.size w w') ?_)
  unfold GFu.frel_vc
  exact callB (Bs.refl w) (fawayh_nil a n c m _ _ w) fun w2 b2 B2 => ⟨_, rfl, rfl, B2⟩
theorem fcom_any {w : World} {g mb : Nat} {A : FB} {a : Option Addr} {c : Nat} {l : List Int} (h : FbAt w g mb A) (hW : FWf A) (hr : RowAt w a (l.map iV)) (hl : l.length ≤ 1000000) (hc : l.length ≤ c) (n : Int) :
    Calls Try.prog 64 #[.pointer (some ⟨g, 0, none⟩), .slice a l.length c, .int .i64 n] w (FDo w g mb (.int .i64 (awayE A 1 l n)) (awayD A 1 l n)) := by
  refine fdo_in (GFu.fcom_calls (some ⟨g, 0, none⟩) a l.length c n w (FDoV w g mb (.int .i64 (awayE A 1 l n)) (awayD A 1 l n)) ?_)
  unfold GFu.fcom_vc
  refine (fawayh_any h hW hr hl hc (what := 1) (fun _ => rfl) n (n) (IntKind.i64.wrap (0 - n)) fun ha => ?_).mono ?_
  · unfold AmtOk at ha
    constructor
    · first | rfl | (rw [wr64 (by omega) (by omega)]; unfold duF; simp)
    · first | rfl | (rw [wr64 (by omega) (by omega)]; unfold dhF; simp)
  rintro e w2 ⟨rfl, h⟩
  exact ⟨keepG_nil _ _, _, rfl, rfl, h⟩
theorem fcom_nil (a : Option Addr) (n c : Nat) (m : Int) (w : World) : Calls Try.prog 64 #[.pointer none, .slice a n c, .int .i64 m] w (Ret (.int .i64 1) w) := by
  refine ret_in (GFu.fcom_calls none a n c m w (fun u w' => u = .int .i64 1 ∧ Below w.heap.size w w') ?_)
  unfold GFu.fcom_vc
  exact callB (Bs.refl w) (fawayh_nil a n c m _ _ w) fun w2 b2 B2 => ⟨_, rfl, rfl, B2⟩
theorem fref_any {w : World} {g mb : Nat} {A : FB} {a : Option Addr} {c : Nat} {l : List Int} (h : FbAt w g mb A) (hW : FWf A) (hr : RowAt w a (l.map iV)) (hl : l.length ≤ 1000000) (hc : l.length ≤ c) (n : Int) :
    Calls Try.prog 65 #[.pointer (some ⟨g, 0, none⟩), .slice a l.length c, .int .i64 n] w (FDo w g mb (.int .i64 (awayE A 2 l n)) (awayD A 2 l n)) := by
  refine fdo_in (GFu.fref_calls (some ⟨g, 0, none⟩) a l.length c n w (FDoV w g mb (.int .i64 (awayE A 2 l n)) (awayD A 2 l n)) ?_)
  unfold GFu.fref_vc
  refine (fawayu_any h hW hr hl hc (what := 2) (fun _ => rfl) n (IntKind.i64.wrap (0 - n)) (0) fun ha => ?_).mono ?_
  · unfold AmtOk at ha
    constructor
    · first | rfl | (rw [wr64 (by omega) (by omega)]; unfold duF; simp)
    · first | rfl | (rw [wr64 (by omega) (by omega)]; unfold dhF; simp)
  rintro e w2 ⟨rfl, h⟩
  exact ⟨keepG_nil _ _, _, rfl, rfl, h⟩
theorem fref_nil (a : Option Addr) (n c : Nat) (m : Int) (w : World) : Calls Try.prog 65 #[.pointer none, .slice a n c, .int .i64 m] w (Ret (.int .i64 1) w) := by
  refine ret_in (GFu.fref_calls none a n c m w (fun u w' => u = .int .i64 1 ∧ Below w.heap.size w w') ?_)
  unfold GFu.fref_vc
  exact callB (Bs.refl w) (fawayu_nil a n c m _ _ w) fun w2 b2 B2 => ⟨_, rfl, rfl, B2⟩
theorem froll_any {w : World} {g mb : Nat} {A : FB} (h : FbAt w g mb A) (hW : FWf A) (n : Int) (carry : Bool) :
    Calls Try.prog 23 #[.pointer (some ⟨g, 0, none⟩), .int .i64 n, .bool carry] w (FDo w g mb (.tuple #[.int .i64 (goneF A n carry), .int .i64 (rollE n)]) (rollD A n carry)) := by
  refine fdo_in (GFu.froll_calls (some ⟨g, 0, none⟩) n carry w (FDoV w g mb (.tuple #[.int .i64 (goneF A n carry), .int .i64 (rollE n)]) (rollD A n carry)) ?_)
  unfold GFu.froll_vc goneF rollE rollD
  obtain ⟨l1, l2⟩ := h.lt
  obtain ⟨⟨k1, k2, k3, k4, k5⟩, k6, k7⟩ := (hW n).1.all
  refine br_f rfl (callB (Bs.refl w) (fnode_ret n w) fun w3 b3 B3 => ⟨_, rfl, br_not (br_dec (fun hn => ?_) fun hn => fdo_no h B3 (by rw [if_neg hn, if_neg hn]) (by rw [if_neg hn]))⟩)
  rw [if_pos hn, if_pos hn, if_pos hn]
  refine ⟨some mb, (h.below B3).cell, _, _, _, _, _, (h.below B3).look n, newB B3 fun g1 w4 g10 sg1 n4 z4 b4 B4 => boxB B4 g10 fun w5 h5 B5 z5 => ?_⟩
  have fin : ∀ {wx : World}, Bs w wx → w4.heap.size ≤ wx.heap.size → ∀ z, z = (if carry = true then 0 else (A n).left) → GFu.froll_k1 (FDoV w g mb (.tuple #[.int .i64 (if carry = true then 0 else (A n).left), .int .i64 0]) (upF A n (rollA (A n) carry))) (some ⟨g, 0, none⟩) n (A n).t (A n).c (A n).e (A n).u (A n).h g1 z wx := fun {wx} B hs z hz => by
    unfold GFu.froll_k1
    refine drewB B fun w6 b6 B6 e6 => callB B6 (fleft_ret (hW n).1.1 w6) fun w7 b7 B7 => ⟨_, rfl, ?_⟩
    have hzr : 0 ≤ z ∧ z ≤ (A n).left := by
      have := (hW n).1.2.2
      rw [hz]; split <;> omega
    have hle : (A n).left ≤ 9007199254740992 := by unfold Ac.left; omega
    have hge := (hW n).1.2.2
    rw [wr64 (z := (A n).left + (A n).h) (by omega) (by omega), wr64 (by omega) (by omega)]
    have hra : rollA (A n) carry = ⟨0, (A n).left + (A n).h - z, 0, 0, (A n).h⟩ := by unfold rollA; rw [hz]
    rw [hra, ← hz]
    refine (fset_any (h.below B7) n ⟨0, (A n).left + (A n).h - z, 0, 0, (A n).h⟩).mono ?_
    rintro e w8 ⟨rfl, t8, f8⟩
    exact ⟨keepG_fr f8 (fun q hq hq2 => by have := B3.size; simp at hq hq2; omega), rfl, rfl, t8, (Fr.ofBelow B7).trans f8 (Gr.refl _ _)⟩
  cases carry
  · exact br_t rfl (callB B5 (fleft_ret (hW n).1.1 w5) fun w6 b6 B6 => ⟨_, rfl, fin B6 (by have := b6.size; omega) _ rfl⟩)
  · exact br_f rfl (fin B5 (by omega) _ rfl)
theorem froll_nil (n : Int) (carry : Bool) (w : World) : Calls Try.prog 23 #[.pointer none, .int .i64 n, .bool carry] w (Ret (.tuple #[.int .i64 0, .int .i64 1]) w) := by
  refine ret_in (GFu.froll_calls none n carry w (fun u w' => u = .tuple #[.int .i64 0, .int .i64 1] ∧ Below w.heap.size w w') ?_)
  unfold GFu.froll_vc
  exact br_t rfl ⟨rfl, Bs.refl _⟩
theorem accD_mem {A : FB} {m : List (Int × Value)} (hn : (m.map (·.1)).Nodup) (hl : ∀ k, lkM m k = accD A k) (k : Int) : k ∈ m.map (·.1) ↔ ¬ (A k).Nil := by
  constructor
  · intro h
    obtain ⟨p, hp, rfl⟩ := List.mem_map.1 h
    have h1 := lkM_of_mem hn (k := p.1) (v := p.2) hp
    rw [hl] at h1
    unfold accD at h1
    intro q
    rw [if_pos q] at h1
    cases h1
  · intro h
    have := hl k
    unfold accD at this
    rw [if_neg h] at this
    exact List.mem_map.2 ⟨_, lkM_mem this, rfl⟩
theorem sortK_nodes {A : FB} (hW : FWf A) {m : List (Int × Value)} (hn : (m.map (·.1)).Nodup) (hl : ∀ k, lkM m k = accD A k) : sortK m = nodesF A := by
  unfold sortK
  have hnd : (nodesF A).Nodup := (nodes_sorted A).imp fun h => by omega
  have hp : (m.map (·.1)).Perm (nodesF A) := (List.perm_ext_iff_of_nodup hn hnd).2 fun k => by rw [mem_nodes hW, accD_mem hn hl]
  rw [mergeSort_of_perm_i hp]
  exact List.mergeSort_of_pairwise ((nodes_sorted A).imp fun h => by simp [leI]; omega)
theorem accs_range {A : FB} (hW : FWf A) {m : List (Int × Value)} (hn : (m.map (·.1)).Nodup) (hl : ∀ k, lkM m k = accD A k) : (∀ p ∈ m, -9223372036854775808 ≤ p.1 ∧ p.1 ≤ 9223372036854775807) ∧ m.length ≤ 32 := by
  have h1 : ∀ k ∈ m.map (·.1), 1 ≤ k ∧ k ≤ 32 := fun k hk => by
    have := (mem_nodes hW).2 ((accD_mem hn hl k).1 hk)
    unfold nodesF at this
    exact mem_ids32.1 (List.mem_filter.1 this).1
  refine ⟨fun p hp => by have := h1 p.1 (List.mem_map.2 ⟨p, hp, rfl⟩); omega, ?_⟩
  have := nodup_bound 32 (m.map (·.1)) hn h1
  simpa using this
def NewIntsF (w : World) (zs : List Int) (a : Option Addr) (n c : Nat) (w' : World) : Prop := n = zs.length ∧ Own w' w.heap.size 3 1 (.slice a n c) n (zs.map iV) ∧ Below w.heap.size w w'
theorem fnodes_new {w : World} {g mb : Nat} {A : FB} (h : FbAt w g mb A) (hW : FWf A) :
    Calls Try.prog 61 #[.pointer (some ⟨g, 0, none⟩)] w fun e w' => ∃ a n c, e = .returned (.slice a n c) ∧ NewIntsF w (nodesF A) a n c w' := by
  refine (GFu.fnodes_calls (some ⟨g, 0, none⟩) w (fun u w' => ∃ a n c, u = .slice a n c ∧ NewIntsF w (nodesF A) a n c w') ?_).mono (by rintro e w' ⟨v, rfl, a, n, c, rfl, h⟩; exact ⟨a, n, c, rfl, h⟩)
  unfold GFu.fnodes_vc
  obtain ⟨m, hm, hl⟩ := h.map
  obtain ⟨hr, hlen⟩ := accs_range hW hm.nodup hl
  refine br_f rfl ⟨some mb, h.cell, keysFunds_new (K := fun u w' => ∃ a n c, u = .slice a n c ∧ NewIntsF w (nodesF A) a n c w') hm hr (by omega) (Bs.refl w) fun a c w2 ho hn b2 B2 => ?_⟩
  rw [sortK_nodes hW hm.nodup hl] at ho ⊢
  exact ⟨a, _, c, rfl, rfl, ho, B2⟩
theorem fnodes_nil (w : World) : Calls Try.prog 61 #[.pointer none] w (Ret (.slice none 0 0) w) := by
  refine ret_in (GFu.fnodes_calls none w (fun u w' => u = .slice none 0 0 ∧ Below w.heap.size w w') ?_)
  unfold GFu.fnodes_vc
  exact br_t rfl ⟨rfl, Bs.refl _⟩
theorem MapAt.of_new0 {w : World} {g : Nat} (h : w.heap[g]? = some (.map #[] 0)) : MapAt w g [] := ⟨#[], 0, h, MapKept.stamped_empty 0, rfl⟩
/-- A new book. -/
theorem fnew_new (w : World) : Calls Try.prog 15 #[] w fun e w' => ∃ g mb, e = .returned (.pointer (some ⟨g, 0, none⟩)) ∧ FbAt w' g mb (fun _ => ac0) ∧ w.heap.size ≤ g ∧ w.heap.size ≤ mb ∧ Below w.heap.size w w' := by
  refine (GFu.fnew_calls w (fun u w' => ∃ g mb, u = .pointer (some ⟨g, 0, none⟩) ∧ FbAt w' g mb (fun _ => ac0) ∧ w.heap.size ≤ g ∧ w.heap.size ≤ mb ∧ Below w.heap.size w w') ?_).mono (by rintro e w' ⟨v, rfl, g, mb, rfl, h⟩; exact ⟨g, mb, rfl, h⟩)
  unfold GFu.fnew_vc
  refine newB (Bs.refl w) fun mb w2 mb0 sg n2 z2 b2 B2 => newB B2 fun g w3 g0 sg2 n3 z3 b3 B3 => ⟨g, mb, rfl, ⟨n3, [], (MapAt.of_new0 n2).below b3, fun k => ?_⟩, g0, mb0, B3⟩
  unfold accD
  rw [if_pos (by exact ⟨rfl, rfl, rfl, rfl, rfl⟩)]
  rfl
end Go.Proofs.Ytjcabccolkmlmaa
end
section
/- The document's book; walked. -/
namespace Go.Proofs.Ytjcabccolkmlmaa
open Go.RowKit
abbrev RbAt (w : World) (g : Nat) (A : FB) : Prop := Bk w g (sArr 33 5 fun i => acL (A (i : Int))) 33
section
variable {w : World} {g : Nat} {A : FB} {k : Int}
theorem rb_cell (h : RbAt w g A) (hk : NodeOk k) (c : Nat) {v : Value} (hc : (acL (A k))[c]? = some v) : w.cell? ⟨g, 0 + k.toNat * 5 + c, none⟩ = some v := by
  have hl : c < 5 := (List.getElem?_eq_some_iff.1 hc).1
  unfold NodeOk at hk
  rw [Nat.zero_add]
  refine sArr_cell h (by omega) hl ?_
  rw [show ((k.toNat : Nat) : Int) = k by omega]
  exact hc
theorem rb_cells (h : RbAt w g A) (hk : 0 ≤ k ∧ k < 33) : cellsAt w g (0 + k.toNat * 5) (acL (A k)) := by
  rw [Nat.zero_add]
  have := sArr_cells h (i := k.toNat) (by omega) rfl
  rwa [show ((k.toNat : Nat) : Int) = k by omega] at this
theorem rb_up (hk : NodeOk k) (d : Ac) {f : Nat → List Value} (hf : ∀ i : Nat, i < 33 → f i = if i = k.toNat then acL d else acL (A (i : Int))) : sArr 33 5 f = sArr 33 5 fun i => acL (upF A k d (i : Int)) := by
  unfold NodeOk at hk
  refine sArr_congr fun i hi => ?_
  rw [hf i hi]
  unfold upF
  by_cases e : i = k.toNat
  · rw [if_pos e, if_pos (by omega)]
  · rw [if_neg e, if_neg (by omega)]
theorem rb_set (h : RbAt w g A) (hk : NodeOk k) (c : Nat) (hc : c < 5) {v : Value} (d : Ac) (hd : (acL (A k)).set c v = acL d) {gs : List Nat} (hg : ∀ x ∈ gs, x ≠ g) {K : World → Prop} (kk : ∀ w1, RbAt w1 g (upF A k d) → Fr [g] w w1 → w1.heap.size = w.heap.size → K w1) :
    stO gs w g (0 + k.toNat * 5 + c) [v] K := by
  have hk' := hk
  unfold NodeOk at hk'
  rw [Nat.zero_add]
  refine stO_bk h (by rw [sArr_size]; omega) hg fun w1 h1 f1 z1 => kk w1 ?_ f1 z1
  rw [sArr_set (by omega) hc fun _ _ => rfl] at h1
  rw [rb_up hk d fun i hi => ?_] at h1
  · exact h1
  · by_cases e : i = k.toNat
    · rw [if_pos e, if_pos e, e, show ((k.toNat : Nat) : Int) = k by omega, hd]
    · rw [if_neg e, if_neg e]
theorem rb_setA (h : RbAt w g A) (hk : NodeOk k) (d : Ac) {gs : List Nat} (hg : ∀ x ∈ gs, x ≠ g) {K : World → Prop} (kk : ∀ w1, RbAt w1 g (upF A k d) → Fr [g] w w1 → w1.heap.size = w.heap.size → K w1) :
    stO gs w g (0 + k.toNat * 5) (acL d) K := by
  have hk' := hk
  unfold NodeOk at hk'
  rw [Nat.zero_add]
  refine stO_part h (by rw [sArr_size]; simp [acL]; omega) hg fun w1 h1 f1 z1 => kk w1 ?_ f1 z1
  rw [sArr_setL (n := 33) (k := 5) (by omega) (by rfl) (fun _ _ => by rfl)] at h1
  rw [rb_up hk d fun i hi => rfl] at h1
  exact h1
end
theorem qleft_ret {a : Ac} (h : a.In) (w : World) : Calls Try.prog 69 #[acV a] w (Ret (.int .i64 a.left) w) := by
  refine ret_in (GFuR.rleft_calls a.t a.c a.e a.u a.h w (fun u w' => u = .int .i64 a.left ∧ Below w.heap.size w w') ?_)
  unfold GFuR.rleft_vc
  refine newB (Bs.refl w) fun g1 w2 g10 sg1 n2 z2 b2 B2 => ⟨by rw [left_wr h], B2⟩
theorem qin_ret (n : Int) (w : World) : Calls Try.prog 108 #[.int .i64 n] w (Ret (.bool (decide (0 ≤ n ∧ n ≤ 9007199254740992))) w) := by
  refine ret_in (GFuR.rin_calls n w (fun u w' => u = .bool (decide (0 ≤ n ∧ n ≤ 9007199254740992)) ∧ Below w.heap.size w w') ?_)
  unfold GFuR.rin_vc
  refine br_dec (fun h => ⟨?_, Bs.refl _⟩) fun h => ⟨?_, Bs.refl _⟩
  · congr 1; exact decide_eq_decide.2 ⟨fun q => ⟨by omega, q⟩, fun q => q.2⟩
  · rw [decide_eq_false fun q : 0 ≤ n ∧ n ≤ 9007199254740992 => h (by have := q.1; omega)]
theorem qright_ret (a : Ac) (w : World) : Calls Try.prog 75 #[acV a] w (Ret (.bool (decide a.Ok)) w) := by
  refine ret_in (GFuR.rright_calls a.t a.c a.e a.u a.h w (fun u w' => u = .bool (decide a.Ok) ∧ Below w.heap.size w w') ?_)
  unfold GFuR.rright_vc
  have no : ∀ {wx : World}, Bs w wx → ¬ a.Ok → (Value.bool false = .bool (decide a.Ok) ∧ Below w.heap.size w wx) := fun B q => ⟨by rw [decide_eq_false q], B⟩
  refine newB (Bs.refl w) fun g1 w2 g10 sg1 n2 z2 b2 B2 => ?_
  refine callB B2 (qin_ret a.t w2) fun w3 b3 B3 => ⟨_, rfl, br_not (br_dec (fun h1 => ?_) fun h1 => no B3 fun q => h1 q.1.1)⟩
  refine callB B3 (qin_ret a.c w3) fun w4 b4 B4 => ⟨_, rfl, br_not (br_dec (fun h2 => ?_) fun h2 => no B4 fun q => h2 q.1.2.1)⟩
  refine callB B4 (qin_ret a.e w4) fun w5 b5 B5 => ⟨_, rfl, br_not (br_dec (fun h3 => ?_) fun h3 => no B5 fun q => h3 q.1.2.2.1)⟩
  refine callB B5 (qin_ret a.u w5) fun w6 b6 B6 => ⟨_, rfl, br_not (br_dec (fun h4 => ?_) fun h4 => no B6 fun q => h4 q.1.2.2.2.1)⟩
  refine callB B6 (qin_ret a.h w6) fun w7 b7 B7 => ⟨_, rfl, br_not (br_dec (fun h5 => ?_) fun h5 => no B7 fun q => h5 q.1.2.2.2.2)⟩
  rw [wr64 (by omega) (by omega)]
  refine br_dec (fun h6 => ?_) fun h6 => no B7 fun q => h6 q.2.1
  refine callB B7 (qleft_ret (a := a) ⟨h1, h2, h3, h4, h5⟩ w7) fun w8 b8 B8 => ⟨_, rfl, ?_, B8⟩
  congr 1
  exact decide_eq_decide.2 ⟨fun q => ⟨⟨h1, h2, h3, h4, h5⟩, h6, q⟩, fun q => q.2.2⟩
theorem qnode_ret (n : Int) (w : World) : Calls Try.prog 68 #[.int .i64 n] w (Ret (.bool (decide (NodeOk n))) w) := by
  refine ret_in (GFuR.rnode_calls n w (fun u w' => u = .bool (decide (NodeOk n)) ∧ Below w.heap.size w w') ?_)
  unfold GFuR.rnode_vc
  refine br_dec (fun h => ⟨?_, Bs.refl _⟩) fun h => ⟨?_, Bs.refl _⟩
  · congr 1; exact decide_eq_decide.2 ⟨fun q => ⟨by omega, q⟩, fun q => q.2⟩
  · rw [decide_eq_false fun q : NodeOk n => h (by have := q.1; omega)]
theorem qpath_ret {a : Option Addr} {c : Nat} {l : List Int} {w : World} (h : RowAt w a (l.map iV)) (hl : l.length ≤ 1000000) : Calls Try.prog 107 #[.slice a l.length c] w (Ret (.bool (decide (PathOk l))) w) := by
  refine ret_in (GFuR.rpath_calls a l.length c w (fun u w' => u = .bool (decide (PathOk l)) ∧ Below w.heap.size w w') ?_)
  unfold GFuR.rpath_vc
  refine br_dec (fun q => ⟨?_, Bs.refl _⟩) fun q1 => br_dec (fun q => ⟨?_, Bs.refl _⟩) fun q2 => ?_
  · rw [decide_eq_false fun r : PathOk l => by have := r.1.1; omega]
  · rw [decide_eq_false fun r : PathOk l => by have := r.1.2; omega]
  refine ⟨fun x wx => ∃ i : Nat, x = i ∧ i ≤ l.length ∧ (∀ y ∈ l.take i, NodeOk y) ∧ (l.take i).Nodup ∧ Bs w wx, fun x _ => l.length - x.toNat, ⟨0, rfl, by omega, by simp, by simp, Bs.refl _⟩, ?_⟩
  rintro x wx ⟨i, rfl, hi, hno, hnd, B⟩
  refine br_dec (fun hlt => ?_) fun hge => ⟨?_, B⟩
  · have hil : i < l.length := by omega
    obtain ⟨b1, o1, rfl, c1⟩ := (h.below B (Nat.le_refl _)).int hil
    refine ⟨fun x wx => ∃ j : Nat, x = j ∧ j ≤ i ∧ l[i] ∉ l.take j ∧ Bs w wx, fun x _ => i - x.toNat, ⟨0, rfl, by omega, by simp, B⟩, ?_⟩
    rintro x wy ⟨j, rfl, hj, hm, By⟩
    refine br_dec (fun hji => drewB By fun w4 b4 B4 e4 => ?_) fun hji => ?_
    · have hjl : j < l.length := by omega
      obtain ⟨b2, o2, e2, c2⟩ := (h.below B4 (Nat.le_refl _)).int hjl
      cases e2
      obtain ⟨b3, o3, e3, c3⟩ := (h.below B4 (Nat.le_refl _)).int hil
      cases e3
      refine ⟨by omega, by omega, l[j], by rw [Int.toNat_natCast, Nat.mul_one]; exact c2, by omega, by omega, l[i], by rw [Int.toNat_natCast, Nat.mul_one]; exact c3, br_dec (fun he => ⟨?_, B4⟩) fun he => ?_⟩
      · rw [decide_eq_false fun r : PathOk l => by
          have := (List.getElem_inj (i := j) (j := i) (h₀ := hjl) (h₁ := hil) r.2.2).1 he
          omega]
      · rw [wr64 (by omega) (by omega)]
        refine ⟨⟨j + 1, by omega, by omega, ?_, B4⟩, by dsimp only; omega⟩
        rw [List.take_succ_eq_append_getElem hjl, List.mem_append, List.mem_singleton]
        exact fun q => q.elim hm fun q => he q.symm
    · obtain rfl : j = i := by omega
      obtain ⟨b3, o3, e3, c3⟩ := (h.below By (Nat.le_refl _)).int hil
      cases e3
      refine ⟨by omega, by omega, l[j], by rw [Int.toNat_natCast, Nat.mul_one]; exact c3, callB By (qnode_ret l[j] wy) fun w5 b5 B5 => ⟨_, rfl, br_not (br_dec (fun hn => ?_) fun hn => ⟨?_, B5⟩)⟩⟩
      · rw [wr64 (by omega) (by omega)]
        refine ⟨⟨j + 1, by omega, by omega, ?_, ?_, B5⟩, by dsimp only; omega⟩
        · rw [List.take_succ_eq_append_getElem hil]
          intro y hy
          rcases List.mem_append.1 hy with hy | hy
          · exact hno y hy
          · rw [List.mem_singleton.1 hy]; exact hn
        · rw [List.take_succ_eq_append_getElem hil]
          exact List.nodup_append.2 ⟨hnd, by simp, fun u hu v hv e => by rw [List.mem_singleton] at hv; rw [e, hv] at hu; exact hm hu⟩
      · rw [decide_eq_false fun r : PathOk l => hn (r.2.1 _ (List.getElem_mem hil))]
  · obtain rfl : i = l.length := by omega
    rw [List.take_length] at hno hnd
    rw [decide_eq_true (show PathOk l from ⟨by omega, hno, hnd⟩)]
theorem qlim_ret {a a2 : Option Addr} {c c2 : Nat} {l lim : List Int} {w : World} (h : RowAt w a (l.map iV)) (hl : l.length ≤ 1000000) (h2 : RowAt w a2 (lim.map iV)) (hl2 : lim.length ≤ 1000000) :
    Calls Try.prog 106 #[.slice a l.length c, .slice a2 lim.length c2] w (Ret (.bool (decide (LimsOk l lim))) w) := by
  refine ret_in (GFuR.rlim_calls a l.length c a2 lim.length c2 w (fun u w' => u = .bool (decide (LimsOk l lim)) ∧ Below w.heap.size w w') ?_)
  unfold GFuR.rlim_vc
  have no : ∀ {wx : World}, Bs w wx → ¬ LimsOk l lim → (Value.bool false = .bool (decide (LimsOk l lim)) ∧ Below w.heap.size w wx) := fun B q => ⟨by rw [decide_eq_false q], B⟩
  refine callB (Bs.refl w) (qpath_ret h hl) fun w3 b3 B3 => ⟨_, rfl, br_not (br_dec (fun hp => br_dec (fun hn => no B3 fun q => hn (by have := q.2.1; omega)) fun hn => ?_) fun hp => no B3 fun q => hp q.1)⟩
  have hlen : lim.length = l.length := by omega
  refine ⟨fun x wx => ∃ i : Nat, x = i ∧ i ≤ l.length ∧ (∀ y ∈ lim.take i, LimOk y) ∧ Bs w wx, fun x _ => l.length - x.toNat, ⟨0, rfl, by omega, by simp, B3⟩, ?_⟩
  rintro x wx ⟨i, rfl, hi, hno, B⟩
  refine br_dec (fun hlt => ?_) fun hge => ⟨?_, B⟩
  · have hil : i < lim.length := by omega
    obtain ⟨b1, o1, rfl, c1⟩ := (h2.below B (Nat.le_refl _)).int hil
    refine ⟨by omega, by omega, lim[i], by rw [Int.toNat_natCast, Nat.mul_one]; exact c1, br_dec (fun q => no B fun r => by have := (r.2.2 lim[i] (List.getElem_mem hil)).1; omega) fun q1 => ⟨by omega, by omega, lim[i], by rw [Int.toNat_natCast, Nat.mul_one]; exact c1, br_dec (fun q => no B fun r => by have := (r.2.2 lim[i] (List.getElem_mem hil)).2; omega) fun q2 => ?_⟩⟩
    rw [wr64 (by omega) (by omega)]
    refine ⟨⟨i + 1, by omega, by omega, ?_, B⟩, by dsimp only; omega⟩
    rw [List.take_succ_eq_append_getElem hil]
    intro y hy
    rcases List.mem_append.1 hy with hy | hy
    · exact hno y hy
    · rw [List.mem_singleton.1 hy]; exact ⟨by omega, by omega⟩
  · obtain rfl : i = l.length := by omega
    rw [← hlen, List.take_length] at hno
    rw [decide_eq_true (show LimsOk l lim from ⟨hp, hlen, hno⟩)]
theorem qroom_ret {w : World} {g : Nat} {A : FB} {a a2 : Option Addr} {c c2 : Nat} {l lim : List Int} (h : RbAt w g A) (hW : FWf A) (hr : RowAt w a (l.map iV)) (hl : l.length ≤ 1000000) (hr2 : RowAt w a2 (lim.map iV)) (hl2 : lim.length ≤ 1000000) :
    Calls Try.prog 66 #[.pointer (some ⟨g, 0, none⟩), .slice a l.length c, .slice a2 lim.length c2] w (Ret (.tuple #[.int .i64 (roomF A l lim), .int .i64 (roomE l lim)]) w) := by
  refine ret_in (GFuR.rroom_calls (some ⟨g, 0, none⟩) a l.length c a2 lim.length c2 w (fun u w' => u = .tuple #[.int .i64 (roomF A l lim), .int .i64 (roomE l lim)] ∧ Below w.heap.size w w') ?_)
  unfold GFuR.rroom_vc roomF roomE
  refine callB (Bs.refl w) (qlim_ret hr hl hr2 hl2) fun w3 b3 B3 => ⟨_, rfl, br_not (br_dec (fun hp => ?_) fun hp => ⟨by rw [if_neg hp, if_neg hp], B3⟩)⟩
  rw [if_pos hp, if_pos hp]
  have hlen : lim.length = l.length := hp.2.1
  refine ⟨fun x y wx => ∃ i : Nat, y = i ∧ i ≤ l.length ∧ x = roomN A l lim i ∧ Bs w wx, fun _ y _ => l.length - y.toNat, ⟨0, rfl, by omega, rfl, B3⟩, ?_⟩
  rintro x y wx ⟨i, rfl, hi, rfl, B⟩
  refine br_dec (fun hlt => drewB B fun w4 b4 B4 e4 => ?_) fun hge => ⟨?_, B⟩
  · have hil : i < l.length := by omega
    have hno := hp.1.2.1 l[i] (List.getElem_mem hil)
    have hno' := hno
    unfold NodeOk at hno'
    obtain ⟨b1, o1, rfl, c1⟩ := (hr.below B4 (Nat.le_refl _)).int hil
    obtain ⟨⟨k1, k2, k3, k4, k5⟩, k6, k7⟩ := (hW l[i]).1.all
    have hlim := hp.2.2 lim[i] (List.getElem_mem _)
    unfold LimOk at hlim
    rw [wr64 (z := (i : Int) + 1) (by omega) (by omega)]
    refine ⟨by omega, by omega, l[i], by rw [Int.toNat_natCast, Nat.mul_one]; exact c1, by omega, by omega, _, _, _, _, _, rb_cells (h.below B4) ⟨by omega, by omega⟩, newB B4 fun g5 w5 g50 sg5 n5 z5 b5 B5 => ⟨?_, rb_cells (h.below B5) ⟨by omega, by omega⟩, boxB B5 g50 fun w6 h6 B6 z6 => callB B6 (qleft_ret (hW l[i]).1.1 w6) fun w7 b7 B7 => ⟨_, rfl, ?_⟩⟩⟩
    · rw [Int.toNat_natCast, Nat.mul_one]
      exact (b5.cell (block_lt_of_cell c1)).trans c1
    obtain ⟨b2, o2, rfl, c2⟩ := (hr2.below B7 (Nat.le_refl _)).int (k := i) (by omega)
    have hst : roomN A l lim (i + 1) = min (min (roomN A l lim i) (A l[i]).left) (spendF (A l[i]) lim[i]) := by rw [roomN, getD_of hil, getD_of (l := lim) (by omega)]
    refine ⟨by omega, by omega, lim[i], by rw [Int.toNat_natCast, Nat.mul_one]; exact c2, br_dec (fun q => drewB B7 fun w8 b8 B8 e8 => ⟨by omega, by omega, lim[i], ?_, ⟨i + 1, by omega, by omega, ?_, B8⟩, by dsimp only; omega⟩) fun q => ⟨⟨i + 1, by omega, by omega, ?_, B7⟩, by dsimp only; omega⟩⟩
    · rw [Int.toNat_natCast, Nat.mul_one]
      exact (b8.cell (block_lt_of_cell c2)).trans c2
    · rw [hst, wr64 (z := lim[i] - (A l[i]).u) (by omega) (by omega), wr64 (z := lim[i] - (A l[i]).u - (A l[i]).h) (by omega) (by omega)]; unfold spendF; rw [if_neg (by omega)]
    · rw [hst]
      have := roomN_le A l lim i
      unfold spendF
      rw [if_pos (by omega)]
      omega
  · obtain rfl : i = l.length := by omega
    rfl
end Go.Proofs.Ytjcabccolkmlmaa
end
section
/- The document's book: what changes it; walked. -/
namespace Go.Proofs.Ytjcabccolkmlmaa
open Go.RowKit
def QDoV (w : World) (g : Nat) (u : Value) (A' : FB) : Value → World → Prop := fun v w' => v = u ∧ RbAt w' g A' ∧ Fr [g] w w'
def QDo (w : World) (g : Nat) (u : Value) (A' : FB) : Ending → World → Prop := fun e w' => e = .returned u ∧ RbAt w' g A' ∧ Fr [g] w w'
theorem qdo_in {P : Program} {f : FuncId} {av : Array Value} {w : World} {g : Nat} {u : Value} {A' : FB} (h : Calls P f av w fun e w' => ∃ v, e = .returned v ∧ QDoV w g u A' v w') : Calls P f av w (QDo w g u A') :=
  h.mono (by rintro e w' ⟨v, rfl, rfl, hh⟩; exact ⟨rfl, hh⟩)
theorem qdo_no {w wx : World} {g : Nat} {A A' : FB} {u v : Value} (h : RbAt w g A) (B : Bs w wx) (hv : v = u) (hd : A' = A) : QDoV w g u A' v wx := by
  subst hv; subst hd
  exact ⟨rfl, h.below B, Fr.ofBelow B⟩
theorem qtop_any {w : World} {g : Nat} {A : FB} (h : RbAt w g A) (hW : FWf A) (n more : Int) :
    Calls Try.prog 70 #[.pointer (some ⟨g, 0, none⟩), .int .i64 n, .int .i64 more] w (QDo w g (.int .i64 (topE A n more)) (topD A n more)) := by
  refine qdo_in (GFuR.rtop_calls (some ⟨g, 0, none⟩) n more w (QDoV w g (.int .i64 (topE A n more)) (topD A n more)) ?_)
  unfold GFuR.rtop_vc
  have fail : ∀ z, topE A n more = z → z ≠ 0 → ∀ {wx : World}, Bs w wx → QDoV w g (.int .i64 (topE A n more)) (topD A n more) (.int .i64 z) wx := fun z he hz wx B => qdo_no h B (by rw [he]) (by unfold topD; rw [if_neg (by rw [he]; exact hz)])
  refine callB (Bs.refl w) (qnode_ret n w) fun w3 b3 B3 => ⟨_, rfl, br_not (br_dec (fun hn => ?_) fun hn => fail 1 (by unfold topE; rw [if_pos (.inl hn)]) (by decide) B3)⟩
  refine br_dec (fun q => fail 1 (by unfold topE; rw [if_pos (.inr fun r => by have := r.1; omega)]) (by decide) B3) fun q1 => br_dec (fun q => fail 1 (by unfold topE; rw [if_pos (.inr fun r => by have := r.2; omega)]) (by decide) B3) fun q2 => ?_
  have ha : AmtOk more := ⟨by omega, by omega⟩
  obtain ⟨⟨k1, k2, k3, k4, k5⟩, k6, k7⟩ := (hW n).1.all
  have hne : ¬ (¬ NodeOk n ∨ ¬ AmtOk more) := fun q => q.elim (fun q => q hn) fun q => q ha
  have hn' := hn
  unfold NodeOk at hn'
  refine drewB B3 fun w4 b4 B4 e4 => ⟨by omega, by omega, (A n).t, rb_cell (h.below B4) hn 0 rfl, by omega, by omega, (A n).c, rb_cell (h.below B4) hn 1 rfl, ?_⟩
  rw [wr64 (z := (A n).t + (A n).c) (by omega) (by omega), wr64 (z := (A n).t + (A n).c + more) (by omega) (by omega)]
  refine br_dec (fun hq => fail 6 (by unfold topE; rw [if_neg hne, if_pos (by omega)]) (by decide) B4) fun hq => drewB B4 fun w5 b5 B5 e5 => ⟨by omega, by omega, (A n).t, rb_cell (h.below B5) hn 0 rfl, by omega, by omega, ?_⟩
  have he : topE A n more = 0 := by unfold topE; rw [if_neg hne, if_neg (by omega)]
  rw [wr64 (by omega) (by omega)]
  refine rb_set (h.below B5) hn 0 (by decide) ⟨(A n).t + more, (A n).c, (A n).e, (A n).u, (A n).h⟩ rfl (by simp) fun w6 t6 f6 z6 => ⟨by rw [he], ?_, (Fr.ofBelow B5).trans f6 (Gr.refl _ _)⟩
  unfold topD
  rw [if_pos he]
  exact t6
theorem addA_zero (a : Ac) (n : Int) : addA a 0 n = ⟨a.t, a.c, a.e, a.u, a.h + n⟩ := by unfold addA; rw [Int.add_zero]
theorem qhold_any {w : World} {g : Nat} {A : FB} {a a2 : Option Addr} {c c2 : Nat} {l lim : List Int} (h : RbAt w g A) (hW : FWf A) (hr : RowAt w a (l.map iV)) (hl : l.length ≤ 1000000) (hr2 : RowAt w a2 (lim.map iV)) (hl2 : lim.length ≤ 1000000) (ha : ∀ q, a = some q → q.block ≠ g) (n : Int) :
    Calls Try.prog 71 #[.pointer (some ⟨g, 0, none⟩), .slice a l.length c, .slice a2 lim.length c2, .int .i64 n] w (QDo w g (.int .i64 (holdE A l lim n)) (holdD A l lim n)) := by
  refine qdo_in (GFuR.rhold_calls (some ⟨g, 0, none⟩) a l.length c a2 lim.length c2 n w (QDoV w g (.int .i64 (holdE A l lim n)) (holdD A l lim n)) ?_)
  unfold GFuR.rhold_vc
  have fail : ∀ z, holdE A l lim n = z → z ≠ 0 → ∀ {wx : World}, Bs w wx → QDoV w g (.int .i64 (holdE A l lim n)) (holdD A l lim n) (.int .i64 z) wx := fun z he hz wx B => qdo_no h B (by rw [he]) (by unfold holdD; rw [if_neg (by rw [he]; exact hz)])
  refine callB (Bs.refl w) (qlim_ret hr hl hr2 hl2) fun w3 b3 B3 => ⟨_, rfl, br_not (br_dec (fun hp => ?_) fun hp => fail 1 (by unfold holdE; rw [if_pos (.inl hp)]) (by decide) B3)⟩
  refine br_dec (fun q => fail 1 (by unfold holdE; rw [if_pos (.inr fun r => by have := r.1; omega)]) (by decide) B3) fun q1 => br_dec (fun q => fail 1 (by unfold holdE; rw [if_pos (.inr fun r => by have := r.2; omega)]) (by decide) B3) fun q2 => ?_
  have hm : AmtOk n := ⟨by omega, by omega⟩
  have hE : holdE A l lim n = holdN A l lim n l.length := by unfold holdE; rw [if_neg fun q => q.elim (fun q => q hp) fun q => q hm]
  have hlen : lim.length = l.length := hp.2.1
  refine ⟨fun x wx => ∃ i : Nat, x = i ∧ i ≤ l.length ∧ holdN A l lim n i = 0 ∧ Bs w wx, fun x _ => l.length - x.toNat, ⟨0, rfl, by omega, rfl, B3⟩, ?_⟩
  rintro x wx ⟨i, rfl, hi, h0, B⟩
  refine br_dec (fun hlt => drewB B fun w4 b4 B4 e4 => ?_) fun hge => ?_
  · have hil : i < l.length := by omega
    have hno := hp.1.2.1 l[i] (List.getElem_mem hil)
    unfold NodeOk at hno
    obtain ⟨b1, o1, rfl, c1⟩ := (hr.below B4 (Nat.le_refl _)).int hil
    obtain ⟨⟨k1, k2, k3, k4, k5⟩, k6, k7⟩ := (hW l[i]).1.all
    have hlim := hp.2.2 lim[i] (List.getElem_mem _)
    unfold LimOk at hlim
    have hstep : holdN A l lim n (i + 1) = if (A l[i]).left < n then 9 else if lim[i] ≠ -1 ∧ (A l[i]).u + (A l[i]).h + n > lim[i] then 18 else 0 := by
      rw [holdN, if_neg fun q => q h0, getD_of hil, getD_of (l := lim) (by omega)]
    have hst : ∀ z, holdN A l lim n (i + 1) = z → z ≠ 0 → holdE A l lim n = z := fun z he hz => by rw [hE, holdN_stay (i := i + 1) (by omega) (by rw [he]; exact hz), he]
    rw [wr64 (z := (i : Int) + 1) (by omega) (by omega)]
    refine ⟨by omega, by omega, l[i], by rw [Int.toNat_natCast, Nat.mul_one]; exact c1, by omega, by omega, _, _, _, _, _, rb_cells (h.below B4) ⟨by omega, by omega⟩, newB B4 fun g5 w5 g50 sg5 n5 z5 b5 B5 => ⟨?_, rb_cells (h.below B5) ⟨by omega, by omega⟩, boxB B5 g50 fun w6 h6 B6 z6 => callB B6 (qleft_ret (hW l[i]).1.1 w6) fun w7 b7 B7 => ⟨_, rfl, br_dec (fun q => fail 9 (hst 9 (by rw [hstep, if_pos q]) (by decide)) (by decide) B7) fun r1 => drewB B7 fun w8 b8 B8 e8 => ?_⟩⟩⟩
    · rw [Int.toNat_natCast, Nat.mul_one]
      exact (b5.cell (block_lt_of_cell c1)).trans c1
    obtain ⟨b2, o2, rfl, c2⟩ := (hr2.below B8 (Nat.le_refl _)).int (k := i) (by omega)
    rw [wr64 (z := (A l[i]).u + (A l[i]).h) (by omega) (by omega), wr64 (z := (A l[i]).u + (A l[i]).h + n) (by omega) (by omega)]
    have hI : holdN A l lim n (i + 1) = 0 → (∃ j : Nat, (i : Int) + 1 = j ∧ j ≤ l.length ∧ holdN A l lim n j = 0 ∧ Bs w w8) ∧ l.length - ((i : Int) + 1).toNat < l.length - (i : Int).toNat := fun q => ⟨⟨i + 1, by omega, by omega, q, B8⟩, by omega⟩
    refine ⟨by omega, by omega, lim[i], by rw [Int.toNat_natCast, Nat.mul_one]; exact c2, br_dec (fun r2 => ⟨by omega, by omega, lim[i], by rw [Int.toNat_natCast, Nat.mul_one]; exact c2, br_dec (fun r3 => fail 18 (hst 18 (by rw [hstep, if_neg r1, if_pos ⟨by omega, r3⟩]) (by decide)) (by decide) B8) fun r3 => hI (by rw [hstep, if_neg r1, if_neg fun q => r3 q.2])⟩) fun r2 => hI (by rw [hstep, if_neg r1, if_neg fun q => q.1 (by omega)])⟩
  · obtain rfl : i = l.length := by omega
    have he : holdE A l lim n = 0 := by rw [hE]; exact h0
    have hf0 : Fr [g] w wx := Fr.ofBelow B
    refine ⟨fun x wy => ∃ i : Nat, x = i ∧ i ≤ l.length ∧ RbAt wy g (mvF A (l.take i) 0 n) ∧ Fr [g] w wy, fun x _ => l.length - x.toNat, ⟨0, rfl, by omega, by rw [List.take_zero, mvF_nil]; exact h.below B, hf0⟩, ?_⟩
    rintro x wy ⟨i, rfl, hi, hb, f⟩
    refine br_dec (fun hlt => drewB (Bs.refl wy) fun w4 b4 B4 e4 => ?_) fun hge => ⟨by rw [he], ?_, f⟩
    · have hil : i < l.length := by omega
      have hno := hp.1.2.1 l[i] (List.getElem_mem hil)
      have hno' := hno
      unfold NodeOk at hno'
      obtain ⟨b1, o1, rfl, c1⟩ := ((hr.fr1 f ha).below b4 (Nat.le_refl _)).int hil
      obtain ⟨⟨k1, k2, k3, k4, k5⟩, k6, k7⟩ := (hW l[i]).1.all
      have hat : mvF A (l.take i) 0 n l[i] = A l[i] := mvF_at hp.1.2.2 hil 0 n
      rw [wr64 (z := (i : Int) + 1) (by omega) (by omega)]
      refine ⟨by omega, by omega, l[i], by rw [Int.toNat_natCast, Nat.mul_one]; exact c1, by omega, by omega, l[i], by rw [Int.toNat_natCast, Nat.mul_one]; exact c1, by omega, by omega, (A l[i]).h, rb_cell (hb.below b4) hno 4 (by rw [hat]; rfl), by omega, by omega, ?_⟩
      rw [wr64 (by omega) (by omega)]
      refine rb_set (hb.below b4) hno 4 (by decide) (addA (A l[i]) 0 n) (by rw [hat, addA_zero]; rfl) (by simp) fun w6 t6 f6 z6 => ⟨⟨i + 1, by omega, by omega, ?_, (f.trans (Fr.ofBelow b4) (Gr.refl _ _)).trans f6 (Gr.refl _ _)⟩, by dsimp only; omega⟩
      rw [← mvF_step hp.1.2.2 hil]
      exact t6
    · obtain rfl : i = l.length := by omega
      rw [List.take_length] at hb
      unfold holdD
      rw [if_pos he]
      exact hb
theorem qmove_k1_ok {wx w8 : World} {g g3 b1 o1 i : Nat} {A' : FB} {l : List Int} {I : Int → World → Prop} {μ : Int → World → Nat} (hil : i < l.length) (hl : l.length ≤ 1000000) (hk : NodeOk l[i]) (h : RbAt wx g A') (hr : RowAt wx (some ⟨b1, o1, none⟩) (l.map iV)) (hg : g3 ≠ g) (d : Ac)
    (hn : ∀ wz, RbAt wz g (upF A' l[i] d) → Fr [g] wx wz → I ((i : Int) + 1) wz ∧ μ ((i : Int) + 1) wz < μ i w8) :
    GFuR.rmove_k1 I μ (some ⟨g, 0, none⟩) (some ⟨b1, o1, none⟩) l.length i w8 g3 d.t d.c d.e d.u d.h wx := by
  unfold GFuR.rmove_k1
  have hk' := hk
  unfold NodeOk at hk'
  refine drewB (Bs.refl wx) fun w4 b4 B4 e4 => ?_
  obtain ⟨b2, o2, e2, c2⟩ := (hr.below b4 (Nat.le_refl _)).int hil
  cases e2
  rw [wr64 (z := (i : Int) + 1) (by omega) (by omega)]
  exact ⟨by omega, by omega, l[i], by rw [Int.toNat_natCast, Nat.mul_one]; exact c2, by omega, by omega, rb_setA (h.below b4) hk d (by simp [hg]) fun w5 t5 f5 z5 => hn w5 t5 ((Fr.ofBelow b4).trans f5 (Gr.refl _ _))⟩
theorem qmove_any {w : World} {g : Nat} {A : FB} {a : Option Addr} {c : Nat} {l : List Int} (h : RbAt w g A) (hW : FWf A) (hr : RowAt w a (l.map iV)) (hl : l.length ≤ 1000000) (ha : ∀ q, a = some q → q.block ≠ g) (what n : Int) (hw : what = 0 ∨ what = 1 ∨ what = 2) :
    Calls Try.prog 72 #[.pointer (some ⟨g, 0, none⟩), .int .i64 what, .slice a l.length c, .int .i64 n] w (QDo w g (.int .i64 (awayE A what l n)) (awayD A what l n)) := by
  refine qdo_in (GFuR.rmove_calls (some ⟨g, 0, none⟩) what a l.length c n w (QDoV w g (.int .i64 (awayE A what l n)) (awayD A what l n)) ?_)
  unfold GFuR.rmove_vc
  have fail : ∀ z, awayE A what l n = z → z ≠ 0 → ∀ {wx : World}, Bs w wx → QDoV w g (.int .i64 (awayE A what l n)) (awayD A what l n) (.int .i64 z) wx := fun z he hz wx B => qdo_no h B (by rw [he]) (by unfold awayD; rw [if_neg (by rw [he]; exact hz)])
  refine callB (Bs.refl w) (qpath_ret hr hl) fun w3 b3 B3 => ⟨_, rfl, br_not (br_dec (fun hp => ?_) fun hp => fail 1 (by unfold awayE; rw [if_pos (.inl hp)]) (by decide) B3)⟩
  refine br_dec (fun q => fail 1 (by unfold awayE; rw [if_pos (.inr fun r => by have := r.1; omega)]) (by decide) B3) fun q1 => br_dec (fun q => fail 1 (by unfold awayE; rw [if_pos (.inr fun r => by have := r.2; omega)]) (by decide) B3) fun q2 => ?_
  have hm : AmtOk n := ⟨by omega, by omega⟩
  have hne : ¬ (¬ PathOk l ∨ ¬ AmtOk n) := fun q => q.elim (fun q => q hp) fun q => q hm
  refine ⟨fun x wx => ∃ i : Nat, x = i ∧ i ≤ l.length ∧ (∀ y ∈ l.take i, n ≤ selF what (A y)) ∧ Bs w wx, fun x _ => l.length - x.toNat, ⟨0, rfl, by omega, by simp, B3⟩, ?_⟩
  rintro x wx ⟨i, rfl, hi, h0, B⟩
  refine br_dec (fun hlt => drewB B fun w4 b4 B4 e4 => ?_) fun hge => ?_
  · have hil : i < l.length := by omega
    have hno := hp.2.1 l[i] (List.getElem_mem hil)
    unfold NodeOk at hno
    obtain ⟨b1, o1, rfl, c1⟩ := (hr.below B4 (Nat.le_refl _)).int hil
    rw [wr64 (z := (i : Int) + 1) (by omega) (by omega)]
    refine ⟨by omega, by omega, l[i], by rw [Int.toNat_natCast, Nat.mul_one]; exact c1, by omega, by omega, _, _, _, _, _, rb_cells (h.below B4) ⟨by omega, by omega⟩, newB B4 fun g5 w5 g50 sg5 n5 z5 b5 B5 => ⟨?_, rb_cells (h.below B5) ⟨by omega, by omega⟩, boxB B5 g50 fun w6 h6 B6 z6 => ?_⟩⟩
    · rw [Int.toNat_natCast, Nat.mul_one]
      exact (b5.cell (block_lt_of_cell c1)).trans c1
    have w1 : what < 2 → ¬ what = 2 := fun r => by omega
    have w2 : ¬ what < 2 → what = 2 := fun r => by omega
    have hI : n ≤ selF what (A l[i]) → (∃ j : Nat, (i : Int) + 1 = j ∧ j ≤ l.length ∧ (∀ y ∈ l.take j, n ≤ selF what (A y)) ∧ Bs w w6) ∧ l.length - ((i : Int) + 1).toNat < l.length - (i : Int).toNat := fun q => ⟨⟨i + 1, by omega, by omega, fun y hy => by
      rw [List.take_succ_eq_append_getElem hil] at hy
      rcases List.mem_append.1 hy with hy | hy
      · exact h0 y hy
      · rw [List.mem_singleton.1 hy]; exact q, B6⟩, by omega⟩
    have hF : selF what (A l[i]) < n → QDoV w g (.int .i64 (awayE A what l n)) (awayD A what l n) (.int .i64 20) w6 := fun q => fail 20 (by unfold awayE; rw [if_neg hne, if_pos ⟨l[i], List.getElem_mem hil, q⟩]) (by decide) B6
    refine br_dec (fun r2 => br_dec (fun q => hF (by unfold selF; rw [if_neg (w1 r2)]; exact q)) fun q => br_n (w1 r2) (hI (by unfold selF; rw [if_neg (w1 r2)]; exact Int.not_lt.1 q))) fun r2 => br_y (w2 r2) (br_dec (fun q => hF (by unfold selF; rw [if_pos (w2 r2)]; exact q)) fun q => hI (by unfold selF; rw [if_pos (w2 r2)]; exact Int.not_lt.1 q))
  · obtain rfl : i = l.length := by omega
    rw [List.take_length] at h0
    have he : awayE A what l n = 0 := awayE_is hp hm h0
    have hf0 : Fr [g] w wx := Fr.ofBelow B
    refine ⟨fun x wy => ∃ i : Nat, x = i ∧ i ≤ l.length ∧ RbAt wy g (mvF A (l.take i) (duF what n) (dhF what n)) ∧ Fr [g] w wy, fun x _ => l.length - x.toNat, ⟨0, rfl, by omega, by rw [List.take_zero, mvF_nil]; exact h.below B, hf0⟩, ?_⟩
    rintro x wy ⟨i, rfl, hi, hb, f⟩
    refine br_dec (fun hlt => drewB (Bs.refl wy) fun w4 b4 B4 e4 => ?_) fun hge => ⟨by rw [he], ?_, f⟩
    · have hil : i < l.length := by omega
      have hno := hp.2.1 l[i] (List.getElem_mem hil)
      have hno' := hno
      unfold NodeOk at hno'
      have hr4 := (hr.fr1 f ha).below b4 (Nat.le_refl _)
      obtain ⟨b1, o1, rfl, c1⟩ := hr4.int hil
      obtain ⟨⟨k1, k2, k3, k4, k5⟩, k6, k7⟩ := (hW l[i]).1.all
      have hsel := h0 l[i] (List.getElem_mem hil)
      unfold selF at hsel
      have hcl := rb_cells (k := l[i]) (hb.below b4) ⟨by omega, by omega⟩
      rw [mvF_at hp.2.2 hil] at hcl
      have hlt4 : g < w4.heap.size := (hb.below b4).lt
      refine ⟨by omega, by omega, l[i], by rw [Int.toNat_natCast, Nat.mul_one]; exact c1, by omega, by omega, _, _, _, _, _, hcl, newB B4 fun g5 w5 g50 sg5 n5 z5 b5 B5 => ⟨?_, cellsAt_below hcl b5 (Nat.le_refl _), boxB B5 g50 fun w6 h6 B6 z6 => ?_⟩⟩
      · rw [Int.toNat_natCast, Nat.mul_one]
        exact (b5.cell (block_lt_of_cell c1)).trans c1
      have hg5 : g5 ≠ g := by omega
      have fin : ∀ (d : Ac), d = addA (A l[i]) (duF what n) (dhF what n) → ∀ {wz : World}, Bs wy wz → ∀ {w8 : World}, GFuR.rmove_k1 (fun x wy => ∃ i : Nat, x = i ∧ i ≤ l.length ∧ RbAt wy g (mvF A (l.take i) (duF what n) (dhF what n)) ∧ Fr [g] w wy) (fun x _ => l.length - x.toNat) (some ⟨g, 0, none⟩) (some ⟨b1, o1, none⟩) l.length i w8 g5 d.t d.c d.e d.u d.h wz := fun d hd wz Bz w8 =>
        qmove_k1_ok hil hl hno (hb.below Bz) ((hr.fr1 f ha).below Bz (Nat.le_refl _)) hg5 d fun w9 t9 f9 => ⟨⟨i + 1, by omega, by omega, by rw [hd, mvF_step hp.2.2 hil] at t9; exact t9, (f.trans (Fr.ofBelow Bz) (Gr.refl _ _)).trans f9 (Gr.refl _ _)⟩, by omega⟩
      rcases hw with rfl | rfl | rfl
      · rw [if_neg (by decide)] at hsel
        refine br_y (by decide) (boxB B6 g50 fun w7 h7 B7 z7 => ?_)
        unfold GFuR.rmove_k3
        refine br_n (by decide) ?_
        unfold GFuR.rmove_k2
        refine br_n (by decide) ?_
        rw [wr64 (by omega) (by omega)]
        exact fin ⟨(A l[i]).t, (A l[i]).c, (A l[i]).e, (A l[i]).u, (A l[i]).h - n⟩ (by unfold addA duF dhF; simp; omega) B7
      · rw [if_neg (by decide)] at hsel
        refine br_y (by decide) (boxB B6 g50 fun w7 h7 B7 z7 => ?_)
        unfold GFuR.rmove_k3
        refine br_y (by decide) (boxB B7 g50 fun w8 h8 B8 z8 => ?_)
        unfold GFuR.rmove_k2
        refine br_n (by decide) ?_
        rw [wr64 (z := (A l[i]).h - n) (by omega) (by omega), wr64 (z := (A l[i]).u + n) (by omega) (by omega)]
        exact fin ⟨(A l[i]).t, (A l[i]).c, (A l[i]).e, (A l[i]).u + n, (A l[i]).h - n⟩ (by unfold addA duF dhF; simp; omega) B8
      · rw [if_pos rfl] at hsel
        refine br_n (by decide) ?_
        unfold GFuR.rmove_k3
        refine br_n (by decide) ?_
        unfold GFuR.rmove_k2
        refine br_y (by decide) (boxB B6 g50 fun w7 h7 B7 z7 => ?_)
        rw [wr64 (z := (A l[i]).u - n) (by omega) (by omega)]
        exact fin ⟨(A l[i]).t, (A l[i]).c, (A l[i]).e, (A l[i]).u - n, (A l[i]).h⟩ (by unfold addA duF dhF; simp; omega) B7
    · obtain rfl : i = l.length := by omega
      rw [List.take_length] at hb
      unfold awayD
      rw [if_pos he]
      exact hb
theorem qroll_any {w : World} {g : Nat} {A : FB} (h : RbAt w g A) (hW : FWf A) (n : Int) (carry : Bool) :
    Calls Try.prog 73 #[.pointer (some ⟨g, 0, none⟩), .int .i64 n, .bool carry] w (QDo w g (.tuple #[.int .i64 (goneF A n carry), .int .i64 (rollE n)]) (rollD A n carry)) := by
  refine qdo_in (GFuR.rroll_calls (some ⟨g, 0, none⟩) n carry w (QDoV w g (.tuple #[.int .i64 (goneF A n carry), .int .i64 (rollE n)]) (rollD A n carry)) ?_)
  unfold GFuR.rroll_vc goneF rollE rollD
  obtain ⟨⟨k1, k2, k3, k4, k5⟩, k6, k7⟩ := (hW n).1.all
  refine callB (Bs.refl w) (qnode_ret n w) fun w3 b3 B3 => ⟨_, rfl, br_not (br_dec (fun hn => ?_) fun hn => qdo_no h B3 (by rw [if_neg hn, if_neg hn]) (by rw [if_neg hn]))⟩
  rw [if_pos hn, if_pos hn, if_pos hn]
  have hn' := hn
  unfold NodeOk at hn'
  refine ⟨by omega, by omega, _, _, _, _, _, rb_cells (h.below B3) ⟨by omega, by omega⟩, newB B3 fun g1 w4 g10 sg1 n4 z4 b4 B4 => boxB B4 g10 fun w5 h5 B5 z5 => ?_⟩
  have hg1 : g1 ≠ g := by have := h.lt; omega
  have fin : ∀ {wx : World}, Bs w wx → ∀ z, z = (if carry = true then 0 else (A n).left) → GFuR.rroll_k1 (QDoV w g (.tuple #[.int .i64 (if carry = true then 0 else (A n).left), .int .i64 0]) (upF A n (rollA (A n) carry))) (some ⟨g, 0, none⟩) n (A n).t (A n).c (A n).e (A n).u (A n).h g1 z wx := fun {wx} B z hz => by
    unfold GFuR.rroll_k1
    have hzr : 0 ≤ z ∧ z ≤ (A n).left := by
      have := (hW n).1.2.2
      rw [hz]; split <;> omega
    have hle : (A n).left ≤ 9007199254740992 := by unfold Ac.left; omega
    have hge := (hW n).1.2.2
    have hv : (A n).left = (A n).t + (A n).c - (A n).e - (A n).u - (A n).h := rfl
    rw [wr64 (z := (A n).t + (A n).c) (by omega) (by omega), wr64 (z := (A n).t + (A n).c - (A n).e) (by omega) (by omega), wr64 (z := (A n).t + (A n).c - (A n).e - z) (by omega) (by omega), wr64 (z := (A n).t + (A n).c - (A n).e - z - (A n).u) (by omega) (by omega)]
    have hra : rollA (A n) carry = ⟨0, (A n).t + (A n).c - (A n).e - z - (A n).u, 0, 0, (A n).h⟩ := by
      unfold rollA
      rw [← hz, hv]
      congr 1
      omega
    rw [hra, ← hz]
    exact drewB B fun w6 b6 B6 e6 => ⟨by omega, by omega, rb_setA (h.below B6) hn ⟨0, (A n).t + (A n).c - (A n).e - z - (A n).u, 0, 0, (A n).h⟩ (by simp [hg1]) fun w7 t7 f7 z7 => ⟨rfl, t7, (Fr.ofBelow B6).trans f7 (Gr.refl _ _)⟩⟩
  cases carry
  · exact br_t rfl (callB B5 (qleft_ret (hW n).1.1 w5) fun w6 b6 B6 => ⟨_, rfl, fin B6 _ rfl⟩)
  · exact br_f rfl (fin B5 _ rfl)
end Go.Proofs.Ytjcabccolkmlmaa
end
section
/- The laws of layer 14: their helpers; walked. -/
namespace Go.Proofs.Ytjcabccolkmlmaa
open Go.RowKit
/-- 'append([]int{}, x...)': its append alone. -/
theorem appE {gs : List Nat} {w : World} {g b : Nat} (hg : w.heap[g]? = some (.cells #[] 3 (0, 0))) (hgb : b ≤ g) (hbw : b ≤ w.heap.size) (hgs : ∀ x ∈ gs, x ≠ g) {a : Option Addr} {c : Nat} {xs : List Int} (ha : RowAt w a (xs.map iV)) (hl : xs.length ≤ 1000000) {K : Nat → Option Addr → Nat → World → Prop}
    (hk : ∀ a' c' w', Own w' b 3 1 (.slice a' (0 + xs.length) c') (0 + xs.length) (xs.map iV) → w.grownBy w' (some g) → ((Value.slice a' (0 + xs.length) c').ownBlock = some g ∨ ∃ k, (Value.slice a' (0 + xs.length) c').ownBlock = some k ∧ w.heap.size ≤ k) → K xs.length a' c' w') :
    appO Try.prog gs w 3 1 8 23 (some ⟨g, 0, none⟩) 0 0 (.slice a xs.length c) K := by
  have hs := Src.ofRow (P := Try.prog) (w := w) Try.underlying23 a c (xs.map iV) ha (fun u hu => by obtain ⟨x, _, rfl⟩ := List.mem_map.1 hu; rfl)
  rw [List.length_map] at hs
  refine ⟨xs.length, [], xs.map iV, own_empty 1 hg, hs, by unfold maxLen; omega, by omega, fun x hx e => by injection e with e; exact hgs x hx e.symm, fun a' c' w1 h1 h2 h3 _ => hk a' c' w1 (h1.base_le fun k hk => ?_) h2 h3⟩
  rcases h3 with h | ⟨j, h, hj⟩
  · rw [hk] at h; injection h with h; exact h ▸ hgb
  · rw [hk] at h; injection h with h; omega
structure FAct where
  what : Int
  node : Int
  pa : Option Addr
  pc : Nat
  path : List Int
  la : Option Addr
  lc : Nat
  lims : List Int
  amt : Int
  carry : Bool
  acc : Ac
def factC (x : FAct) : List Value := [.int .i64 x.what, .int .i64 x.node, .slice x.pa x.path.length x.pc, .slice x.la x.lims.length x.lc, .int .i64 x.amt, .bool x.carry, .int .i64 x.acc.t, .int .i64 x.acc.c, .int .i64 x.acc.e, .int .i64 x.acc.u, .int .i64 x.acc.h]
def factV (x : FAct) : Value := .agg #[.int .i64 x.what, .int .i64 x.node, .slice x.pa x.path.length x.pc, .slice x.la x.lims.length x.lc, .int .i64 x.amt, .bool x.carry, .int .i64 x.acc.t, .int .i64 x.acc.c, .int .i64 x.acc.e, .int .i64 x.acc.u, .int .i64 x.acc.h]
structure FActOk (w : World) (x : FAct) : Prop where
  p : RowAt w x.pa (x.path.map iV)
  pc : x.path.length ≤ x.pc
  l : RowAt w x.la (x.lims.map iV)
  lc : x.lims.length ≤ x.lc
theorem FActOk.below {w w1 : World} {x : FAct} (h : FActOk w x) (b : Below w.heap.size w w1) : FActOk w1 x := ⟨h.p.below b (Nat.le_refl _), h.pc, h.l.below b (Nat.le_refl _), h.lc⟩
def FAct.p (x : FAct) : List Int := x.path.take 5
def FAct.l (x : FAct) : List Int := x.lims.take 5
theorem FAct.plen (x : FAct) : x.p.length ≤ 5 := by unfold FAct.p; rw [List.length_take]; omega
theorem FAct.llen (x : FAct) : x.l.length ≤ 5 := by unfold FAct.l; rw [List.length_take]; omega
/-- A row of one's own. -/
def Mine (w : World) (b : Nat) (a : Option Addr) (c : Nat) (l : List Int) : Prop := Own w b 3 1 (.slice a l.length c) l.length (l.map iV)
section
variable {w w1 : World} {b c g : Nat} {a : Option Addr} {l : List Int}
theorem Mine.row (h : Mine w b a c l) : RowAt w a (l.map iV) := Own.row h
theorem Mine.cap (h : Mine w b a c l) : l.length ≤ c := (Own.cap h).1
theorem Mine.ne (h : Mine w b a c l) (hg : g < b) : ∀ q, a = some q → q.block ≠ g := fun q hq e => by
  subst hq
  have := (Own.lt h q.block rfl).1
  omega
theorem Mine.keep (h : Mine w b a c l) {L : List Nat} (f : Fr L w w1) (hL : ∀ k ∈ L, k < b) : Mine w1 b a c l := Own.keep h fun k hk => by
  have := Own.lt h k hk
  exact f.block k this.2 fun q => by have := hL k q; omega
theorem Mine.below (h : Mine w b a c l) (f : Below w.heap.size w w1) : Mine w1 b a c l := Own.below h f (Nat.le_refl _)
end
theorem llists_new {w : World} {x : FAct} (hx : FActOk w x) : Calls Try.prog 17 #[factV x] w fun e w' => ∃ a c a2 c2, e = .returned (.tuple #[.slice a x.p.length c, .slice a2 x.l.length c2]) ∧ Mine w' w.heap.size a c x.p ∧ Mine w' w.heap.size a2 c2 x.l ∧ Below w.heap.size w w' := by
  refine (GFuR.llists_calls x.what x.node x.pa x.path.length x.pc x.la x.lims.length x.lc x.amt x.carry x.acc.t x.acc.c x.acc.e x.acc.u x.acc.h w (fun u w' => ∃ a c a2 c2, u = .tuple #[.slice a x.p.length c, .slice a2 x.l.length c2] ∧ Mine w' w.heap.size a c x.p ∧ Mine w' w.heap.size a2 c2 x.l ∧ Below w.heap.size w w') ?_).mono (by rintro e w' ⟨v, rfl, a, c, a2, c2, rfl, h⟩; exact ⟨a, c, a2, c2, rfl, h⟩)
  unfold GFuR.llists_vc
  have e1 : (min ((x.path.length : Nat) : Int) 5).toNat = x.p.length := by unfold FAct.p; rw [List.length_take]; omega
  have e2 : (min ((x.lims.length : Nat) : Int) 5).toNat = x.l.length := by unfold FAct.l; rw [List.length_take]; omega
  have lp := x.plen
  have ll := x.llen
  have hpc := hx.pc
  have hlc := hx.lc
  refine newB (Bs.refl w) fun g w2 g0 sg n2 z2 b2 B2 => drewB B2 fun w3 b3 B3 h3 => ⟨by omega, by omega, by omega, by omega, ?_⟩
  rw [e1, e2]
  have rp : ∀ {wx : World}, Bs w wx → RowAt wx x.pa (x.p.map iV) := fun B => by have := (hx.p.below B (Nat.le_refl _)).take 5; rw [← List.map_take] at this; exact this
  have rl : ∀ {wx : World}, Bs w wx → RowAt wx x.la (x.l.map iV) := fun B => by have := (hx.l.below B (Nat.le_refl _)).take 5; rw [← List.map_take] at this; exact this
  have z3 : w3.heap.size = w2.heap.size := by rw [h3]
  -- what the second append leaves of the first's row, and the end
  have fin : ∀ {wa wb : World} {g2 : Nat} {a a2 : Option Addr} {c c2 : Nat}, Bs w wa → w.heap.size ≤ g2 → (∀ k, (Value.slice a (0 + x.p.length) c).ownBlock = some k → k ≠ g2) → Own wa w.heap.size 3 1 (.slice a (0 + x.p.length) c) (0 + x.p.length) (x.p.map iV) → wa.grownBy wb (some g2) → Own wb w.heap.size 3 1 (.slice a2 (0 + x.l.length) c2) (0 + x.l.length) (x.l.map iV) →
      ∃ a' c' a2' c2', Value.tuple #[.slice a (0 + x.p.length) c, .slice a2 (0 + x.l.length) c2] = .tuple #[.slice a' x.p.length c', .slice a2' x.l.length c2'] ∧ Mine wb w.heap.size a' c' x.p ∧ Mine wb w.heap.size a2' c2' x.l ∧ Below w.heap.size w wb := fun {wa wb g2 a a2 c c2} B hg2 hne o1 gr o2 => by
    rw [Nat.zero_add] at o1 o2 hne ⊢
    rw [Nat.zero_add]
    refine ⟨a, c, a2, c2, rfl, Own.keep o1 fun k hk => ?_, o2, Bs.fr1 B ((Fr.refl [g2] wa).grown gr fun k hk => .inl (by injection hk with hk; rw [hk]; exact List.mem_singleton.2 rfl)) hg2⟩
    exact gr.block k (o1.lt k hk).2 fun e => hne k hk (Option.some.inj e)
  have bs : ∀ {wa wb : World} {g2 : Nat}, Bs w wa → w.heap.size ≤ g2 → wa.grownBy wb (some g2) → Bs w wb := fun B hg gr => Bs.fr1 B ((Fr.refl _ _).grown gr fun k hk => .inl (by injection hk with hk; rw [hk]; exact List.mem_singleton.2 rfl)) hg
  refine ⟨newB B3 fun g2 w4 g20 sg2 n4 z4 b4 B4 => ⟨?_, ?_⟩, ?_⟩
  · refine appE n4 g20 B4.size (fun q hq => by rw [List.mem_singleton] at hq; omega) (rp B4) (by omega) fun a c w5 o5 gr5 or5 => ?_
    have B5 := bs B4 g20 gr5
    refine newB B5 fun g3 w6 g30 sg3 n6 z6 b6 B6 => appE n6 g30 B6.size (fun q hq => by have := gr5.size; rw [List.mem_singleton] at hq; omega) (rl B6) (by omega) fun a2 c2 w7 o7 gr7 or7 => ?_
    exact fin B6 g30 (fun k hk => by have := (o5.lt k hk).2; omega) (o5.below b6 (Nat.le_refl _)) gr7 o7
  · refine newB B4 fun g3 w6 g30 sg3 n6 z6 b6 B6 => appE (by rw [b6.block g2 (by omega)]; exact n4) g20 B6.size (fun q hq => by rw [List.mem_singleton] at hq; omega) (rp B6) (by omega) fun a c w7 o7 gr7 or7 => ?_
    have B7 := bs B6 g20 gr7
    refine appE (by rw [gr7.block g3 (by omega) (by simp; omega)]; exact n6) g30 B7.size (fun q hq => by rw [List.mem_singleton] at hq; omega) (rl B7) (by omega) fun a2 c2 w8 o8 gr8 or8 => ?_
    refine fin B7 g30 (fun k hk => ?_) o7 gr8 o8
    rcases or7 with h | ⟨j, h, hj⟩
    · rw [hk] at h; injection h with h; omega
    · rw [hk] at h; injection h with h; omega
  · refine newB B3 fun g2 w4 g20 sg2 n4 z4 b4 B4 => newB B4 fun g3 w6 g30 sg3 n6 z6 b6 B6 => appE n6 g30 B6.size (fun q hq => by rw [List.mem_singleton] at hq; omega) (rp B6) (by omega) fun a c w7 o7 gr7 or7 => ?_
    have B7 := bs B6 g30 gr7
    refine appE (by rw [gr7.block g2 (by omega) (by simp; omega), b6.block g2 (by omega)]; exact n4) g20 B7.size (fun q hq => by rw [List.mem_singleton] at hq; omega) (rl B7) (by omega) fun a2 c2 w8 o8 gr8 or8 => ?_
    refine fin B7 g20 (fun k hk => ?_) o7 gr8 o8
    rcases or7 with h | ⟨j, h, hj⟩
    · rw [hk] at h; injection h with h; omega
    · rw [hk] at h; injection h with h; omega
theorem lto_ret (a : Ac) (w : World) : Calls Try.prog 74 #[acV a] w (Ret (acV a) w) := by
  refine ret_in (GFuR.lto_calls a.t a.c a.e a.u a.h w (fun u w' => u = acV a ∧ Below w.heap.size w w') ?_)
  unfold GFuR.lto_vc
  exact newB (Bs.refl w) fun g1 w2 g10 sg1 n2 z2 b2 B2 => newB B2 fun g2 w3 g20 sg2 n3 z3 b3 B3 => boxB B3 g20 fun w4 h4 B4 z4 => ⟨rfl, B4⟩
theorem lnoneF_ret (w : World) : Calls Try.prog 59 #[] w (Ret (.pointer none) w) := by
  refine ret_in (GFuR.lnone_calls w (fun u w' => u = .pointer none ∧ Below w.heap.size w w') ?_)
  unfold GFuR.lnone_vc
  exact ⟨rfl, Bs.refl _⟩
theorem rSameF_true (a b : Option Addr) (ca cb : Nat) (zs : List Int) (w : World) (hl : zs.length ≤ 1000000) (hra : RowAt w a (zs.map iV)) (hrb : RowAt w b (zs.map iV)) :
    Calls Try.prog 39 #[.slice a zs.length ca, .slice b zs.length cb] w (Ret (.bool true) w) := by
  refine ret_in (GFuR.lsame_calls a zs.length ca b zs.length cb w (fun u w' => u = .bool true ∧ Below w.heap.size w w') ?_)
  unfold GFuR.lsame_vc
  refine br_n (fun q => q rfl) ⟨fun x wx => ∃ i : Nat, x = i ∧ i ≤ zs.length ∧ Bs w wx, fun x _ => zs.length - x.toNat, ⟨0, rfl, by omega, Bs.refl _⟩, ?_⟩
  rintro x wx ⟨i, rfl, hi, B⟩
  refine br_dec (fun hlt => drewB B fun w3 b3 B3 e3 => ?_) fun hge => ⟨rfl, B⟩
  have hil : i < zs.length := by omega
  obtain ⟨b1, o1, rfl, c1⟩ := (hra.below B3 (Nat.le_refl _)).int hil
  obtain ⟨b2, o2, rfl, c2⟩ := (hrb.below B3 (Nat.le_refl _)).int hil
  refine ⟨by omega, by omega, zs[i], by rw [Int.toNat_natCast, Nat.mul_one]; exact c1, by omega, by omega, zs[i], by rw [Int.toNat_natCast, Nat.mul_one]; exact c2, br_n (fun q => q rfl) ?_⟩
  rw [wr64 (by omega) (by omega)]
  exact ⟨⟨i + 1, by omega, by omega, B3⟩, by dsimp only; omega⟩
def A2h : FB := topD (topD (fun _ => ac0) 1 9) 2 5
theorem a2_facts : topE (fun _ => ac0) 1 9 = 0 ∧ topE (topD (fun _ => ac0) 1 9) 2 5 = 0 ∧ roomF A2h [1, 2] [-1, -1] = 5 ∧ roomE [1, 2] [-1, -1] = 0 ∧ holdE A2h [1, 2] [-1, -1] 6 = 9 ∧ holdE A2h [1, 2] [3, -1] 4 = 18 ∧ (A2h 1).left = 9 := by decide +kernel
theorem lhaves_ret (w : World) : Calls Try.prog 19 #[] w (Ret (.bool true) w) := by
  refine ret_in (GFuR.lhaves_calls w (fun u w' => u = .bool true ∧ Below w.heap.size w w') ?_)
  unfold GFuR.lhaves_vc
  obtain ⟨f1, f2, f3, f4, f5, f6, f7⟩ := a2_facts
  have hW1 : FWf (topD (fun _ => ac0) 1 9) := fwf0.top _ _
  have hW : FWf A2h := hW1.top _ _
  refine (fnew_new w).mono ?_
  rintro e w2 ⟨g, mb, rfl, t2, g0, mb0, b2⟩
  refine ⟨keepG_nil _ _, _, rfl, (ftop_any t2 fwf0 1 9).mono ?_⟩
  rintro e w3 ⟨rfl, t3, f3'⟩
  have B3 : Bs w w3 := Bs.fr1 b2 f3' mb0
  refine ⟨keepG_nil _ _, _, rfl, (ftop_any t3 hW1 2 5).mono ?_⟩
  rintro e w4 ⟨rfl, t4, f4'⟩
  have B4 : Bs w w4 := Bs.fr1 B3 f4' mb0
  rw [f1, f2]
  refine ⟨keepG_nil _ _, _, rfl, newB B4 fun ga w5 ga0 sga n5 z5 b5 B5 => newB B5 fun gb w6 gb0 sgb n6 z6 b6 B6 => ?_⟩
  have t6 := (t4.below b5).below b6
  have r1 : RowAt w6 (some ⟨ga, 0, none⟩) ([1, 2].map iV) := (RowAt.ofWhole (vs := [1, 2].map iV) n5).below b6 (Nat.le_refl _)
  refine callB B6 (froom_ret (l := [1, 2]) (lim := [-1, -1]) (c := 2) (c2 := 2) t6 hW r1 (by decide) (by decide) (RowAt.ofWhole (vs := [-1, -1].map iV) n6) (by decide)) fun w7 b7 B7 => ?_
  rw [show roomF (topD (topD (fun _ => ac0) 1 9) 2 5) [1, 2] [-1, -1] = 5 from f3, f4]
  refine ⟨_, _, rfl, br_y rfl (br_y rfl (br_y rfl (br_y rfl (newB B7 fun gc w8 gc0 sgc n8 z8 b8 B8 => newB B8 fun gd w9 gd0 sgd n9 z9 b9 B9 => ?_))))⟩
  have t9 := ((t6.below b7).below b8).below b9
  have h5 : holdD A2h [1, 2] [-1, -1] 6 = A2h := by unfold holdD; rw [if_neg (by rw [f5]; decide)]
  have h6 : holdD A2h [1, 2] [3, -1] 4 = A2h := by unfold holdD; rw [if_neg (by rw [f6]; decide)]
  refine (fhold_any (A := A2h) (l := [1, 2]) (lim := [-1, -1]) (c := 2) (c2 := 2) t9 hW ((RowAt.ofWhole (vs := [1, 2].map iV) n8).below b9 (Nat.le_refl _)) (by decide) (by decide) (RowAt.ofWhole (vs := [-1, -1].map iV) n9) (by decide) 6).mono ?_
  rintro e w10 ⟨rfl, t10, f10⟩
  rw [h5] at t10
  have B10 : Bs w w10 := Bs.fr1 B9 f10 mb0
  refine ⟨keepG_nil _ _, _, rfl, br_y f5 (newB B10 fun ge w11 ge0 sge n11 z11 b11 B11 => newB B11 fun gf w12 gf0 sgf n12 z12 b12 B12 => ?_)⟩
  have t12 := (t10.below b11).below b12
  refine (fhold_any (A := A2h) (l := [1, 2]) (lim := [3, -1]) (c := 2) (c2 := 2) t12 hW ((RowAt.ofWhole (vs := [1, 2].map iV) n11).below b12 (Nat.le_refl _)) (by decide) (by decide) (RowAt.ofWhole (vs := [3, -1].map iV) n12) (by decide) 4).mono ?_
  rintro e w13 ⟨rfl, t13, f13⟩
  rw [h6] at t13
  have B13 : Bs w w13 := Bs.fr1 B12 f13 mb0
  refine ⟨keepG_nil _ _, _, rfl, br_y f6 (callB B13 (favail_ret t13 hW 1) fun w14 b14 B14 => ⟨_, rfl, ?_, B14⟩)⟩
  rw [f7]
  rfl
end Go.Proofs.Ytjcabccolkmlmaa
end
section
/- Arrays and structs that came in as values: their numbers. -/
namespace Go.Proofs.Ytjcabccolkmlmaa
open Go.RowKit Go.WideShapes Go.ChangeShapes
theorem okWide_arr {P : Program} {W : World} {r : Reach} {base : Nat} {t : TypeId} {v : Value} {n : Nat} {e : Sh} {k : Nat} (hf : fitsB P (.arr n e k) t = true) (hv : Value.okWide P W r base t v) : ∃ cs, v = .agg cs ∧ cs.size = P.cellsOf t := by
  unfold fitsB at hf
  split at hf
  · rename_i l et hu
    unfold Value.okWide at hv
    rw [hu] at hv
    obtain ⟨cs, h1, h2, _⟩ := hv
    exact ⟨cs, h1, h2⟩
  · cases hf
theorem open_arrI {H : Type} {enc : TypeId × Value → H} {P : Program} {W : World} {r : Reach} {base : Nat} {t : TypeId} {v : Value} {d : DataW H} {p : List MemPlace} (n : Nat) (hf : fitsB P (.arr n (.int .i64) 1) t = true) (hc : P.cellsOf t = n) (hv : Value.okWide P W r base t v)
    (h : DataW.Trod enc P W 0 (fun _ => true) true t v d p) : ∃ zs : List Int, zs.length = n ∧ v = .agg (zs.map (Value.int .i64)).toArray ∧ ∀ z ∈ zs, -9223372036854775808 ≤ z ∧ z ≤ 9223372036854775807 := by
  obtain ⟨cs, rfl, hs⟩ := okWide_arr hf hv
  have hh := open_sh hf h
  obtain ⟨zs, hz, hp⟩ := exists_list (p := fun i z => cs.toList[i]? = some (Value.int .i64 z) ∧ (Lit.int .i64 z).wf = true) n (fun i hi => by
    obtain ⟨z, h1, h2⟩ := hh i hi
    refine ⟨z, ?_, h2⟩
    have := congrArg (·[0]?) h1
    simpa [Value.cells] using this)
  refine ⟨zs, hz, ?_, fun z hm => ?_⟩
  · congr 1
    apply Array.ext'
    apply List.ext_getElem?
    intro i
    rw [List.getElem?_map]
    by_cases hi : i < n
    · rw [List.getElem?_eq_getElem (show i < zs.length by omega)]
      exact (hp i _ (List.getElem?_eq_getElem (by omega))).1
    · rw [List.getElem?_eq_none (by simp; omega), List.getElem?_eq_none (by omega)]
      rfl
  · obtain ⟨i, hi⟩ := List.getElem?_of_mem hm
    exact i64_range (hp i z hi).2
theorem open_arr2 {H : Type} {enc : TypeId × Value → H} {P : Program} {W : World} {r : Reach} {base : Nat} {t : TypeId} {v : Value} {d : DataW H} {p : List MemPlace} (hf : fitsB P (.arr 2 (.int .i64) 1) t = true) (hc : P.cellsOf t = 2) (hv : Value.okWide P W r base t v)
    (h : DataW.Trod enc P W 0 (fun _ => true) true t v d p) : ∃ x y : Int, v = .agg #[.int .i64 x, .int .i64 y] ∧ (-9223372036854775808 ≤ x ∧ x ≤ 9223372036854775807) ∧ -9223372036854775808 ≤ y ∧ y ≤ 9223372036854775807 := by
  obtain ⟨zs, hz, rfl, hr⟩ := open_arrI 2 hf hc hv h
  match zs, hz with
  | [x, y], _ => exact ⟨x, y, rfl, hr x (by simp), hr y (by simp)⟩
theorem open_arr4 {H : Type} {enc : TypeId × Value → H} {P : Program} {W : World} {r : Reach} {base : Nat} {t : TypeId} {v : Value} {d : DataW H} {p : List MemPlace} (hf : fitsB P (.arr 4 (.int .i64) 1) t = true) (hc : P.cellsOf t = 4) (hv : Value.okWide P W r base t v)
    (h : DataW.Trod enc P W 0 (fun _ => true) true t v d p) : ∃ x y z u : Int, v = .agg #[.int .i64 x, .int .i64 y, .int .i64 z, .int .i64 u] ∧ (-9223372036854775808 ≤ x ∧ x ≤ 9223372036854775807) ∧ (-9223372036854775808 ≤ y ∧ y ≤ 9223372036854775807) ∧ (-9223372036854775808 ≤ z ∧ z ≤ 9223372036854775807) ∧ -9223372036854775808 ≤ u ∧ u ≤ 9223372036854775807 := by
  obtain ⟨zs, hz, rfl, hr⟩ := open_arrI 4 hf hc hv h
  match zs, hz with
  | [x, y, z, u], _ => exact ⟨x, y, z, u, rfl, hr x (by simp), hr y (by simp), hr z (by simp), hr u (by simp)⟩
end Go.Proofs.Ytjcabccolkmlmaa
end
