/- A total in parts, by weights: the plain law. No program in sight. -/
import Derived.Test.YtlgdapgocbmcfaaBigLaws3
namespace Go.Proofs.Ytlgdapgocbmcfaa
open Go.RowKit
theorem foldl_sum (c : Int) (zs : List Int) : zs.foldl (· + ·) c = c + zs.sum := by
  induction zs generalizing c with
  | nil => simp
  | cons z zs ih => rw [List.foldl_cons, ih, List.sum_cons]; omega
theorem total_sum (zs : List Int) : total zs = zs.sum := by unfold total; rw [foldl_sum]; omega
def quot (a all w : Int) : Int := a * w / all
def pos (ws : List Int) : Nat := (ws.filter fun w => decide (0 < w)).length
theorem pos_cons (w : Int) (ws : List Int) : pos (w :: ws) = pos ws + if 0 < w then 1 else 0 := by
  unfold pos; rw [List.filter_cons]; by_cases h : 0 < w <;> simp [h]
theorem pos_le (ws : List Int) : pos ws ≤ ws.length := List.length_filter_le _ _
theorem part_rest {a all : Int} (h : 1 ≤ all) (ws : List Int) (hw : ∀ w ∈ ws, 0 ≤ w) :
    0 ≤ a * ws.sum - all * (ws.map (quot a all)).sum ∧ a * ws.sum - all * (ws.map (quot a all)).sum ≤ all * (pos ws : Int) := by
  induction ws with
  | nil => simp [pos]
  | cons w ws ih =>
    have h1 := ih fun x hx => hw x (by simp [hx])
    have h2 := Int.mul_ediv_add_emod (a * w) all
    have h3 := Int.emod_nonneg (a * w) (show all ≠ 0 by omega)
    have h4 := Int.emod_lt_of_pos (a * w) (show 0 < all by omega)
    rw [List.map_cons, List.sum_cons, List.sum_cons, pos_cons, Int.mul_add, Int.mul_add]
    have e : all * quot a all w = a * w - a * w % all := by unfold quot; omega
    rw [e]
    have hw0 := hw w (by simp)
    by_cases hp : 0 < w
    · rw [if_pos hp, show ((pos ws + 1 : Nat) : Int) = (pos ws : Int) + 1 by omega, Int.mul_add, Int.mul_one]
      generalize all * (pos ws : Int) = p at *
      generalize all * (ws.map (quot a all)).sum = x at *
      generalize a * ws.sum = y at *
      omega
    · have : w = 0 := by omega
      subst this
      rw [if_neg hp, Int.mul_zero, Int.zero_emod, Nat.add_zero]
      generalize all * (pos ws : Int) = p at *
      generalize all * (ws.map (quot a all)).sum = x at *
      generalize a * ws.sum = y at *
      omega
theorem left_bound {a : Int} {ws : List Int} (h1 : 1 ≤ ws.sum) (hw : ∀ w ∈ ws, 0 ≤ w) :
    0 ≤ a - (ws.map (quot a ws.sum)).sum ∧ a - (ws.map (quot a ws.sum)).sum ≤ (pos ws : Int) := by
  obtain ⟨p1, p2⟩ := part_rest (a := a) h1 ws hw
  have e : a * ws.sum - ws.sum * (ws.map (quot a ws.sum)).sum = ws.sum * (a - (ws.map (quot a ws.sum)).sum) := by rw [Int.mul_sub, Int.mul_comm a]
  rw [e] at p1 p2
  refine ⟨?_, Int.le_of_mul_le_mul_left p2 (by omega)⟩
  exact Int.le_of_mul_le_mul_left (a := ws.sum) (by rw [Int.mul_zero]; exact p1) (by omega)
theorem sum_nonneg {ws : List Int} (hw : ∀ w ∈ ws, 0 ≤ w) : 0 ≤ ws.sum := by
  induction ws with
  | nil => simp
  | cons w ws ih => rw [List.sum_cons]; have := hw w (by simp); have := ih fun x hx => hw x (by simp [hx]); omega
theorem mem_le_sum {ws : List Int} (hw : ∀ w ∈ ws, 0 ≤ w) {x : Int} (hx : x ∈ ws) : x ≤ ws.sum := by
  induction ws with
  | nil => cases hx
  | cons w ws ih =>
    rw [List.sum_cons]
    have h1 := hw w (by simp)
    have h2 := sum_nonneg fun y hy => hw y (List.mem_cons_of_mem w hy)
    rcases List.mem_cons.1 hx with rfl | hx
    · omega
    · have := ih (fun y hy => hw y (by simp [hy])) hx; omega
/-- What is left is given out, one by one. -/
def bump : Int → List Int → List Int → List Int
  | _, _, [] => []
  | _, [], x :: xs => x :: xs
  | l, w :: ws, x :: xs => if 0 < l then (if 0 < w then (x + 1) :: bump (l - 1) ws xs else x :: bump l ws xs) else x :: xs
theorem bump_zero (l : Int) (h : l ≤ 0) (ws xs : List Int) : bump l ws xs = xs := by
  cases xs with
  | nil => cases ws <;> rfl
  | cons x xs => cases ws with
    | nil => rfl
    | cons w ws => simp only [bump]; rw [if_neg (by omega)]
theorem bump_len (l : Int) (ws xs : List Int) : (bump l ws xs).length = xs.length := by
  induction xs generalizing l ws with
  | nil => cases ws <;> rfl
  | cons x xs ih => cases ws with
    | nil => rfl
    | cons w ws =>
      simp only [bump]
      split
      · split <;> simp [ih]
      · rfl
theorem bump_sum (l : Int) (ws xs : List Int) (hl : ws.length = xs.length) (h0 : 0 ≤ l) (h1 : l ≤ (pos ws : Int)) : (bump l ws xs).sum = xs.sum + l := by
  induction xs generalizing l ws with
  | nil => cases ws with
    | nil => simp [pos] at h1; simp [bump]; omega
    | cons w ws => simp at hl
  | cons x xs ih => cases ws with
    | nil => simp at hl
    | cons w ws =>
      simp only [bump]
      rw [pos_cons] at h1
      simp only [List.length_cons, Nat.add_right_cancel_iff] at hl
      split
      · split
        · rename_i hw
          rw [if_pos hw] at h1
          rw [List.sum_cons, List.sum_cons, ih _ _ hl (by omega) (by omega)]; omega
        · rename_i hw
          rw [if_neg hw] at h1
          rw [List.sum_cons, List.sum_cons, ih _ _ hl (by omega) (by omega)]; omega
      · rw [List.sum_cons]; omega
/-- The loop that gives out, at place i. -/
structure BumpI (a : Int) (ws fin : List Int) (i : Nat) (l : Int) (xs : List Int) : Prop where
  len : xs.length = ws.length
  le : i ≤ ws.length
  nn : ∀ x ∈ xs, 0 ≤ x
  sum : xs.sum + l = a
  l0 : 0 ≤ l
  l1 : l ≤ (pos (ws.drop i) : Int)
  fin : xs.take i ++ bump l (ws.drop i) (xs.drop i) = fin
theorem BumpI.done {a : Int} {ws fin xs : List Int} {i : Nat} {l : Int} (h : BumpI a ws fin i l xs) (hl : l ≤ 0) : xs = fin := by
  rw [← h.fin, bump_zero l hl, List.take_append_drop]
theorem BumpI.lt {a : Int} {ws fin xs : List Int} {i : Nat} {l : Int} (h : BumpI a ws fin i l xs) (hl : 0 < l) : i < ws.length := by
  have h1 := h.l1
  have h2 := pos_le (ws.drop i)
  rw [List.length_drop] at h2
  omega
theorem BumpI.next {a : Int} {ws fin xs : List Int} {i : Nat} {l : Int} (h : BumpI a ws fin i l xs) (hl : 0 < l) (hi : i < ws.length) (hi2 : i < xs.length) :
    (0 < ws[i] → BumpI a ws fin (i + 1) (l - 1) (xs.set i (xs[i] + 1)) ∧ 0 ≤ xs[i] ∧ xs[i] + 1 ≤ a) ∧ (¬ 0 < ws[i] → BumpI a ws fin (i + 1) l xs) := by
  have hdw := List.drop_eq_getElem_cons hi
  have hdx := List.drop_eq_getElem_cons hi2
  have hf := h.fin
  have hp := h.l1
  rw [hdw, hdx] at hf
  rw [hdw, pos_cons] at hp
  simp only [bump] at hf
  rw [if_pos hl] at hf
  constructor
  · intro hw
    rw [if_pos hw] at hf hp
    have hx := mem_le_sum h.nn (List.getElem_mem hi2)
    have hx0 := h.nn _ (List.getElem_mem hi2)
    have hs := h.sum
    refine ⟨⟨by rw [List.length_set]; exact h.len, hi, ?_, ?_, by omega, by omega, ?_⟩, hx0, by omega⟩
    · intro x hx
      rcases List.mem_or_eq_of_mem_set hx with hx | rfl
      · exact h.nn x hx
      · omega
    · have : (xs.set i (xs[i] + 1)).sum = xs.sum + 1 := by
        rw [List.set_eq_take_append_cons_drop, if_pos hi2]
        conv => rhs; rw [← List.take_append_drop i xs, hdx]
        simp only [List.sum_append, List.sum_cons]
        omega
      omega
    · rw [← hf, List.take_set, List.drop_set_of_lt (by omega), List.take_succ_eq_append_getElem hi2, List.set_append_right _ _ (by simp; omega)]
      simp [List.length_take, Nat.min_eq_left (Nat.le_of_lt hi2)]
  · intro hw
    rw [if_neg hw] at hf hp
    refine ⟨h.len, hi, h.nn, h.sum, h.l0, by omega, ?_⟩
    rw [← hf, List.take_succ_eq_append_getElem hi2, List.append_assoc]
    rfl
def shareOk (a : Int) (ws : List Int) : Prop := 0 ≤ a ∧ (∀ w ∈ ws, 0 ≤ w) ∧ 1 ≤ ws.sum ∧ ws.sum ≤ 9223372036854775807
def shareP (a : Int) (ws : List Int) : List Int := ws.map (quot a ws.sum)
def shareL (a : Int) (ws : List Int) : List Int := bump (a - (shareP a ws).sum) ws (shareP a ws)
theorem quot_range {a : Int} {ws : List Int} (h : shareOk a ws) {w : Int} (hw : w ∈ ws) : 0 ≤ quot a ws.sum w ∧ quot a ws.sum w ≤ a := by
  obtain ⟨h0, h1, h2, h3⟩ := h
  have w0 := h1 w hw
  have w1 := mem_le_sum h1 hw
  refine ⟨Int.ediv_nonneg (Int.mul_nonneg h0 w0) (by omega), ?_⟩
  unfold quot
  refine Int.ediv_le_of_le_mul (by omega) ?_
  exact Int.mul_le_mul_of_nonneg_left w1 h0
theorem share_start {a : Int} {ws : List Int} (h : shareOk a ws) : BumpI a ws (shareL a ws) 0 (a - (shareP a ws).sum) (shareP a ws) := by
  have hb := left_bound (a := a) h.2.2.1 h.2.1
  refine ⟨by simp [shareP], by omega, ?_, by omega, hb.1, hb.2, rfl⟩
  intro x hx
  unfold shareP at hx
  rw [List.mem_map] at hx
  obtain ⟨w, hw, rfl⟩ := hx
  exact (quot_range h hw).1
theorem share_sum {a : Int} {ws : List Int} (h : shareOk a ws) : (shareL a ws).sum = a := by
  have hb := left_bound (a := a) h.2.2.1 h.2.1
  have := bump_sum (a - (shareP a ws).sum) ws (shareP a ws) (by simp [shareP]) hb.1 hb.2
  unfold shareL
  rw [this]; omega
theorem share_len (a : Int) (ws : List Int) : (shareL a ws).length = ws.length := by unfold shareL; rw [bump_len]; simp [shareP]
end Go.Proofs.Ytlgdapgocbmcfaa
