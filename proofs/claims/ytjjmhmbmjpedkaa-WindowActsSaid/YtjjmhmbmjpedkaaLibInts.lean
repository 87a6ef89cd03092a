/- Rows of ints. No program in sight. -/
import Derived.Test.YtjjmhmbmjpedkaaLibLift
import Derived.Test.YtjjmhmbmjpedkaaLibOwn
namespace Go.Proofs.Ytjjmhmbmjpedkaa
open Go.RowKit Go.ChangeShapes
def iV (z : Int) : Value := .int .i64 z
def ints (zs : List Int) : Prop := ∀ z ∈ zs, -9223372036854775808 ≤ z ∧ z ≤ 9223372036854775807
theorem RowAt.int {w : World} {a : Option Addr} {zs : List Int} (h : RowAt w a (zs.map iV)) {k : Nat} (hk : k < zs.length) : ∃ b off, a = some ⟨b, off, none⟩ ∧ w.cell? ⟨b, off + k, none⟩ = some (.int .i64 zs[k]) := by
  rcases h with h | ⟨b, off, ha, h⟩
  · rw [List.map_eq_nil_iff] at h; subst h; simp at hk
  · exact ⟨b, off, ha, h k _ (by rw [List.getElem?_map, List.getElem?_eq_getElem hk]; rfl)⟩
theorem one_iV {zs : List Int} : ∀ u ∈ zs.map iV, u.oneCell' = true := by
  intro u hu
  obtain ⟨x, _, rfl⟩ := List.mem_map.1 hu
  rfl
theorem min_takeI (zs : List Int) (n : Nat) : min (zs.length : Int) (n : Int) = ((zs.take n).length : Int) := by
  rw [List.length_take]; omega
variable {P : Program} {W : World} {H : Type} {enc : TypeId × Value → H}
theorem row_of_ints {a : Addr} {zs : List Int} {len : Nat} (hl : len ≤ zs.length) (hc : ∀ i, i < zs.length → W.cell? (a.add i) = some (.int .i64 (zs.getD i 0))) : (zs.take len).length = len ∧ RowAt W (some a) ((zs.take len).map iV) := by
  refine ⟨by simp; omega, ?_⟩
  cases hz : zs with
  | nil => exact .inl (by simp)
  | cons z0 r =>
    rw [← hz]
    have h0 := hc 0 (by rw [hz]; simp)
    have ha := addr_plain h0
    refine .inr ⟨a.block, a.off, by rw [← ha], fun i v hv => ?_⟩
    rw [List.getElem?_map, List.getElem?_take] at hv
    split at hv
    · rcases hq : zs[i]? with _ | z
      · rw [hq] at hv; cases hv
      · rw [hq] at hv
        simp only [Option.map_some, Option.some.injEq] at hv
        have hi : i < zs.length := (List.getElem?_eq_some_iff.1 hq).1
        have h1 := hc i hi
        rw [ha, Addr.add_lit, List.getD_eq_getElem?_getD, hq] at h1
        rw [← hv]
        exact h1
    · cases hv
theorem open_i64s {t e : TypeId} {v : Value} {d : DataW H} {p : List MemPlace} (ht : P.underlying t = some (.slice e)) (he : P.underlying e = some (.int .i64)) (hc : P.cellsOf e = 1)
    (hv : ∃ a l c, v = .slice a l c) (h : DataW.Trod enc P W 0 (fun _ => true) true t v d p) : ∃ (zs : List Int) (a : Option Addr) (c : Nat), v = .slice a zs.length c ∧ zs.length ≤ c ∧ c ≤ maxLen ∧ RowAt W a (zs.map iV) ∧ ints zs := by
  obtain ⟨a, l, c, rfl⟩ := hv
  obtain ⟨fuel, hf⟩ := h
  rcases open_ints ht he hc hf with ⟨hcs, _⟩ | ⟨x, l', c', zs, hcs, _, hl, hm, hz, _, hcell, hwz⟩
  · simp [Value.cells] at hcs
    obtain ⟨rfl, rfl, rfl⟩ := hcs
    exact ⟨[], none, 0, rfl, Nat.le_refl _, by decide, .inl rfl, fun _ h => by cases h⟩
  · simp [Value.cells] at hcs
    obtain ⟨rfl, rfl, rfl⟩ := hcs
    simp only [if_true] at hz
    obtain ⟨h1, h2⟩ := row_of_ints (len := l) (by omega) hcell
    exact ⟨zs.take l, some x, c, by rw [h1], by rw [h1]; exact hl, hm, h2, fun z hz => i64_range (hwz z (List.mem_of_mem_take hz))⟩
end Go.Proofs.Ytjjmhmbmjpedkaa
