import Derived.Test.YtecmpjccdhmeeaaMTarB5
import Derived.Test.YtecmpjccdhmeeaaMTarB3
import Derived.Test.YtecmpjccdhmeeaaMTarB4
set_option linter.unusedVariables false
section
/- Structs that came in as values. No program in sight. -/
namespace Go.Proofs.Ytecmpjccdhmeeaa
open Go.RowKit Go.WideShapes Go.ChangeShapes
theorem okWide_str {P : Program} {W : World} {r : Reach} {base : Nat} {t : TypeId} {v : Value} {fs : Sh} (hf : fitsB P (.agg fs) t = true) (hv : Value.okWide P W r base t v) : ∃ cs, v = .agg cs ∧ cs.size = P.cellsOf t := by
  unfold fitsB at hf
  split at hf
  · rename_i fl hu
    unfold Value.okWide at hv
    rw [hu] at hv
    obtain ⟨cs, h1, h2, _⟩ := hv
    exact ⟨cs, h1, h2⟩
  · cases hf
/-- Structs of ints alone. -/
def intsF : Nat → Nat → Sh
  | _, 0 => .fnil
  | i, n + 1 => .fcons i 1 (.int .i64) (intsF (i + 1) n)
theorem has_intsF {w : World} : ∀ (n i : Nat) (cs : List Value), (intsF i n).Has w cs → i + n = cs.length → ∃ zs : List Int, zs.length = n ∧ cs.drop i = zs.map (Value.int .i64) ∧ ∀ z ∈ zs, -9223372036854775808 ≤ z ∧ z ≤ 9223372036854775807
  | 0, i, cs, _, hl => ⟨[], rfl, by rw [List.drop_eq_nil_iff.2 (by omega)]; rfl, fun z hz => by cases hz⟩
  | n + 1, i, cs, h, hl => by
    obtain ⟨⟨z, hz, hw⟩, hr⟩ := h
    obtain ⟨zs, h1, h2, h3⟩ := has_intsF n (i + 1) cs hr (by omega)
    refine ⟨z :: zs, by simp [h1], ?_, fun y hy => ?_⟩
    · have hi : i < cs.length := by omega
      have h0 : cs[i]? = some (.int .i64 z) := by
        have := congrArg (·[0]?) hz
        simpa [List.getElem?_take, List.getElem?_drop] using this
      rw [List.getElem?_eq_getElem hi] at h0
      injection h0 with h0
      rw [List.drop_eq_getElem_cons hi, h0, h2]; rfl
    · rcases List.mem_cons.1 hy with rfl | hy
      · exact i64_range hw
      · exact h3 y hy
theorem open_strI {H : Type} {enc : TypeId × Value → H} {P : Program} {W : World} {r : Reach} {base : Nat} {t : TypeId} {v : Value} {d : DataW H} {p : List MemPlace} (n : Nat) (hf : fitsB P (.agg (intsF 0 n)) t = true) (hc : P.cellsOf t = n) (hv : Value.okWide P W r base t v)
    (h : DataW.Trod enc P W 0 (fun _ => true) true t v d p) : ∃ zs : List Int, zs.length = n ∧ v = .agg (zs.map (Value.int .i64)).toArray ∧ ∀ z ∈ zs, -9223372036854775808 ≤ z ∧ z ≤ 9223372036854775807 := by
  obtain ⟨cs, rfl, hs⟩ := okWide_str hf hv
  have hh := open_sh hf h
  obtain ⟨zs, h1, h2, h3⟩ := has_intsF n 0 cs.toList (by simpa [Value.cells, Sh.Has] using hh) (by simp; omega)
  refine ⟨zs, h1, ?_, h3⟩
  congr 1
  apply Array.ext'
  rw [← h2]
  simp
theorem open_str4 {H : Type} {enc : TypeId × Value → H} {P : Program} {W : World} {r : Reach} {base : Nat} {t : TypeId} {v : Value} {d : DataW H} {p : List MemPlace} (hf : fitsB P (.agg (intsF 0 4)) t = true) (hc : P.cellsOf t = 4) (hv : Value.okWide P W r base t v)
    (h : DataW.Trod enc P W 0 (fun _ => true) true t v d p) : ∃ x y z u : Int, v = .agg #[.int .i64 x, .int .i64 y, .int .i64 z, .int .i64 u] ∧ (-9223372036854775808 ≤ x ∧ x ≤ 9223372036854775807) ∧ (-9223372036854775808 ≤ y ∧ y ≤ 9223372036854775807) ∧ (-9223372036854775808 ≤ z ∧ z ≤ 9223372036854775807) ∧ -9223372036854775808 ≤ u ∧ u ≤ 9223372036854775807 := by
  obtain ⟨zs, hz, rfl, hr⟩ := open_strI 4 hf hc hv h
  match zs, hz with
  | [x, y, z, u], _ => exact ⟨x, y, z, u, rfl, hr x (by simp), hr y (by simp), hr z (by simp), hr u (by simp)⟩
end Go.Proofs.Ytecmpjccdhmeeaa
end
section
/- Tariffs and plans that came in. No program in sight. -/
namespace Go.Proofs.Ytecmpjccdhmeeaa
open Go.RowKit Go.WideShapes Go.ChangeShapes
def shTier : Sh := .agg (intsF 0 2)
def shTar : Sh := .agg (.fcons 0 1 (.int .i64) (.fcons 1 1 (.int .i64) (.fcons 2 1 (.int .i64) (.fcons 3 1 (.slice shTier 2) .fnil))))
def shPlan : Sh := .agg (.fcons 0 1 (.int .i64) (.fcons 1 1 (.int .i64) (.fcons 2 1 (.int .i64) (.fcons 3 4 shTar (.fcons 7 4 shTar .fnil)))))
theorem tier_elem {w : World} (cs' : List Value) (b off : Nat) (hl : cs'.length = 2) (hc : cellsAt w b off cs') (h : shTier.Has w cs') : ∃ t : Tr, cellsAt w b off (trCells t) := by
  obtain ⟨zs, h1, h2, _⟩ := has_intsF 2 0 cs' h (by omega)
  rw [List.drop_zero] at h2
  subst h2
  match zs, h1 with
  | [x, y], _ => exact ⟨⟨x, y⟩, hc⟩
/-- Tiers that came in: no more than there can be. -/
structure TsIn (w : World) (a : Option Addr) (c : Nat) (ts : List Tr) : Prop where
  at' : TsAt 0 w a ts
  cap : ts.length ≤ c
theorem has_tar {w : World} {cs : List Value} (hl : cs.length = 4) (h : shTar.Has w cs) : ∃ (t : Tar) (a : Option Addr) (c : Nat), cs = [.int .i64 t.grp, .int .i64 t.mode, .int .i64 t.block, .slice a t.ts.length c] ∧ TsIn w a c t.ts := by
  obtain ⟨⟨x, hx, _⟩, ⟨y, hy, _⟩, ⟨z, hz, _⟩, hs, _⟩ := h
  obtain ⟨ts, a, c, k1, k2, _, k3⟩ := has_rows (R := fun w b off x => cellsAt w b off (trCells x)) (by decide) tier_elem hs
  match cs, hl with
  | [v0, v1, v2, v3], _ =>
    simp at hx hy hz k1
    subst hx; subst hy; subst hz; subst k1
    exact ⟨⟨x, y, z, ts⟩, a, c, rfl, Rws.ofRows k3, k2⟩
theorem has_plan {w : World} {cs : List Value} (hl : cs.length = 11) (h : shPlan.Has w cs) :
    ∃ (p : Pl) (a a2 : Option Addr) (c c2 : Nat), Value.agg cs.toArray = planV p a c a2 c2 ∧ TsIn w a c p.base.ts ∧ TsIn w a2 c2 p.other.ts ∧ -9223372036854775808 ≤ p.day ∧ p.day ≤ 9223372036854775807 := by
  obtain ⟨⟨x, hx, wx⟩, ⟨y, hy, _⟩, ⟨z, hz, _⟩, h1, h2, _⟩ := h
  match cs, hl with
  | [v0, v1, v2, v3, v4, v5, v6, v7, v8, v9, v10], _ =>
    obtain ⟨t1, a, c, e1, k1⟩ := has_tar (by simp) h1
    obtain ⟨t2, a2, c2, e2, k2⟩ := has_tar (by simp) h2
    simp at hx hy hz e1 e2
    obtain ⟨rfl, rfl, rfl, rfl⟩ := e1
    obtain ⟨rfl, rfl, rfl, rfl⟩ := e2
    subst hx; subst hy; subst hz
    exact ⟨⟨x, y, z, t1, t2⟩, a, a2, c, c2, rfl, k1, k2, i64_range wx⟩
theorem open_plan {H : Type} {enc : TypeId × Value → H} {P : Program} {W : World} {r : Reach} {base : Nat} {t : TypeId} {v : Value} {d : DataW H} {p : List MemPlace} (hf : fitsB P shPlan t = true) (hc : P.cellsOf t = 11) (hv : Value.okWide P W r base t v) (h : DataW.Trod enc P W 0 (fun _ => true) true t v d p) :
    ∃ (q : Pl) (a a2 : Option Addr) (c c2 : Nat), v = planV q a c a2 c2 ∧ TsIn W a c q.base.ts ∧ TsIn W a2 c2 q.other.ts ∧ -9223372036854775808 ≤ q.day ∧ q.day ≤ 9223372036854775807 := by
  obtain ⟨cs, rfl, hs⟩ := okWide_str hf hv
  have hh := open_sh hf h
  obtain ⟨q, a, a2, c, c2, e, k⟩ := has_plan (cs := cs.toList) (by simp; omega) (by simpa [Value.cells] using hh)
  exact ⟨q, a, a2, c, c2, by simpa using e, k⟩
theorem open_tar {H : Type} {enc : TypeId × Value → H} {P : Program} {W : World} {r : Reach} {base : Nat} {t : TypeId} {v : Value} {d : DataW H} {p : List MemPlace} (hf : fitsB P shTar t = true) (hc : P.cellsOf t = 4) (hv : Value.okWide P W r base t v) (h : DataW.Trod enc P W 0 (fun _ => true) true t v d p) :
    ∃ (q : Tar) (a : Option Addr) (c : Nat), v = tarV q a c ∧ TsIn W a c q.ts := by
  obtain ⟨cs, rfl, hs⟩ := okWide_str hf hv
  have hh := open_sh hf h
  obtain ⟨q, a, c, e, k⟩ := has_tar (cs := cs.toList) (by simp; omega) (by simpa [Value.cells] using hh)
  refine ⟨q, a, c, ?_, k⟩
  unfold tarV
  congr 1
  apply Array.ext'
  rw [e]
end Go.Proofs.Ytecmpjccdhmeeaa
end
section
/- What the rows of the plans' bytes need, together. -/
namespace Go.Proofs.Ytecmpjccdhmeeaa
end Go.Proofs.Ytecmpjccdhmeeaa
end
