import Derived.Test.YtjcabccolkmlmaaMTree1
import Derived.Shelf.SlIterI.Nil
import Derived.Shelf.SortM.Plain
import Derived.Shelf.SortM.SortNone
import Derived.Ground.GgzProg
import Derived.Ground.SlgmProg
import Derived.WideShapes
import Derived.Test.YtjcabccolkmlmaaMTree3
import Derived.Test.YtjcabccolkmlmaaProg
import Derived.Test.YtjcabccolkmlmaaMTree2
set_option linter.unusedVariables false
section
/- 'slices.Sorted(maps.Keys(m))' of a map with int keys, out of the library's contracts. No program in sight. -/
namespace Go.Proofs.Ytjcabccolkmlmaa
open Go.RowKit Go.Maps Go.Sort Go.Shelf Go.MapKept
variable {P : Program}
abbrev R0 : Value → Option (DataW Unit × List MemPlace) := fun _ => some (.nil, [])
def litOf (p : Int × Value) : Lit × DataW Unit := (.int .i64 p.1, .nil)
theorem in64_wf {x : Int} (h : -9223372036854775808 ≤ x ∧ x ≤ 9223372036854775807) : (Lit.int .i64 x).wf = true := by
  have h1 : IntKind.i64.min = -9223372036854775808 := by decide
  have h2 : IntKind.i64.max = 9223372036854775807 := by decide
  simp [Lit.wf, h1, h2]
  omega
theorem MapAt.owns {k : TypeId} (hk : P.underlying k = some (.int .i64)) {w : World} {b : Nat} {m : List (Int × Value)} (h : MapAt w b m) (hr : ∀ p ∈ m, -9223372036854775808 ≤ p.1 ∧ p.1 ≤ 9223372036854775807) (hl : m.length ≤ maxLen) :
    w.ownsMap P k R0 b m.length (.map ((m.map litOf).foldr DataW.insert [])) := by
  obtain ⟨es, clock, hb, hs, hm⟩ := h
  have hlen : es.size = m.length := by have := congrArg List.length hm; simpa using this
  have hrd : ∀ x ∈ es.toList, ∃ p ∈ m, x.key = .int .i64 p.1 ∧ WideElems.rd P k R0 x = some (litOf p) := by
    intro x hx
    have : (x.key, x.val) ∈ m.map kvOf := hm ▸ List.mem_map.2 ⟨x, hx, rfl⟩
    obtain ⟨p, hp, hpe⟩ := List.mem_map.1 this
    have hkey : x.key = .int .i64 p.1 := (congrArg Prod.fst hpe).symm
    refine ⟨p, hp, hkey, ?_⟩
    have := keyOf_int_mk hk (in64_wf (hr p hp))
    unfold WideElems.rd
    rw [hkey, this]
    rfl
  refine ⟨es, clock, hb, ⟨by omega, hs, fun x hx => ?_⟩, by omega, ?_⟩
  · obtain ⟨p, _, _, h⟩ := hrd x hx
    exact ⟨_, h⟩
  · have : es.toList.map (WideElems.rg P k R0) = m.map litOf := by
      have key : ∀ (l : List MapEntry) (m : List (Int × Value)), l.map (fun e => (e.key, e.val)) = m.map kvOf → (∀ x ∈ l, ∃ p : Int × Value, x.key = .int .i64 p.1 ∧ WideElems.rd P k R0 x = some (litOf p)) → l.map (WideElems.rg P k R0) = m.map litOf := by
        intro l
        induction l with
        | nil => intro m h _; cases m with | nil => rfl | cons _ _ => cases h
        | cons x l ih =>
          intro m h hx
          cases m with
          | nil => cases h
          | cons q m =>
            injection h with h1 h2
            obtain ⟨p, e1, e2⟩ := hx x (List.mem_cons_self ..)
            have e3 : x.key = .int .i64 q.1 := congrArg Prod.fst h1
            have e4 : p.1 = q.1 := kv_inj (e1.symm.trans e3)
            rw [List.map_cons, List.map_cons, ih m h2 fun y hy => hx y (List.mem_cons_of_mem _ hy)]
            congr 1
            unfold WideElems.rg
            rw [e2]
            show litOf p = litOf q
            unfold litOf
            rw [e4]
      exact key _ _ hm fun x hx => by obtain ⟨p, _, h1, h2⟩ := hrd x hx; exact ⟨p, h1, h2⟩
    rw [this]
theorem intKeys_perm (m : List (Int × Value)) : (intKeys (.map ((m.map litOf).foldr DataW.insert []) : DataW Unit)).Perm (m.map (·.1)) := by
  show (((m.map litOf).foldr DataW.insert []).map fun p : Lit × DataW Unit => Go.intOf p.1).Perm _
  refine ((WideShapes.sorted_perm (m.map litOf)).map _).trans ?_
  rw [List.map_map]
  exact List.Perm.refl _
/-- The keys, sorted. -/
def sortK (m : List (Int × Value)) : List Int := (m.map (·.1)).mergeSort leI
theorem Own.ofRow {w : World} {base : Nat} {e : TypeId} {size : Nat} {v : Value} {n : Nat} {xs : List Value} (h : w.ownsRow base e size v n xs) : Own w base e size v n xs := by
  refine ⟨h.1, h.2.elim .inl fun ⟨g, cap, cur, h1, h2, h3, h4, h5, h6, h7⟩ => .inr ⟨g, 0, cap, cur, h1, h2, h3, h4, h5, by omega, by rw [List.drop_zero]; exact h7⟩⟩
section
variable {ρK ρS ρQ : Ren}
theorem sortK_calls (LK : SlLaysZI.n10 P ρK) (LS : SlLaysZI.n6 P ρS) (hk : P.underlying (ρK.t 26) = some (.int .i64)) (hsort : AnyZI.SortsIn P ρS Fence.wide 4)
    (e9 : ∀ args w, (callFunc (ρS.f 9) args).run P w = .ok (.enter (ρS.f 9) args) w) (eg : ∀ args w, (callFunc (ρK.f 10) args).run P w = .ok (.enter (ρK.f 10) args) w)
    (w : World) (Bm b : Nat) (m : List (Int × Value)) (hBm : Bm < w.heap.size) (hc : w.cell? ⟨Bm, 0, none⟩ = some (.map (some b))) (h : MapAt w b m)
    (hr : ∀ p ∈ m, -9223372036854775808 ≤ p.1 ∧ p.1 ≤ 9223372036854775807) (hl : m.length ≤ 1000000) :
    Calls P (ρS.f 6) #[.func (.func (ρK.f 10)) #[] #[.pointer (some ⟨Bm, 0, none⟩)]] w fun e w' => ∃ a c, e = .returned (.slice a (sortK m).length c) ∧
      Own w' w.heap.size (ρS.t 26) 1 (.slice a (sortK m).length c) (sortK m).length ((sortK m).map (Value.int .i64)) ∧ (a = none ↔ sortK m = []) ∧ Below w.heap.size w w' := by
  have hlm : m.length ≤ maxLen := by unfold maxLen; omega
  have hown := h.owns hk hr hlm
  have hsz : Maps.size (.map ((m.map litOf).foldr DataW.insert []) : DataW Unit) = m.length := by
    show ((m.map litOf).foldr DataW.insert []).length = _
    rw [length_sorted]; simp
  have hseq : SeqGives Fence.wide 2 P (ρK.f 10) #[.pointer (some ⟨Bm, 0, none⟩)] encZ (fun ss => ss.Perm (intKeys (.map ((m.map litOf).foldr DataW.insert []) : DataW Unit))) m.length w := by
    have := AnyZI.keys_gives (ρ := ρK) LK Fence.wide 2 trivial rfl (by omega) Bm b m.length (.map ((m.map litOf).foldr DataW.insert []) : DataW Unit) w hBm hc hown
    rw [hsz] at this
    exact this
  have cS := AnyZI.sorted_in LS Fence.wide 5 trivial trivial trivial trivial rfl (by omega) (by exact hsort) e9 (ρK.f 10) #[.pointer (some ⟨Bm, 0, none⟩)] trivial eg _ m.length hlm (by omega) w hseq
  refine ((callsIn_wide (n := 5)).1 cS).mono ?_
  rintro e w' ⟨v, ss, rfl, hS, hrow, hnil, hb⟩
  have hp : ss.Perm (m.map (·.1)) := hS.trans (intKeys_perm m)
  have hms : ss.mergeSort (fun x y => decide (x ≤ y)) = sortK m := mergeSort_of_perm_i hp
  rw [hms] at hrow
  have hlen : ss.length = (sortK m).length := by rw [← hms]; exact (List.mergeSort_perm ss _).length_eq.symm
  rw [hlen] at hrow
  have ho := Own.ofRow hrow
  obtain ⟨a, c, rfl⟩ := ho.isSlice
  refine ⟨a, c, rfl, ho, ?_, hb⟩
  have hss : ss = [] ↔ sortK m = [] := by
    rw [← List.length_eq_zero_iff, ← List.length_eq_zero_iff, hlen]
  rw [← hss, ← hnil]
  constructor
  · rintro rfl
    rcases ho.2 with ⟨h1, h2⟩ | ⟨g, off, cap, cur, h1, _⟩
    · rw [h1]
    · cases h1
  · intro e; injection e
end
end Go.Proofs.Ytjcabccolkmlmaa
end
section
/- The tree of layer 13, as a function: nodes, errors, paths. No program in sight. -/
namespace Go.Proofs.Ytjcabccolkmlmaa
open Go.RowKit
structure Dn where
  par : Int
  knd : Int
  lim : Int
  cls : Bool
abbrev DT := Int → Dn
def dn0 : Dn := ⟨0, 0, 0, false⟩
def There (D : DT) (k : Int) : Prop := 1 ≤ k ∧ k ≤ 32 ∧ 0 < (D k).knd
instance (D : DT) (k : Int) : Decidable (There D k) := by unfold There; infer_instance
def ndV (k : Int) (d : Dn) : Value := .agg #[.int .i64 k, .int .i64 d.par, .int .i64 d.knd, .int .i64 d.lim, .bool d.cls]
def nd0 : Value := .agg #[.int .i64 0, .int .i64 0, .int .i64 0, .int .i64 0, .bool false]
def nodeD (D : DT) (k : Int) : Option Value := if There D k then some (ndV k (D k)) else none
def getV (D : DT) (k : Int) : Value := if There D k then ndV k (D k) else nd0
def getE (D : DT) (k : Int) : Int := if There D k then 0 else 7
def openE (D : DT) (k : Int) : Int := if There D k then (if (D k).cls = true then 16 else 0) else 7
def LimOk (n : Int) : Prop := -1 ≤ n ∧ n ≤ 9007199254740992
instance (n : Int) : Decidable (LimOk n) := by unfold LimOk; infer_instance
def underE (D : DT) (knd par : Int) : Int := if There D par then (if (D par).knd ≠ knd - 1 then 21 else 0) else 7
def putE (D : DT) (id par knd lim : Int) (cls : Bool) : Int :=
  if id < 1 ∨ id > 32 ∨ ¬ LimOk lim then 1
  else if knd < 1 ∨ knd > 3 ∨ ¬ (par = 0 ↔ knd = 1) then 21
  else if There D id then 8
  else if knd ≠ 1 ∧ underE D knd par ≠ 0 then underE D knd par
  else if knd ≠ 1 ∧ (D par).cls = true ∧ cls = false then 16 else 0
def upD (D : DT) (k : Int) (d : Dn) : DT := fun j => if j = k then d else D j
def putD (D : DT) (id par knd lim : Int) (cls : Bool) : DT := if putE D id par knd lim cls = 0 then upD D id ⟨par, knd, lim, cls⟩ else D
def moveE (D : DT) (id par : Int) : Int :=
  if ¬ There D id then 7 else if (D id).cls = true then 16 else if (D id).knd = 1 then 21 else if underE D (D id).knd par ≠ 0 then underE D (D id).knd par
  else if (D par).cls = true then 16 else if (D id).par = par then 8 else 0
def moveD (D : DT) (id par : Int) : DT := if moveE D id par = 0 then upD D id { D id with par := par } else D
def BusyAt (D : DT) (id k : Int) : Prop := There D k ∧ (D k).par = id ∧ (D k).cls = false
instance (D : DT) (id k : Int) : Decidable (BusyAt D id k) := by unfold BusyAt; infer_instance
def Busy (D : DT) (id : Int) : Prop := ∃ i, i < 32 ∧ BusyAt D id ((i : Nat) + 1 : Int)
instance (D : DT) (id : Int) : Decidable (Busy D id) := by unfold Busy; infer_instance
theorem busy_iff {D : DT} {id : Int} : Busy D id ↔ ∃ k, BusyAt D id k := by
  constructor
  · rintro ⟨i, _, h⟩; exact ⟨_, h⟩
  · rintro ⟨k, h⟩
    obtain ⟨⟨h1, h2, h3⟩, h4⟩ := h
    refine ⟨(k - 1).toNat, by omega, ?_⟩
    rw [show (((k - 1).toNat : Nat) : Int) + 1 = k by omega]
    exact ⟨⟨h1, h2, h3⟩, h4⟩
def closeE (D : DT) (id : Int) : Int := if ¬ There D id then 7 else if (D id).cls = true then 16 else if Busy D id then 17 else 0
def closeD (D : DT) (id : Int) : DT := if closeE D id = 0 then upD D id { D id with cls := true } else D
def limE (D : DT) (id lim : Int) : Int := if ¬ There D id then 7 else if ¬ LimOk lim then 1 else if (D id).cls = true then 16 else 0
def limD (D : DT) (id lim : Int) : DT := if limE D id lim = 0 then upD D id { D id with lim := lim } else D
/-- What all trees that come up are. -/
structure TWf (D : DT) : Prop where
  knd : ∀ k, There D k → (D k).knd ≤ 3
  org : ∀ k, There D k → ((D k).par = 0 ↔ (D k).knd = 1)
  up : ∀ k, There D k → (D k).knd ≠ 1 → There D (D k).par ∧ (D (D k).par).knd = (D k).knd - 1
theorem twf0 : TWf fun _ => dn0 := ⟨fun _ h => by have := h.2.2; simp [dn0] at this, fun _ h => by have := h.2.2; simp [dn0] at this, fun _ h => by have := h.2.2; simp [dn0] at this⟩
theorem upD_same (D : DT) (k : Int) (d : Dn) : upD D k d k = d := if_pos rfl
theorem upD_other (D : DT) {k j : Int} (d : Dn) (h : j ≠ k) : upD D k d j = D j := if_neg h
theorem there_up {D : DT} {k : Int} {d : Dn} (hk : 1 ≤ k ∧ k ≤ 32) (hd : 0 < d.knd) (j : Int) : There (upD D k d) j ↔ j = k ∨ There D j := by
  unfold There
  by_cases h : j = k
  · subst h; rw [upD_same]; exact ⟨fun _ => .inl rfl, fun _ => ⟨hk.1, hk.2, hd⟩⟩
  · rw [upD_other _ _ h]; exact ⟨.inr, fun q => q.resolve_left h⟩
theorem underE_zero {D : DT} {knd par : Int} (h : underE D knd par = 0) : There D par ∧ (D par).knd = knd - 1 := by
  unfold underE at h
  split at h
  · rename_i h1
    split at h
    · cases h
    · rename_i h2; exact ⟨h1, Decidable.byContradiction h2⟩
  · cases h
theorem putE_zero {D : DT} {id par knd lim : Int} {cls : Bool} (h : putE D id par knd lim cls = 0) :
    (1 ≤ id ∧ id ≤ 32) ∧ LimOk lim ∧ (1 ≤ knd ∧ knd ≤ 3) ∧ (par = 0 ↔ knd = 1) ∧ ¬ There D id ∧ (knd ≠ 1 → There D par ∧ (D par).knd = knd - 1 ∧ ¬ ((D par).cls = true ∧ cls = false)) := by
  unfold putE at h
  split at h
  · cases h
  rename_i h1
  split at h
  · cases h
  rename_i h2
  split at h
  · cases h
  rename_i h3
  split at h
  · rename_i h4; exact absurd h h4.2
  rename_i h4
  split at h
  · cases h
  rename_i h5
  refine ⟨⟨?_, ?_⟩, Decidable.byContradiction fun q => h1 (.inr (.inr q)), ⟨?_, ?_⟩, Decidable.byContradiction fun q => h2 (.inr (.inr q)), h3, fun hk => ?_⟩
  · exact Int.not_lt.1 fun q => h1 (.inl q)
  · exact Int.not_lt.1 fun q => h1 (.inr (.inl q))
  · exact Int.not_lt.1 fun q => h2 (.inl q)
  · exact Int.not_lt.1 fun q => h2 (.inr (.inl q))
  · have := underE_zero (Decidable.byContradiction fun q => h4 ⟨hk, q⟩)
    exact ⟨this.1, this.2, fun q => h5 ⟨hk, q⟩⟩
theorem moveE_zero {D : DT} {id par : Int} (h : moveE D id par = 0) : There D id ∧ (D id).cls = false ∧ (D id).knd ≠ 1 ∧ There D par ∧ (D par).knd = (D id).knd - 1 ∧ (D par).cls = false ∧ (D id).par ≠ par := by
  unfold moveE at h
  split at h
  · cases h
  rename_i h1
  split at h
  · cases h
  rename_i h2
  split at h
  · cases h
  rename_i h3
  split at h
  · rename_i h4; exact absurd h h4
  rename_i h4
  split at h
  · cases h
  rename_i h5
  split at h
  · cases h
  rename_i h6
  have := underE_zero (Decidable.byContradiction h4)
  exact ⟨Decidable.byContradiction h1, by simpa using h2, h3, this.1, this.2, by simpa using h5, h6⟩
theorem closeE_zero {D : DT} {id : Int} (h : closeE D id = 0) : There D id ∧ (D id).cls = false ∧ ¬ Busy D id := by
  unfold closeE at h
  split at h
  · cases h
  rename_i h1
  split at h
  · cases h
  rename_i h2
  split at h
  · cases h
  rename_i h3
  exact ⟨Decidable.byContradiction h1, by simpa using h2, h3⟩
theorem limE_zero {D : DT} {id lim : Int} (h : limE D id lim = 0) : There D id ∧ LimOk lim ∧ (D id).cls = false := by
  unfold limE at h
  split at h
  · cases h
  rename_i h1
  split at h
  · cases h
  rename_i h2
  split at h
  · cases h
  rename_i h3
  exact ⟨Decidable.byContradiction h1, Decidable.byContradiction h2, by simpa using h3⟩
/-- A node that keeps its kind and its place's kind keeps the tree. -/
theorem TWf.same {D : DT} (h : TWf D) {k : Int} {d : Dn} (hk : There D k) (hd : d.knd = (D k).knd) (h1 : d.par = 0 ↔ d.knd = 1) (h2 : d.knd ≠ 1 → There D d.par ∧ (D d.par).knd = d.knd - 1) : TWf (upD D k d) := by
  have hp : 0 < d.knd := by rw [hd]; exact hk.2.2
  have ht := there_up (D := D) ⟨hk.1, hk.2.1⟩ hp
  have hthere : ∀ j, There (upD D k d) j ↔ There D j := fun j => (ht j).trans ⟨fun q => q.elim (fun e => e ▸ hk) id, .inr⟩
  have hkn : ∀ j, (upD D k d j).knd = (D j).knd := fun j => by
    by_cases e : j = k
    · subst e; rw [upD_same, hd]
    · rw [upD_other _ _ e]
  refine ⟨fun j hj => by rw [hkn]; exact h.knd j ((hthere j).1 hj), fun j hj => ?_, fun j hj hn => ?_⟩
  · by_cases e : j = k
    · subst e; rw [upD_same]; exact h1
    · rw [upD_other _ _ e]; exact h.org j ((hthere j).1 hj)
  · by_cases e : j = k
    · subst e; rw [upD_same] at hn ⊢
      rw [hthere, hkn]; exact h2 hn
    · rw [upD_other _ _ e] at hn ⊢
      rw [hthere, hkn]; exact h.up j ((hthere j).1 hj) hn
theorem TWf.put {D : DT} (h : TWf D) (id par knd lim : Int) (cls : Bool) : TWf (putD D id par knd lim cls) := by
  unfold putD
  split
  · rename_i he
    obtain ⟨hid, hl, hk, ho, hn, hu⟩ := putE_zero he
    have ht := there_up (D := D) (k := id) (d := ⟨par, knd, lim, cls⟩) hid (by show 0 < knd; omega)
    have hne : ∀ j, There D j → j ≠ id := fun j hj e => hn (e ▸ hj)
    refine ⟨fun j hj => ?_, fun j hj => ?_, fun j hj hkn => ?_⟩
    · rcases (ht j).1 hj with rfl | q
      · rw [upD_same]; exact hk.2
      · rw [upD_other _ _ (hne j q)]; exact h.knd j q
    · rcases (ht j).1 hj with rfl | q
      · rw [upD_same]; exact ho
      · rw [upD_other _ _ (hne j q)]; exact h.org j q
    · rcases (ht j).1 hj with rfl | q
      · rw [upD_same] at hkn ⊢
        obtain ⟨u1, u2, _⟩ := hu hkn
        show There _ par ∧ (upD D j _ par).knd = knd - 1
        rw [upD_other _ _ (hne par u1)]
        exact ⟨(ht par).2 (.inr u1), u2⟩
      · rw [upD_other _ _ (hne j q)] at hkn ⊢
        obtain ⟨u1, u2⟩ := h.up j q hkn
        rw [upD_other _ _ (hne _ u1)]
        exact ⟨(ht _).2 (.inr u1), u2⟩
  · exact h
theorem TWf.move {D : DT} (h : TWf D) (id par : Int) : TWf (moveD D id par) := by
  unfold moveD
  split
  · rename_i he
    obtain ⟨h1, h2, h3, h4, h5, h6, h7⟩ := moveE_zero he
    refine h.same h1 rfl ⟨fun (e : par = 0) => ?_, fun e => absurd e h3⟩ fun _ => ⟨h4, h5⟩
    have := h4.1
    omega
  · exact h
theorem TWf.close {D : DT} (h : TWf D) (id : Int) : TWf (closeD D id) := by
  unfold closeD
  split
  · rename_i he
    obtain ⟨h1, h2, h3⟩ := closeE_zero he
    exact h.same h1 rfl (h.org id h1) (h.up id h1)
  · exact h
theorem TWf.limit {D : DT} (h : TWf D) (id lim : Int) : TWf (limD D id lim) := by
  unfold limD
  split
  · rename_i he
    obtain ⟨h1, h2, h3⟩ := limE_zero he
    exact h.same h1 rfl (h.org id h1) (h.up id h1)
  · exact h
/-- From the top down. -/
def pathN (D : DT) : Nat → Int → List Int
  | 0, _ => []
  | n + 1, k => if There D k then pathN D n (D k).par ++ [k] else []
def pathD (D : DT) (k : Int) : List Int := pathN D 3 k
theorem pathN_no {D : DT} {n : Nat} {k : Int} (h : ¬ There D k) : pathN D n k = [] := by
  cases n with
  | zero => rfl
  | succ n => unfold pathN; rw [if_neg h]
theorem pathN_eq {D : DT} (h : TWf D) : ∀ (n m : Nat) (k : Int), (There D k → (D k).knd ≤ n) → (There D k → (D k).knd ≤ m) → pathN D n k = pathN D m k
  | 0, m, k, h1, _ => by
    by_cases ht : There D k
    · have := h1 ht; have := ht.2.2; omega
    · rw [pathN_no ht, pathN_no ht]
  | n + 1, 0, k, _, h2 => by
    by_cases ht : There D k
    · have := h2 ht; have := ht.2.2; omega
    · rw [pathN_no ht, pathN_no ht]
  | n + 1, m + 1, k, h1, h2 => by
    by_cases ht : There D k
    · unfold pathN
      rw [if_pos ht, if_pos ht]
      congr 1
      have k1 := h1 ht
      have k2 := h2 ht
      refine pathN_eq h n m _ (fun hp => ?_) (fun hp => ?_)
      · by_cases e : (D k).knd = 1
        · have := (h.org k ht).2 e; have := hp.1; omega
        · have := (h.up k ht e).2; omega
      · by_cases e : (D k).knd = 1
        · have := (h.org k ht).2 e; have := hp.1; omega
        · have := (h.up k ht e).2; omega
    · rw [pathN_no ht, pathN_no ht]
theorem pathD_step {D : DT} (h : TWf D) {k : Int} (ht : There D k) : pathD D k = pathD D (D k).par ++ [k] := by
  have e1 : pathD D k = pathN D 4 k := pathN_eq h 3 4 k (fun ht => h.knd k ht) (fun ht => by have := h.knd k ht; omega)
  rw [e1]
  show (if There D k then pathN D 3 (D k).par ++ [k] else []) = _
  rw [if_pos ht]
  rfl
theorem pathD_no {D : DT} {k : Int} (h : ¬ There D k) : pathD D k = [] := pathN_no h
theorem not_there_zero (D : DT) : ¬ There D 0 := fun h => by have := h.1; omega
/-- A path's nodes: there, of the kinds 1, 2, 3 in their order. -/
theorem pathD_len {D : DT} (h : TWf D) : ∀ (n : Nat) (k : Int), There D k → (D k).knd = n → (pathD D k).length = n ∧ ∀ (i : Nat) (x : Int), (pathD D k)[i]? = some x → There D x ∧ (D x).knd = i + 1 := by
  intro n
  induction n with
  | zero => intro k ht hk; have := ht.2.2; omega
  | succ n ih =>
    intro k ht hk
    rw [pathD_step h ht]
    by_cases e : (D k).knd = 1
    · have hp : ¬ There D (D k).par := by rw [(h.org k ht).2 e]; exact not_there_zero D
      rw [pathD_no hp, List.nil_append]
      refine ⟨by simp; omega, fun i x hx => ?_⟩
      cases i with
      | zero => cases hx; exact ⟨ht, by omega⟩
      | succ i => cases hx
    · obtain ⟨u1, u2⟩ := h.up k ht e
      obtain ⟨k1, k2⟩ := ih _ u1 (by omega)
      refine ⟨by simp [k1], fun i x hx => ?_⟩
      by_cases hi : i < (pathD D (D k).par).length
      · rw [List.getElem?_append_left hi] at hx
        exact k2 i x hx
      · rw [List.getElem?_append_right (by omega)] at hx
        have : i - (pathD D (D k).par).length = 0 := by
          have := (List.getElem?_eq_some_iff.1 hx).1
          simp at this
          omega
        rw [this] at hx
        cases hx
        exact ⟨ht, by omega⟩
theorem pathD_nodup {D : DT} (h : TWf D) (k : Int) : (pathD D k).Nodup := by
  by_cases ht : There D k
  · obtain ⟨n, hn⟩ := Int.eq_ofNat_of_zero_le (show 0 ≤ (D k).knd by have := ht.2.2; omega)
    obtain ⟨_, h2⟩ := pathD_len h n k ht hn
    rw [List.nodup_iff_pairwise_ne, List.pairwise_iff_getElem]
    intro i j hi hj hij he
    have a := (h2 i _ (List.getElem?_eq_getElem hi)).2
    have b := (h2 j _ (List.getElem?_eq_getElem hj)).2
    rw [he] at a
    omega
  · rw [pathD_no ht]; exact List.nodup_nil
theorem pathD_last {D : DT} (h : TWf D) {k : Int} (ht : There D k) : k ∈ pathD D k := by rw [pathD_step h ht]; simp
/-- All ids; those below a node. -/
def ids32 : List Int := (List.range 32).map fun (i : Nat) => (i : Int) + 1
def idsD (D : DT) : List Int := ids32.filter fun k => decide (There D k)
def belowD (D : DT) (k : Int) : List Int := (idsD D).filter fun i => decide (k ∈ pathD D i)
theorem mem_ids {D : DT} {k : Int} : k ∈ idsD D ↔ There D k := by
  unfold idsD ids32
  rw [List.mem_filter, List.mem_map]
  simp only [List.mem_range, decide_eq_true_eq]
  constructor
  · exact fun q => q.2
  · intro q
    obtain ⟨h1, h2, h3⟩ := id q
    exact ⟨⟨(k - 1).toNat, by omega, by omega⟩, q⟩
theorem ids32_sorted : ids32.Pairwise (· < ·) := by
  unfold ids32
  rw [List.pairwise_map]
  exact List.pairwise_lt_range.imp fun h => by omega
theorem idsD_sorted (D : DT) : (idsD D).Pairwise (· < ·) := ids32_sorted.filter _
theorem mem_below {D : DT} {k i : Int} : i ∈ belowD D k ↔ There D i ∧ k ∈ pathD D i := by
  unfold belowD
  rw [List.mem_filter, mem_ids]
  simp
theorem nodup_bound : ∀ (n : Nat) (l : List Int), l.Nodup → (∀ x ∈ l, 1 ≤ x ∧ x ≤ n) → l.length ≤ n
  | 0, l, _, h => by
    cases l with
    | nil => simp
    | cons x r => have := h x (List.mem_cons_self ..); omega
  | n + 1, l, hn, h => by
    by_cases hm : ((n : Int) + 1) ∈ l
    · have h1 := List.length_erase_of_mem hm
      have h2 := nodup_bound n (l.erase ((n : Int) + 1)) (hn.erase _) fun x hx => by
        have h3 := h x (List.mem_of_mem_erase hx)
        have h4 : x ≠ (n : Int) + 1 := fun e => by
          subst e
          exact (List.Nodup.mem_erase_iff hn).1 hx |>.1 rfl
        omega
      omega
    · have := nodup_bound n l hn fun x hx => by
        have h3 := h x hx
        have : x ≠ (n : Int) + 1 := fun e => hm (e ▸ hx)
        omega
      omega
end Go.Proofs.Ytjcabccolkmlmaa
end
section
/- Conditions of functions, printed by a program of this claim's own (vcgen.py) out of the loaded code; each is proved to be enough. -/
set_option maxRecDepth 100000
namespace Go.Proofs.Ytjcabccolkmlmaa
open Go.RowKit
namespace GSl
def env : Env := ⟨[(3, ⟨.int .i64, 1, .int .i64 0, 8, [.int .i64]⟩), (23, ⟨.slice 3, 1, .slice none 0 0, 24, [.slice]⟩)], [(118, [.lf (.int .i64)])], []⟩
theorem ty3 : TyOk Try.prog 3 ⟨.int .i64, 1, .int .i64 0, 8, [.int .i64]⟩ := tyok (by kernel_rfl) (by kernel_rfl)
theorem ty23 : TyOk Try.prog 23 ⟨.slice 3, 1, .slice none 0 0, 24, [.slice]⟩ := tyok (by kernel_rfl) (by kernel_rfl)
theorem fn118 : FnOk Try.prog 118 := fnok Try.func118 (by kernel_rfl) (by kernel_rfl)
theorem envOk : EOk Try.prog env := ⟨(by simp only [env, List.forall_mem_cons, List.not_mem_nil, false_implies, implies_true, and_true]; exact ⟨ty3, ty23⟩), (by simp only [env, List.forall_mem_cons, List.not_mem_nil, false_implies, implies_true, and_true]; exact fn118), by kernel_rfl, (fun _ h => by cases h)⟩
/-- slices.Contains[[]int,int] -/
def contains_vc (a0 : Option Addr) (n0 : Nat) (c0 : Nat) (x1 : Int) (w : World) (K : Value → World → Prop) : Prop :=
  Calls Try.prog 118 #[.slice a0 n0 c0, .int .i64 x1] w fun e w_2 => KeepG [] w w_2 ∧
  ∃ (x7 : Int),
  e = .returned (.int .i64 x7) ∧
  K (.bool (decide (x7 ≥ 0))) w_2
def contains_notes : Notes := ⟨[], [], []⟩
theorem contains_calls (a0 : Option Addr) (n0 : Nat) (c0 : Nat) (x1 : Int) (w : World) (K : Value → World → Prop) (h : contains_vc a0 n0 c0 x1 w K) : Calls Try.prog 96 #[.slice a0 n0 c0, .int .i64 x1] w fun e w' => ∃ v, e = .returned v ∧ K v w' :=
  calls_of_fvc envOk Try.func96 contains_notes [] [.slice a0 n0 c0, .int .i64 x1] w K (use_vc h (by as_aux_lemma => kernel_rfl))
/-- slices.Index[[]int,int] -/
def index_vc (a0 : Option Addr) (n0 : Nat) (c0 : Nat) (x1 : Int) (w : World) (K : Value → World → Prop) : Prop :=
  ∃ (I : Int → World → Prop) (μ : Int → World → Nat),
  I 0 w ∧
  ∀ (x8 : Int) (w_2 : World), I x8 w_2 →
  br (decide (x8 < ((n0 : Nat) : Int))) (
    withP a0 fun g14 o14 =>
    (0 : Int) ≤ x8 ∧ x8 < (((n0 : Nat) : Int) : Int) ∧
    ∃ (x15 : Int), w_2.cell? ⟨g14, o14 + x8.toNat * 1, none⟩ = some (.int .i64 x15) ∧
    br (decide (x1 = x15)) (
      K (.int .i64 x8) w_2
    ) (
      I (IntKind.i64.wrap (x8 + 1)) w_2 ∧ μ (IntKind.i64.wrap (x8 + 1)) w_2 < μ x8 w_2
    )
  ) (
    K (.int .i64 (-1)) w_2
  )
def index_notes : Notes := ⟨[], [(2, ⟨[(8, .lf (.int .i64))], [], [9, 10, 5, 11, 12, 13, 14, 15, 16, 17, 4, 18, 8], []⟩)], []⟩
theorem index_calls (a0 : Option Addr) (n0 : Nat) (c0 : Nat) (x1 : Int) (w : World) (K : Value → World → Prop) (h : index_vc a0 n0 c0 x1 w K) : Calls Try.prog 118 #[.slice a0 n0 c0, .int .i64 x1] w fun e w' => ∃ v, e = .returned v ∧ K v w' :=
  calls_of_fvc envOk Try.func118 index_notes [] [.slice a0 n0 c0, .int .i64 x1] w K (use_vc h (by as_aux_lemma => kernel_rfl))
/-- slices.Reverse[[]int,int] -/
def reverse_vc (a0 : Option Addr) (n0 : Nat) (c0 : Nat) (w : World) (K : Value → World → Prop) : Prop :=
  ∃ (I : Int → Int → World → Prop) (μ : Int → Int → World → Nat),
  I 0 (IntKind.i64.wrap (((n0 : Nat) : Int) - 1)) w ∧
  ∀ (x2 : Int) (x3 : Int) (w_2 : World), I x2 x3 w_2 →
  br (decide (x2 < x3)) (
    drewO w_2 fun w_3 =>
    withP a0 fun g20 o20 =>
    (0 : Int) ≤ x3 ∧ x3 < (((n0 : Nat) : Int) : Int) ∧
    ∃ (x21 : Int), w_3.cell? ⟨g20, o20 + x3.toNat * 1, none⟩ = some (.int .i64 x21) ∧
    withP a0 fun g24 o24 =>
    (0 : Int) ≤ x2 ∧ x2 < (((n0 : Nat) : Int) : Int) ∧
    ∃ (x25 : Int), w_3.cell? ⟨g24, o24 + x2.toNat * 1, none⟩ = some (.int .i64 x25) ∧
    withP a0 fun g26 o26 =>
    (0 : Int) ≤ x2 ∧ x2 < (((n0 : Nat) : Int) : Int) ∧
    stO [] w_3 g26 (o26 + x2.toNat * 1) [.int .i64 x21] fun w_4 =>
    withP a0 fun g27 o27 =>
    (0 : Int) ≤ x3 ∧ x3 < (((n0 : Nat) : Int) : Int) ∧
    stO [] w_4 g27 (o27 + x3.toNat * 1) [.int .i64 x25] fun w_5 =>
    I (IntKind.i64.wrap (x2 + 1)) (IntKind.i64.wrap (x3 - 1)) w_5 ∧ μ (IntKind.i64.wrap (x2 + 1)) (IntKind.i64.wrap (x3 - 1)) w_5 < μ x2 x3 w_2
  ) (
    K (.tuple #[]) w_2
  )
def reverse_notes : Notes := ⟨[(3, ⟨[0, 0, 0, 0, 0, 0, 48, 112, 0, 0, 768, 1792, 4083, 8179, 16383, 32767], [13, 15], [0, 1, 2, 3, 4, 5, 6, 7, 8, 9, 10, 11, 12, 14]⟩)], [(1, ⟨[(2, .lf (.int .i64)), (3, .lf (.int .i64))], [], [7, 8, 9, 14, 15, 16, 17, 18, 19, 20, 21, 22, 23, 24, 25, 26, 27, 10, 11, 12, 13, 2, 3], []⟩)], []⟩
theorem reverse_calls (a0 : Option Addr) (n0 : Nat) (c0 : Nat) (w : World) (K : Value → World → Prop) (h : reverse_vc a0 n0 c0 w K) : Calls Try.prog 95 #[.slice a0 n0 c0] w fun e w' => ∃ v, e = .returned v ∧ K v w' :=
  calls_of_fvc envOk Try.func95 reverse_notes [] [.slice a0 n0 c0] w K (use_vc h (by as_aux_lemma => kernel_rfl))
end GSl
end Go.Proofs.Ytjcabccolkmlmaa
end
section
/- Rows of ints. No program in sight. -/
namespace Go.Proofs.Ytjcabccolkmlmaa
open Go.RowKit Go.ChangeShapes
def iV (z : Int) : Value := .int .i64 z
def ints (zs : List Int) : Prop := ∀ z ∈ zs, -9223372036854775808 ≤ z ∧ z ≤ 9223372036854775807
theorem RowAt.int {w : World} {a : Option Addr} {zs : List Int} (h : RowAt w a (zs.map iV)) {k : Nat} (hk : k < zs.length) : ∃ b off, a = some ⟨b, off, none⟩ ∧ w.cell? ⟨b, off + k, none⟩ = some (.int .i64 zs[k]) := by
  rcases h with h | ⟨b, off, ha, h⟩
  · rw [List.map_eq_nil_iff] at h; subst h; simp at hk
  · exact ⟨b, off, ha, h k _ (by rw [List.getElem?_map, List.getElem?_eq_getElem hk]; rfl)⟩
theorem one_iV {zs : List Int} : ∀ u ∈ zs.map iV, u.oneCell' = true := by
  intro u hu
  obtain ⟨x, _, rfl⟩ := List.mem_map.1 hu
  rfl
theorem min_takeI (zs : List Int) (n : Nat) : min (zs.length : Int) (n : Int) = ((zs.take n).length : Int) := by
  rw [List.length_take]; omega
variable {P : Program} {W : World} {H : Type} {enc : TypeId × Value → H}
theorem row_of_ints {a : Addr} {zs : List Int} {len : Nat} (hl : len ≤ zs.length) (hc : ∀ i, i < zs.length → W.cell? (a.add i) = some (.int .i64 (zs.getD i 0))) : (zs.take len).length = len ∧ RowAt W (some a) ((zs.take len).map iV) := by
  refine ⟨by simp; omega, ?_⟩
  cases hz : zs with
  | nil => exact .inl (by simp)
  | cons z0 r =>
    rw [← hz]
    have h0 := hc 0 (by rw [hz]; simp)
    have ha := addr_plain h0
    refine .inr ⟨a.block, a.off, by rw [← ha], fun i v hv => ?_⟩
    rw [List.getElem?_map, List.getElem?_take] at hv
    split at hv
    · rcases hq : zs[i]? with _ | z
      · rw [hq] at hv; cases hv
      · rw [hq] at hv
        simp only [Option.map_some, Option.some.injEq] at hv
        have hi : i < zs.length := (List.getElem?_eq_some_iff.1 hq).1
        have h1 := hc i hi
        rw [ha, Addr.add_lit, List.getD_eq_getElem?_getD, hq] at h1
        rw [← hv]
        exact h1
    · cases hv
theorem open_i64s {t e : TypeId} {v : Value} {d : DataW H} {p : List MemPlace} (ht : P.underlying t = some (.slice e)) (he : P.underlying e = some (.int .i64)) (hc : P.cellsOf e = 1)
    (hv : ∃ a l c, v = .slice a l c) (h : DataW.Trod enc P W 0 (fun _ => true) true t v d p) : ∃ (zs : List Int) (a : Option Addr) (c : Nat), v = .slice a zs.length c ∧ zs.length ≤ c ∧ c ≤ maxLen ∧ RowAt W a (zs.map iV) ∧ ints zs := by
  obtain ⟨a, l, c, rfl⟩ := hv
  obtain ⟨fuel, hf⟩ := h
  rcases open_ints ht he hc hf with ⟨hcs, _⟩ | ⟨x, l', c', zs, hcs, _, hl, hm, hz, _, hcell, hwz⟩
  · simp [Value.cells] at hcs
    obtain ⟨rfl, rfl, rfl⟩ := hcs
    exact ⟨[], none, 0, rfl, Nat.le_refl _, by decide, .inl rfl, fun _ h => by cases h⟩
  · simp [Value.cells] at hcs
    obtain ⟨rfl, rfl, rfl⟩ := hcs
    simp only [if_true] at hz
    obtain ⟨h1, h2⟩ := row_of_ints (len := l) (by omega) hcell
    exact ⟨zs.take l, some x, c, by rw [h1], by rw [h1]; exact hl, hm, h2, fun z hz => i64_range (hwz z (List.mem_of_mem_take hz))⟩
end Go.Proofs.Ytjcabccolkmlmaa
end
section
/- slices.Contains and slices.Reverse at ints; walked. -/
namespace Go.Proofs.Ytjcabccolkmlmaa
open Go.RowKit
theorem slIndex_any (a : Option Addr) (c : Nat) (zs : List Int) (x : Int) (w : World) (h : RowAt w a (zs.map iV)) (hl : zs.length ≤ 1000000) :
    Calls Try.prog 118 #[.slice a zs.length c, .int .i64 x] w fun e w' => (∃ r : Int, e = .returned (.int .i64 r) ∧ (0 ≤ r ↔ x ∈ zs)) ∧ Below w.heap.size w w' := by
  refine (GSl.index_calls a zs.length c x w (fun v w' => (∃ r : Int, v = .int .i64 r ∧ (0 ≤ r ↔ x ∈ zs)) ∧ Below w.heap.size w w') ?_).mono (by rintro e w' ⟨v, rfl, ⟨r, rfl, h⟩, h2⟩; exact ⟨⟨r, rfl, h⟩, h2⟩)
  unfold GSl.index_vc
  refine ⟨fun y wx => ∃ i : Nat, y = i ∧ i ≤ zs.length ∧ x ∉ zs.take i ∧ wx = w, fun y _ => zs.length - y.toNat, ⟨0, rfl, by omega, by simp, rfl⟩, ?_⟩
  rintro y wx ⟨i, rfl, hi, hno, rfl⟩
  refine br_dec (fun hlt => ?_) fun hge => ?_
  · have hil : i < zs.length := by omega
    obtain ⟨b, off, rfl, hc⟩ := h.int hil
    have htk : zs.take (i + 1) = zs.take i ++ [zs[i]] := by rw [List.take_add_one, List.getElem?_eq_getElem hil]; rfl
    refine ⟨by omega, by omega, zs[i], by rw [Int.toNat_natCast, Nat.mul_one]; exact hc, br_dec (fun he => ?_) fun he => ?_⟩
    · refine ⟨⟨_, rfl, fun _ => ?_, fun _ => by omega⟩, Bs.refl _⟩
      rw [he]; exact List.getElem_mem hil
    · rw [wr64 (by omega) (by omega)]
      refine ⟨⟨i + 1, by omega, by omega, ?_, rfl⟩, by dsimp only; omega⟩
      rw [htk, List.mem_append]
      rintro (h1 | h1)
      · exact hno h1
      · rw [List.mem_singleton] at h1; exact he h1
  · obtain rfl : i = zs.length := by omega
    rw [List.take_length] at hno
    exact ⟨⟨-1, rfl, fun h => by omega, fun h => absurd h hno⟩, Bs.refl _⟩
theorem slContains_ret (a : Option Addr) (c : Nat) (zs : List Int) (x : Int) (w : World) (h : RowAt w a (zs.map iV)) (hl : zs.length ≤ 1000000) :
    Calls Try.prog 96 #[.slice a zs.length c, .int .i64 x] w (Ret (.bool (decide (x ∈ zs))) w) := by
  refine ret_in (GSl.contains_calls a zs.length c x w (fun u w' => u = .bool (decide (x ∈ zs)) ∧ Below w.heap.size w w') ?_)
  unfold GSl.contains_vc
  refine callQ (Bs.refl w) (slIndex_any a c zs x w h hl) ?_
  rintro e w2 ⟨r, rfl, hr⟩ b2 B2
  refine ⟨r, rfl, ?_, B2⟩
  congr 1
  exact decide_eq_decide.2 hr
/-- What stands there when so many from both ends have been exchanged. -/
def revL (zs : List Int) (i : Nat) : List Int := (List.range zs.length).map fun k => if k < i ∨ zs.length - 1 - i < k then zs.getD (zs.length - 1 - k) 0 else zs.getD k 0
theorem revL_len (zs : List Int) (i : Nat) : (revL zs i).length = zs.length := by simp [revL]
theorem revL_get (zs : List Int) (i k : Nat) (hk : k < zs.length) : (revL zs i)[k]? = some (if k < i ∨ zs.length - 1 - i < k then zs.getD (zs.length - 1 - k) 0 else zs.getD k 0) := by simp [revL, hk]
theorem revL_zero (zs : List Int) : revL zs 0 = zs := by
  apply List.ext_getElem?
  intro k
  by_cases hk : k < zs.length
  · rw [revL_get zs 0 k hk, if_neg (by omega), List.getD_eq_getElem?_getD, List.getElem?_eq_getElem hk]; rfl
  · rw [List.getElem?_eq_none (by rw [revL_len]; omega), List.getElem?_eq_none (by omega)]
theorem revL_all (zs : List Int) (i : Nat) (hi : zs.length ≤ 2 * i + 1) : revL zs i = zs.reverse := by
  apply List.ext_getElem?
  intro k
  by_cases hk : k < zs.length
  · rw [revL_get zs i k hk, List.getElem?_reverse hk]
    have hj : zs.length - 1 - k < zs.length := by omega
    split
    · rw [List.getD_eq_getElem?_getD, List.getElem?_eq_getElem hj]; rfl
    · rw [show zs.length - 1 - k = k by omega, List.getD_eq_getElem?_getD, List.getElem?_eq_getElem hk]; rfl
  · rw [List.getElem?_eq_none (by rw [revL_len]; omega), List.getElem?_eq_none (by simp; omega)]
theorem revL_step (zs : List Int) (i : Nat) (hi : i < zs.length - 1 - i) : ((revL zs i).set i (zs.getD (zs.length - 1 - i) 0)).set (zs.length - 1 - i) (zs.getD i 0) = revL zs (i + 1) := by
  apply List.ext_getElem?
  intro k
  by_cases hk : k < zs.length
  · rw [revL_get zs (i + 1) k hk]
    by_cases h1 : k = zs.length - 1 - i
    · subst h1
      rw [List.getElem?_set_self (by simp [revL_len]; omega), if_pos (by omega), show zs.length - 1 - (zs.length - 1 - i) = i by omega]
    · rw [List.getElem?_set_ne (by omega)]
      by_cases h2 : k = i
      · subst h2
        rw [List.getElem?_set_self (by rw [revL_len]; omega), if_pos (by omega)]
      · rw [List.getElem?_set_ne (by omega), revL_get zs i k hk]
        by_cases h3 : k < i ∨ zs.length - 1 - i < k
        · rw [if_pos h3, if_pos (by omega)]
        · rw [if_neg h3, if_neg (by omega)]
  · rw [List.getElem?_eq_none (by simp [revL_len]; omega), List.getElem?_eq_none (by rw [revL_len]; omega)]
theorem slReverse_own (a : Option Addr) (c : Nat) (zs : List Int) (b : Nat) (w : World) (h : Own w b 3 1 (.slice a zs.length c) zs.length (zs.map iV)) (hl : zs.length ≤ 1000000) (hb : ∀ k, (Value.slice a zs.length c).ownBlock = some k → b ≤ k) :
    Calls Try.prog 95 #[.slice a zs.length c] w fun e w' => e = .returned (.tuple #[]) ∧ Own w' b 3 1 (.slice a zs.length c) zs.length (zs.reverse.map iV) ∧ Fr (Value.slice a zs.length c).ownBlock.toList w w' := by
  refine (GSl.reverse_calls a zs.length c w (fun v w' => v = .tuple #[] ∧ Own w' b 3 1 (.slice a zs.length c) zs.length (zs.reverse.map iV) ∧ Fr (Value.slice a zs.length c).ownBlock.toList w w') ?_).mono (by rintro e w' ⟨v, rfl, rfl, h⟩; exact ⟨rfl, h⟩)
  unfold GSl.reverse_vc
  rw [wr64 (by omega) (by omega)]
  refine ⟨fun x y wx => ∃ i : Nat, x = i ∧ y = (zs.length : Int) - 1 - i ∧ 2 * i ≤ zs.length ∧ Own wx b 3 1 (.slice a zs.length c) zs.length ((revL zs i).map iV) ∧ Fr (Value.slice a zs.length c).ownBlock.toList w wx, fun x _ _ => zs.length - x.toNat, ⟨0, rfl, by omega, by omega, by rw [revL_zero]; exact h, Fr.refl _ _⟩, ?_⟩
  rintro x y wx ⟨i, rfl, rfl, hi, ho, hf⟩
  refine br_dec (fun hlt => drewO_in fun w3 b3 e3 => ?_) fun hge => ?_
  · have hij : i < zs.length - 1 - i := by omega
    have hil : i < zs.length := by omega
    obtain ⟨j, hj⟩ : ∃ j : Nat, j = zs.length - 1 - i := ⟨_, rfl⟩
    have hjn : (zs.length : Int) - 1 - i = (j : Int) := by omega
    rw [hjn]
    have hjl : j < zs.length := by omega
    have ho3 := ho.below b3 (Nat.le_refl _)
    obtain ⟨g, off, rfl, hgb, hgl⟩ := ho3.someAddr (by omega)
    have cj := ho3.cells g off c rfl j (iV (zs.getD j 0)) (by rw [List.getElem?_map, revL_get zs i j hjl, if_neg (by omega)]; rfl)
    have ci := ho3.cells g off c rfl i (iV (zs.getD i 0)) (by rw [List.getElem?_map, revL_get zs i i hil, if_neg (by omega)]; rfl)
    refine ⟨by omega, by omega, zs.getD j 0, by rw [Int.toNat_natCast, Nat.mul_one]; exact cj, by omega, by omega, zs.getD i 0, by rw [Int.toNat_natCast, Nat.mul_one]; exact ci, by omega, by omega, ?_⟩
    rw [Int.toNat_natCast, Int.toNat_natCast]
    refine ho3.storeAt hil (fun x hx => by cases hx) fun w4 o4 f4 z4 => ⟨by omega, by omega, o4.storeAt hjl (fun x hx => by cases hx) fun w5 o5 f5 z5 => ?_⟩
    rw [wr64 (by omega) (by omega), wr64 (by omega) (by omega)]
    have hstep : (((revL zs i).map iV).set i (iV (zs.getD j 0))).set j (iV (zs.getD i 0)) = (revL zs (i + 1)).map iV := by
      rw [← List.map_set, ← List.map_set, hj, revL_step zs i (by omega)]
    have o5' : Own w5 b 3 1 (.slice (some ⟨g, off, none⟩) zs.length c) zs.length ((revL zs (i + 1)).map iV) := by rw [← hstep]; exact o5
    refine ⟨⟨i + 1, by omega, by omega, by omega, o5', ?_⟩, by dsimp only; omega⟩
    have hL : (Value.slice (some ⟨g, off, none⟩) zs.length c).ownBlock.toList = [g] := rfl
    rw [hL] at hf ⊢
    exact ((hf.trans (Fr.ofBelow (L := [g]) b3) (Gr.refl _ _)).trans f4 (Gr.refl _ _)).trans f5 (Gr.refl _ _)
  · rw [revL_all zs i (by omega)] at ho
    exact ⟨rfl, ho, hf⟩
/-- As 'app1', and where the list lies then. -/
theorem app1o {gs : List Nat} {w0 w w2 : World} {n1 n c g2 : Nat} {a : Option Addr} {z : Int} {zs : List Int} {K : Nat → Option Addr → Nat → World → Prop}
    (B : Bs w0 w2) (o : Own w n1 3 1 (.slice a n c) n (zs.map iV)) (b : Below w.heap.size w w2) (hn1 : w0.heap.size ≤ n1) (hn2 : n1 ≤ w.heap.size) (hg2 : w2.heap[g2]? = some (.cells #[.int .i64 z] 3 (0, 0))) (hl : n ≤ 1000000) (hgs : ∀ g ∈ gs, g < n1)
    (k : ∀ a' c' w1, Own w1 n1 3 1 (.slice a' (n + 1) c') (n + 1) ((zs ++ [z]).map iV) → Bs w0 w1 → w2.grownBy w1 (Value.slice a n c).ownBlock → w2.heap.size ≤ w1.heap.size → ((Value.slice a' (n + 1) c').ownBlock = (Value.slice a n c).ownBlock ∨ ∃ g, (Value.slice a' (n + 1) c').ownBlock = some g ∧ w2.heap.size ≤ g) → K 1 a' c' w1) :
    appO Try.prog gs w2 3 1 8 23 a n c (.slice (some ⟨g2, 0, none⟩) 1 1) K := by
  have o2 := o.below b (Nat.le_refl _)
  refine ⟨1, _, _, o2.base_le fun _ _ => Nat.zero_le _, src_block (cs := [.int .i64 z]) Try.underlying23 hg2 rfl rfl, by unfold maxLen; omega, by omega, fun g hg e => by have := (o.lt g e).1; have := hgs g hg; omega, fun a' c' w1 o1 g1 or1 _ => ?_⟩
  have hB : Bs w0 w1 := ⟨g1.os.trans B.os, g1.tape.trans B.tape, g1.output.trans B.output, Nat.le_trans B.size g1.size, fun q hq => (g1.block q (by have := B.size; omega) fun e => by have := (o.lt q e.symm).1; omega).trans (B.block q hq)⟩
  have o1' := o1.base_le (b' := n1) fun q hq => by
    rcases or1 with h | ⟨g, h, h3⟩
    · exact (o.lt q (h ▸ hq)).1
    · rw [h] at hq; injection hq with hq; have := b.size; omega
  exact k a' c' w1 (by rw [List.map_append]; exact o1') hB g1 g1.size or1
/-- One more int behind a list of one's own. -/
theorem app1 {gs : List Nat} {w0 w w2 : World} {n1 n c g2 : Nat} {a : Option Addr} {z : Int} {zs : List Int} {K : Nat → Option Addr → Nat → World → Prop}
    (B : Bs w0 w2) (o : Own w n1 3 1 (.slice a n c) n (zs.map iV)) (b : Below w.heap.size w w2) (hn1 : w0.heap.size ≤ n1) (hn2 : n1 ≤ w.heap.size) (hg2 : w2.heap[g2]? = some (.cells #[.int .i64 z] 3 (0, 0))) (hl : n ≤ 1000000) (hgs : ∀ g ∈ gs, g < n1)
    (k : ∀ a' c' w1, Own w1 n1 3 1 (.slice a' (n + 1) c') (n + 1) ((zs ++ [z]).map iV) → Bs w0 w1 → w2.grownBy w1 (Value.slice a n c).ownBlock → w2.heap.size ≤ w1.heap.size → K 1 a' c' w1) :
    appO Try.prog gs w2 3 1 8 23 a n c (.slice (some ⟨g2, 0, none⟩) 1 1) K := by
  refine appB B (o.below b (Nat.le_refl _)) hn1 (Nat.le_trans hn2 b.size) (src_block (cs := [.int .i64 z]) Try.underlying23 hg2 rfl rfl) (by unfold maxLen; omega) (by omega) (fun g hg e => by have := (o.lt g e).1; have := hgs g hg; omega) fun a' c' w1 o1 g1 B1 z1 => k a' c' w1 ?_ B1 g1 z1
  rw [List.map_append]
  exact o1
end Go.Proofs.Ytjcabccolkmlmaa
end
section
/- The sorted keys of a tree's map: the library's contracts at this program. -/
namespace Go.Proofs.Ytjcabccolkmlmaa
open Go.RowKit Go.Maps Go.Sort Go.Shelf
shelf_lay_g SlLaysZI.n7 Ggz 7 at Try 93 as Try.keysTree
shelf_lay_g SlLaysZI.n6 Ggz 6 at Try 87 as Try.sortedI
shelf_lay_g SlLaysM.n5 Slgm 5 at Try 115 as Try.sortI
theorem sortsI (m : Nat) : AnyZI.SortsIn Try.prog Try.sortedI_ren Fence.wide m :=
  ⟨fun blk off cap ss W hH hblk hsz => callsIn_wide.2 (AnyM.slices_Sort_int Try.sortI blk off cap ss W hH hblk hsz),
   fun p cap W => callsIn_wide.2 (AnyM.slices_Sort_int_none Try.sortI p cap W)⟩
theorem keysTree_calls (mb : Option Nat) (w : World) : Calls Try.prog 93 #[.map mb] w fun e w' => e = .returned (.func (.func 117) #[] #[.pointer (some ⟨w.heap.size, 0, none⟩)]) ∧ w' = w.alloc (.cells #[.map mb] 138) :=
  (callsIn_wide (n := 5)).1 (AnyZI.keys_in Try.keysTree Fence.wide 5 trivial rfl mb w)
theorem sortTree_calls (w : World) (Bm b : Nat) (m : List (Int × Value)) (hBm : Bm < w.heap.size) (hc : w.cell? ⟨Bm, 0, none⟩ = some (.map (some b))) (h : MapAt w b m)
    (hr : ∀ p ∈ m, -9223372036854775808 ≤ p.1 ∧ p.1 ≤ 9223372036854775807) (hl : m.length ≤ 1000000) :
    Calls Try.prog 87 #[.func (.func 117) #[] #[.pointer (some ⟨Bm, 0, none⟩)]] w fun e w' => ∃ a c, e = .returned (.slice a (sortK m).length c) ∧
      Own w' w.heap.size 3 1 (.slice a (sortK m).length c) (sortK m).length ((sortK m).map (Value.int .i64)) ∧ (a = none ↔ sortK m = []) ∧ Below w.heap.size w w' :=
  sortK_calls (ρK := Try.keysTree_ren) (ρS := Try.sortedI_ren) { Try.keysTree with } Try.sortedI Try.underlying3 (sortsI 4) (enters_of Try.func115 (by kernel_rfl) rfl) (enters_of Try.func117 (by kernel_rfl) rfl) w Bm b m hBm hc h hr hl
/-- 'slices.Sorted(maps.Keys(m))': a new slice with the keys, ascending. -/
theorem keysTree_new {w : World} {mb : Nat} {m : List (Int × Value)} (h : MapAt w mb m) (hr : ∀ p ∈ m, -9223372036854775808 ≤ p.1 ∧ p.1 ≤ 9223372036854775807) (hl : m.length ≤ 1000000) {gs : List Nat} {w0 : World} {K : Value → World → Prop} (B : Bs w0 w)
    (k : ∀ a c w2, Own w2 w.heap.size 3 1 (.slice a (sortK m).length c) (sortK m).length ((sortK m).map (Value.int .i64)) → (a = none ↔ sortK m = []) → Below w.heap.size w w2 → Bs w0 w2 → K (.slice a (sortK m).length c) w2) :
    Calls Try.prog 93 #[.map (some mb)] w fun e w1 => KeepG gs w w1 ∧ ∃ v : Value, e = .returned v ∧ Calls Try.prog 87 #[v] w1 fun e w2 => KeepG gs w1 w2 ∧ ∃ (a : Option Addr) (n c : Nat), e = .returned (.slice a n c) ∧ K (.slice a n c) w2 := by
  refine (keysTree_calls (some mb) w).mono ?_
  rintro e w1 ⟨rfl, rfl⟩
  have b1 : Below w.heap.size w (w.alloc (.cells #[.map (some mb)] 138)) := Below_one _
  refine ⟨keepG_below b1, _, rfl, ?_⟩
  have hc : (w.alloc (.cells #[.map (some mb)] 138)).cell? ⟨w.heap.size, 0, none⟩ = some (.map (some mb)) := by rw [cell_of_row _ _ _ _ _ _ (al_new rfl)]; rfl
  refine (sortTree_calls _ w.heap.size mb m (by simp) hc (h.below b1) hr hl).mono ?_
  rintro e w2 ⟨a, c, rfl, ho, hn, hb⟩
  have hb' : Below w.heap.size w w2 := b1.trans (hb.mono b1.size)
  exact ⟨keepG_below hb, _, _, _, rfl, k a c w2 (ho.base_le fun j hj => Nat.le_trans b1.size (ho.lt j hj).1) hn hb' (B.to hb')⟩
end Go.Proofs.Ytjcabccolkmlmaa
end
section
/- The program's tree: what reads it; walked. -/
namespace Go.Proofs.Ytjcabccolkmlmaa
open Go.RowKit
structure TrAt (w : World) (g mb : Nat) (D : DT) : Prop where
  blk : Bk w g #[.map (some mb)] 140
  map : ∃ m, MapAt w mb m ∧ ∀ k, lkM m k = nodeD D k
section
variable {w w1 : World} {g mb : Nat} {D : DT}
theorem TrAt.cell (h : TrAt w g mb D) : w.cell? ⟨g, 0, none⟩ = some (.map (some mb)) := by rw [h.blk.cell]; rfl
theorem TrAt.lt (h : TrAt w g mb D) : g < w.heap.size ∧ mb < w.heap.size := by
  obtain ⟨m, hm, _⟩ := h.map
  exact ⟨h.blk.lt, hm.lt⟩
theorem TrAt.keep (h : TrAt w g mb D) (h1 : w1.heap[g]? = w.heap[g]?) (h2 : w1.heap[mb]? = w.heap[mb]?) : TrAt w1 g mb D := by
  obtain ⟨m, hm, hl⟩ := h.map
  exact ⟨h.blk.keep h1, m, hm.keep h2, hl⟩
theorem TrAt.below (h : TrAt w g mb D) (b : Below w.heap.size w w1) : TrAt w1 g mb D := h.keep (b.block g h.lt.1) (b.block mb h.lt.2)
theorem TrAt.fr {L : List Nat} (h : TrAt w g mb D) (b : Fr L w w1) (h1 : g ∉ L) (h2 : mb ∉ L) : TrAt w1 g mb D := h.keep (b.block g h.lt.1 h1) (b.block mb h.lt.2 h2)
theorem TrAt.look (h : TrAt w g mb D) (k : Int) : MLk w (some mb) k (nodeD D k) := by
  obtain ⟨m, hm, hl⟩ := h.map
  exact ⟨m, hm, hl k⟩
/-- A node is set. -/
theorem TrAt.set (h : TrAt w g mb D) {k : Int} {d : Dn} (hk : 1 ≤ k ∧ k ≤ 32) (hd : 0 < d.knd) {K : World → Prop} (hK : ∀ w1, TrAt w1 g mb (upD D k d) → Fr [mb] w w1 → w1.heap.size = w.heap.size → K w1) :
    mapO w (some mb) (fun m => putM m k (ndV k d)) K := by
  obtain ⟨m, hm, hl⟩ := h.map
  have hne : g ≠ mb := hm.ne_cells h.blk
  refine ⟨mb, m, rfl, hm, fun w1 m1 f1 z1 => hK w1 ⟨h.blk.keep (f1.block g h.lt.1 (by rw [List.mem_singleton]; exact hne)), _, m1, fun j => ?_⟩ f1 z1⟩
  rw [lkM_put, hl]
  unfold nodeD
  by_cases e : k = j
  · subst e
    rw [if_pos rfl, if_pos ((there_up hk hd k).2 (.inl rfl)), upD_same]
  · have hne : j ≠ k := fun q => e q.symm
    rw [if_neg e, upD_other _ _ hne]
    by_cases ht : There D j
    · rw [if_pos ht, if_pos ((there_up hk hd j).2 (.inr ht))]
    · rw [if_neg ht, if_neg fun q => ((there_up hk hd j).1 q).elim hne ht]
end
theorem nodeD_yes {D : DT} {k : Int} (h : There D k) : nodeD D k = some (ndV k (D k)) := if_pos h
theorem nodeD_no {D : DT} {k : Int} (h : ¬ There D k) : nodeD D k = none := if_neg h
theorem tlimit_ret (n : Int) (w : World) : Calls Try.prog 94 #[.int .i64 n] w (Ret (.bool (decide (LimOk n))) w) := by
  refine ret_in (GTree.tlimit_calls n w (fun u w' => u = .bool (decide (LimOk n)) ∧ Below w.heap.size w w') ?_)
  unfold GTree.tlimit_vc
  refine br_dec (fun h => ⟨?_, Bs.refl _⟩) fun h => ⟨?_, Bs.refl _⟩
  · congr 1; exact decide_eq_decide.2 ⟨fun q => ⟨by omega, q⟩, fun q => q.2⟩
  · rw [decide_eq_false fun q : LimOk n => h (by have := q.1; omega)]
theorem tget_ret {w : World} {g mb : Nat} {D : DT} (h : TrAt w g mb D) (id : Int) : Calls Try.prog 49 #[.pointer (some ⟨g, 0, none⟩), .int .i64 id] w (Ret (.tuple #[getV D id, .int .i64 (getE D id)]) w) := by
  refine ret_in (GTree.tget_calls (some ⟨g, 0, none⟩) id w (fun u w' => u = .tuple #[getV D id, .int .i64 (getE D id)] ∧ Below w.heap.size w w') ?_)
  unfold GTree.tget_vc getV getE
  refine newB (Bs.refl w) fun g1 w2 g10 sg1 n2 z2 b2 B2 => br_f rfl ⟨some mb, (h.below B2).cell, ?_⟩
  by_cases ht : There D id
  · rw [if_pos ht, if_pos ht]
    exact ⟨_, _, _, _, _, true, ⟨_, (h.below B2).look id, by rw [nodeD_yes ht]; rfl, by rw [nodeD_yes ht]; rfl⟩, newB B2 fun g2 w4 g20 sg2 n4 z4 b4 B4 => boxB B4 g20 fun w5 h5 B5 z5 => br_f rfl (boxB B5 g10 fun w6 h6 B6 z6 => ⟨rfl, B6⟩)⟩
  · rw [if_neg ht, if_neg ht]
    exact ⟨0, 0, 0, 0, false, false, ⟨_, (h.below B2).look id, by rw [nodeD_no ht]; rfl, by rw [nodeD_no ht]; rfl⟩, newB B2 fun g2 w4 g20 sg2 n4 z4 b4 B4 => boxB B4 g20 fun w5 h5 B5 z5 => br_t rfl (boxB B5 g10 fun w6 h6 B6 z6 => ⟨rfl, B6⟩)⟩
theorem tget_nil (w : World) (id : Int) : Calls Try.prog 49 #[.pointer none, .int .i64 id] w (Ret (.tuple #[nd0, .int .i64 1]) w) := by
  refine ret_in (GTree.tget_calls none id w (fun u w' => u = .tuple #[nd0, .int .i64 1] ∧ Below w.heap.size w w') ?_)
  unfold GTree.tget_vc
  exact newB (Bs.refl w) fun g1 w2 g10 sg1 n2 z2 b2 B2 => br_t rfl (boxB B2 g10 fun w6 h6 B6 z6 => ⟨rfl, B6⟩)
theorem getV_agg (D : DT) (id : Int) : ∃ a b c d e, getV D id = .agg #[.int .i64 a, .int .i64 b, .int .i64 c, .int .i64 d, .bool e] ∧ (There D id → a = id ∧ b = (D id).par ∧ c = (D id).knd ∧ d = (D id).lim ∧ e = (D id).cls) := by
  unfold getV
  split
  · exact ⟨_, _, _, _, _, rfl, fun _ => ⟨rfl, rfl, rfl, rfl, rfl⟩⟩
  · rename_i h; exact ⟨_, _, _, _, _, rfl, fun q => absurd q h⟩
theorem topen_ret {w : World} {g mb : Nat} {D : DT} (h : TrAt w g mb D) (id : Int) : Calls Try.prog 91 #[.pointer (some ⟨g, 0, none⟩), .int .i64 id] w (Ret (.tuple #[getV D id, .int .i64 (openE D id)]) w) := by
  refine ret_in (GTree.topen_calls (some ⟨g, 0, none⟩) id w (fun u w' => u = .tuple #[getV D id, .int .i64 (openE D id)] ∧ Below w.heap.size w w') ?_)
  unfold GTree.topen_vc
  refine newB (Bs.refl w) fun g1 w2 g10 sg1 n2 z2 b2 B2 => callB B2 (tget_ret (h.below B2) id) fun w3 b3 B3 => ?_
  obtain ⟨a, b, c, d, e, hv, hy⟩ := getV_agg D id
  rw [hv]
  refine ⟨_, _, _, _, _, _, rfl, newB B3 fun g2 w4 g20 sg2 n4 z4 b4 B4 => boxB B4 g20 fun w5 h5 B5 z5 => ?_⟩
  unfold getE openE
  by_cases ht : There D id
  · obtain ⟨_, _, _, _, he⟩ := hy ht
    rw [if_pos ht, if_pos ht]
    refine br_y rfl ?_
    cases hc : (D id).cls
    · rw [he, hc]; exact br_f rfl (boxB B5 g10 fun w6 h6 B6 z6 => ⟨rfl, B6⟩)
    · rw [he, hc]; exact br_t rfl (boxB B5 g10 fun w6 h6 B6 z6 => ⟨rfl, B6⟩)
  · rw [if_neg ht, if_neg ht]
    exact br_n (by decide) (boxB B5 g10 fun w6 h6 B6 z6 => ⟨rfl, B6⟩)
theorem topen_nil (w : World) (id : Int) : Calls Try.prog 91 #[.pointer none, .int .i64 id] w (Ret (.tuple #[nd0, .int .i64 1]) w) := by
  refine ret_in (GTree.topen_calls none id w (fun u w' => u = .tuple #[nd0, .int .i64 1] ∧ Below w.heap.size w w') ?_)
  unfold GTree.topen_vc
  refine newB (Bs.refl w) fun g1 w2 g10 sg1 n2 z2 b2 B2 => callB B2 (tget_nil w2 id) fun w3 b3 B3 => ⟨_, _, _, _, _, _, rfl, newB B3 fun g2 w4 g20 sg2 n4 z4 b4 B4 => boxB B4 g20 fun w5 h5 B5 z5 => br_n (by decide) (boxB B5 g10 fun w6 h6 B6 z6 => ⟨rfl, B6⟩)⟩
theorem tunder_ret {w : World} {g mb : Nat} {D : DT} (h : TrAt w g mb D) (knd par : Int) (hk : 1 ≤ knd ∧ knd ≤ 3) : Calls Try.prog 92 #[.pointer (some ⟨g, 0, none⟩), .int .i64 knd, .int .i64 par] w (Ret (.int .i64 (underE D knd par)) w) := by
  refine ret_in (GTree.tunder_calls (some ⟨g, 0, none⟩) knd par w (fun u w' => u = .int .i64 (underE D knd par) ∧ Below w.heap.size w w') ?_)
  unfold GTree.tunder_vc underE
  rw [wr64 (by omega) (by omega)]
  refine ⟨some mb, h.cell, ?_⟩
  by_cases ht : There D par
  · rw [if_pos ht]
    refine ⟨_, _, _, _, _, true, ⟨_, h.look par, by rw [nodeD_yes ht]; rfl, by rw [nodeD_yes ht]; rfl⟩, newB (Bs.refl w) fun g2 w4 g20 sg2 n4 z4 b4 B4 => boxB B4 g20 fun w5 h5 B5 z5 => br_f rfl (br_dec (fun q => ⟨?_, B5⟩) fun q => ⟨?_, B5⟩)⟩
    · rw [if_pos q]
    · rw [if_neg q]
  · rw [if_neg ht]
    exact ⟨0, 0, 0, 0, false, false, ⟨_, h.look par, by rw [nodeD_no ht]; rfl, by rw [nodeD_no ht]; rfl⟩, newB (Bs.refl w) fun g2 w4 g20 sg2 n4 z4 b4 B4 => boxB B4 g20 fun w5 h5 B5 z5 => br_t rfl ⟨rfl, B5⟩⟩
end Go.Proofs.Ytjcabccolkmlmaa
end
section
/- The program's tree: what writes it; walked. -/
namespace Go.Proofs.Ytjcabccolkmlmaa
open Go.RowKit
/-- An error is told, and the tree is the one behind it. -/
def TDo (w : World) (g mb : Nat) (E : Int) (D' : DT) : Value → World → Prop := fun v w' => v = .int .i64 E ∧ TrAt w' g mb D' ∧ Fr [mb] w w'
theorem tdo_in {P : Program} {f : FuncId} {av : Array Value} {w : World} {g mb : Nat} {E : Int} {D' : DT} (h : Calls P f av w fun e w' => ∃ u, e = .returned u ∧ TDo w g mb E D' u w') :
    Calls P f av w fun e w' => e = .returned (.int .i64 E) ∧ TrAt w' g mb D' ∧ Fr [mb] w w' := h.mono (by rintro e w' ⟨u, rfl, rfl, h⟩; exact ⟨rfl, h⟩)
theorem tdo_no {w wx : World} {g mb : Nat} {D D' : DT} {E z : Int} (h : TrAt w g mb D) (B : Bs w wx) (he : E = z) (hd : D' = D) : TDo w g mb E D' (.int .i64 z) wx := by
  subst he; subst hd
  exact ⟨rfl, h.below B, Fr.ofBelow B⟩
theorem tput_any {w : World} {g mb : Nat} {D : DT} (h : TrAt w g mb D) (id par knd lim : Int) (cls : Bool) :
    Calls Try.prog 50 #[.pointer (some ⟨g, 0, none⟩), ndV id ⟨par, knd, lim, cls⟩] w fun e w' => e = .returned (.int .i64 (putE D id par knd lim cls)) ∧ TrAt w' g mb (putD D id par knd lim cls) ∧ Fr [mb] w w' := by
  refine tdo_in (GTree.tput_calls (some ⟨g, 0, none⟩) id par knd lim cls w (TDo w g mb (putE D id par knd lim cls) (putD D id par knd lim cls)) ?_)
  unfold GTree.tput_vc
  have fail : ∀ z, putE D id par knd lim cls = z → z ≠ 0 → ∀ {wx : World}, Bs w wx → TDo w g mb (putE D id par knd lim cls) (putD D id par knd lim cls) (.int .i64 z) wx := fun z he hz wx B => tdo_no h B he (by unfold putD; rw [if_neg (by rw [he]; exact hz)])
  refine newB (Bs.refl w) fun g1 w2 g10 sg1 n2 z2 b2 B2 => br_f rfl (br_dec (fun q => fail 1 (by unfold putE; rw [if_pos (.inl q)]) (by decide) B2) fun h1 => br_dec (fun q => fail 1 (by unfold putE; rw [if_pos (.inr (.inl q))]) (by decide) B2) fun h2 => ?_)
  refine callB B2 (tlimit_ret lim w2) fun w3 b3 B3 => ⟨_, rfl, br_not (br_dec (fun h3 => ?_) fun q => fail 1 (by unfold putE; rw [if_pos (.inr (.inr q))]) (by decide) B3)⟩
  have c1 : ¬ (id < 1 ∨ id > 32 ∨ ¬ LimOk lim) := fun q => q.elim h1 fun q => q.elim h2 fun q => q h3
  refine br_dec (fun q => fail 21 (by unfold putE; rw [if_neg c1, if_pos (.inl q)]) (by decide) B3) fun h4 => br_dec (fun q => fail 21 (by unfold putE; rw [if_neg c1, if_pos (.inr (.inl q))]) (by decide) B3) fun h5 => ?_
  have ciff : (decide (par = 0) ≠ decide (knd = 1)) ↔ ¬ (par = 0 ↔ knd = 1) := by
    by_cases a : par = 0 <;> by_cases b : knd = 1 <;> simp [a, b]
  refine br_dec (fun q => fail 21 (by unfold putE; rw [if_neg c1, if_pos (.inr (.inr (ciff.1 q)))]) (by decide) B3) fun h6 => ?_
  have c2 : ¬ (knd < 1 ∨ knd > 3 ∨ ¬ (par = 0 ↔ knd = 1)) := fun q => q.elim h4 fun q => q.elim h5 fun q => h6 (ciff.2 q)
  refine drewB B3 fun w4 b4 B4 e4 => ⟨some mb, (h.below B4).cell, ?_⟩
  by_cases ht : There D id
  · refine ⟨_, _, _, _, _, true, ⟨_, (h.below B4).look id, by rw [nodeD_yes ht]; rfl, by rw [nodeD_yes ht]; rfl⟩, newB B4 fun g2 w5 g20 sg2 n5 z5 b5 B5 => ⟨(h.below B5).cell, ⟨_, (h.below B5).look id, by rw [nodeD_yes ht]; rfl, by rw [nodeD_yes ht]; rfl⟩, boxB B5 g20 fun w6 h6 B6 z6 => br_t rfl ?_⟩⟩
    exact fail 8 (by unfold putE; rw [if_neg c1, if_neg c2, if_pos ht]) (by decide) B6
  refine ⟨0, 0, 0, 0, false, false, ⟨_, (h.below B4).look id, by rw [nodeD_no ht]; rfl, by rw [nodeD_no ht]; rfl⟩, newB B4 fun g2 w5 g20 sg2 n5 z5 b5 B5 => ⟨(h.below B5).cell, ⟨_, (h.below B5).look id, by rw [nodeD_no ht]; rfl, by rw [nodeD_no ht]; rfl⟩, boxB B5 g20 fun w6 h6 B6 z6 => br_f rfl ?_⟩⟩
  have good : putE D id par knd lim cls = 0 → ∀ {wx : World}, Bs w wx → GTree.tput_k1 (TDo w g mb (putE D id par knd lim cls) (putD D id par knd lim cls)) (some ⟨g, 0, none⟩) id par knd lim cls wx := fun he wx B => by
    unfold GTree.tput_k1
    refine drewB B fun wy by' By ey => ⟨some mb, (h.below By).cell, (h.below By).set (k := id) (d := ⟨par, knd, lim, cls⟩) (by omega) (by show 0 < knd; omega) fun wz tz fz zz => ⟨by rw [he], ?_, (Fr.ofBelow By).trans fz (Gr.refl _ _)⟩⟩
    unfold putD
    rw [if_pos he]
    exact tz
  refine br_dec (fun hk => ?_) fun hk => ?_
  · refine callB B6 (tunder_ret (h.below B6) knd par (by omega)) fun w7 b7 B7 => ⟨_, rfl, br_dec (fun hu => ?_) fun hu => ?_⟩
    · exact fail _ (by unfold putE; rw [if_neg c1, if_neg c2, if_neg ht, if_pos ⟨hk, hu⟩]) hu B7
    · have hu0 := underE_zero (Decidable.byContradiction hu)
      refine drewB B7 fun w8 b8 B8 e8 => ⟨some mb, (h.below B8).cell, _, _, _, _, _, ⟨_, (h.below B8).look par, by rw [nodeD_yes hu0.1]; rfl⟩, ?_⟩
      have e0 : ¬ (knd ≠ 1 ∧ underE D knd par ≠ 0) := fun q => hu q.2
      cases hc : (D par).cls
      · exact br_f rfl (good (by unfold putE; rw [if_neg c1, if_neg c2, if_neg ht, if_neg e0, if_neg (fun q => by rw [hc] at q; cases q.2.1)]) B8)
      · cases cls
        · exact br_t rfl (br_t rfl (fail 16 (by unfold putE; rw [if_neg c1, if_neg c2, if_neg ht, if_neg e0, if_pos ⟨hk, hc, rfl⟩]) (by decide) B8))
        · exact br_t rfl (br_f rfl (good (by unfold putE; rw [if_neg c1, if_neg c2, if_neg ht, if_neg e0, if_neg (fun q => by cases q.2.2)]) B8))
  · exact good (by unfold putE; rw [if_neg c1, if_neg c2, if_neg ht, if_neg (fun q => q.1 (Decidable.byContradiction hk)), if_neg (fun q => q.1 (Decidable.byContradiction hk))]) B6
theorem tcreate_any {w : World} {g mb : Nat} {D : DT} (h : TrAt w g mb D) (id par knd lim : Int) :
    Calls Try.prog 45 #[.pointer (some ⟨g, 0, none⟩), .int .i64 id, .int .i64 par, .int .i64 knd, .int .i64 lim] w fun e w' => e = .returned (.int .i64 (putE D id par knd lim false)) ∧ TrAt w' g mb (putD D id par knd lim false) ∧ Fr [mb] w w' := by
  refine tdo_in (GTree.tcreate_calls (some ⟨g, 0, none⟩) id par knd lim w (TDo w g mb (putE D id par knd lim false) (putD D id par knd lim false)) ?_)
  unfold GTree.tcreate_vc
  refine (tput_any h id par knd lim false).mono ?_
  rintro e w' ⟨rfl, h2⟩
  exact ⟨keepG_nil _ _, _, rfl, rfl, h2⟩
theorem getE_zero {D : DT} {id : Int} : getE D id = 0 ↔ There D id := by unfold getE; split <;> simp_all
theorem openE_zero {D : DT} {id : Int} : openE D id = 0 ↔ There D id ∧ (D id).cls = false := by
  unfold openE
  split
  · split <;> simp_all
  · simp_all
theorem tmove_any {w : World} {g mb : Nat} {D : DT} (h : TrAt w g mb D) (hW : TWf D) (id par : Int) :
    Calls Try.prog 46 #[.pointer (some ⟨g, 0, none⟩), .int .i64 id, .int .i64 par] w fun e w' => e = .returned (.int .i64 (moveE D id par)) ∧ TrAt w' g mb (moveD D id par) ∧ Fr [mb] w w' := by
  refine tdo_in (GTree.tmove_calls (some ⟨g, 0, none⟩) id par w (TDo w g mb (moveE D id par) (moveD D id par)) ?_)
  unfold GTree.tmove_vc
  have fail : ∀ z, moveE D id par = z → z ≠ 0 → ∀ {wx : World}, Bs w wx → TDo w g mb (moveE D id par) (moveD D id par) (.int .i64 z) wx := fun z he hz wx B => tdo_no h B he (by unfold moveD; rw [if_neg (by rw [he]; exact hz)])
  refine callB (Bs.refl w) (topen_ret h id) fun w2 b2 B2 => ?_
  obtain ⟨a, b, c, d, e, hv, hy⟩ := getV_agg D id
  rw [hv]
  refine ⟨_, _, _, _, _, _, rfl, newB B2 fun g1 w3 g10 sg1 n3 z3 b3 B3 => boxB B3 g10 fun w4 h4 B4 z4 => br_dec (fun ho => ?_) fun ho => ?_⟩
  · refine fail _ ?_ ho B4
    unfold openE at ho ⊢
    unfold moveE
    by_cases ht : There D id
    · rw [if_pos ht] at ho ⊢
      rw [if_neg (fun q => q ht)]
      split at ho
      · rename_i hc; rw [if_pos hc, if_pos hc]
      · exact absurd rfl ho
    · rw [if_neg ht, if_pos ht]
  · obtain ⟨ht, hc⟩ := openE_zero.1 (Decidable.byContradiction ho)
    obtain ⟨rfl, rfl, rfl, rfl, rfl⟩ := hy ht
    have c1 : ¬ ¬ There D a := fun q => q ht
    have c2 : ¬ (D a).cls = true := by rw [hc]; decide
    refine br_dec (fun hk => fail 21 (by unfold moveE; rw [if_neg c1, if_neg c2, if_pos hk]) (by decide) B4) fun hk => ?_
    have hk3 := hW.knd a ht
    have hk0 := ht.2.2
    refine callB B4 (tunder_ret (h.below B4) (D a).knd par (by omega)) fun w5 b5 B5 => ⟨_, rfl, br_dec (fun hu => fail _ (by unfold moveE; rw [if_neg c1, if_neg c2, if_neg hk, if_pos hu]) hu B5) fun hu => ?_⟩
    have hu0 := underE_zero (Decidable.byContradiction hu)
    refine ⟨some mb, (h.below B5).cell, _, _, _, _, _, ⟨_, (h.below B5).look par, by rw [nodeD_yes hu0.1]; rfl⟩, ?_⟩
    cases hcp : (D par).cls
    · have c5 : ¬ (D par).cls = true := by rw [hcp]; decide
      refine br_f rfl (br_dec (fun he => fail 8 (by unfold moveE; rw [if_neg c1, if_neg c2, if_neg hk, if_neg hu, if_neg c5, if_pos he]) (by decide) B5) fun he => boxB B5 g10 fun w6 h6 B6 z6 => drewB B6 fun w7 b7 B7 e7 => ⟨some mb, (h.below B7).cell, ?_⟩)
      have hz : moveE D a par = 0 := by unfold moveE; rw [if_neg c1, if_neg c2, if_neg hk, if_neg hu, if_neg c5, if_neg he]
      refine (h.below B7).set (d := { D a with par := par }) ⟨ht.1, ht.2.1⟩ hk0 fun wz tz fz zz => ⟨by rw [hz], ?_, (Fr.ofBelow B7).trans fz (Gr.refl _ _)⟩
      unfold moveD
      rw [if_pos hz]
      exact tz
    · exact br_t rfl (fail 16 (by unfold moveE; rw [if_neg c1, if_neg c2, if_neg hk, if_neg hu, if_pos hcp]) (by decide) B5)
theorem tsetl_any {w : World} {g mb : Nat} {D : DT} (h : TrAt w g mb D) (id lim : Int) :
    Calls Try.prog 54 #[.pointer (some ⟨g, 0, none⟩), .int .i64 id, .int .i64 lim] w fun e w' => e = .returned (.int .i64 (limE D id lim)) ∧ TrAt w' g mb (limD D id lim) ∧ Fr [mb] w w' := by
  refine tdo_in (GTree.tsetl_calls (some ⟨g, 0, none⟩) id lim w (TDo w g mb (limE D id lim) (limD D id lim)) ?_)
  unfold GTree.tsetl_vc
  have fail : ∀ z, limE D id lim = z → z ≠ 0 → ∀ {wx : World}, Bs w wx → TDo w g mb (limE D id lim) (limD D id lim) (.int .i64 z) wx := fun z he hz wx B => tdo_no h B he (by unfold limD; rw [if_neg (by rw [he]; exact hz)])
  refine callB (Bs.refl w) (tget_ret h id) fun w2 b2 B2 => ?_
  obtain ⟨a, b, c, d, e, hv, hy⟩ := getV_agg D id
  rw [hv]
  refine ⟨_, _, _, _, _, _, rfl, newB B2 fun g1 w3 g10 sg1 n3 z3 b3 B3 => boxB B3 g10 fun w4 h4 B4 z4 => br_dec (fun ho => ?_) fun ho => ?_⟩
  · have ht : ¬ There D id := fun q => ho (getE_zero.2 q)
    have : getE D id = 7 := by unfold getE; rw [if_neg ht]
    rw [this]
    exact fail 7 (by unfold limE; rw [if_pos ht]) (by decide) B4
  · have ht := getE_zero.1 (Decidable.byContradiction ho)
    obtain ⟨rfl, rfl, rfl, rfl, rfl⟩ := hy ht
    have c1 : ¬ ¬ There D a := fun q => q ht
    refine callB B4 (tlimit_ret lim w4) fun w5 b5 B5 => ⟨_, rfl, br_not (br_dec (fun hl => ?_) fun hl => fail 1 (by unfold limE; rw [if_neg c1, if_pos hl]) (by decide) B5)⟩
    have c2 : ¬ ¬ LimOk lim := fun q => q hl
    cases hc : (D a).cls
    · have c3 : ¬ (D a).cls = true := by rw [hc]; decide
      refine br_f rfl (boxB B5 g10 fun w6 h6 B6 z6 => drewB B6 fun w7 b7 B7 e7 => ⟨some mb, (h.below B7).cell, ?_⟩)
      have hz : limE D a lim = 0 := by unfold limE; rw [if_neg c1, if_neg c2, if_neg c3]
      have := (h.below B7).set (d := { D a with lim := lim }) ⟨ht.1, ht.2.1⟩ ht.2.2 (K := TDo w g mb (limE D a lim) (limD D a lim) (.int .i64 0)) fun wz tz fz zz => ⟨by rw [hz], by unfold limD; rw [if_pos hz]; exact tz, (Fr.ofBelow B7).trans fz (Gr.refl _ _)⟩
      unfold ndV at this
      simp only [hc] at this
      exact this
    · exact br_t rfl (fail 16 (by unfold limE; rw [if_neg c1, if_neg c2, if_pos hc]) (by decide) B5)
end Go.Proofs.Ytjcabccolkmlmaa
end
section
/- Loops over maps: how far they are. No program in sight. -/
namespace Go.Proofs.Ytjcabccolkmlmaa
open Go.RowKit Go.MapKept
def iterLen (w : World) (g : Nat) : Nat := match w.heap[g]? with
  | some (.mapIter _ _ sb _) => sb.size
  | _ => 0
theorem IterAt.len {w : World} {g b : Nat} {m : List (Int × Value)} {seen : List Int} (h : IterAt w g b m seen) : iterLen w g = seen.length := by
  obtain ⟨es, clock, sb, hb, hs, hm, hi, L, hL, hsb, hsk⟩ := h
  unfold iterLen
  rw [hi]
  have h1 := congrArg List.length hsb
  have h2 := congrArg List.length hsk
  simp at h1 h2
  show sb.size = _
  omega
theorem nodup_sub : ∀ {l l' : List Int}, l.Nodup → (∀ x ∈ l, x ∈ l') → l.length ≤ l'.length
  | [], _, _, _ => Nat.zero_le _
  | x :: r, l', hn, h => by
    rw [List.nodup_cons] at hn
    have hx := h x (List.mem_cons_self ..)
    have h1 := List.length_erase_of_mem hx
    have h2 := nodup_sub (l := r) (l' := l'.erase x) hn.2 fun y hy => by
      have hne : y ≠ x := fun e => hn.1 (e ▸ hy)
      exact (List.mem_erase_of_ne hne).2 (h y (List.mem_cons_of_mem _ hy))
    have := List.length_pos_of_mem hx
    simp only [List.length_cons]
    omega
/-- What a loop over a map knows. -/
structure Loop (w : World) (g b : Nat) (m : List (Int × Value)) (seen : List Int) : Prop where
  at' : IterAt w g b m seen
  nodup : seen.Nodup
  sub : ∀ k ∈ seen, k ∈ m.map (·.1)
section
variable {w w1 : World} {g b : Nat} {m : List (Int × Value)} {seen : List Int}
theorem Loop.start (h : IterAt w g b m []) : Loop w g b m [] := ⟨h, List.nodup_nil, fun _ h => by cases h⟩
theorem Loop.step (h : Loop w g b m seen) {k : Int} {v : Value} (hm : (k, v) ∈ m) (hk : k ∉ seen) (h1 : IterAt w1 g b m (seen ++ [k])) : Loop w1 g b m (seen ++ [k]) :=
  ⟨h1, List.nodup_append.2 ⟨h.nodup, by simp, fun a ha b hb => by rw [List.mem_singleton] at hb; subst hb; exact fun e => hk (e ▸ ha)⟩, fun x hx => by
    rcases List.mem_append.1 hx with hx | hx
    · exact h.sub x hx
    · rw [List.mem_singleton] at hx; subst hx; exact List.mem_map.2 ⟨_, hm, rfl⟩⟩
theorem Loop.le (h : Loop w g b m seen) : seen.length ≤ m.length := by have := nodup_sub h.nodup h.sub; simpa using this
theorem Loop.more (h : Loop w g b m seen) {k : Int} {v : Value} (hm : (k, v) ∈ m) (hk : k ∉ seen) : seen.length < m.length := by
  have := nodup_sub (l := k :: seen) (l' := m.map (·.1)) (List.nodup_cons.2 ⟨hk, h.nodup⟩) fun x hx => by
    rcases List.mem_cons.1 hx with rfl | hx
    · exact List.mem_map.2 ⟨_, hm, rfl⟩
    · exact h.sub x hx
  simp at this
  omega
theorem Loop.keep (h : Loop w g b m seen) (hb : w1.heap[b]? = w.heap[b]?) (hg : w1.heap[g]? = w.heap[g]?) : Loop w1 g b m seen := ⟨h.at'.keep hb hg, h.nodup, h.sub⟩
theorem Loop.below (h : Loop w g b m seen) (hb : Below w.heap.size w w1) : Loop w1 g b m seen := h.keep (hb.block b h.at'.lt.2) (hb.block g h.at'.lt.1)
theorem Loop.box {x : Nat} {cs : Array Value} {t : TypeId} {fr : Nat × Nat} (h : Loop w g b m seen) (hx : w.heap[x]? = some (.cells cs t fr)) (hf : Fr [x] w w1) : Loop w1 g b m seen := by
  have h1 : b ≠ x := fun e => by
    obtain ⟨es, clock, sb, hb, _⟩ := h.at'
    rw [e, hx] at hb; cases hb
  have h2 : g ≠ x := fun e => by
    obtain ⟨es, clock, sb, hb, _, _, hi, _⟩ := h.at'
    rw [e, hx] at hi; cases hi
  exact h.keep (hf.block b h.at'.lt.2 (by rw [List.mem_singleton]; exact h1)) (hf.block g h.at'.lt.1 (by rw [List.mem_singleton]; exact h2))
end
end Go.Proofs.Ytjcabccolkmlmaa
end
section
/- The program's tree: a node is closed; paths; all ids; what is below; walked. -/
namespace Go.Proofs.Ytjcabccolkmlmaa
open Go.RowKit
theorem keys_there {D : DT} {m : List (Int × Value)} (hl : ∀ k, lkM m k = nodeD D k) {k : Int} {v : Value} (h : (k, v) ∈ m) (hn : (m.map (·.1)).Nodup) : There D k ∧ v = ndV k (D k) := by
  have h1 := lkM_of_mem hn h
  rw [hl] at h1
  by_cases ht : There D k
  · rw [nodeD_yes ht] at h1
    injection h1 with h1
    exact ⟨ht, h1.symm⟩
  · rw [nodeD_no ht] at h1; cases h1
theorem tclose_any {w : World} {g mb : Nat} {D : DT} (h : TrAt w g mb D) (id : Int) :
    Calls Try.prog 47 #[.pointer (some ⟨g, 0, none⟩), .int .i64 id] w fun e w' => e = .returned (.int .i64 (closeE D id)) ∧ TrAt w' g mb (closeD D id) ∧ Fr [mb] w w' := by
  refine tdo_in (GTree.tclose_calls (some ⟨g, 0, none⟩) id w (TDo w g mb (closeE D id) (closeD D id)) ?_)
  unfold GTree.tclose_vc
  have fail : ∀ z, closeE D id = z → z ≠ 0 → ∀ {wx : World}, Bs w wx → TDo w g mb (closeE D id) (closeD D id) (.int .i64 z) wx := fun z he hz wx B => tdo_no h B he (by unfold closeD; rw [if_neg (by rw [he]; exact hz)])
  refine callB (Bs.refl w) (topen_ret h id) fun w2 b2 B2 => ?_
  obtain ⟨a, b, c, d, e, hv, hy⟩ := getV_agg D id
  rw [hv]
  refine ⟨_, _, _, _, _, _, rfl, newB B2 fun g1 w3 g10 sg1 n3 z3 b3 B3 => boxB B3 g10 fun w4 h4 B4 z4 => br_dec (fun ho => ?_) fun ho => ?_⟩
  · refine fail _ ?_ ho B4
    unfold openE at ho ⊢
    unfold closeE
    by_cases ht : There D id
    · rw [if_pos ht] at ho ⊢
      rw [if_neg (fun q => q ht)]
      split at ho
      · rename_i hc; rw [if_pos hc, if_pos hc]
      · exact absurd rfl ho
    · rw [if_neg ht, if_pos ht]
  · obtain ⟨ht, hc⟩ := openE_zero.1 (Decidable.byContradiction ho)
    obtain ⟨rfl, rfl, rfl, rfl, rfl⟩ := hy ht
    have c1 : ¬ ¬ There D a := fun q => q ht
    have c2 : ¬ (D a).cls = true := by rw [hc]; decide
    refine ⟨some mb, (h.below B4).cell, ?_⟩
    obtain ⟨m, hm, hl⟩ := (h.below B4).map
    have hn := hm.nodup
    refine ⟨mb, m, rfl, hm, fun g2 w5 sg2 hit b5 z5 => ?_⟩
    have B5 := B4.to b5
    have hsz := B4.size
    refine ⟨fun wx => ∃ seen, Loop wx g2 mb m seen ∧ (∀ k ∈ seen, ¬ BusyAt D a k) ∧ Bs w wx, fun wx => m.length - iterLen wx g2, ⟨[], Loop.start hit, (fun k hk => by cases hk), B5⟩, ?_⟩
    rintro wx ⟨seen, hL, hno, B⟩
    refine ⟨mb, m, seen, hL.at', fun hall => ?_, fun k v w11 hkv hks hit1 hf1 hz1 => ?_⟩
    · refine boxB B g10 fun w8 h8 B8 z8 => drewB B8 fun w9 b9 B9 e9 => ⟨some mb, (h.below B9).cell, ?_⟩
      have hnb : ¬ Busy D a := fun q => by
        obtain ⟨k, hk⟩ := busy_iff.1 q
        have hlk := hl k
        rw [nodeD_yes hk.1] at hlk
        exact hno k (hall _ (lkM_mem hlk)) hk
      have hz : closeE D a = 0 := by unfold closeE; rw [if_neg c1, if_neg c2, if_neg hnb]
      exact (h.below B9).set (d := { D a with cls := true }) ⟨ht.1, ht.2.1⟩ ht.2.2 (K := TDo w g mb (closeE D a) (closeD D a) (.int .i64 0)) fun wz tz fz zz => ⟨by rw [hz], by unfold closeD; rw [if_pos hz]; exact tz, (Fr.ofBelow B9).trans fz (Gr.refl _ _)⟩
    · obtain ⟨htk, rfl⟩ := keys_there hl hkv hn
      have hL1 := hL.step hkv hks hit1
      have B11 : Bs w w11 := B.fr1 hf1 (by omega)
      have hlk : lkM m k = some (ndV k (D k)) := by rw [hl, nodeD_yes htk]
      refine ⟨_, _, _, _, _, k, ⟨mb, m, seen, hit1, hlk⟩, newB B11 fun g3 w12 g30 sg3 n12 z12 b12 B12 => boxB B12 g30 fun w13 h13 B13 z13 => ?_⟩
      have hL13 := (hL1.below b12).box n12 h13.1
      have go : ¬ BusyAt D a k → (∃ seen, Loop w13 g2 mb m seen ∧ (∀ k ∈ seen, ¬ BusyAt D a k) ∧ Bs w w13) ∧ m.length - iterLen w13 g2 < m.length - iterLen wx g2 := fun hb => by
        refine ⟨⟨seen ++ [k], hL13, fun j hj => ?_, B13⟩, ?_⟩
        · rcases List.mem_append.1 hj with hj | hj
          · exact hno j hj
          · rw [List.mem_singleton] at hj; subst hj; exact hb
        · rw [hL13.at'.len, hL.at'.len]
          have := hL.more hkv hks
          simp
          omega
      refine br_dec (fun hp => ?_) fun hp => go fun q => hp q.2.1
      cases hck : (D k).cls
      · have hb : BusyAt D a k := ⟨htk, hp, hck⟩
        exact br_t rfl (fail 17 (by unfold closeE; rw [if_neg c1, if_neg c2, if_pos (busy_iff.2 ⟨k, hb⟩)]) (by decide) B13)
      · exact br_f rfl (go fun q => by rw [q.2.2] at hck; cases hck)
end Go.Proofs.Ytjcabccolkmlmaa
end
section
/- The program's tree: paths; all ids; what is below; walked. -/
namespace Go.Proofs.Ytjcabccolkmlmaa
open Go.RowKit
/-- A new list of ints, and perhaps more, come back. -/
def NewInts (w : World) (zs : List Int) (a : Option Addr) (n c : Nat) (w' : World) : Prop := n = zs.length ∧ Own w' w.heap.size 3 1 (.slice a n c) n (zs.map iV) ∧ Below w.heap.size w w'
theorem NewInts.row {w w' : World} {zs : List Int} {a : Option Addr} {n c : Nat} (h : NewInts w zs a n c w') : RowAt w' a (zs.map iV) := h.2.1.row
theorem pathD_le {D : DT} (hW : TWf D) (id : Int) : (pathD D id).length ≤ 3 := by
  by_cases ht : There D id
  · obtain ⟨n, hn⟩ := Int.eq_ofNat_of_zero_le (show 0 ≤ (D id).knd by have := ht.2.2; omega)
    have := (pathD_len hW n id ht hn).1
    have := hW.knd id ht
    omega
  · rw [pathD_no ht]; simp
theorem tpath_new {w : World} {g mb : Nat} {D : DT} (h : TrAt w g mb D) (hW : TWf D) (id : Int) :
    Calls Try.prog 52 #[.pointer (some ⟨g, 0, none⟩), .int .i64 id] w fun e w' => ∃ a n c, e = .returned (.tuple #[.slice a n c, .int .i64 (getE D id)]) ∧ NewInts w (pathD D id) a n c w' := by
  refine (GTree.tpath_calls (some ⟨g, 0, none⟩) id w (fun u w' => ∃ a n c, u = .tuple #[.slice a n c, .int .i64 (getE D id)] ∧ NewInts w (pathD D id) a n c w') ?_).mono (by rintro e w' ⟨v, rfl, a, n, c, rfl, h⟩; exact ⟨a, n, c, rfl, h⟩)
  unfold GTree.tpath_vc
  refine callB (Bs.refl w) (tget_ret h id) fun w2 b2 B2 => ?_
  obtain ⟨a, b, c, d, e, hv, hy⟩ := getV_agg D id
  rw [hv]
  refine ⟨_, _, _, _, _, _, rfl, newB B2 fun g1 w3 g10 sg1 n3 z3 b3 B3 => boxB B3 g10 fun w4 h4 B4 z4 => br_dec (fun ho => ?_) fun ho => ?_⟩
  · have ht : ¬ There D id := fun q => ho (getE_zero.2 q)
    refine ⟨none, 0, 0, rfl, ?_⟩
    rw [pathD_no ht]
    exact ⟨rfl, Own.nil _ _ _ _, B4⟩
  have ht := getE_zero.1 (Decidable.byContradiction ho)
  have hp3 := pathD_le hW id
  have hg1 : g1 < w4.heap.size := by omega
  refine ⟨fun x a n c wx => ∃ acc : List Int, n = acc.length ∧ Own wx w4.heap.size 3 1 (.slice a n c) n (acc.map iV) ∧ pathD D x ++ acc.reverse = pathD D id ∧ (x = 0 ∨ There D x) ∧ Bs w wx ∧ w4.heap.size ≤ wx.heap.size,
    fun x _ _ _ _ => if x = 0 then 0 else (D x).knd.toNat, ⟨[], rfl, Own.nil _ _ _ _, by simp, .inr ht, B4, Nat.le_refl _⟩, ?_⟩
  rintro x a8 n8 c8 wx ⟨acc, rfl, hO, hp, hx, B, hsz⟩
  have hacc : acc.length ≤ 3 := by
    have := congrArg List.length hp
    simp at this
    omega
  refine br_dec (fun hx0 => ?_) fun hx0 => ?_
  · have htx : There D x := hx.resolve_left hx0
    refine newB B fun g2 w6 g20 sg2 n6 z6 b6 B6 => app1 B6 hO b6 (by have := B4.size; omega) hsz n6 (by omega) (fun q hq => by simp at hq; omega) fun a' c' w7 o7 B7 gr7 z7 => ?_
    refine ⟨some mb, (h.below B7).cell, _, _, _, _, _, ⟨_, (h.below B7).look x, by rw [nodeD_yes htx]; rfl⟩, ⟨acc ++ [x], by simp, o7, ?_, ?_, B7, by omega⟩, ?_⟩
    · rw [List.reverse_append, List.reverse_singleton, ← hp, pathD_step hW htx, List.append_assoc]
    · by_cases hk : (D x).knd = 1
      · exact .inl ((hW.org x htx).2 hk)
      · exact .inr (hW.up x htx hk).1
    · have hk0 := htx.2.2
      dsimp only
      rw [if_neg hx0]
      by_cases hk : (D x).knd = 1
      · rw [if_pos ((hW.org x htx).2 hk)]; omega
      · obtain ⟨u1, u2⟩ := hW.up x htx hk
        rw [if_neg (by have := u1.1; omega), u2]; omega
  · have hx0 : x = 0 := Decidable.byContradiction hx0
    subst hx0
    rw [pathD_no (not_there_zero D), List.nil_append] at hp
    refine (slReverse_own a8 c8 acc w4.heap.size wx hO (by omega) fun k hk => (hO.lt k hk).1).mono ?_
    rintro e w8 ⟨rfl, o8, f8⟩
    have hown : ∀ k ∈ (Value.slice a8 acc.length c8).ownBlock.toList, w4.heap.size ≤ k := fun k hk => by
      rw [Option.mem_toList] at hk
      exact (hO.lt k hk).1
    have B8 : Bs w w8 := B.fr f8 fun k hk => by have := hown k hk; have := B4.size; omega
    refine ⟨keepG_fr f8 (fun q hq hq2 => by have := hown q hq2; simp at hq; omega), rfl, a8, acc.length, c8, ?_, ?_⟩
    · unfold getE; rw [if_pos ht]
    · rw [← hp]
      exact ⟨by simp, o8.base_le fun k hk => by have := (o8.lt k hk).1; have := B4.size; omega, B8⟩
theorem sortK_ids {D : DT} {m : List (Int × Value)} (hn : (m.map (·.1)).Nodup) (hl : ∀ k, lkM m k = nodeD D k) : sortK m = idsD D := by
  unfold sortK
  have hnd : (idsD D).Nodup := (idsD_sorted D).imp fun h => by omega
  have hp : (m.map (·.1)).Perm (idsD D) := (List.perm_ext_iff_of_nodup hn hnd).2 fun k => by
    rw [mem_ids]
    constructor
    · intro h
      obtain ⟨p, hp, rfl⟩ := List.mem_map.1 h
      exact (keys_there (k := p.1) (v := p.2) hl hp hn).1
    · intro h
      have := hl k
      rw [nodeD_yes h] at this
      exact List.mem_map.2 ⟨_, lkM_mem this, rfl⟩
  rw [mergeSort_of_perm_i hp]
  exact List.mergeSort_of_pairwise ((idsD_sorted D).imp fun h => by simp [leI]; omega)
theorem keys_range {D : DT} {m : List (Int × Value)} (hn : (m.map (·.1)).Nodup) (hl : ∀ k, lkM m k = nodeD D k) : (∀ p ∈ m, -9223372036854775808 ≤ p.1 ∧ p.1 ≤ 9223372036854775807) ∧ m.length ≤ 32 := by
  have h1 : ∀ p ∈ m, There D p.1 := fun p hp => (keys_there (k := p.1) (v := p.2) hl hp hn).1
  refine ⟨fun p hp => by have := h1 p hp; obtain ⟨a, b, _⟩ := this; omega, ?_⟩
  have := nodup_bound 32 (m.map (·.1)) hn fun x hx => by
    obtain ⟨p, hp, rfl⟩ := List.mem_map.1 hx
    obtain ⟨a, b, _⟩ := h1 p hp
    omega
  simpa using this
theorem ids_le (D : DT) : (idsD D).length ≤ 32 := by
  have := List.length_filter_le (fun k => decide (There D k)) ids32
  unfold idsD
  simpa [ids32] using this
theorem tids_new {w : World} {g mb : Nat} {D : DT} (h : TrAt w g mb D) :
    Calls Try.prog 48 #[.pointer (some ⟨g, 0, none⟩)] w fun e w' => ∃ a n c, e = .returned (.slice a n c) ∧ NewInts w (idsD D) a n c w' := by
  refine (GTree.tids_calls (some ⟨g, 0, none⟩) w (fun u w' => ∃ a n c, u = .slice a n c ∧ NewInts w (idsD D) a n c w') ?_).mono (by rintro e w' ⟨v, rfl, a, n, c, rfl, h⟩; exact ⟨a, n, c, rfl, h⟩)
  unfold GTree.tids_vc
  obtain ⟨m, hm, hl⟩ := h.map
  obtain ⟨hr, hlen⟩ := keys_range hm.nodup hl
  refine br_f rfl ⟨some mb, h.cell, keysTree_new (K := fun u w' => ∃ a n c, u = .slice a n c ∧ NewInts w (idsD D) a n c w') hm hr (by omega) (Bs.refl w) fun a c w2 ho hn b2 B2 => ?_⟩
  rw [sortK_ids hm.nodup hl] at ho ⊢
  exact ⟨a, _, c, rfl, rfl, ho, B2⟩
theorem tids_nil (w : World) : Calls Try.prog 48 #[.pointer none] w (Ret (.slice none 0 0) w) := by
  refine ret_in (GTree.tids_calls none w (fun u w' => u = .slice none 0 0 ∧ Below w.heap.size w w') ?_)
  unfold GTree.tids_vc
  exact br_t rfl ⟨rfl, Bs.refl _⟩
theorem tpath_nil (w : World) (id : Int) : Calls Try.prog 52 #[.pointer none, .int .i64 id] w (Ret (.tuple #[.slice none 0 0, .int .i64 1]) w) := by
  refine ret_in (GTree.tpath_calls none id w (fun u w' => u = .tuple #[.slice none 0 0, .int .i64 1] ∧ Below w.heap.size w w') ?_)
  unfold GTree.tpath_vc
  refine callB (Bs.refl w) (tget_nil w id) fun w2 b2 B2 => ⟨_, _, _, _, _, _, rfl, newB B2 fun g1 w3 g10 sg1 n3 z3 b3 B3 => boxB B3 g10 fun w4 h4 B4 z4 => br_y (by decide) ⟨rfl, B4⟩⟩
theorem tbelow_nil (w : World) (id : Int) : Calls Try.prog 53 #[.pointer none, .int .i64 id] w (Ret (.tuple #[.slice none 0 0, .int .i64 1]) w) := by
  refine ret_in (GTree.tbelow_calls none id w (fun u w' => u = .tuple #[.slice none 0 0, .int .i64 1] ∧ Below w.heap.size w w') ?_)
  unfold GTree.tbelow_vc
  refine callB (Bs.refl w) (tget_nil w id) fun w2 b2 B2 => ⟨_, _, _, _, _, _, rfl, newB B2 fun g1 w3 g10 sg1 n3 z3 b3 B3 => boxB B3 g10 fun w4 h4 B4 z4 => br_y (by decide) ⟨rfl, B4⟩⟩
def belowR (D : DT) (id : Int) : List Int := if There D id then belowD D id else []
theorem tbelow_new {w : World} {g mb : Nat} {D : DT} (h : TrAt w g mb D) (hW : TWf D) (id : Int) :
    Calls Try.prog 53 #[.pointer (some ⟨g, 0, none⟩), .int .i64 id] w fun e w' => ∃ a n c, e = .returned (.tuple #[.slice a n c, .int .i64 (getE D id)]) ∧ NewInts w (belowR D id) a n c w' := by
  refine (GTree.tbelow_calls (some ⟨g, 0, none⟩) id w (fun u w' => ∃ a n c, u = .tuple #[.slice a n c, .int .i64 (getE D id)] ∧ NewInts w (belowR D id) a n c w') ?_).mono (by rintro e w' ⟨v, rfl, a, n, c, rfl, h⟩; exact ⟨a, n, c, rfl, h⟩)
  unfold GTree.tbelow_vc
  refine callB (Bs.refl w) (tget_ret h id) fun w2 b2 B2 => ?_
  obtain ⟨a, b, c, d, e, hv, hy⟩ := getV_agg D id
  rw [hv]
  refine ⟨_, _, _, _, _, _, rfl, newB B2 fun g1 w3 g10 sg1 n3 z3 b3 B3 => boxB B3 g10 fun w4 h4 B4 z4 => br_dec (fun ho => ?_) fun ho => ?_⟩
  · have ht : ¬ There D id := fun q => ho (getE_zero.2 q)
    refine ⟨none, 0, 0, rfl, ?_⟩
    unfold belowR
    rw [if_neg ht]
    exact ⟨rfl, Own.nil _ _ _ _, B4⟩
  have ht := getE_zero.1 (Decidable.byContradiction ho)
  have hil := ids_le D
  refine (tids_new (h.below B4)).mono ?_
  rintro e w5 ⟨ai, ni, ci, rfl, rfl, oi, bi⟩
  have B5 := B4.to bi
  have hsz5 := bi.size
  refine ⟨keepG_below bi, ai, _, ci, rfl, fun a n c x wx => ∃ i : Nat, x = i ∧ i ≤ (idsD D).length ∧ n = (((idsD D).take i).filter fun k => decide (id ∈ pathD D k)).length ∧
    Own wx w5.heap.size 3 1 (.slice a n c) n ((((idsD D).take i).filter fun k => decide (id ∈ pathD D k)).map iV) ∧ Bs w5 wx ∧ Bs w wx, fun _ _ _ x _ => (idsD D).length - x.toNat, ⟨0, rfl, by omega, by simp, by simpa using Own.nil _ _ _ _, Bs.refl _, B5⟩, ?_⟩
  rintro a8 n8 c8 x wx ⟨i, rfl, hi, rfl, hO, Bx5, Bx⟩
  refine br_dec (fun hlt => ?_) fun hge => ?_
  · have hil' : i < (idsD D).length := by omega
    have oi' : Own wx w4.heap.size 3 1 (.slice ai (idsD D).length ci) (idsD D).length ((idsD D).map iV) := oi.below Bx5 (Nat.le_refl _)
    obtain ⟨b0, off, rfl, hc⟩ := oi'.row.int hil'
    have htk : (idsD D).take (i + 1) = (idsD D).take i ++ [(idsD D)[i]] := by rw [List.take_add_one, List.getElem?_eq_getElem hil']; rfl
    refine ⟨by omega, by omega, (idsD D)[i], by rw [Int.toNat_natCast, Nat.mul_one]; exact hc, ?_⟩
    have hti : There D (idsD D)[i] := mem_ids.1 (List.getElem_mem hil')
    refine (tpath_new (h.below Bx) hW (idsD D)[i]).mono ?_
    rintro e w7 ⟨ap, np, cp, rfl, rfl, op, bp⟩
    have hp3 := pathD_le hW (idsD D)[i]
    have B7 := Bx.to bp
    have B75 := Bx5.to bp
    refine ⟨keepG_below bp, ap, _, cp, _, rfl, br_y (getE_zero.2 hti) (callB B75 (slContains_ret ap cp (pathD D (idsD D)[i]) id w7 op.row (by omega)) fun w8 b8 B8 => ⟨_, rfl, ?_⟩)⟩
    have hO8 := hO.below (bp.trans (b8.mono bp.size)) (Nat.le_refl _)
    have h58 : w5.heap.size ≤ w8.heap.size := B8.size
    have hfl : (((idsD D).take i).filter fun k => decide (id ∈ pathD D k)).length ≤ 32 := by
      have := List.length_filter_le (fun k => decide (id ∈ pathD D k)) ((idsD D).take i)
      simp at this ⊢
      omega
    rw [wr64 (by omega) (by omega)]
    refine br_dec (fun hin => ?_) fun hin => ?_
    · refine newB B8 fun g2 w9 g20 sg2 n9 z9 b9 B9 => app1 B9 hO8 b9 (Nat.le_refl _) h58 n9 (by omega) (fun q hq => by simp at hq; omega) fun a' c' w10 o10 B10 gr z10 => ?_
      have hfa : (((idsD D).take (i + 1)).filter fun k => decide (id ∈ pathD D k)) = (((idsD D).take i).filter fun k => decide (id ∈ pathD D k)) ++ [(idsD D)[i]] := by
        rw [htk, List.filter_append]; simp [hin]
      refine ⟨⟨i + 1, by omega, by omega, by rw [hfa]; simp, by rw [hfa]; exact o10, B10, B5.trans (B10.mono B5.size)⟩, by dsimp only; omega⟩
    · have hfa : (((idsD D).take (i + 1)).filter fun k => decide (id ∈ pathD D k)) = (((idsD D).take i).filter fun k => decide (id ∈ pathD D k)) := by
        rw [htk, List.filter_append]; simp [hin]
      refine ⟨⟨i + 1, by omega, by omega, by rw [hfa], by rw [hfa]; exact hO8, B8, B5.trans (B8.mono B5.size)⟩, by dsimp only; omega⟩
  · obtain rfl : i = (idsD D).length := by omega
    rw [List.take_length] at hO ⊢
    refine ⟨a8, ((idsD D).filter fun k => decide (id ∈ pathD D k)).length, c8, ?_, ?_⟩
    · unfold getE; rw [if_pos ht]
    · unfold belowR
      rw [if_pos ht]
      exact ⟨rfl, hO.base_le fun k hk => by have := (hO.lt k hk).1; have := B5.size; omega, Bx⟩
end Go.Proofs.Ytjcabccolkmlmaa
end
section
/- The document's tree; walked. -/
namespace Go.Proofs.Ytjcabccolkmlmaa
open Go.RowKit
def rnC (d : Dn) : List Value := [.int .i64 d.par, .int .i64 d.knd, .int .i64 d.lim, .bool d.cls]
abbrev RtAt (w : World) (g : Nat) (D : DT) : Prop := Bk w g (sArr 32 4 fun i => rnC (D ((i : Int) + 1))) 100
section
variable {w : World} {g : Nat} {D : DT} {id : Int}
theorem rt_cell (h : RtAt w g D) (hid : 1 ≤ id ∧ id ≤ 32) (c : Nat) {v : Value} (hc : (rnC (D id))[c]? = some v) : w.cell? ⟨g, 0 + (id - 1).toNat * 4 + c, none⟩ = some v := by
  have hl : c < 4 := (List.getElem?_eq_some_iff.1 hc).1
  rw [Nat.zero_add]
  refine sArr_cell h (by omega) hl ?_
  rw [show (((id - 1).toNat : Nat) : Int) + 1 = id by omega]
  exact hc
theorem rt_cells (h : RtAt w g D) (hid : 1 ≤ id ∧ id ≤ 32) : cellsAt w g (0 + (id - 1).toNat * 4) (rnC (D id)) := by
  rw [Nat.zero_add]
  have := sArr_cells h (i := (id - 1).toNat) (by omega) rfl
  rwa [show (((id - 1).toNat : Nat) : Int) + 1 = id by omega] at this
theorem rt_up (hid : 1 ≤ id ∧ id ≤ 32) (d : Dn) {f : Nat → List Value} (hf : ∀ i : Nat, i < 32 → f i = if i = (id - 1).toNat then rnC d else rnC (D ((i : Int) + 1))) : sArr 32 4 f = sArr 32 4 fun i => rnC (upD D id d ((i : Int) + 1)) := by
  refine sArr_congr fun i hi => ?_
  rw [hf i hi]
  unfold upD
  by_cases e : i = (id - 1).toNat
  · rw [if_pos e, if_pos (by omega)]
  · rw [if_neg e, if_neg (by omega)]
theorem rt_set (h : RtAt w g D) (hid : 1 ≤ id ∧ id ≤ 32) (c : Nat) (hc : c < 4) {v : Value} (d : Dn) (hd : (rnC (D id)).set c v = rnC d) {gs : List Nat} (hg : ∀ x ∈ gs, x ≠ g) {K : World → Prop} (k : ∀ w1, RtAt w1 g (upD D id d) → Fr [g] w w1 → w1.heap.size = w.heap.size → K w1) :
    stO gs w g (0 + (id - 1).toNat * 4 + c) [v] K := by
  rw [Nat.zero_add]
  refine stO_bk h (by rw [sArr_size]; omega) hg fun w1 h1 f1 z1 => k w1 ?_ f1 z1
  rw [sArr_set (by omega) hc fun _ _ => rfl] at h1
  rw [rt_up hid d fun i hi => ?_] at h1
  · exact h1
  · by_cases e : i = (id - 1).toNat
    · rw [if_pos e, if_pos e, e, show (((id - 1).toNat : Nat) : Int) + 1 = id by omega, hd]
    · rw [if_neg e, if_neg e]
theorem rt_setA (h : RtAt w g D) (hid : 1 ≤ id ∧ id ≤ 32) (d : Dn) {gs : List Nat} (hg : ∀ x ∈ gs, x ≠ g) {K : World → Prop} (k : ∀ w1, RtAt w1 g (upD D id d) → Fr [g] w w1 → w1.heap.size = w.heap.size → K w1) :
    stO gs w g (0 + (id - 1).toNat * 4) (rnC d) K := by
  rw [Nat.zero_add]
  refine stO_part h (by rw [sArr_size]; simp [rnC]; omega) hg fun w1 h1 f1 z1 => k w1 ?_ f1 z1
  rw [sArr_setL (n := 32) (k := 4) (by omega) (by rfl) (fun _ _ => by rfl)] at h1
  rw [rt_up hid d fun i hi => rfl] at h1
  exact h1
end
theorem rthere_ret {w : World} {g : Nat} {D : DT} (h : RtAt w g D) (id : Int) (hi : id ≤ 9223372036854775807) : Calls Try.prog 56 #[.pointer (some ⟨g, 0, none⟩), .int .i64 id] w (Ret (.bool (decide (There D id))) w) := by
  refine ret_in (GTreeR.rthere_calls (some ⟨g, 0, none⟩) id w (fun u w' => u = .bool (decide (There D id)) ∧ Below w.heap.size w w') ?_)
  unfold GTreeR.rthere_vc
  refine br_dec (fun h1 => br_dec (fun h2 => ?_) fun h2 => ⟨?_, Bs.refl _⟩) fun h1 => ⟨?_, Bs.refl _⟩
  · rw [wr64 (by omega) (by omega)]
    refine ⟨by omega, by omega, (D id).knd, rt_cell h ⟨h1, h2⟩ 1 rfl, ?_, Bs.refl _⟩
    congr 1
    exact decide_eq_decide.2 ⟨fun q => ⟨h1, h2, q⟩, fun q => q.2.2⟩
  · rw [decide_eq_false fun q : There D id => h2 q.2.1]
  · rw [decide_eq_false fun q : There D id => h1 q.1]
theorem rlimit_ret (n : Int) (w : World) : Calls Try.prog 119 #[.int .i64 n] w (Ret (.bool (decide (LimOk n))) w) := by
  refine ret_in (GTreeR.rlimit_calls n w (fun u w' => u = .bool (decide (LimOk n)) ∧ Below w.heap.size w w') ?_)
  unfold GTreeR.rlimit_vc
  refine br_dec (fun h => ⟨?_, Bs.refl _⟩) fun h => ⟨?_, Bs.refl _⟩
  · congr 1; exact decide_eq_decide.2 ⟨fun q => ⟨by omega, q⟩, fun q => q.2⟩
  · rw [decide_eq_false fun q : LimOk n => h (by have := q.1; omega)]
theorem runder_ret {w : World} {g : Nat} {D : DT} (h : RtAt w g D) (knd par : Int) (hk : 1 ≤ knd ∧ knd ≤ 3) (hp : par ≤ 9223372036854775807) : Calls Try.prog 120 #[.pointer (some ⟨g, 0, none⟩), .int .i64 knd, .int .i64 par] w (Ret (.int .i64 (underE D knd par)) w) := by
  refine ret_in (GTreeR.runder_calls (some ⟨g, 0, none⟩) knd par w (fun u w' => u = .int .i64 (underE D knd par) ∧ Below w.heap.size w w') ?_)
  unfold GTreeR.runder_vc underE
  refine callB (Bs.refl w) (rthere_ret h par hp) fun w2 b2 B2 => ⟨_, rfl, br_not (br_dec (fun ht => ?_) fun ht => ⟨by rw [if_neg ht], B2⟩)⟩
  rw [if_pos ht]
  obtain ⟨h1, h2, _⟩ := (show There D par from ht)
  rw [wr64 (z := par - 1) (by omega) (by omega), wr64 (z := knd - 1) (by omega) (by omega)]
  refine ⟨by omega, by omega, (D par).knd, rt_cell (h.below B2) ⟨h1, h2⟩ 1 rfl, br_dec (fun q => ⟨by rw [if_pos q], B2⟩) fun q => ⟨by rw [if_neg q], B2⟩⟩
/-- An error is told, and the document's tree is the one behind it. -/
def RDo (w : World) (g : Nat) (E : Int) (D' : DT) : Value → World → Prop := fun v w' => v = .int .i64 E ∧ RtAt w' g D' ∧ Fr [g] w w'
theorem rdo_in {P : Program} {f : FuncId} {av : Array Value} {w : World} {g : Nat} {E : Int} {D' : DT} (h : Calls P f av w fun e w' => ∃ u, e = .returned u ∧ RDo w g E D' u w') :
    Calls P f av w fun e w' => e = .returned (.int .i64 E) ∧ RtAt w' g D' ∧ Fr [g] w w' := h.mono (by rintro e w' ⟨u, rfl, rfl, h⟩; exact ⟨rfl, h⟩)
theorem rdo_no {w wx : World} {g : Nat} {D D' : DT} {E z : Int} (h : RtAt w g D) (B : Bs w wx) (he : E = z) (hd : D' = D) : RDo w g E D' (.int .i64 z) wx := by
  subst he; subst hd
  exact ⟨rfl, h.below B, Fr.ofBelow B⟩
theorem rcreate_any {w : World} {g : Nat} {D : DT} (h : RtAt w g D) (id par knd lim : Int) (cls : Bool) (hp : par ≤ 9223372036854775807) :
    Calls Try.prog 97 #[.pointer (some ⟨g, 0, none⟩), .int .i64 id, .int .i64 par, .int .i64 knd, .int .i64 lim, .bool cls] w fun e w' => e = .returned (.int .i64 (putE D id par knd lim cls)) ∧ RtAt w' g (putD D id par knd lim cls) ∧ Fr [g] w w' := by
  refine rdo_in (GTreeR.rcreate_calls (some ⟨g, 0, none⟩) id par knd lim cls w (RDo w g (putE D id par knd lim cls) (putD D id par knd lim cls)) ?_)
  unfold GTreeR.rcreate_vc
  have fail : ∀ z, putE D id par knd lim cls = z → z ≠ 0 → ∀ {wx : World}, Bs w wx → RDo w g (putE D id par knd lim cls) (putD D id par knd lim cls) (.int .i64 z) wx := fun z he hz wx B => rdo_no h B he (by unfold putD; rw [if_neg (by rw [he]; exact hz)])
  refine br_dec (fun q => fail 1 (by unfold putE; rw [if_pos (.inl q)]) (by decide) (Bs.refl w)) fun h1 => br_dec (fun q => fail 1 (by unfold putE; rw [if_pos (.inr (.inl q))]) (by decide) (Bs.refl w)) fun h2 => ?_
  refine callB (Bs.refl w) (rlimit_ret lim w) fun w3 b3 B3 => ⟨_, rfl, br_not (br_dec (fun h3 => ?_) fun q => fail 1 (by unfold putE; rw [if_pos (.inr (.inr q))]) (by decide) B3)⟩
  have c1 : ¬ (id < 1 ∨ id > 32 ∨ ¬ LimOk lim) := fun q => q.elim h1 fun q => q.elim h2 fun q => q h3
  refine br_dec (fun q => fail 21 (by unfold putE; rw [if_neg c1, if_pos (.inl q)]) (by decide) B3) fun h4 => br_dec (fun q => fail 21 (by unfold putE; rw [if_neg c1, if_pos (.inr (.inl q))]) (by decide) B3) fun h5 => ?_
  have ciff : (decide (par = 0) ≠ decide (knd = 1)) ↔ ¬ (par = 0 ↔ knd = 1) := by
    by_cases a : par = 0 <;> by_cases b : knd = 1 <;> simp [a, b]
  refine br_dec (fun q => fail 21 (by unfold putE; rw [if_neg c1, if_pos (.inr (.inr (ciff.1 q)))]) (by decide) B3) fun h6 => ?_
  have hiff : par = 0 ↔ knd = 1 := Decidable.byContradiction fun q => h6 (ciff.2 q)
  have c2 : ¬ (knd < 1 ∨ knd > 3 ∨ ¬ (par = 0 ↔ knd = 1)) := fun q => q.elim h4 fun q => q.elim h5 fun q => q hiff
  refine callB B3 (rthere_ret (h.below B3) id (by omega)) fun w4 b4 B4 => ⟨_, rfl, br_dec (fun ht => fail 8 (by unfold putE; rw [if_neg c1, if_neg c2, if_pos ht]) (by decide) B4) fun ht => ?_⟩
  have good : putE D id par knd lim cls = 0 → ∀ {wx : World}, Bs w wx → GTreeR.rcreate_k1 (RDo w g (putE D id par knd lim cls) (putD D id par knd lim cls)) (some ⟨g, 0, none⟩) id par knd lim cls wx := fun he wx B => by
    unfold GTreeR.rcreate_k1
    rw [wr64 (by omega) (by omega)]
    refine ⟨by omega, by omega, rt_setA (h.below B) (by omega) ⟨par, knd, lim, cls⟩ (fun x hx => by cases hx) fun wz tz fz zz => ⟨by rw [he], ?_, (Fr.ofBelow B).trans fz (Gr.refl _ _)⟩⟩
    unfold putD
    rw [if_pos he]
    exact tz
  refine br_dec (fun hk => ?_) fun hk => ?_
  · have hk1 : knd ≠ 1 := fun q => hk (hiff.2 q)
    refine callB B4 (runder_ret (h.below B4) knd par (by omega) hp) fun w7 b7 B7 => ⟨_, rfl, br_dec (fun hu => ?_) fun hu => ?_⟩
    · exact fail _ (by unfold putE; rw [if_neg c1, if_neg c2, if_neg ht, if_pos ⟨hk1, hu⟩]) hu B7
    · have hu0 := underE_zero (Decidable.byContradiction hu)
      obtain ⟨p1, p2, _⟩ := hu0.1
      rw [wr64 (by omega) (by omega)]
      refine ⟨by omega, by omega, (D par).cls, rt_cell (h.below B7) ⟨p1, p2⟩ 3 rfl, ?_⟩
      have e0 : ¬ (knd ≠ 1 ∧ underE D knd par ≠ 0) := fun q => hu q.2
      cases hc : (D par).cls
      · exact br_f rfl (good (by unfold putE; rw [if_neg c1, if_neg c2, if_neg ht, if_neg e0, if_neg (fun q => by rw [hc] at q; cases q.2.1)]) B7)
      · cases cls
        · exact br_t rfl (br_t rfl (fail 16 (by unfold putE; rw [if_neg c1, if_neg c2, if_neg ht, if_neg e0, if_pos ⟨hk1, hc, rfl⟩]) (by decide) B7))
        · exact br_t rfl (br_f rfl (good (by unfold putE; rw [if_neg c1, if_neg c2, if_neg ht, if_neg e0, if_neg (fun q => by cases q.2.2)]) B7))
  · have hk1 : knd = 1 := hiff.1 (Decidable.byContradiction hk)
    exact good (by unfold putE; rw [if_neg c1, if_neg c2, if_neg ht, if_neg (fun q => q.1 hk1), if_neg (fun q => q.1 hk1)]) B4
theorem rmove_any {w : World} {g : Nat} {D : DT} (h : RtAt w g D) (hW : TWf D) (id par : Int) (hi : id ≤ 9223372036854775807) (hp : par ≤ 9223372036854775807) :
    Calls Try.prog 98 #[.pointer (some ⟨g, 0, none⟩), .int .i64 id, .int .i64 par] w fun e w' => e = .returned (.int .i64 (moveE D id par)) ∧ RtAt w' g (moveD D id par) ∧ Fr [g] w w' := by
  refine rdo_in (GTreeR.rmove_calls (some ⟨g, 0, none⟩) id par w (RDo w g (moveE D id par) (moveD D id par)) ?_)
  unfold GTreeR.rmove_vc
  have fail : ∀ z, moveE D id par = z → z ≠ 0 → ∀ {wx : World}, Bs w wx → RDo w g (moveE D id par) (moveD D id par) (.int .i64 z) wx := fun z he hz wx B => rdo_no h B he (by unfold moveD; rw [if_neg (by rw [he]; exact hz)])
  refine callB (Bs.refl w) (rthere_ret h id hi) fun w2 b2 B2 => ⟨_, rfl, br_not (br_dec (fun ht => ?_) fun ht => fail 7 (by unfold moveE; rw [if_pos ht]) (by decide) B2)⟩
  have c1 : ¬ ¬ There D id := fun q => q ht
  obtain ⟨i1, i2, i3⟩ := (show There D id from ht)
  rw [wr64 (by omega) (by omega)]
  refine ⟨by omega, by omega, _, _, _, _, rt_cells (h.below B2) ⟨i1, i2⟩, newB B2 fun g1 w3 g10 sg1 n3 z3 b3 B3 => boxB B3 g10 fun w4 h4 B4 z4 => ?_⟩
  cases hc : (D id).cls
  · have c2 : ¬ (D id).cls = true := by rw [hc]; decide
    refine br_f rfl (br_dec (fun hk => fail 21 (by unfold moveE; rw [if_neg c1, if_neg c2, if_pos hk]) (by decide) B4) fun hk => ?_)
    have hk3 := hW.knd id ht
    refine callB B4 (runder_ret (h.below B4) (D id).knd par (by omega) hp) fun w5 b5 B5 => ⟨_, rfl, br_dec (fun hu => fail _ (by unfold moveE; rw [if_neg c1, if_neg c2, if_neg hk, if_pos hu]) hu B5) fun hu => ?_⟩
    have hu0 := underE_zero (Decidable.byContradiction hu)
    obtain ⟨p1, p2, _⟩ := hu0.1
    rw [wr64 (by omega) (by omega)]
    refine ⟨by omega, by omega, (D par).cls, rt_cell (h.below B5) ⟨p1, p2⟩ 3 rfl, ?_⟩
    cases hcp : (D par).cls
    · have c5 : ¬ (D par).cls = true := by rw [hcp]; decide
      refine br_f rfl (br_dec (fun he => fail 8 (by unfold moveE; rw [if_neg c1, if_neg c2, if_neg hk, if_neg hu, if_neg c5, if_pos he]) (by decide) B5) fun he => ⟨by omega, by omega, ?_⟩)
      have hz : moveE D id par = 0 := by unfold moveE; rw [if_neg c1, if_neg c2, if_neg hk, if_neg hu, if_neg c5, if_neg he]
      have hgl := h.lt
      refine rt_set (h.below B5) ⟨i1, i2⟩ 0 (by omega) { D id with par := par } rfl (fun x hx => by simp at hx; omega) fun wz tz fz zz => ⟨by rw [hz], by unfold moveD; rw [if_pos hz]; exact tz, (Fr.ofBelow B5).trans fz (Gr.refl _ _)⟩
    · exact br_t rfl (fail 16 (by unfold moveE; rw [if_neg c1, if_neg c2, if_neg hk, if_neg hu, if_pos hcp]) (by decide) B5)
  · exact br_t rfl (fail 16 (by unfold moveE; rw [if_neg c1, if_pos hc]) (by decide) B4)
theorem rlim_any {w : World} {g : Nat} {D : DT} (h : RtAt w g D) (id lim : Int) (hi : id ≤ 9223372036854775807) :
    Calls Try.prog 100 #[.pointer (some ⟨g, 0, none⟩), .int .i64 id, .int .i64 lim] w fun e w' => e = .returned (.int .i64 (limE D id lim)) ∧ RtAt w' g (limD D id lim) ∧ Fr [g] w w' := by
  refine rdo_in (GTreeR.rlim_calls (some ⟨g, 0, none⟩) id lim w (RDo w g (limE D id lim) (limD D id lim)) ?_)
  unfold GTreeR.rlim_vc
  have fail : ∀ z, limE D id lim = z → z ≠ 0 → ∀ {wx : World}, Bs w wx → RDo w g (limE D id lim) (limD D id lim) (.int .i64 z) wx := fun z he hz wx B => rdo_no h B he (by unfold limD; rw [if_neg (by rw [he]; exact hz)])
  refine callB (Bs.refl w) (rthere_ret h id hi) fun w2 b2 B2 => ⟨_, rfl, br_not (br_dec (fun ht => ?_) fun ht => fail 7 (by unfold limE; rw [if_pos ht]) (by decide) B2)⟩
  have c1 : ¬ ¬ There D id := fun q => q ht
  obtain ⟨i1, i2, i3⟩ := (show There D id from ht)
  refine callB B2 (rlimit_ret lim w2) fun w5 b5 B5 => ⟨_, rfl, br_not (br_dec (fun hl => ?_) fun hl => fail 1 (by unfold limE; rw [if_neg c1, if_pos hl]) (by decide) B5)⟩
  have c2 : ¬ ¬ LimOk lim := fun q => q hl
  rw [wr64 (by omega) (by omega)]
  refine ⟨by omega, by omega, (D id).cls, rt_cell (h.below B5) ⟨i1, i2⟩ 3 rfl, ?_⟩
  cases hc : (D id).cls
  · have c3 : ¬ (D id).cls = true := by rw [hc]; decide
    have hz : limE D id lim = 0 := by unfold limE; rw [if_neg c1, if_neg c2, if_neg c3]
    exact br_f rfl ⟨by omega, by omega, rt_set (h.below B5) ⟨i1, i2⟩ 2 (by omega) { D id with lim := lim } rfl (fun x hx => by cases hx) fun wz tz fz zz => ⟨by rw [hz], by unfold limD; rw [if_pos hz]; exact tz, (Fr.ofBelow B5).trans fz (Gr.refl _ _)⟩⟩
  · exact br_t rfl (fail 16 (by unfold limE; rw [if_neg c1, if_neg c2, if_pos hc]) (by decide) B5)
theorem rclose_any {w : World} {g : Nat} {D : DT} (h : RtAt w g D) (id : Int) (hi : id ≤ 9223372036854775807) :
    Calls Try.prog 99 #[.pointer (some ⟨g, 0, none⟩), .int .i64 id] w fun e w' => e = .returned (.int .i64 (closeE D id)) ∧ RtAt w' g (closeD D id) ∧ Fr [g] w w' := by
  refine rdo_in (GTreeR.rclose_calls (some ⟨g, 0, none⟩) id w (RDo w g (closeE D id) (closeD D id)) ?_)
  unfold GTreeR.rclose_vc
  have fail : ∀ z, closeE D id = z → z ≠ 0 → ∀ {wx : World}, Bs w wx → RDo w g (closeE D id) (closeD D id) (.int .i64 z) wx := fun z he hz wx B => rdo_no h B he (by unfold closeD; rw [if_neg (by rw [he]; exact hz)])
  refine callB (Bs.refl w) (rthere_ret h id hi) fun w2 b2 B2 => ⟨_, rfl, br_not (br_dec (fun ht => ?_) fun ht => fail 7 (by unfold closeE; rw [if_pos ht]) (by decide) B2)⟩
  have c1 : ¬ ¬ There D id := fun q => q ht
  obtain ⟨i1, i2, i3⟩ := (show There D id from ht)
  rw [wr64 (by omega) (by omega)]
  refine ⟨by omega, by omega, (D id).cls, rt_cell (h.below B2) ⟨i1, i2⟩ 3 rfl, ?_⟩
  cases hc : (D id).cls
  · have c2 : ¬ (D id).cls = true := by rw [hc]; decide
    refine br_f rfl ⟨fun x wx => ∃ i : Nat, x = i ∧ i ≤ 32 ∧ (∀ j : Nat, j < i → ¬ BusyAt D id ((j : Int) + 1)) ∧ Bs w wx, fun x _ => 32 - x.toNat, ⟨0, rfl, by omega, fun j hj => absurd hj (Nat.not_lt_zero _), B2⟩, ?_⟩
    rintro x wx ⟨i, rfl, hi32, hno, B⟩
    refine br_dec (fun hlt => ?_) fun hge => ?_
    · have hk : 1 ≤ (i : Int) + 1 ∧ (i : Int) + 1 ≤ 32 := by omega
      have ht' := fun c v hv => rt_cell (h.below B) hk c (v := v) hv
      rw [show ((i : Int) + 1 - 1).toNat = i by omega] at ht'
      have hnext : ¬ BusyAt D id ((i : Int) + 1) → (∃ i2 : Nat, IntKind.i64.wrap ((i : Int) + 1) = i2 ∧ i2 ≤ 32 ∧ (∀ j : Nat, j < i2 → ¬ BusyAt D id ((j : Int) + 1)) ∧ Bs w wx) ∧ 32 - (IntKind.i64.wrap ((i : Int) + 1)).toNat < 32 - (i : Int).toNat := fun hb => by
        rw [wr64 (by omega) (by omega)]
        refine ⟨⟨i + 1, by omega, by omega, fun j hj => ?_, B⟩, by omega⟩
        by_cases e : j = i
        · subst e; exact hb
        · exact hno j (by omega)
      refine ⟨by omega, by omega, (D ((i : Int) + 1)).knd, ht' 1 _ rfl, br_dec (fun q1 => ⟨by omega, by omega, (D ((i : Int) + 1)).par, ht' 0 _ rfl, br_dec (fun q2 => ⟨by omega, by omega, (D ((i : Int) + 1)).cls, ht' 3 _ rfl, ?_⟩) fun q2 => hnext fun q => q2 q.2.1⟩) fun q1 => hnext fun q => q1 q.1.2.2⟩
      cases hck : (D ((i : Int) + 1)).cls
      · have hb : BusyAt D id ((i : Int) + 1) := ⟨⟨hk.1, hk.2, q1⟩, q2, hck⟩
        exact br_t rfl (fail 17 (by unfold closeE; rw [if_neg c1, if_neg c2, if_pos (busy_iff.2 ⟨_, hb⟩)]) (by decide) B)
      · exact br_f rfl (hnext fun q => by rw [q.2.2] at hck; cases hck)
    · obtain rfl : i = 32 := by omega
      have hnb : ¬ Busy D id := by
        rintro ⟨j, hj, hb⟩
        exact hno j hj hb
      have hz : closeE D id = 0 := by unfold closeE; rw [if_neg c1, if_neg c2, if_neg hnb]
      exact ⟨by omega, by omega, rt_set (h.below B) ⟨i1, i2⟩ 3 (by omega) { D id with cls := true } rfl (fun x hx => by cases hx) fun wz tz fz zz => ⟨by rw [hz], by unfold closeD; rw [if_pos hz]; exact tz, (Fr.ofBelow B).trans fz (Gr.refl _ _)⟩⟩
  · exact br_t rfl (fail 16 (by unfold closeE; rw [if_neg c1, if_pos hc]) (by decide) B2)
end Go.Proofs.Ytjcabccolkmlmaa
end
section
/- The document's paths; both trees side by side; walked. -/
namespace Go.Proofs.Ytjcabccolkmlmaa
open Go.RowKit
theorem rpath_n {g : Nat} {D : DT} (hW : TWf D) : ∀ (n : Nat) (k : Int) (w : World), RtAt w g D → (There D k → (D k).knd ≤ n) → k ≤ 9223372036854775807 →
    Calls Try.prog 57 #[.pointer (some ⟨g, 0, none⟩), .int .i64 k] w fun e w' => ∃ a n c, e = .returned (.slice a n c) ∧ NewInts w (pathD D k) a n c w' := by
  intro n
  induction n with
  | zero =>
    intro k w h hk hi
    have ht : ¬ There D k := fun q => by have := hk q; have := q.2.2; omega
    refine (GTreeR.rpath_calls (some ⟨g, 0, none⟩) k w (fun u w' => ∃ a n c, u = .slice a n c ∧ NewInts w (pathD D k) a n c w') ?_).mono (by rintro e w' ⟨v, rfl, a, n, c, rfl, h⟩; exact ⟨a, n, c, rfl, h⟩)
    unfold GTreeR.rpath_vc
    refine callB (Bs.refl w) (rthere_ret h k hi) fun w2 b2 B2 => ⟨_, rfl, br_not (br_n ht ⟨none, 0, 0, rfl, ?_⟩)⟩
    rw [pathD_no ht]
    exact ⟨rfl, Own.nil _ _ _ _, B2⟩
  | succ n ih =>
    intro k w h hk hi
    refine (GTreeR.rpath_calls (some ⟨g, 0, none⟩) k w (fun u w' => ∃ a n c, u = .slice a n c ∧ NewInts w (pathD D k) a n c w') ?_).mono (by rintro e w' ⟨v, rfl, a, n, c, rfl, h⟩; exact ⟨a, n, c, rfl, h⟩)
    unfold GTreeR.rpath_vc
    refine callB (Bs.refl w) (rthere_ret h k hi) fun w2 b2 B2 => ⟨_, rfl, br_not (br_dec (fun ht => ?_) fun ht => ⟨none, 0, 0, rfl, by rw [pathD_no ht]; exact ⟨rfl, Own.nil _ _ _ _, B2⟩⟩)⟩
    obtain ⟨i1, i2, i3⟩ := (show There D k from ht)
    rw [wr64 (by omega) (by omega)]
    refine ⟨by omega, by omega, (D k).par, rt_cell (h.below B2) ⟨i1, i2⟩ 0 rfl, ?_⟩
    have hkn := hk ht
    have hpar : (D k).par ≤ 32 := by
      by_cases e : (D k).knd = 1
      · rw [(hW.org k ht).2 e]; omega
      · exact (hW.up k ht e).1.2.1
    refine (ih (D k).par w2 (h.below B2) (fun hp => ?_) (by omega)).mono ?_
    · by_cases e : (D k).knd = 1
      · have := (hW.org k ht).2 e; have := hp.1; omega
      · have := (hW.up k ht e).2; omega
    rintro e w3 ⟨a, n', c, rfl, rfl, o3, b3⟩
    have B3 := B2.to b3
    have hp3 := pathD_le hW (D k).par
    refine ⟨keepG_below b3, a, _, c, rfl, newB B3 fun g2 w4 g20 sg2 n4 z4 b4 B4 => app1 B4 o3 b4 B2.size b3.size n4 (by omega) (fun q hq => by cases hq) fun a' c' w5 o5 B5 gr5 z5 => ⟨a', _, c', rfl, ?_⟩⟩
    rw [pathD_step hW ht]
    exact ⟨by simp, o5.base_le fun j hj => Nat.le_trans B2.size (o5.lt j hj).1, B5⟩
theorem rpath_new {w : World} {g : Nat} {D : DT} (h : RtAt w g D) (hW : TWf D) (k : Int) (hi : k ≤ 9223372036854775807) :
    Calls Try.prog 57 #[.pointer (some ⟨g, 0, none⟩), .int .i64 k] w fun e w' => ∃ a n c, e = .returned (.slice a n c) ∧ NewInts w (pathD D k) a n c w' := rpath_n hW 3 k w h (fun ht => hW.knd k ht) hi
theorem belowD_eq (D : DT) (id : Int) : belowD D id = ids32.filter fun i => decide (id ∈ pathD D i) := by
  unfold belowD idsD
  rw [List.filter_filter]
  refine List.filter_congr fun x _ => ?_
  by_cases hx : There D x
  · simp [hx]
  · simp [hx, pathD_no hx]
def selD (D : DT) (id : Int) (i : Nat) : List Int := (ids32.take i).filter fun k => decide (id ∈ pathD D k)
theorem ids32_get (i : Nat) (hi : i < 32) : ids32[i]? = some ((i : Int) + 1) := by simp [ids32, hi]
theorem selD_step (D : DT) (id : Int) (i : Nat) (hi : i < 32) : selD D id (i + 1) = selD D id i ++ if id ∈ pathD D ((i : Int) + 1) then [(i : Int) + 1] else [] := by
  unfold selD
  rw [List.take_add_one, ids32_get i hi, List.filter_append]
  congr 1
  by_cases h : id ∈ pathD D ((i : Int) + 1)
  · simp [h]
  · simp [h]
theorem selD_le (D : DT) (id : Int) (i : Nat) : (selD D id i).length ≤ 32 := by
  have h1 := List.length_filter_le (fun k => decide (id ∈ pathD D k)) (ids32.take i)
  have h2 : (ids32.take i).length ≤ 32 := by rw [List.length_take]; simp [ids32]; omega
  exact Nat.le_trans h1 h2
theorem rbelow_new {w : World} {g : Nat} {D : DT} (h : RtAt w g D) (hW : TWf D) (id : Int) :
    Calls Try.prog 58 #[.pointer (some ⟨g, 0, none⟩), .int .i64 id] w fun e w' => ∃ a n c, e = .returned (.slice a n c) ∧ NewInts w (belowD D id) a n c w' := by
  refine (GTreeR.rbelow_calls (some ⟨g, 0, none⟩) id w (fun u w' => ∃ a n c, u = .slice a n c ∧ NewInts w (belowD D id) a n c w') ?_).mono (by rintro e w' ⟨v, rfl, a, n, c, rfl, h⟩; exact ⟨a, n, c, rfl, h⟩)
  unfold GTreeR.rbelow_vc
  refine ⟨fun a n c x wx => ∃ i : Nat, x = (i : Int) + 1 ∧ i ≤ 32 ∧ n = (selD D id i).length ∧ Own wx w.heap.size 3 1 (.slice a n c) n ((selD D id i).map iV) ∧ Bs w wx, fun _ _ _ x _ => 33 - x.toNat, ⟨0, rfl, by omega, rfl, Own.nil _ _ _ _, Bs.refl _⟩, ?_⟩
  rintro a5 n5 c5 x wx ⟨i, rfl, hi, rfl, hO, B⟩
  refine br_dec (fun hlt => ?_) fun hge => ?_
  · have hil : i < 32 := by omega
    refine (rpath_new (h.below B) hW ((i : Int) + 1) (by omega)).mono ?_
    rintro e w3 ⟨ap, np, cp, rfl, rfl, op, bp⟩
    have B3 := B.to bp
    have hp3 := pathD_le hW ((i : Int) + 1)
    have hnd := pathD_nodup hW ((i : Int) + 1)
    have hsl := selD_le D id i
    have hpk : ∀ k, (Value.slice ap (pathD D ((i : Int) + 1)).length cp).ownBlock = some k → wx.heap.size ≤ k ∧ k < w3.heap.size := op.lt
    have hok : ∀ k, (Value.slice a5 (selD D id i).length c5).ownBlock = some k → k < wx.heap.size := fun k hk => (hO.lt k hk).2
    refine ⟨keepG_below bp, ap, _, cp, rfl, fun a n c y wy => ∃ j : Nat, y = j ∧ j ≤ (pathD D ((i : Int) + 1)).length ∧ n = (selD D id i ++ if id ∈ (pathD D ((i : Int) + 1)).take j then [(i : Int) + 1] else []).length ∧
      Own wy w.heap.size 3 1 (.slice a n c) n ((selD D id i ++ if id ∈ (pathD D ((i : Int) + 1)).take j then [(i : Int) + 1] else []).map iV) ∧ Bs w wy ∧ Own wy wx.heap.size 3 1 (.slice ap (pathD D ((i : Int) + 1)).length cp) (pathD D ((i : Int) + 1)).length ((pathD D ((i : Int) + 1)).map iV) ∧
      (∀ k, (Value.slice a n c).ownBlock = some k → k < wx.heap.size ∨ w3.heap.size ≤ k) ∧ w3.heap.size ≤ wy.heap.size, fun _ _ _ y _ => (pathD D ((i : Int) + 1)).length - y.toNat, ⟨0, rfl, by omega, by simp, by simpa using hO.below bp (Nat.le_refl _), B3, op, fun k hk => .inl (hok k hk), Nat.le_refl _⟩, ?_⟩
    rintro a8 n8 c8 y wy ⟨j, rfl, hj, rfl, hOy, By, opy, hout, hsz⟩
    refine br_dec (fun hlt2 => ?_) fun hge2 => ?_
    · have hjl : j < (pathD D ((i : Int) + 1)).length := by omega
      obtain ⟨b0, off, rfl, hc⟩ := opy.row.int hjl
      have htk : (pathD D ((i : Int) + 1)).take (j + 1) = (pathD D ((i : Int) + 1)).take j ++ [(pathD D ((i : Int) + 1))[j]] := by rw [List.take_add_one, List.getElem?_eq_getElem hjl]; rfl
      refine ⟨by omega, by omega, (pathD D ((i : Int) + 1))[j], by rw [Int.toNat_natCast, Nat.mul_one]; exact hc, br_dec (fun he => ?_) fun he => ?_⟩
      · have hno : id ∉ (pathD D ((i : Int) + 1)).take j := fun hm => by
          obtain ⟨q, hq⟩ := List.getElem?_of_mem hm
          have hqj : q < j := by have := (List.getElem?_eq_some_iff.1 hq).1; rw [List.length_take] at this; omega
          rw [List.getElem?_take_of_lt hqj] at hq
          have := (List.getElem?_inj (i := q) (j := j) (by omega) hnd).1 (by rw [hq, List.getElem?_eq_getElem hjl, he])
          omega
        have hyes : id ∈ (pathD D ((i : Int) + 1)).take (j + 1) := by rw [htk]; simp [he]
        rw [if_neg hno, List.append_nil] at hOy hout ⊢
        refine newB By fun g2 w5 g20 sg2 n5 z5 b5 B5 => app1o B5 hOy b5 (Nat.le_refl _) By.size n5 (by omega) (fun q hq => by cases hq) fun a' c' w6 o6 B6 gr6 z6 or6 => ?_
        rw [wr64 (by omega) (by omega)]
        refine ⟨⟨j + 1, by omega, by omega, by rw [if_pos hyes]; simp, by rw [if_pos hyes]; exact o6, B6, (opy.below b5 (Nat.le_refl _)).keep fun k hk => gr6.block k (by have := (hpk k hk).2; have := b5.size; omega) fun e => ?_, fun k hk => ?_, by omega⟩, by dsimp only; omega⟩
        · have h1 := hpk k hk
          have h2 := hout k e.symm
          omega
        · rcases or6 with q | ⟨q, h1, h2⟩
          · exact hout k (by rw [← q]; exact hk)
          · have : some k = some q := hk.symm.trans h1
            injection this with this
            exact .inr (by omega)
      · have hiff : id ∈ (pathD D ((i : Int) + 1)).take (j + 1) ↔ id ∈ (pathD D ((i : Int) + 1)).take j := by
          rw [htk, List.mem_append, List.mem_singleton]
          exact ⟨fun q => q.elim (fun q => q) fun q => absurd q.symm he, .inl⟩
        rw [wr64 (by omega) (by omega)]
        refine ⟨⟨j + 1, by omega, by omega, ?_, ?_, By, opy, ?_, hsz⟩, by dsimp only; omega⟩
        · by_cases q : id ∈ (pathD D ((i : Int) + 1)).take j
          · rw [if_pos q, if_pos (hiff.2 q)]
          · rw [if_neg q, if_neg fun r => q (hiff.1 r)]
        · by_cases q : id ∈ (pathD D ((i : Int) + 1)).take j
          · rw [if_pos (hiff.2 q)]; rw [if_pos q] at hOy ⊢; exact hOy
          · rw [if_neg fun r => q (hiff.1 r)]; rw [if_neg q] at hOy ⊢; exact hOy
        · exact hout
    · obtain rfl : j = (pathD D ((i : Int) + 1)).length := by omega
      rw [List.take_length] at hOy ⊢
      rw [wr64 (by omega) (by omega)]
      exact ⟨⟨i + 1, by omega, by omega, by rw [selD_step D id i hil], by rw [selD_step D id i hil]; exact hOy, By⟩, by dsimp only; omega⟩
  · obtain rfl : i = 32 := by omega
    have hs : selD D id 32 = belowD D id := by
      rw [belowD_eq D]
      unfold selD
      rw [List.take_of_length_le (by simp [ids32])]
    rw [hs] at hO ⊢
    exact ⟨a5, _, c5, rfl, rfl, hO, B⟩
end Go.Proofs.Ytjcabccolkmlmaa
end
section
/- Both trees side by side: one call on both; what is tried once; walked. -/
namespace Go.Proofs.Ytjcabccolkmlmaa
open Go.RowKit
theorem rSame_true (a b : Option Addr) (ca cb : Nat) (zs : List Int) (w : World) (hl : zs.length ≤ 1000000) (hra : RowAt w a (zs.map iV)) (hrb : RowAt w b (zs.map iV)) :
    Calls Try.prog 39 #[.slice a zs.length ca, .slice b zs.length cb] w (Ret (.bool true) w) := by
  refine ret_in (GTreeR.lsame_calls a zs.length ca b zs.length cb w (fun u w' => u = .bool true ∧ Below w.heap.size w w') ?_)
  unfold GTreeR.lsame_vc
  refine br_n (fun q => q rfl) ⟨fun x wx => ∃ i : Nat, x = i ∧ i ≤ zs.length ∧ Bs w wx, fun x _ => zs.length - x.toNat, ⟨0, rfl, by omega, Bs.refl _⟩, ?_⟩
  rintro x wx ⟨i, rfl, hi, B⟩
  refine br_dec (fun hlt => drewB B fun w3 b3 B3 e3 => ?_) fun hge => ⟨rfl, B⟩
  have hil : i < zs.length := by omega
  obtain ⟨b1, o1, rfl, c1⟩ := (hra.below B3 (Nat.le_refl _)).int hil
  obtain ⟨b2, o2, rfl, c2⟩ := (hrb.below B3 (Nat.le_refl _)).int hil
  refine ⟨by omega, by omega, zs[i], by rw [Int.toNat_natCast, Nat.mul_one]; exact c1, by omega, by omega, zs[i], by rw [Int.toNat_natCast, Nat.mul_one]; exact c2, br_n (fun q => q rfl) ?_⟩
  rw [wr64 (by omega) (by omega)]
  exact ⟨⟨i + 1, by omega, by omega, B3⟩, by dsimp only; omega⟩
theorem MapAt.of_new {w : World} {g : Nat} (h : w.heap[g]? = some (.map #[] 0)) : MapAt w g [] := ⟨#[], 0, h, MapKept.stamped_empty 0, rfl⟩
/-- A new tree. -/
theorem tnew_new (w : World) : Calls Try.prog 43 #[] w fun e w' => ∃ g mb, e = .returned (.pointer (some ⟨g, 0, none⟩)) ∧ TrAt w' g mb (fun _ => dn0) ∧ w.heap.size ≤ g ∧ w.heap.size ≤ mb ∧ Below w.heap.size w w' := by
  refine (GTree.tnew_calls w (fun u w' => ∃ g mb, u = .pointer (some ⟨g, 0, none⟩) ∧ TrAt w' g mb (fun _ => dn0) ∧ w.heap.size ≤ g ∧ w.heap.size ≤ mb ∧ Below w.heap.size w w') ?_).mono (by rintro e w' ⟨v, rfl, g, mb, rfl, h⟩; exact ⟨g, mb, rfl, h⟩)
  unfold GTree.tnew_vc
  refine newB (Bs.refl w) fun mb w2 mb0 sg n2 z2 b2 B2 => newB B2 fun g w3 g0 sg2 n3 z3 b3 B3 => ⟨g, mb, rfl, ⟨n3, [], (MapAt.of_new n2).below b3, fun k => ?_⟩, g0, mb0, B3⟩
  rw [nodeD_no fun q => by have := q.2.2; simp [dn0] at this]
  rfl
/-! Of no tree nothing is told. -/
theorem tput_nil (w : World) (id par knd lim : Int) (cls : Bool) : Calls Try.prog 50 #[.pointer none, .agg #[.int .i64 id, .int .i64 par, .int .i64 knd, .int .i64 lim, .bool cls]] w (Ret (.int .i64 1) w) := by
  refine ret_in (GTree.tput_calls none id par knd lim cls w (fun u w' => u = .int .i64 1 ∧ Below w.heap.size w w') ?_)
  unfold GTree.tput_vc
  exact newB (Bs.refl w) fun g1 w2 g10 sg1 n2 z2 b2 B2 => br_t rfl ⟨rfl, B2⟩
theorem tcreate_nil (w : World) (id par knd lim : Int) : Calls Try.prog 45 #[.pointer none, .int .i64 id, .int .i64 par, .int .i64 knd, .int .i64 lim] w (Ret (.int .i64 1) w) := by
  refine ret_in (GTree.tcreate_calls none id par knd lim w (fun u w' => u = .int .i64 1 ∧ Below w.heap.size w w') ?_)
  unfold GTree.tcreate_vc
  exact callB (Bs.refl w) (tput_nil w id par knd lim false) fun w2 b2 B2 => ⟨_, rfl, rfl, B2⟩
theorem tmove_nil (w : World) (id par : Int) : Calls Try.prog 46 #[.pointer none, .int .i64 id, .int .i64 par] w (Ret (.int .i64 1) w) := by
  refine ret_in (GTree.tmove_calls none id par w (fun u w' => u = .int .i64 1 ∧ Below w.heap.size w w') ?_)
  unfold GTree.tmove_vc
  exact callB (Bs.refl w) (topen_nil w id) fun w2 b2 B2 => ⟨_, _, _, _, _, _, rfl, newB B2 fun g1 w3 g10 sg1 n3 z3 b3 B3 => boxB B3 g10 fun w4 h4 B4 z4 => br_y (by decide) ⟨rfl, B4⟩⟩
theorem tclose_nil (w : World) (id : Int) : Calls Try.prog 47 #[.pointer none, .int .i64 id] w (Ret (.int .i64 1) w) := by
  refine ret_in (GTree.tclose_calls none id w (fun u w' => u = .int .i64 1 ∧ Below w.heap.size w w') ?_)
  unfold GTree.tclose_vc
  exact callB (Bs.refl w) (topen_nil w id) fun w2 b2 B2 => ⟨_, _, _, _, _, _, rfl, newB B2 fun g1 w3 g10 sg1 n3 z3 b3 B3 => boxB B3 g10 fun w4 h4 B4 z4 => br_y (by decide) ⟨rfl, B4⟩⟩
theorem tsetl_nil (w : World) (id lim : Int) : Calls Try.prog 54 #[.pointer none, .int .i64 id, .int .i64 lim] w (Ret (.int .i64 1) w) := by
  refine ret_in (GTree.tsetl_calls none id lim w (fun u w' => u = .int .i64 1 ∧ Below w.heap.size w w') ?_)
  unfold GTree.tsetl_vc
  exact callB (Bs.refl w) (tget_nil w id) fun w2 b2 B2 => ⟨_, _, _, _, _, _, rfl, newB B2 fun g1 w3 g10 sg1 n3 z3 b3 B3 => boxB B3 g10 fun w4 h4 B4 z4 => br_y (by decide) ⟨rfl, B4⟩⟩
theorem lnone_ret (w : World) : Calls Try.prog 51 #[] w (Ret (.pointer none) w) := by
  refine ret_in (GTreeR.lnone_calls w (fun u w' => u = .pointer none ∧ Below w.heap.size w w') ?_)
  unfold GTreeR.lnone_vc
  exact ⟨rfl, Bs.refl _⟩
/-- Both trees hold the same nodes. -/
structure TB (w : World) (g mb gr : Nat) (D : DT) : Prop where
  t : TrAt w g mb D
  r : RtAt w gr D
  wf : TWf D
section
variable {w w1 : World} {g mb gr : Nat} {D D' : DT}
theorem TB.ne (h : TB w g mb gr D) : g ≠ gr ∧ mb ≠ gr ∧ g ≠ mb := by
  obtain ⟨m, hm, _⟩ := h.t.map
  exact ⟨h.t.blk.ne h.r (by decide), fun e => hm.ne_cells h.r e.symm, hm.ne_cells h.t.blk⟩
theorem TB.below (h : TB w g mb gr D) (b : Below w.heap.size w w1) : TB w1 g mb gr D := ⟨h.t.below b, h.r.below b, h.wf⟩
theorem TB.lt (h : TB w g mb gr D) : g < w.heap.size ∧ mb < w.heap.size ∧ gr < w.heap.size := ⟨h.t.lt.1, h.t.lt.2, h.r.lt⟩
end
/-- One call on both: the same answer, and both hold the same behind it. -/
def act5 (D : DT) (what id par knd lim : Int) : DT :=
  let z := (IntKind.u64.wrap what) % 5
  if z = 0 then putD D id par knd lim false else if z = 1 then moveD D id par else if z = 2 then closeD D id else if z = 3 then limD D id lim else putD D id par knd lim true
theorem act5_wf {D : DT} (h : TWf D) (what id par knd lim : Int) : TWf (act5 D what id par knd lim) := by
  unfold act5
  dsimp only
  split
  · exact h.put ..
  split
  · exact h.move ..
  split
  · exact h.close ..
  split
  · exact h.limit ..
  · exact h.put ..
theorem act_mod (what : Int) : IntKind.i64.wrap (Int.tmod (IntKind.u64.wrap what) 5) = IntKind.u64.wrap what % 5 := by
  have h0 : 0 ≤ IntKind.u64.wrap what := by rw [IntKind.wrap_u64]; omega
  rw [Int.tmod_eq_emod_of_nonneg h0]
  exact wr64 (by omega) (by omega)
theorem two_do {w w2 w3 w4 w5 : World} {g mb gr g1 : Nat} {D D' : DT} (h : TB w g mb gr D) (b2 : Below w.heap.size w w3) (f4 : Fr [mb] w3 w4) (t4 : TrAt w4 g mb D') (f5 : Fr [gr] w4 w5) (r5 : RtAt w5 gr D') (hW : TWf D') : TB w5 g mb gr D' ∧ Fr [mb, gr] w w5 := by
  obtain ⟨n1, n2, n3⟩ := h.ne
  refine ⟨⟨t4.fr f5 (by simp; omega) (by simp; omega), r5, hW⟩, ?_⟩
  have e1 : Fr [mb, gr] w w3 := Fr.ofBelow b2
  have e2 : Fr [mb, gr] w3 w4 := f4.mono fun k hk => .inl (by simp at hk; simp [hk])
  have e3 : Fr [mb, gr] w4 w5 := f5.mono fun k hk => .inl (by simp at hk; simp [hk])
  exact (e1.trans e2 (Gr.refl _ _)).trans e3 (Gr.refl _ _)
set_option maxRecDepth 10000 in
theorem ldo_any {w : World} {g mb gr : Nat} {D : DT} (h : TB w g mb gr D) (what id par knd lim : Int) (hi : id ≤ 9223372036854775807) (hp : par ≤ 9223372036854775807) :
    Calls Try.prog 55 #[.agg #[.int .i64 what, .int .i64 id, .int .i64 par, .int .i64 knd, .int .i64 lim], .pointer (some ⟨g, 0, none⟩), .pointer (some ⟨gr, 0, none⟩)] w fun e w' => e = .returned (.bool true) ∧ TB w' g mb gr (act5 D what id par knd lim) ∧ Fr [mb, gr] w w' := by
  refine (GTreeR.ldo_calls what id par knd lim (some ⟨g, 0, none⟩) (some ⟨gr, 0, none⟩) w (fun u w' => u = .bool true ∧ TB w' g mb gr (act5 D what id par knd lim) ∧ Fr [mb, gr] w w') ?_).mono (by rintro e w' ⟨v, rfl, rfl, h⟩; exact ⟨rfl, h⟩)
  have hW' := act5_wf h.wf what id par knd lim
  unfold GTreeR.ldo_vc
  rw [act_mod]
  obtain ⟨l1, l2, l3⟩ := h.lt
  obtain ⟨n1, n2, n3⟩ := h.ne
  refine newB (Bs.refl w) fun g1 w2 g10 sg1 ng z2 b2 B2 => ⟨by decide, ?_⟩
  have hk1 : ∀ {wa wb : World}, Fr [mb] wa wb → KeepG [g1] wa wb := fun f => keepG_fr f fun q hq hq2 => by simp at hq hq2; omega
  have hk2 : ∀ {wa wb : World}, Fr [gr] wa wb → KeepG [g1] wa wb := fun f => keepG_fr f fun q hq hq2 => by simp at hq hq2; omega
  have fin : ∀ {w3 w4 w5 : World} {z : Int} {D' : DT}, act5 D what id par knd lim = D' → Bs w w3 → Fr [mb] w3 w4 → TrAt w4 g mb D' → Fr [gr] w4 w5 → RtAt w5 gr D' → (Value.bool (decide (z = z)) = .bool true ∧ TB w5 g mb gr (act5 D what id par knd lim) ∧ Fr [mb, gr] w w5) := fun {w3 w4 w5 z D'} e b f4 t4 f5 r5 => by
    rw [e] at hW' ⊢
    have := two_do (w2 := w) (g1 := g1) h b f4 t4 f5 r5 hW'
    exact ⟨by rw [decide_eq_true rfl], this.1, this.2⟩
  have rkeep : ∀ {w3 w4 : World}, Bs w w3 → Fr [mb] w3 w4 → RtAt w4 gr D := fun b f => (h.r.below b).fr f (by simp; omega)
  refine br_dec (fun q => drewB B2 fun w3 b3 B3 e3 => (tcreate_any (h.t.below B3) id par knd lim).mono ?_) fun q0 => br_dec (fun q => drewB B2 fun w3 b3 B3 e3 => (tmove_any (h.t.below B3) h.wf id par).mono ?_) fun q1 => br_dec (fun q => drewB B2 fun w3 b3 B3 e3 => (tclose_any (h.t.below B3) id).mono ?_) fun q2 => br_dec (fun q => drewB B2 fun w3 b3 B3 e3 => (tsetl_any (h.t.below B3) id lim).mono ?_) fun q3 => drewB B2 fun w3 b3 B3 e3 => (tput_any (h.t.below B3) id par knd lim true).mono ?_
  · rintro e w4 ⟨rfl, t4, f4⟩
    refine ⟨hk1 f4, _, rfl, (rcreate_any (rkeep B3 f4) id par knd lim false hp).mono ?_⟩
    rintro e w5 ⟨rfl, r5, f5⟩
    exact ⟨hk2 f5, _, rfl, fin (by unfold act5; rw [if_pos q]) B3 f4 t4 f5 r5⟩
  · rintro e w4 ⟨rfl, t4, f4⟩
    refine ⟨hk1 f4, _, rfl, (rmove_any (rkeep B3 f4) h.wf id par hi hp).mono ?_⟩
    rintro e w5 ⟨rfl, r5, f5⟩
    exact ⟨hk2 f5, _, rfl, fin (by unfold act5; rw [if_neg q0, if_pos q]) B3 f4 t4 f5 r5⟩
  · rintro e w4 ⟨rfl, t4, f4⟩
    refine ⟨hk1 f4, _, rfl, (rclose_any (rkeep B3 f4) id hi).mono ?_⟩
    rintro e w5 ⟨rfl, r5, f5⟩
    exact ⟨hk2 f5, _, rfl, fin (by unfold act5; rw [if_neg q0, if_neg q1, if_pos q]) B3 f4 t4 f5 r5⟩
  · rintro e w4 ⟨rfl, t4, f4⟩
    refine ⟨hk1 f4, _, rfl, (rlim_any (rkeep B3 f4) id lim hi).mono ?_⟩
    rintro e w5 ⟨rfl, r5, f5⟩
    exact ⟨hk2 f5, _, rfl, fin (by unfold act5; rw [if_neg q0, if_neg q1, if_neg q2, if_pos q]) B3 f4 t4 f5 r5⟩
  · rintro e w4 ⟨rfl, t4, f4⟩
    refine ⟨hk1 f4, _, rfl, (rcreate_any (rkeep B3 f4) id par knd lim true hp).mono ?_⟩
    rintro e w5 ⟨rfl, r5, f5⟩
    exact ⟨hk2 f5, _, rfl, fin (by unfold act5; rw [if_neg q0, if_neg q1, if_neg q2, if_neg q3]) B3 f4 t4 f5 r5⟩
end Go.Proofs.Ytjcabccolkmlmaa
end
section
/- TreeActs, walked. -/
namespace Go.Proofs.Ytjcabccolkmlmaa
open Go.RowKit Go.WideShapes Go.ChangeShapes
structure TAct where
  what : Int
  id : Int
  par : Int
  knd : Int
  lim : Int
def tactC (x : TAct) : List Value := [.int .i64 x.what, .int .i64 x.id, .int .i64 x.par, .int .i64 x.knd, .int .i64 x.lim]
def TActAt (w : World) (b off : Nat) (x : TAct) : Prop := cellsAt w b off (tactC x) ∧ x.id ≤ 9223372036854775807 ∧ x.par ≤ 9223372036854775807
theorem TActAt.below {w w' : World} {b off : Nat} {x : TAct} (h : TActAt w b off x) (hb : Below w.heap.size w w') : TActAt w' b off x := ⟨cellsAt_below h.1 hb (Nat.le_refl _), h.2⟩
def shTAct : Sh := .agg (.fcons 0 1 (.int .i64) (.fcons 1 1 (.int .i64) (.fcons 2 1 (.int .i64) (.fcons 3 1 (.int .i64) (.fcons 4 1 (.int .i64) .fnil)))))
theorem tact_elem {w : World} (cs' : List Value) (b off : Nat) (hl : cs'.length = 5) (hc : cellsAt w b off cs') (h : shTAct.Has w cs') : ∃ x, TActAt w b off x := by
  obtain ⟨⟨x0, h0, _⟩, ⟨x1, h1, k1⟩, ⟨x2, h2, k2⟩, ⟨x3, h3, _⟩, ⟨x4, h4, _⟩, _⟩ := h
  match cs', hl with
  | [v0, v1, v2, v3, v4], _ =>
    simp at h0 h1 h2 h3 h4
    subst h0; subst h1; subst h2; subst h3; subst h4
    exact ⟨⟨x0, x1, x2, x3, x4⟩, hc, (i64_range k1).2, (i64_range k2).2⟩
theorem open_tacts {H : Type} {enc : TypeId × Value → H} {W : World} {t : TypeId} {v : Value} {d : DataW H} {p : List MemPlace} (hf : fitsB Try.prog (.slice shTAct 5) t = true) (hv : ∃ a l c, v = .slice a l c) (h : DataW.Trod enc Try.prog W 0 (fun _ => true) true t v d p) :
    ∃ (xs : List TAct) (a : Option Addr) (c : Nat), v = .slice a xs.length c ∧ RowsAt TActAt 5 W a xs ∧ xs.length ≤ c ∧ c ≤ maxLen := open_rows (by decide) tact_elem hf hv h
abbrev TActs (w : World) (a : Option Addr) (xs : List TAct) : Prop := RowsAt TActAt 5 w a xs
theorem tacts_below {w w' : World} {a : Option Addr} {xs : List TAct} (h : TActs w a xs) (hb : Below w.heap.size w w') : TActs w' a xs := h.mono fun _ _ _ q => q.below hb
def D3t : DT := putD (putD (putD (fun _ => dn0) 1 0 1 (-1) false) 2 1 2 5 false) 3 2 3 (-1) false
theorem d3_facts : putE (fun _ => dn0) 1 0 1 (-1) false = 0 ∧ putE (putD (fun _ => dn0) 1 0 1 (-1) false) 2 1 2 5 false = 0 ∧ putE (putD (putD (fun _ => dn0) 1 0 1 (-1) false) 2 1 2 5 false) 3 2 3 (-1) false = 0 ∧ getE D3t 3 = 0 ∧ pathD D3t 3 = [1, 2, 3] ∧ closeE D3t 2 = 17 := by decide +kernel
theorem ltrees_ret (w : World) : Calls Try.prog 44 #[] w (Ret (.bool true) w) := by
  refine ret_in (GTreeR.ltrees_calls w (fun u w' => u = .bool true ∧ Below w.heap.size w w') ?_)
  unfold GTreeR.ltrees_vc
  obtain ⟨f1, f2, f3, f4, f5, f6⟩ := d3_facts
  refine (tnew_new w).mono ?_
  rintro e w2 ⟨g, mb, rfl, t2, g0, mb0, b2⟩
  refine ⟨keepG_nil _ _, _, rfl, (tcreate_any t2 1 0 1 (-1)).mono ?_⟩
  rintro e w3 ⟨rfl, t3, f3'⟩
  have B3 : Bs w w3 := Bs.fr1 b2 f3' mb0
  refine ⟨keepG_nil _ _, _, rfl, (tcreate_any t3 2 1 2 5).mono ?_⟩
  rintro e w4 ⟨rfl, t4, f4'⟩
  have B4 : Bs w w4 := Bs.fr1 B3 f4' mb0
  refine ⟨keepG_nil _ _, _, rfl, (tcreate_any t4 3 2 3 (-1)).mono ?_⟩
  rintro e w5 ⟨rfl, t5, f5'⟩
  have B5 : Bs w w5 := Bs.fr1 B4 f5' mb0
  have hW : TWf D3t := ((twf0.put ..).put ..).put ..
  refine ⟨keepG_nil _ _, _, rfl, (tpath_new t5 hW 3).mono ?_⟩
  rintro e w6 ⟨a, n, c, rfl, hn⟩
  have hn' := hn
  change NewInts w5 (pathD D3t 3) a n c w6 at hn'
  rw [f5] at hn'
  obtain ⟨rfl, o6, b6⟩ := hn'
  have B6 : Bs w w6 := B5.to b6
  rw [f1, f2, f3]
  refine ⟨keepG_nil _ _, a, _, c, _, rfl, br_y rfl (br_y rfl (br_y rfl (br_y f4 (newB B6 fun g1 w7 g10 sg1 n7 z7 b7 B7 => ?_))))⟩
  refine callB B7 (rSame_true a (some ⟨g1, 0, none⟩) c 3 [1, 2, 3] w7 (by simp) ((o6.below b7 (Nat.le_refl _)).row) (RowAt.ofWhole (vs := [1, 2, 3].map iV) n7)) fun w8 b8 B8 => ⟨_, rfl, br_t rfl ?_⟩
  have t8 := ((t5.below b6).below b7).below b8
  refine (tclose_any t8 2).mono ?_
  rintro e w9 ⟨rfl, t9, f9⟩
  refine ⟨keepG_nil _ _, _, rfl, ?_, Bs.fr1 B8 f9 mb0⟩
  rw [show closeE (putD (putD (putD (fun _ => dn0) 1 0 1 (-1) false) 2 1 2 5 false) 3 2 3 (-1) false) 2 = 17 from f6]
  rfl
theorem below_len (D : DT) (id : Int) : (belowD D id).length ≤ 32 := Nat.le_trans (List.length_filter_le _ _) (ids_le D)
theorem lacts_k1_ok {w wx : World} {g1 g mb gr : Nat} {D : DT} {I : Int → World → Prop} {μ : Int → World → Nat} {x16 : Int} {w35 : World} (h : TB wx g mb gr D) (B : Bs w wx) (id : Int) (hi : id ≤ 9223372036854775807)
    (hn : ∀ wz, TB wz g mb gr D → Bs w wz → I (IntKind.i64.wrap (x16 + 1)) wz ∧ μ (IntKind.i64.wrap (x16 + 1)) wz < μ x16 w35) :
    GTreeR.lacts_k1 (fun u w' => u = .bool true ∧ Below w.heap.size w w') I μ g1 (some ⟨g, 0, none⟩) gr x16 w35 id wx := by
  unfold GTreeR.lacts_k1
  refine callB B (tget_ret h.t id) fun w2 b2 B2 => ?_
  obtain ⟨a, b, c, d, e, hv, hy⟩ := getV_agg D id
  rw [hv]
  have h2 := h.below b2
  refine ⟨_, _, _, _, _, _, rfl, newB B2 fun g4 w3 g40 sg4 n3 z3 b3 B3 => boxB B3 g40 fun w4 h4 B4 z4 => ?_⟩
  have h3 := h2.below b3
  have h4' : TB w4 g mb gr D := by
    obtain ⟨l1, l2, l3⟩ := h2.lt
    exact ⟨h3.t.fr h4.1 (by simp; omega) (by simp; omega), h3.r.fr h4.1 (by simp; omega), h.wf⟩
  refine (tpath_new h4'.t h.wf id).mono ?_
  rintro e w5 ⟨ap, np, cp, rfl, rfl, op, bp⟩
  have h5 := h4'.below bp
  have B5 := B4.to bp
  refine ⟨keepG_below bp, ap, _, cp, _, rfl, (tbelow_new h5.t h.wf id).mono ?_⟩
  rintro e w6 ⟨ab, nb, cb, rfl, rfl, ob, bb⟩
  have h6 := h5.below bb
  have B6 := B5.to bb
  refine ⟨keepG_below bb, ab, _, cb, _, rfl, callB B6 (rthere_ret h6.r id hi) fun w7 b7 B7 => ⟨_, rfl, br_not (br_dec (fun ht => ?_) fun ht => ?_)⟩⟩
  · obtain ⟨rfl, rfl, rfl, rfl, rfl⟩ := hy ht
    obtain ⟨i1, i2, i3⟩ := (show There D a from ht)
    have h7 := h6.below b7
    have e0 := getE_zero.2 ht
    rw [wr64 (z := a - 1) (by omega) (by omega)]
    refine ⟨by omega, by omega, _, _, _, _, rt_cells h7.r ⟨i1, i2⟩, newB B7 fun g5 w8 g50 sg5 n8 z8 b8 B8 => boxB B8 g50 fun w9 h9 B9 z9 => br_n (fun q => q e0) (br_n (fun q => q e0) (br_n (fun q => q e0) (br_f (by simp) ?_)))⟩
    have h8 := h7.below b8
    have h9' : TB w9 g mb gr D := by
      obtain ⟨l1, l2, l3⟩ := h7.lt
      exact ⟨h8.t.fr h9.1 (by simp; omega) (by simp; omega), h8.r.fr h9.1 (by simp; omega), h.wf⟩
    have k79 : ∀ k, k < w7.heap.size → w9.heap[k]? = w7.heap[k]? := fun k hk => (h9.1.block k (by omega) (by rw [List.mem_singleton]; omega)).trans (b8.block k hk)
    refine (rpath_new h9'.r h.wf a hi).mono ?_
    rintro e w10 ⟨aq, nq, cq, rfl, rfl, oq, bq⟩
    have h10 := h9'.below bq
    have B10 := B9.to bq
    have op7 := (op.below bb (Nat.le_refl _)).below b7 (Nat.le_refl _)
    have op9 : Own w9 _ _ _ _ _ _ := op7.keep fun k hk => k79 k (op7.lt k hk).2
    have ob7 := ob.below b7 (Nat.le_refl _)
    have ob9 : Own w9 _ _ _ _ _ _ := ob7.keep fun k hk => k79 k (ob7.lt k hk).2
    have hp3 := pathD_le h.wf a
    refine ⟨keepG_below bq, aq, _, cq, rfl, callB B10 (rSame_true ap aq cp cq (pathD D a) w10 (by omega) (op9.below bq (Nat.le_refl _)).row oq.row) fun w11 b11 B11 => ⟨_, rfl, br_f rfl ?_⟩⟩
    have h11 := h10.below b11
    refine (rbelow_new h11.r h.wf a).mono ?_
    rintro e w12 ⟨ar, nr, cr, rfl, rfl, or', br'⟩
    have h12 := h11.below br'
    have B12 := B11.to br'
    have hbl := below_len D a
    have obR : belowR D a = belowD D a := by unfold belowR; rw [if_pos ht]
    rw [obR] at ob9 ⊢
    refine ⟨keepG_below br', ar, _, cr, rfl, callB B12 (rSame_true ab ar cb cr (belowD D a) w12 (by omega) (((ob9.below bq (Nat.le_refl _)).below b11 (Nat.le_refl _)).below br' (Nat.le_refl _)).row or'.row) fun w13 b13 B13 => ⟨_, rfl, br_f rfl (hn w13 (h12.below b13) B13)⟩⟩
  · have e7 : getE D id = 7 := by unfold getE; rw [if_neg ht]
    have hz : a = 0 ∧ b = 0 ∧ c = 0 ∧ d = 0 ∧ e = false := by
      unfold getV at hv
      rw [if_neg ht] at hv
      unfold nd0 at hv
      injection hv with hv
      injection hv with hv
      injection hv with q0 hv
      injection hv with q1 hv
      injection hv with q2 hv
      injection hv with q3 hv
      injection hv with q4 hv
      injection q0 with _ q0
      injection q1 with _ q1
      injection q2 with _ q2
      injection q3 with _ q3
      injection q4 with q4
      exact ⟨q0.symm, q1.symm, q2.symm, q3.symm, q4.symm⟩
    obtain ⟨rfl, rfl, rfl, rfl, rfl⟩ := hz
    rw [e7]
    refine br_n (by decide) (br_n (by decide) (br_n (by decide) (br_f (by simp) (br_n ?_ (br_n ?_ (hn w7 (h6.below b7) B7))))))
    · rw [pathD_no ht]; simp
    · unfold belowR; rw [if_neg ht]; simp
end Go.Proofs.Ytjcabccolkmlmaa
end
section
/- TreeActs: the whole law; walked. -/
namespace Go.Proofs.Ytjcabccolkmlmaa
open Go.RowKit
theorem idsD_take (D : DT) (i : Nat) (hi : i < 32) : ((ids32.take (i + 1)).filter fun k => decide (There D k)) = ((ids32.take i).filter fun k => decide (There D k)) ++ if There D ((i : Int) + 1) then [(i : Int) + 1] else [] := by
  rw [List.take_add_one, ids32_get i hi, List.filter_append]
  congr 1
  by_cases h : There D ((i : Int) + 1)
  · simp [h]
  · simp [h]
theorem filt_le (D : DT) (i : Nat) : ((ids32.take i).filter fun k => decide (There D k)).length ≤ 32 := by
  have h1 := List.length_filter_le (fun k => decide (There D k)) (ids32.take i)
  have h2 : (ids32.take i).length ≤ 32 := by rw [List.length_take]; simp [ids32]; omega
  exact Nat.le_trans h1 h2
theorem lacts_k2_ok {w wx : World} {g1 g mb gr : Nat} {D : DT} (h : TB wx g mb gr D) (B : Bs w wx) (ask : Int) (hi : ask ≤ 9223372036854775807) (hg1 : g1 < wx.heap.size) :
    GTreeR.lacts_k2 (fun u w' => u = .bool true ∧ Below w.heap.size w w') ask g1 (some ⟨g, 0, none⟩) gr wx := by
  unfold GTreeR.lacts_k2
  refine ⟨fun a n c x wy => ∃ i : Nat, x = (i : Int) + 1 ∧ i ≤ 32 ∧ n = ((ids32.take i).filter fun k => decide (There D k)).length ∧ Own wy wx.heap.size 3 1 (.slice a n c) n (((ids32.take i).filter fun k => decide (There D k)).map iV) ∧ Bs wx wy, fun _ _ _ x _ => 33 - x.toNat, ⟨0, rfl, by omega, rfl, Own.nil _ _ _ _, Bs.refl _⟩, ?_⟩
  rintro a n c x wy ⟨i, rfl, hi32, rfl, hO, By⟩
  have hy := h.below By
  refine br_dec (fun hlt => ?_) fun hge => ?_
  · have hil : i < 32 := by omega
    refine callB By (rthere_ret hy.r ((i : Int) + 1) (by omega)) fun w2 b2 B2 => ⟨_, rfl, ?_⟩
    have hO2 := hO.below b2 (Nat.le_refl _)
    rw [wr64 (by omega) (by omega)]
    have hl := filt_le D i
    refine br_dec (fun ht => newB B2 fun g2 w3 g20 sg2 n3 z3 b3 B3 => app1 B3 hO2 b3 (Nat.le_refl _) B2.size n3 (by omega) (fun q hq => by simp at hq; omega) fun a' c' w4 o4 B4 gr4 z4 => ⟨⟨i + 1, by omega, by omega, ?_, ?_, B4⟩, by dsimp only; omega⟩) fun ht => ⟨⟨i + 1, by omega, by omega, ?_, ?_, B2⟩, by dsimp only; omega⟩
    · rw [idsD_take D i hil, if_pos ht]; simp
    · rw [idsD_take D i hil, if_pos ht]; exact o4
    · rw [idsD_take D i hil, if_neg ht, List.append_nil]
    · rw [idsD_take D i hil, if_neg ht, List.append_nil]; exact hO2
  · obtain rfl : i = 32 := by omega
    have hids : ((ids32.take 32).filter fun k => decide (There D k)) = idsD D := by
      unfold idsD
      rw [List.take_of_length_le (by simp [ids32])]
    rw [hids] at hO ⊢
    have hl := ids_le D
    refine (tids_new hy.t).mono ?_
    rintro e w2 ⟨ai, ni, ci, rfl, rfl, oi, bi⟩
    have B2 := By.to bi
    refine ⟨keepG_below bi, ai, _, ci, rfl, callB B2 (rSame_true ai a ci c (idsD D) w2 (by omega) oi.row (hO.below bi (Nat.le_refl _)).row) fun w3 b3 B3 => ⟨_, rfl, br_f rfl ?_⟩⟩
    refine ⟨fun x wz => ∃ i : Nat, x = i ∧ i ≤ 35 ∧ TB wz g mb gr D ∧ Bs w wz, fun x _ => 35 - x.toNat, ⟨0, rfl, by omega, (hy.below bi).below b3, B.trans (B3.mono B.size)⟩, ?_⟩
    rintro x wz ⟨i, rfl, hi35, hz, Bz⟩
    refine br_dec (fun hlt => ?_) fun hge => ⟨rfl, Bz⟩
    have hn : ∀ wv, TB wv g mb gr D → Bs w wv → (∃ j : Nat, IntKind.i64.wrap ((i : Int) + 1) = j ∧ j ≤ 35 ∧ TB wv g mb gr D ∧ Bs w wv) ∧ 35 - (IntKind.i64.wrap ((i : Int) + 1)).toNat < 35 - (i : Int).toNat := fun wv tv Bv => by
      rw [wr64 (by omega) (by omega)]
      exact ⟨⟨i + 1, by omega, by omega, tv, Bv⟩, by omega⟩
    refine br_dec (fun _ => ?_) fun _ => ?_
    · exact lacts_k1_ok (I := fun x wz => ∃ i : Nat, x = i ∧ i ≤ 35 ∧ TB wz g mb gr D ∧ Bs w wz) (μ := fun x _ => 35 - x.toNat) hz Bz ask hi hn
    · exact lacts_k1_ok (I := fun x wz => ∃ i : Nat, x = i ∧ i ≤ 35 ∧ TB wz g mb gr D ∧ Bs w wz) (μ := fun x _ => 35 - x.toNat) hz Bz i (by omega) hn
theorem rt_new {w : World} {g : Nat} (h : w.heap[g]? = some (.cells (sArr 32 4 fun _ => rnC dn0) 100 (0, 0))) : RtAt w g (fun _ => dn0) := h
/-- The rows of calls, on both. -/
theorem rows_ok {w : World} {a : Option Addr} {xs : List TAct} (hx : TActs w a xs) {g mb gr : Nat} (i : Nat) (hi : i < xs.length) {wx : World} (B : Bs w wx) :
    ∃ b off, a = some ⟨b, off, none⟩ ∧ cellsAt wx b (off + i * 5) (tactC xs[i]) ∧ xs[i].id ≤ 9223372036854775807 ∧ xs[i].par ≤ 9223372036854775807 := by
  obtain ⟨b, off, ha, hc⟩ := RowsAt.get (tacts_below hx B) hi
  exact ⟨b, off, ha, hc.1, hc.2⟩
set_option maxRecDepth 20000 in
theorem lacts_walk (a : Option Addr) (c : Nat) (xs : List TAct) (ask : Int) (w : World) (hi : ask ≤ 9223372036854775807) (hl : xs.length ≤ maxLen) (hx : TActs w a xs) :
    Calls Try.prog 10 #[.slice a xs.length c, .int .i64 ask] w (Ret (.bool true) w) := by
  refine ret_in (GTreeR.lacts_calls a xs.length c ask w (fun u w' => u = .bool true ∧ Below w.heap.size w w') ?_)
  unfold GTreeR.lacts_vc
  have hlm : xs.length ≤ 9223372036854775807 := by unfold maxLen at hl; omega
  refine callB (Bs.refl w) (lnone_ret w) fun w2 b2 B2 => ⟨_, rfl, callB B2 (tget_nil w2 1) fun w3 b3 B3 => ⟨_, _, _, _, _, _, rfl, newB B3 fun g1 w4 g10 sg1 n4 z4 b4 B4 => boxB B4 g10 fun w5 h5 B5 z5 =>
    callB B5 (lnone_ret w5) fun w6 b6 B6 => ⟨_, rfl, callB B6 (tpath_nil w6 1) fun w7 b7 B7 => ⟨_, _, _, _, rfl, callB B7 (lnone_ret w7) fun w8 b8 B8 => ⟨_, rfl, callB B8 (tbelow_nil w8 1) fun w9 b9 B9 => ⟨_, _, _, _, rfl,
    callB B9 (ltrees_ret w9) fun w10 b10 B10 => ⟨_, rfl, br_f rfl ?_⟩⟩⟩⟩⟩⟩⟩
  refine callB B10 (lnone_ret w10) fun w11 b11 B11 => ⟨_, rfl, callB B11 (tcreate_nil w11 1 0 1 0) fun w12 b12 B12 => ⟨_, rfl, br_n (by decide) ?_⟩⟩
  refine callB B12 (lnone_ret w12) fun w13 b13 B13 => ⟨_, rfl, callB B13 (tmove_nil w13 1 2) fun w14 b14 B14 => ⟨_, rfl, br_n (by decide) ?_⟩⟩
  refine callB B14 (lnone_ret w14) fun w15 b15 B15 => ⟨_, rfl, callB B15 (tclose_nil w15 1) fun w16 b16 B16 => ⟨_, rfl, br_n (by decide) ?_⟩⟩
  refine callB B16 (lnone_ret w16) fun w17 b17 B17 => ⟨_, rfl, callB B17 (tsetl_nil w17 1 1) fun w18 b18 B18 => ⟨_, rfl, br_n (by decide) ?_⟩⟩
  refine callB B18 (lnone_ret w18) fun w19 b19 B19 => ⟨_, rfl, callB B19 (tput_nil w19 0 0 0 0 false) fun w20 b20 B20 => ⟨_, rfl, br_n (by decide) (br_n (by decide) (br_n (by decide) (br_n (by decide) ?_)))⟩⟩
  refine callB B20 (lnone_ret w20) fun w21 b21 B21 => ⟨_, rfl, callB B21 (tids_nil w21) fun w22 b22 B22 => ⟨_, _, _, rfl, br_n (by decide) ?_⟩⟩
  have hs5 : g1 < w5.heap.size := by omega
  have hs22 : g1 < w22.heap.size := by
    have := b6.size; have := b7.size; have := b8.size; have := b9.size; have := b10.size; have := b11.size; have := b12.size; have := b13.size; have := b14.size; have := b15.size
    have := b16.size; have := b17.size; have := b18.size; have := b19.size; have := b20.size; have := b21.size; have := b22.size
    omega
  refine (tnew_new w22).mono ?_
  rintro e w23 ⟨g, mb, rfl, t23, g0, mb0, b23⟩
  have B23 := B22.to b23
  have hsw := B22.size
  refine ⟨keepG_below b23, _, rfl, newB B23 fun gr w24 gr0 sgr n24 z24 b24 B24 => ?_⟩
  have r24 : RtAt w24 gr (fun _ => dn0) := rt_new (by rw [n24]; rfl)
  have hsz23 := b23.size
  refine ⟨fun x wx => ∃ (i : Nat) (D : DT), x = i ∧ i ≤ xs.length ∧ TB wx g mb gr D ∧ Bs w wx ∧ w24.heap.size ≤ wx.heap.size, fun x _ => xs.length - x.toNat, ⟨0, fun _ => dn0, rfl, by omega, ⟨t23.below b24, r24, twf0⟩, B24, Nat.le_refl _⟩, ?_⟩
  rintro x wx ⟨i, D, rfl, hix, hT, Bx, hszx⟩
  have hk2 : GTreeR.lacts_k2 (fun u w' => u = .bool true ∧ Below w.heap.size w w') ask g1 (some ⟨g, 0, none⟩) gr wx := lacts_k2_ok hT Bx ask hi (by omega)
  refine br_dec (fun hlt => br_dec (fun h60 => ?_) fun _ => hk2) fun _ => hk2
  have hil : i < xs.length := by omega
  obtain ⟨b, off, rfl, hcc, hid, hpar⟩ := rows_ok hx i hil (g := g) (mb := mb) (gr := gr) Bx
  refine ⟨by omega, by omega, _, _, _, _, _, by rw [Int.toNat_natCast]; exact hcc, (ldo_any hT _ _ _ _ _ hid hpar).mono ?_⟩
  rintro e w26 ⟨rfl, t26, f26⟩
  refine ⟨keepG_fr f26 (fun q hq hq2 => by simp at hq hq2; omega), _, rfl, br_f rfl ?_⟩
  rw [wr64 (by omega) (by omega)]
  exact ⟨⟨i + 1, _, by omega, by omega, t26, Bx.fr f26 (fun k hk => by simp at hk; omega), Nat.le_trans hszx f26.size⟩, by dsimp only; omega⟩
end Go.Proofs.Ytjcabccolkmlmaa
end
section
/- TreeMoves, walked. -/
namespace Go.Proofs.Ytjcabccolkmlmaa
open Go.RowKit
theorem moveD_eq {D : DT} {id par : Int} (he : moveE D id par = 0) : moveD D id par = upD D id ⟨par, (D id).knd, (D id).lim, (D id).cls⟩ := by unfold moveD; rw [if_pos he]
theorem there_move {D : DT} {id par : Int} (he : moveE D id par = 0) (j : Int) : There (moveD D id par) j ↔ There D j := by
  obtain ⟨h1, _⟩ := moveE_zero he
  rw [moveD_eq he, there_up (d := ⟨par, (D id).knd, (D id).lim, (D id).cls⟩) ⟨h1.1, h1.2.1⟩ h1.2.2]
  exact ⟨fun q => q.elim (fun e => e ▸ h1) fun q => q, .inr⟩
/-- Who is below a node stays below it when it is moved. -/
theorem move_path {D : DT} (hW : TWf D) {id par : Int} (he : moveE D id par = 0) : ∀ (n : Nat) (i : Int), (There D i → (D i).knd ≤ n) → (id ∈ pathD (moveD D id par) i ↔ id ∈ pathD D i) := by
  obtain ⟨h1, h2, h3, h4, h5, h6, h7⟩ := moveE_zero he
  have hD := moveD_eq he
  have hW' : TWf (moveD D id par) := hW.move id par
  have hth := there_move he
  intro n
  induction n with
  | zero =>
    intro i hi
    have ht : ¬ There D i := fun q => by have := hi q; have := q.2.2; omega
    rw [pathD_no ht, pathD_no fun q => ht ((hth i).1 q)]
  | succ n ih =>
    intro i hi
    by_cases ht : There D i
    · rw [pathD_step hW ht, pathD_step hW' ((hth i).2 ht)]
      by_cases e : i = id
      · subst e; simp
      · have hp : (moveD D id par i).par = (D i).par := by rw [hD, upD_other _ _ e]
        have hn : id ≠ i := fun q => e q.symm
        rw [hp, List.mem_append, List.mem_append, List.mem_singleton, ih (D i).par fun hpt => ?_]
        by_cases hk : (D i).knd = 1
        · have := (hW.org i ht).2 hk; have := hpt.1; omega
        · have := (hW.up i ht hk).2; have := hi ht; omega
    · rw [pathD_no ht, pathD_no fun q => ht ((hth i).1 q)]
theorem move_below {D : DT} (hW : TWf D) {id par : Int} (he : moveE D id par = 0) : belowD (moveD D id par) id = belowD D id := by
  rw [belowD_eq, belowD_eq]
  refine List.filter_congr fun x _ => ?_
  exact decide_eq_decide.2 (move_path hW he 3 x fun ht => hW.knd x ht)
set_option maxRecDepth 20000 in
theorem lmoves_k1_ok {w wx : World} {g mb gr : Nat} {D : DT} (h : TB wx g mb gr D) (B : Bs w wx) (hmb : w.heap.size ≤ mb) (id par : Int) :
    GTreeR.lmoves_k1 (fun u w' => u = .bool true ∧ Below w.heap.size w w') id par (some ⟨g, 0, none⟩) wx := by
  unfold GTreeR.lmoves_k1
  refine callB B (tget_ret h.t id) fun w2 b2 B2 => ?_
  obtain ⟨a, b, c, d, e, hv, hy⟩ := getV_agg D id
  rw [hv]
  refine ⟨_, _, _, _, _, _, rfl, newB B2 fun g2 w3 g20 sg2 n3 z3 b3 B3 => boxB B3 g20 fun w4 h4 B4 z4 => ?_⟩
  have t2 := h.t.below b2
  obtain ⟨l1, l2⟩ := t2.lt
  have t4 : TrAt w4 g mb D := (t2.below b3).fr h4.1 (by simp; omega) (by simp; omega)
  refine (tbelow_new t4 h.wf id).mono ?_
  rintro e' w5 ⟨ab, nb, cb, rfl, rfl, ob, bb⟩
  have B5 := B4.to bb
  refine ⟨keepG_below bb, ab, _, cb, _, rfl, callB B5 (ltrees_ret w5) fun w6 b6 B6 => ⟨_, rfl, br_f rfl (br_n (fun q => q rfl) ?_)⟩⟩
  have t6 := (t4.below bb).below b6
  have hg24 : g2 < w4.heap.size := by omega
  have h46 : w4.heap.size ≤ w6.heap.size := Nat.le_trans bb.size b6.size
  refine (tmove_any t6 h.wf id par).mono ?_
  rintro e' w7 ⟨rfl, t7, f7⟩
  have B7 : Bs w w7 := B6.fr1 f7 hmb
  have hkk : KeepG [g2] w6 w7 := keepG_fr f7 fun q hq hq2 => by simp at hq hq2; omega
  refine ⟨hkk, _, rfl, br_dec (fun _ => ⟨rfl, B7⟩) fun hz => ?_⟩
  have he : moveE D id par = 0 := Decidable.byContradiction hz
  obtain ⟨m1, m2, m3, m4, m5, m6, m7⟩ := moveE_zero he
  obtain ⟨rfl, rfl, rfl, rfl, rfl⟩ := hy m1
  have hD' := moveD_eq he
  have hW' := h.wf.move a par
  have ht' : There (moveD D a par) a := (there_move he a).2 m1
  have obR : belowR D a = belowD D a := by unfold belowR; rw [if_pos m1]
  have obR' : belowR (moveD D a par) a = belowD D a := by unfold belowR; rw [if_pos ht', move_below h.wf he]
  rw [obR] at ob ⊢
  refine (tbelow_new t7 hW' a).mono ?_
  rintro e' w8 ⟨ac, nc, cc, rfl, hnc⟩
  rw [obR'] at hnc
  obtain ⟨rfl, oc, bc⟩ := hnc
  have B8 := B7.to bc
  refine ⟨keepG_below bc, ac, _, cc, _, rfl, (tpath_new (t7.below bc) hW' a).mono ?_⟩
  rintro e' w9 ⟨ap, np, cp, rfl, rfl, op, bp⟩
  have B9 := B8.to bp
  have e0 : getE D a = 0 := getE_zero.2 m1
  have e0' : getE (moveD D a par) a = 0 := getE_zero.2 ht'
  have hbl := below_len D a
  have ob9 : RowAt w9 ab ((belowD D a).map iV) := by
    have o6 := ob.below b6 (Nat.le_refl _)
    have o7 : Own w7 _ _ _ _ _ _ := o6.keep fun k hk => f7.block k (o6.lt k hk).2 (by rw [List.mem_singleton]; have := (o6.lt k hk).1; have := t4.lt.2; omega)
    exact ((o7.below bc (Nat.le_refl _)).below bp (Nat.le_refl _)).row
  refine ⟨keepG_below bp, ap, _, cp, _, rfl, br_n (fun q => q e0) (br_n (fun q => q e0') (br_n (fun q => q e0') (callB B9 (rSame_true ab ac cb cc (belowD D a) w9 (by omega) ob9 (oc.below bp (Nat.le_refl _)).row) fun w10 b10 B10 => ⟨_, rfl, br_f rfl ?_⟩)))⟩
  have hk0 := m1.2.2
  have hk3 := h.wf.knd a m1
  have hDk : (moveD D a par a).knd = (D a).knd := by rw [hD', upD_same]
  have hDp : (moveD D a par a).par = par := by rw [hD', upD_same]
  have hlen : (pathD (moveD D a par) a).length = (D a).knd.toNat := (pathD_len hW' _ a ht' (by rw [hDk]; omega)).1
  have hpar' : There (moveD D a par) par := by
    have := (hW'.up a ht' (by rw [hDk]; exact m3)).1
    rwa [hDp] at this
  have hpe : pathD (moveD D a par) a = pathD (moveD D a par) (moveD D a par par).par ++ [par] ++ [a] := by rw [pathD_step hW' ht', hDp, pathD_step hW' hpar']
  have hget : (pathD (moveD D a par) a)[(D a).knd.toNat - 2]? = some par := by
    have hl2 : (pathD (moveD D a par) (moveD D a par par).par).length = (D a).knd.toNat - 2 := by
      have := congrArg List.length hpe
      simp at this
      omega
    rw [hpe, List.getElem?_append_left (by simp; omega), List.getElem?_append_right (by omega), hl2, Nat.sub_self]
    rfl
  obtain ⟨pb, po, rfl, pc⟩ := (op.below b10 (Nat.le_refl _)).row.int (k := (D a).knd.toNat - 2) (by omega)
  rw [(List.getElem?_eq_some_iff.1 hget).2] at pc
  rw [hlen]
  refine br_n (by omega) (br_n (by omega) ?_)
  rw [wr64 (by omega) (by omega)]
  refine ⟨by omega, by omega, par, by rw [Nat.mul_one, show ((((D a).knd.toNat : Nat) : Int) - 2).toNat = (D a).knd.toNat - 2 by omega]; exact pc, br_n (fun q => q rfl) (br_n m7 ?_)⟩
  have t10 := ((t7.below bc).below bp).below b10
  have hup := h.wf.up a m1 m3
  have hne : (D a).par ≠ a := fun q => by have := hup.2; rw [q] at this; omega
  have hthp : There (moveD D a par) (D a).par := (there_move he _).2 hup.1
  have hDnp : moveD D a par (D a).par = D (D a).par := by rw [hD', upD_other _ _ hne]
  refine callB B10 (tget_ret t10 (D a).par) fun w11 b11 B11 => ?_
  have hgv : getV (moveD D a par) (D a).par = ndV (D a).par (D (D a).par) := by unfold getV; rw [if_pos hthp, hDnp]
  have hge : getE (moveD D a par) (D a).par = 0 := getE_zero.2 hthp
  rw [hgv, hge]
  refine ⟨_, _, _, _, _, _, rfl, newB B11 fun g3 w12 g30 sg3 n12 z12 b12 B12 => boxB B12 g30 fun w13 h13 B13 z13 => br_n (fun q => q rfl) ?_⟩
  cases hcp : (D (D a).par).cls
  · refine br_f rfl ?_
    have t11 := t10.below b11
    obtain ⟨q1, q2⟩ := t11.lt
    have t13 : TrAt w13 g mb (moveD D a par) := (t11.below b12).fr h13.1 (by simp; omega) (by simp; omega)
    have hback : moveE (moveD D a par) a (D a).par = 0 := by
      unfold moveE
      have z1 : ¬ ¬ There (moveD D a par) a := fun q => q ht'
      have z2 : ¬ (moveD D a par a).cls = true := by rw [hD', upD_same]; show ¬ (D a).cls = true; rw [m2]; decide
      have z3 : ¬ (moveD D a par a).knd = 1 := by rw [hDk]; exact m3
      have z4 : ¬ underE (moveD D a par) (moveD D a par a).knd (D a).par ≠ 0 := by
        unfold underE
        rw [if_pos hthp, hDnp, hDk, if_neg (fun q => q hup.2)]
        exact fun q => q rfl
      have z5 : ¬ (moveD D a par (D a).par).cls = true := by rw [hDnp, hcp]; decide
      have z6 : ¬ (moveD D a par a).par = (D a).par := by rw [hDp]; exact fun q => m7 q.symm
      rw [if_neg z1, if_neg z2, if_neg z3, if_neg z4, if_neg z5, if_neg z6]
    refine (tmove_any t13 hW' a (D a).par).mono ?_
    rintro e' w14 ⟨rfl, t14, f14⟩
    have B14 : Bs w w14 := B13.fr1 f14 hmb
    have h6s : w6.heap.size ≤ w11.heap.size := by have := f7.size; have := bc.size; have := bp.size; have := b10.size; have := b11.size; omega
    refine ⟨keepG_fr f14 (fun q hq hq2 => by simp at hq hq2; omega), _, rfl, callB B14 (tget_ret t14 a) fun w15 b15 B15 => ?_⟩
    have hDb : moveD (moveD D a par) a (D a).par a = D a := by
      rw [moveD_eq hback, upD_same, hD', upD_same]
    have htb : There (moveD (moveD D a par) a (D a).par) a := by unfold There; rw [hDb]; exact m1
    have hgv2 : getV (moveD (moveD D a par) a (D a).par) a = ndV a (D a) := by unfold getV; rw [if_pos htb, hDb]
    have hge2 : getE (moveD (moveD D a par) a (D a).par) a = 0 := getE_zero.2 htb
    rw [hgv2, hge2, hback]
    exact ⟨_, _, _, _, _, _, rfl, newB B15 fun g4 w16 g40 sg4 n16 z16 b16 B16 => boxB B16 g40 fun w17 h17 B17 z17 => br_y rfl (br_y rfl ⟨by simp, B17⟩)⟩
  · exact br_t rfl ⟨rfl, B13⟩
set_option maxRecDepth 20000 in
theorem lmoves_walk (a : Option Addr) (c : Nat) (xs : List TAct) (id par : Int) (w : World) (hl : xs.length ≤ maxLen) (hx : TActs w a xs) :
    Calls Try.prog 12 #[.slice a xs.length c, .int .i64 id, .int .i64 par] w (Ret (.bool true) w) := by
  refine ret_in (GTreeR.lmoves_calls a xs.length c id par w (fun u w' => u = .bool true ∧ Below w.heap.size w w') ?_)
  unfold GTreeR.lmoves_vc
  have hlm : xs.length ≤ 9223372036854775807 := by unfold maxLen at hl; omega
  refine (tnew_new w).mono ?_
  rintro e w2 ⟨g, mb, rfl, t2, g0, mb0, b2⟩
  refine ⟨keepG_nil _ _, _, rfl, newB b2 fun gr w3 gr0 sgr n3 z3 b3 B3 => ?_⟩
  have r3 : RtAt w3 gr (fun _ => dn0) := rt_new (by rw [n3]; rfl)
  refine ⟨fun x wx => ∃ (i : Nat) (D : DT), x = i ∧ i ≤ xs.length ∧ TB wx g mb gr D ∧ Bs w wx, fun x _ => xs.length - x.toNat, ⟨0, fun _ => dn0, rfl, by omega, ⟨t2.below b3, r3, twf0⟩, B3⟩, ?_⟩
  rintro x wx ⟨i, D, rfl, hix, hT, Bx⟩
  have hk1 : GTreeR.lmoves_k1 (fun u w' => u = .bool true ∧ Below w.heap.size w w') id par (some ⟨g, 0, none⟩) wx := lmoves_k1_ok hT Bx mb0 id par
  refine br_dec (fun hlt => br_dec (fun h60 => ?_) fun _ => hk1) fun _ => hk1
  have hil : i < xs.length := by omega
  obtain ⟨b, off, rfl, hcc, hid, hpar⟩ := rows_ok hx i hil (g := g) (mb := mb) (gr := gr) Bx
  refine ⟨by omega, by omega, _, _, _, _, _, by rw [Int.toNat_natCast]; exact hcc, (ldo_any hT _ _ _ _ _ hid hpar).mono ?_⟩
  rintro e w26 ⟨rfl, t26, f26⟩
  refine ⟨keepG_nil _ _, _, rfl, br_f rfl ?_⟩
  rw [wr64 (by omega) (by omega)]
  exact ⟨⟨i + 1, _, by omega, by omega, t26, Bx.fr f26 (fun k hk => by simp at hk; omega)⟩, by dsimp only; omega⟩
end Go.Proofs.Ytjcabccolkmlmaa
end
section
/- TreePaths, walked. -/
namespace Go.Proofs.Ytjcabccolkmlmaa
open Go.RowKit
/-- An open node's parent is open. -/
def OpenUp (D : DT) : Prop := ∀ k, There D k → (D k).cls = false → (D k).knd ≠ 1 → (D (D k).par).cls = false
theorem open0 : OpenUp fun _ => dn0 := fun k h => by have := h.2.2; simp [dn0] at this
theorem there_par {D : DT} (hW : TWf D) {k : Int} (h : There D k) (hk : (D k).knd ≠ 1) : (D k).par ≠ k := fun e => by
  have := (hW.up k h hk).2
  rw [e] at this
  omega
theorem OpenUp.put {D : DT} (h : OpenUp D) (hW : TWf D) (id par knd lim : Int) : OpenUp (putD D id par knd lim false) := by
  unfold putD
  split
  · rename_i he
    obtain ⟨hid, hl, hk, ho, hn, hu⟩ := putE_zero he
    have ht := there_up (D := D) (k := id) (d := ⟨par, knd, lim, false⟩) hid (by show 0 < knd; omega)
    have hne : ∀ j, There D j → j ≠ id := fun j hj e => hn (e ▸ hj)
    intro k hk' hc hkn
    rcases (ht k).1 hk' with rfl | q
    · rw [upD_same] at hkn ⊢
      obtain ⟨u1, u2, u3⟩ := hu hkn
      show (upD D k _ par).cls = false
      rw [upD_other _ _ (hne par u1)]
      cases hq : (D par).cls
      · rfl
      · exact absurd ⟨hq, rfl⟩ u3
    · rw [upD_other _ _ (hne k q)] at hc hkn ⊢
      rw [upD_other _ _ (hne _ (hW.up k q hkn).1)]
      exact h k q hc hkn
  · exact h
theorem OpenUp.move {D : DT} (h : OpenUp D) (id par : Int) : OpenUp (moveD D id par) := by
  by_cases he : moveE D id par = 0
  · obtain ⟨h1, h2, h3, h4, h5, h6, h7⟩ := moveE_zero he
    have hcls : ∀ j, (moveD D id par j).cls = (D j).cls := fun j => by
      rw [moveD_eq he]
      by_cases e : j = id
      · subst e; rw [upD_same]
      · rw [upD_other _ _ e]
    have hknd : ∀ j, (moveD D id par j).knd = (D j).knd := fun j => by
      rw [moveD_eq he]
      by_cases e : j = id
      · subst e; rw [upD_same]
      · rw [upD_other _ _ e]
    intro k hk hc hkn
    rw [hcls] at hc ⊢
    rw [hknd] at hkn
    have hk0 := (there_move he k).1 hk
    by_cases e : k = id
    · subst e
      rw [moveD_eq he, upD_same]
      exact h6
    · rw [moveD_eq he, upD_other _ _ e]
      exact h k hk0 hc hkn
  · unfold moveD; rw [if_neg he]; exact h
theorem OpenUp.close {D : DT} (h : OpenUp D) (id : Int) : OpenUp (closeD D id) := by
  unfold closeD
  split
  · rename_i he
    obtain ⟨h1, h2, h3⟩ := closeE_zero he
    intro k hk hc hkn
    by_cases e : k = id
    · subst e; rw [upD_same] at hc; cases hc
    · have ht : There D k := ((there_up (D := D) (k := id) (d := ⟨(D id).par, (D id).knd, (D id).lim, true⟩) ⟨h1.1, h1.2.1⟩ h1.2.2 k).1 hk).resolve_left e
      rw [upD_other _ _ e] at hc hkn ⊢
      have hne : (D k).par ≠ id := fun q => h3 (busy_iff.2 ⟨k, ht, q, hc⟩)
      rw [upD_other _ _ hne]
      exact h k ht hc hkn
  · exact h
theorem OpenUp.limit {D : DT} (h : OpenUp D) (id lim : Int) : OpenUp (limD D id lim) := by
  unfold limD
  split
  · rename_i he
    obtain ⟨h1, h2, h3⟩ := limE_zero he
    have hsame : ∀ j, (upD D id ⟨(D id).par, (D id).knd, lim, (D id).cls⟩ j).cls = (D j).cls ∧ (upD D id ⟨(D id).par, (D id).knd, lim, (D id).cls⟩ j).par = (D j).par ∧ (upD D id ⟨(D id).par, (D id).knd, lim, (D id).cls⟩ j).knd = (D j).knd := fun j => by
      by_cases e : j = id
      · subst e; rw [upD_same]; exact ⟨rfl, rfl, rfl⟩
      · rw [upD_other _ _ e]; exact ⟨rfl, rfl, rfl⟩
    intro k hk hc hkn
    have ht : There D k := by
      have := (there_up (D := D) (k := id) (d := ⟨(D id).par, (D id).knd, lim, (D id).cls⟩) ⟨h1.1, h1.2.1⟩ h1.2.2 k).1 hk
      exact this.elim (fun e => e ▸ h1) fun q => q
    have h0 := hsame k
    have hc' : (D k).cls = false := h0.1.symm.trans hc
    have hkn' : (D k).knd ≠ 1 := fun q => hkn (h0.2.2.trans q)
    show (upD D id ⟨(D id).par, (D id).knd, lim, (D id).cls⟩ (upD D id ⟨(D id).par, (D id).knd, lim, (D id).cls⟩ k).par).cls = false
    rw [(hsame _).1, h0.2.1]
    exact h k ht hc' hkn'
  · exact h
theorem open_path {D : DT} (hW : TWf D) (h : OpenUp D) : ∀ (n : Nat) (i : Int), There D i → (D i).knd ≤ n → (D i).cls = false → ∀ x ∈ pathD D i, (D x).cls = false := by
  intro n
  induction n with
  | zero => intro i ht hk; have := ht.2.2; omega
  | succ n ih =>
    intro i ht hk hc x hx
    rw [pathD_step hW ht, List.mem_append, List.mem_singleton] at hx
    rcases hx with hx | rfl
    · by_cases e : (D i).knd = 1
      · rw [(hW.org i ht).2 e, pathD_no (not_there_zero D)] at hx
        cases hx
      · obtain ⟨u1, u2⟩ := hW.up i ht e
        exact ih _ u1 (by omega) (h i ht hc e) x hx
    · exact hc
theorem lpaths_k1_ok {w wx : World} {g mb : Nat} {D : DT} {pt : Bool} (h : TrAt wx g mb D) (hW : TWf D) (hO : pt = false → OpenUp D) (B : Bs w wx) :
    GTreeR.lpaths_k1 (fun u w' => u = .bool true ∧ Below w.heap.size w w') (some ⟨g, 0, none⟩) pt wx := by
  unfold GTreeR.lpaths_k1
  refine (tids_new h).mono ?_
  rintro e w2 ⟨ai, ni, ci, rfl, rfl, oi, bi⟩
  have hil0 := ids_le D
  have t2 := h.below bi
  refine ⟨keepG_nil _ _, ai, _, ci, rfl, fun x wy => ∃ i : Nat, x = i ∧ i ≤ (idsD D).length ∧ Bs w2 wy, fun x _ => (idsD D).length - x.toNat, ⟨0, rfl, by omega, Bs.refl _⟩, ?_⟩
  have B2 := B.to bi
  rintro x wy ⟨i, rfl, hi, By⟩
  have toB : ∀ {wz : World}, Bs w2 wz → Bs w wz := fun Bz => B2.trans (Bz.mono B2.size)
  refine br_dec (fun hlt => ?_) fun hge => ⟨rfl, toB By⟩
  have hil : i < (idsD D).length := by omega
  have rowi : ∀ {wz : World}, Bs w2 wz → RowAt wz ai ((idsD D).map iV) := fun Bz => (oi.below Bz (Nat.le_refl _)).row
  have hti : There D (idsD D)[i] := mem_ids.1 (List.getElem_mem hil)
  generalize hk : (idsD D)[i] = k at hti
  have celli : ∀ {wz : World}, Bs w2 wz → ∃ b off, ai = some ⟨b, off, none⟩ ∧ wz.cell? ⟨b, off + i, none⟩ = some (.int .i64 k) := fun Bz => by
    obtain ⟨b, off, ha, hc⟩ := (rowi Bz).int hil
    exact ⟨b, off, ha, by rw [← hk]; exact hc⟩
  obtain ⟨b0, off0, rfl, c0⟩ := celli By
  have celli' : ∀ {wz : World}, Bs w2 wz → wz.cell? ⟨b0, off0 + i * 1, none⟩ = some (.int .i64 k) := fun Bz => by
    obtain ⟨b, off, ha, hc⟩ := celli Bz
    injection ha with ha
    injection ha with h1 h2
    subst h1; subst h2
    rw [Nat.mul_one]; exact hc
  refine ⟨by omega, by omega, k, by rw [Int.toNat_natCast]; exact celli' By, callB By (tget_ret (t2.below By) k) fun w3 b3 B3 => ?_⟩
  have hgv : getV D k = ndV k (D k) := by unfold getV; rw [if_pos hti]
  have hge : getE D k = 0 := getE_zero.2 hti
  rw [hgv, hge]
  refine ⟨_, _, _, _, _, _, rfl, newB B3 fun g3 w4 g30 sg3 n4 z4 b4 B4 => boxB B4 g30 fun w5 h5 B5 z5 => ⟨by omega, by omega, k, by rw [Int.toNat_natCast]; exact celli' B5, (tpath_new (t2.below B5) hW k).mono ?_⟩⟩
  rintro e w6 ⟨ap, np, cp, rfl, rfl, op, bp⟩
  have B6 := B5.to bp
  have hp3 := pathD_le hW k
  obtain ⟨nk, hnk⟩ := Int.eq_ofNat_of_zero_le (show 0 ≤ (D k).knd by have := hti.2.2; omega)
  obtain ⟨hplen, hpk⟩ := pathD_len hW nk k hti hnk
  have hk1 := hti.2.2
  rw [hge]
  refine ⟨keepG_below bp, ap, _, cp, _, rfl, drewB B6 fun w7 b7 B7 e7 => br_n (fun q => q rfl) (br_n (fun q => q rfl) (br_n (by omega) ?_))⟩
  have op7 := op.below b7 (Nat.le_refl _)
  have hlast : (pathD D k)[nk - 1]? = some k := by
    rw [pathD_step hW hti] at hplen ⊢
    simp at hplen
    rw [List.getElem?_append_right (by omega), show nk - 1 - (pathD D (D k).par).length = 0 by omega]
    rfl
  obtain ⟨pb, po, rfl, pc⟩ := op7.row.int (k := nk - 1) (by omega)
  rw [(List.getElem?_eq_some_iff.1 hlast).2] at pc
  rw [wr64 (by omega) (by omega)]
  refine ⟨by omega, by omega, k, by rw [Nat.mul_one, show (((pathD D k).length : Int) - 1).toNat = nk - 1 by omega]; exact pc, by omega, by omega, k, by rw [Int.toNat_natCast]; exact celli' B7, br_n (fun q => q rfl) ?_⟩
  have B57 : Bs w5 w7 := bp.trans (b7.mono bp.size)
  refine ⟨fun y wz => ∃ j : Nat, y = j ∧ j ≤ (pathD D k).length ∧ Bs w7 wz, fun y _ => (pathD D k).length - y.toNat, ⟨0, rfl, by omega, Bs.refl _⟩, ?_⟩
  rintro y wz ⟨j, rfl, hj, Bz⟩
  have toB2 : ∀ {wv : World}, Bs w7 wv → Bs w2 wv := fun Bv => B7.trans (Bv.mono B7.size)
  refine br_dec (fun hlt2 => ?_) fun hge2 => ?_
  · have hjl : j < (pathD D k).length := by omega
    obtain ⟨hxt, hxk⟩ := hpk j _ (List.getElem?_eq_getElem hjl)
    have hxin : (pathD D k)[j] ∈ pathD D k := List.getElem_mem hjl
    have hxopen : pt = false → (D k).cls = false → (D (pathD D k)[j]).cls = false := fun hp hc => open_path hW (hO hp) 3 k hti (hW.knd k hti) hc _ hxin
    generalize hx : (pathD D k)[j] = x at *
    have cellp : ∀ {wv : World}, Bs w7 wv → wv.cell? ⟨pb, po + j * 1, none⟩ = some (.int .i64 x) := fun Bv => by
      obtain ⟨b, off, ha, hc⟩ := (op7.below Bv (Nat.le_refl _)).row.int hjl
      injection ha with ha
      injection ha with h1 h2
      subst h1; subst h2
      rw [hx] at hc
      rw [Nat.mul_one]; exact hc
    refine ⟨by omega, by omega, x, by rw [Int.toNat_natCast]; exact cellp Bz, callB Bz (tget_ret (t2.below (toB2 Bz)) x) fun w8 b8 B8 => ?_⟩
    have hgvx : getV D x = ndV x (D x) := by unfold getV; rw [if_pos hxt]
    have hgex : getE D x = 0 := getE_zero.2 hxt
    rw [hgvx, hgex]
    refine ⟨_, _, _, _, _, _, rfl, newB B8 fun g4 w9 g40 sg4 n9 z9 b9 B9 => boxB B9 g40 fun w10 h10 B10 z10 => ⟨by omega, by omega, x, by rw [Int.toNat_natCast]; exact cellp B10, (tbelow_new (t2.below (toB2 B10)) hW x).mono ?_⟩⟩
    rintro e w11 ⟨ab, nb, cb, rfl, rfl, ob, bb⟩
    have B11 := B10.to bb
    have hbR : belowR D x = belowD D x := by unfold belowR; rw [if_pos hxt]
    rw [hbR] at ob ⊢
    have hbl := below_len D x
    have hin : k ∈ belowD D x := mem_below.2 ⟨hti, hxin⟩
    rw [hgex]
    refine ⟨keepG_below bb, ab, _, cb, _, rfl, fun bq z wv => ∃ q : Nat, z = q ∧ q ≤ (belowD D x).length ∧ (bq = true ↔ k ∈ (belowD D x).take q) ∧ Bs w11 wv, fun _ z _ => (belowD D x).length - z.toNat, ⟨0, rfl, by omega, by simp, Bs.refl _⟩, ?_⟩
    have toB7 : ∀ {wv : World}, Bs w11 wv → Bs w7 wv := fun Bv => B11.trans (Bv.mono B11.size)
    rintro bq z wv ⟨q, rfl, hq, hqin, Bv⟩
    refine br_dec (fun hlt3 => drewB Bv fun wu bu Bu eu => ?_) fun hge3 => ?_
    · have hql : q < (belowD D x).length := by omega
      have htk : (belowD D x).take (q + 1) = (belowD D x).take q ++ [(belowD D x)[q]] := by rw [List.take_add_one, List.getElem?_eq_getElem hql]; rfl
      rw [wr64 (by omega) (by omega)]
      cases bq
      · obtain ⟨bb1, bo1, rfl, bc1⟩ := (ob.below Bu (Nat.le_refl _)).row.int hql
        refine br_f rfl ⟨by omega, by omega, _, by rw [Int.toNat_natCast, Nat.mul_one]; exact bc1, by omega, by omega, k, by rw [Int.toNat_natCast]; exact celli' (toB2 (toB7 Bu)), ⟨q + 1, by omega, by omega, ?_, Bu⟩, by dsimp only; omega⟩
        rw [htk, List.mem_append, List.mem_singleton, decide_eq_true_iff]
        exact ⟨fun e => .inr e.symm, fun e => e.elim (fun e => by have := hqin.2 e; cases this) fun e => e.symm⟩
      · refine br_t rfl ⟨⟨q + 1, by omega, by omega, ?_, Bu⟩, by dsimp only; omega⟩
        rw [htk, List.mem_append]
        exact ⟨fun _ => .inl (hqin.1 rfl), fun _ => rfl⟩
    · obtain rfl : q = (belowD D x).length := by omega
      rw [List.take_length] at hqin
      rw [hqin.2 hin]
      rw [wr64 (z := (j : Int) + 1) (by omega) (by omega)]
      have nxt : (∃ j2 : Nat, (j : Int) + 1 = j2 ∧ j2 ≤ (pathD D k).length ∧ Bs w7 wv) ∧ (pathD D k).length - ((j : Int) + 1).toNat < (pathD D k).length - (j : Int).toNat := ⟨⟨j + 1, by omega, by omega, toB7 Bv⟩, by omega⟩
      refine br_n (fun q => q rfl) (br_n (fun q => q rfl) (br_n (by omega) (br_f rfl ?_)))
      cases hpt : pt
      · refine br_t rfl ?_
        cases hcx : (D x).cls
        · exact br_f rfl nxt
        · cases hck : (D k).cls
          · have := hxopen hpt hck
            rw [hcx] at this; cases this
          · exact br_t rfl (br_f rfl nxt)
      · exact br_f rfl nxt
  · rw [wr64 (by omega) (by omega)]
    exact ⟨⟨i + 1, by omega, by omega, toB2 Bz⟩, by dsimp only; omega⟩
end Go.Proofs.Ytjcabccolkmlmaa
end
section
/- TreePaths: the whole law; walked. -/
namespace Go.Proofs.Ytjcabccolkmlmaa
open Go.RowKit
set_option maxRecDepth 20000 in
theorem lpaths_walk (a : Option Addr) (c : Nat) (xs : List TAct) (w : World) (hl : xs.length ≤ maxLen) (hx : TActs w a xs) :
    Calls Try.prog 11 #[.slice a xs.length c] w (Ret (.bool true) w) := by
  refine ret_in (GTreeR.lpaths_calls a xs.length c w (fun u w' => u = .bool true ∧ Below w.heap.size w w') ?_)
  unfold GTreeR.lpaths_vc
  have hlm : xs.length ≤ 9223372036854775807 := by unfold maxLen at hl; omega
  refine (tnew_new w).mono ?_
  rintro e w2 ⟨g, mb, rfl, t2, g0, mb0, b2⟩
  refine ⟨keepG_nil _ _, _, rfl, callB b2 (ltrees_ret w2) fun w3 b3 B3 => ⟨_, rfl, br_f rfl ?_⟩⟩
  refine ⟨fun pt x wx => ∃ (i : Nat) (D : DT), x = i ∧ i ≤ xs.length ∧ TrAt wx g mb D ∧ TWf D ∧ (pt = false → OpenUp D) ∧ Bs w wx, fun _ x _ => xs.length - x.toNat, ⟨0, fun _ => dn0, rfl, by omega, t2.below b3, twf0, fun _ => open0, B3⟩, ?_⟩
  rintro pt x wx ⟨i, D, rfl, hix, hT, hW, hO, Bx⟩
  have hk1 : GTreeR.lpaths_k1 (fun u w' => u = .bool true ∧ Below w.heap.size w w') (some ⟨g, 0, none⟩) pt wx := lpaths_k1_ok hT hW hO Bx
  refine br_dec (fun hlt => br_dec (fun h60 => ?_) fun _ => hk1) fun _ => hk1
  have hil : i < xs.length := by omega
  obtain ⟨b, off, rfl, hcc, hid, hpar⟩ := rows_ok hx i hil (g := g) (mb := mb) (gr := 0) Bx
  refine ⟨by omega, by omega, _, _, _, _, _, by rw [Int.toNat_natCast]; exact hcc, newB Bx fun g1 w5 g10 sg1 n5 z5 b5 B5 => boxB B5 g10 fun w6 h6 B6 z6 => ⟨by decide, ?_⟩⟩
  have t6 : TrAt w6 g mb D := by
    obtain ⟨l1, l2⟩ := hT.lt
    exact (hT.below b5).fr h6.1 (by simp; omega) (by simp; omega)
  obtain ⟨l1, l2⟩ := hT.lt
  have hk : ∀ {wa wb : World}, Fr [mb] wa wb → KeepG [g1] wa wb := fun f => keepG_fr f fun q hq hq2 => by simp at hq hq2; omega
  have nxt : ∀ {wz : World} {D' : DT} {pt' : Bool}, TrAt wz g mb D' → TWf D' → (pt' = false → OpenUp D') → Fr [mb] w6 wz → (∃ (i2 : Nat) (D : DT), IntKind.i64.wrap ((i : Int) + 1) = i2 ∧ i2 ≤ xs.length ∧ TrAt wz g mb D ∧ TWf D ∧ (pt' = false → OpenUp D) ∧ Bs w wz) ∧ xs.length - (IntKind.i64.wrap ((i : Int) + 1)).toNat < xs.length - (i : Int).toNat := fun {wz D' pt'} t h1 h2 f => by
    rw [wr64 (by omega) (by omega)]
    exact ⟨⟨i + 1, D', by omega, by omega, t, h1, h2, B6.fr1 f mb0⟩, by omega⟩
  rw [act_mod]
  refine br_dec (fun q => (tcreate_any t6 _ _ _ _).mono ?_) fun q0 => br_dec (fun q => (tmove_any t6 hW _ _).mono ?_) fun q1 => br_dec (fun q => (tclose_any t6 _).mono ?_) fun q2 => br_dec (fun q => (tsetl_any t6 _ _).mono ?_) fun q3 => (tput_any t6 xs[i].id xs[i].par xs[i].knd xs[i].lim true).mono ?_
  · rintro e w7 ⟨rfl, t7, f7⟩
    exact ⟨hk f7, _, rfl, nxt t7 (hW.put ..) (fun hp => (hO hp).put hW _ _ _ _) f7⟩
  · rintro e w7 ⟨rfl, t7, f7⟩
    exact ⟨hk f7, _, rfl, nxt t7 (hW.move ..) (fun hp => (hO hp).move _ _) f7⟩
  · rintro e w7 ⟨rfl, t7, f7⟩
    exact ⟨hk f7, _, rfl, nxt t7 (hW.close ..) (fun hp => (hO hp).close _) f7⟩
  · rintro e w7 ⟨rfl, t7, f7⟩
    exact ⟨hk f7, _, rfl, nxt t7 (hW.limit ..) (fun hp => (hO hp).limit _ _) f7⟩
  · rintro e w7 ⟨rfl, t7, f7⟩
    exact ⟨hk f7, _, rfl, nxt t7 (hW.put ..) (fun hp => by cases hp) f7⟩
end Go.Proofs.Ytjcabccolkmlmaa
end
section
/- TreeFull, walked. -/
namespace Go.Proofs.Ytjcabccolkmlmaa
open Go.RowKit
/-- The first so many nodes. -/
def kndF (j : Int) : Int := 1 + (j - 1) % 3
def parF (j : Int) : Int := if kndF j > 1 then j - 1 else 0
def firstD (n : Nat) : DT := fun j => if 1 ≤ j ∧ j ≤ n then ⟨parF j, kndF j, j, false⟩ else dn0
theorem first_put : ∀ n : Nat, n < 32 → putE (firstD n) ((n : Int) + 1) (parF ((n : Int) + 1)) (kndF ((n : Int) + 1)) ((n : Int) + 1) false = 0 := by decide +kernel
theorem first_last : putE (firstD 32) 33 (parF 33) (kndF 33) 33 false ≠ 0 := by decide +kernel
theorem first_step (n : Nat) (hn : n < 32) : putD (firstD n) ((n : Int) + 1) (parF ((n : Int) + 1)) (kndF ((n : Int) + 1)) ((n : Int) + 1) false = firstD (n + 1) := by
  unfold putD
  rw [if_pos (first_put n hn)]
  funext j
  unfold upD firstD
  by_cases e : j = (n : Int) + 1
  · subst e; rw [if_pos rfl, if_pos (by omega)]
  · rw [if_neg e]
    by_cases h : 1 ≤ j ∧ j ≤ (n : Int)
    · rw [if_pos h, if_pos (by omega)]
    · rw [if_neg h, if_neg (by omega)]
structure Full (D : DT) : Prop where
  wf : TWf D
  up : OpenUp D
  all : ∀ j, 1 ≤ j → j ≤ 32 → There D j
  lim : ∀ j, There D j → LimOk (D j).lim
theorem first_inv : ∀ n : Nat, n ≤ 32 → TWf (firstD n) ∧ OpenUp (firstD n) := by
  intro n
  induction n with
  | zero =>
    intro _
    have : firstD 0 = fun _ => dn0 := by funext j; unfold firstD; rw [if_neg (by omega)]
    rw [this]
    exact ⟨twf0, open0⟩
  | succ n ih =>
    intro hn
    obtain ⟨h1, h2⟩ := ih (by omega)
    rw [← first_step n (by omega)]
    exact ⟨h1.put _ _ _ _ _, h2.put h1 _ _ _ _⟩
theorem first_full : Full (firstD 32) := by
  obtain ⟨h1, h2⟩ := first_inv 32 (Nat.le_refl _)
  have hv : ∀ j, 1 ≤ j → j ≤ 32 → firstD 32 j = ⟨parF j, kndF j, j, false⟩ := fun j a b => by unfold firstD; rw [if_pos (by omega)]
  refine ⟨h1, h2, fun j a b => ⟨a, b, ?_⟩, fun j hj => ?_⟩
  · rw [hv j a b]
    show 0 < kndF j
    unfold kndF; omega
  · rw [hv j hj.1 hj.2.1]
    have := hj.1; have := hj.2.1
    exact ⟨by show -1 ≤ j; omega, by show j ≤ _; omega⟩
theorem Full.move {D : DT} (h : Full D) (id par : Int) : Full (moveD D id par) := by
  by_cases he : moveE D id par = 0
  · refine ⟨h.wf.move _ _, h.up.move _ _, fun j a b => (there_move he j).2 (h.all j a b), fun j hj => ?_⟩
    have := h.lim j ((there_move he j).1 hj)
    rw [moveD_eq he]
    by_cases e : j = id
    · subst e; rw [upD_same]; exact this
    · rw [upD_other _ _ e]; exact this
  · have : moveD D id par = D := by unfold moveD; rw [if_neg he]
    rw [this]; exact h
theorem closeD_eq {D : DT} {id : Int} (he : closeE D id = 0) : closeD D id = upD D id ⟨(D id).par, (D id).knd, (D id).lim, true⟩ := by unfold closeD; rw [if_pos he]
theorem Full.close {D : DT} (h : Full D) (id : Int) : Full (closeD D id) := by
  by_cases he : closeE D id = 0
  · obtain ⟨h1, h2, h3⟩ := closeE_zero he
    have hth : ∀ j, There (closeD D id) j ↔ There D j := fun j => by
      rw [closeD_eq he, there_up (d := ⟨(D id).par, (D id).knd, (D id).lim, true⟩) ⟨h1.1, h1.2.1⟩ h1.2.2]
      exact ⟨fun q => q.elim (fun e => e ▸ h1) fun q => q, .inr⟩
    refine ⟨h.wf.close _, h.up.close _, fun j a b => (hth j).2 (h.all j a b), fun j hj => ?_⟩
    have := h.lim j ((hth j).1 hj)
    rw [closeD_eq he]
    by_cases e : j = id
    · subst e; rw [upD_same]; exact this
    · rw [upD_other _ _ e]; exact this
  · have : closeD D id = D := by unfold closeD; rw [if_neg he]
    rw [this]; exact h
/-- What the second tree has when all of the kinds up to q are put, and of the next kind those up to i. -/
def InU (D : DT) (q i : Nat) (j : Int) : Prop := There D j ∧ ((D j).knd ≤ q ∨ ((D j).knd = q + 1 ∧ j ≤ i))
instance (D : DT) (q i : Nat) (j : Int) : Decidable (InU D q i j) := by unfold InU; infer_instance
def partU (D : DT) (q i : Nat) : DT := fun j => if InU D q i j then D j else dn0
theorem part_there {D : DT} {q i : Nat} (j : Int) : There (partU D q i) j ↔ InU D q i j := by
  unfold partU There
  dsimp only
  by_cases h : InU D q i j
  · rw [if_pos h]
    exact ⟨fun _ => h, fun _ => h.1⟩
  · rw [if_neg h]
    exact ⟨fun q => by have := q.2.2; simp [dn0] at this, fun q => absurd q h⟩
theorem part_val {D : DT} {q i : Nat} {j : Int} (h : InU D q i j) : partU D q i j = D j := if_pos h
theorem part_zero (D : DT) : partU D 0 0 = fun _ => dn0 := by
  funext j
  unfold partU
  rw [if_neg]
  rintro ⟨h1, h2⟩
  have := h1.2.2
  have := h1.1
  omega
theorem part_next (D : DT) (q : Nat) : partU D q 32 = partU D (q + 1) 0 := by
  funext j
  unfold partU
  have : InU D q 32 j ↔ InU D (q + 1) 0 j := by
    unfold InU
    constructor
    · rintro ⟨h1, h2⟩; exact ⟨h1, by have := h1.1; omega⟩
    · rintro ⟨h1, h2⟩; exact ⟨h1, by have := h1.1; have := h1.2.1; omega⟩
  by_cases h : InU D q 32 j
  · rw [if_pos h, if_pos (this.1 h)]
  · rw [if_neg h, if_neg fun r => h (this.2 r)]
theorem part_same {D : DT} {q i : Nat} (hk : (D ((i : Int) + 1)).knd ≠ q + 1) : partU D q (i + 1) = partU D q i := by
  funext j
  unfold partU
  have : InU D q (i + 1) j ↔ InU D q i j := by
    unfold InU
    refine ⟨fun ⟨h1, h2⟩ => ⟨h1, ?_⟩, fun ⟨h1, h2⟩ => ⟨h1, by omega⟩⟩
    by_cases e : j = (i : Int) + 1
    · subst e; exact .inl (h2.resolve_right fun r => hk r.1)
    · omega
  by_cases h : InU D q i j
  · rw [if_pos h, if_pos (this.2 h)]
  · rw [if_neg h, if_neg fun r => h (this.1 r)]
theorem part_put {D : DT} (hF : Full D) {q i : Nat} (hq : q < 3) (hi : i < 32) (hk : (D ((i : Int) + 1)).knd = q + 1) :
    putE (partU D q i) ((i : Int) + 1) (D ((i : Int) + 1)).par (D ((i : Int) + 1)).knd (D ((i : Int) + 1)).lim (D ((i : Int) + 1)).cls = 0 ∧
    putD (partU D q i) ((i : Int) + 1) (D ((i : Int) + 1)).par (D ((i : Int) + 1)).knd (D ((i : Int) + 1)).lim (D ((i : Int) + 1)).cls = partU D q (i + 1) := by
  have ht := hF.all ((i : Int) + 1) (by omega) (by omega)
  have hno : ¬ There (partU D q i) ((i : Int) + 1) := by
    rw [part_there]
    rintro ⟨_, h2⟩
    omega
  have he : putE (partU D q i) ((i : Int) + 1) (D ((i : Int) + 1)).par (D ((i : Int) + 1)).knd (D ((i : Int) + 1)).lim (D ((i : Int) + 1)).cls = 0 := by
    unfold putE
    have hl := hF.lim _ ht
    have ho := hF.wf.org _ ht
    rw [if_neg (fun r => by rcases r with r | r | r <;> first | omega | exact r hl), if_neg (fun r => by rcases r with r | r | r <;> first | omega | exact r ho), if_neg hno]
    by_cases h1 : (D ((i : Int) + 1)).knd = 1
    · rw [if_neg (fun r => r.1 h1), if_neg (fun r => r.1 h1)]
    · obtain ⟨u1, u2⟩ := hF.wf.up _ ht h1
      have hin : InU D q i (D ((i : Int) + 1)).par := ⟨u1, by omega⟩
      have hu : underE (partU D q i) (D ((i : Int) + 1)).knd (D ((i : Int) + 1)).par = 0 := by
        unfold underE
        rw [if_pos ((part_there _).2 hin), part_val hin, if_neg (fun r => r u2)]
      rw [if_neg (fun r => r.2 hu), if_neg]
      rintro ⟨_, r1, r2⟩
      rw [part_val hin, hF.up _ ht r2 h1] at r1
      cases r1
  refine ⟨he, ?_⟩
  unfold putD
  rw [if_pos he]
  funext j
  unfold upD
  by_cases e : j = (i : Int) + 1
  · subst e
    rw [if_pos rfl, part_val (D := D) (q := q) (i := i + 1) ⟨ht, .inr ⟨hk, by omega⟩⟩]
  · rw [if_neg e]
    unfold partU
    have : InU D q (i + 1) j ↔ InU D q i j := by
      unfold InU
      exact ⟨fun ⟨h1, h2⟩ => ⟨h1, by omega⟩, fun ⟨h1, h2⟩ => ⟨h1, by omega⟩⟩
    by_cases h : InU D q i j
    · rw [if_pos h, if_pos (this.2 h)]
    · rw [if_neg h, if_neg fun r => h (this.1 r)]
theorem part_all {D : DT} (hF : Full D) {j : Int} (h : There D j) : partU D 3 0 j = D j := part_val ⟨h, .inl (hF.wf.knd j h)⟩
theorem full_ids {D : DT} (hF : Full D) : idsD D = ids32 := by
  unfold idsD
  rw [List.filter_eq_self]
  intro k hk
  unfold ids32 at hk
  obtain ⟨i, hi, rfl⟩ := List.mem_map.1 hk
  rw [List.mem_range] at hi
  exact decide_eq_true (hF.all _ (by omega) (by omega))
end Go.Proofs.Ytjcabccolkmlmaa
end
section
/- TreeFull: the whole law; walked. -/
namespace Go.Proofs.Ytjcabccolkmlmaa
open Go.RowKit
/-- Two trees of the program. -/
structure T2 (w : World) (g mb h hb : Nat) (D U : DT) : Prop where
  t : TrAt w g mb D
  u : TrAt w h hb U
  n1 : h ≠ mb
  n2 : hb ≠ mb
  n3 : g ≠ hb
section
variable {w w1 : World} {g mb h hb : Nat} {D U D' : DT}
theorem T2.below (q : T2 w g mb h hb D U) (b : Below w.heap.size w w1) : T2 w1 g mb h hb D U := ⟨q.t.below b, q.u.below b, q.n1, q.n2, q.n3⟩
theorem T2.box {g1 : Nat} (q : T2 w g mb h hb D U) {w2 : World} (b : Below w.heap.size w w1) (sg : w.heap.size = g1) (b2 : BoxSt g1 w1 w2) : T2 w2 g mb h hb D U := by
  obtain ⟨l1, l2⟩ := q.t.lt
  obtain ⟨l3, l4⟩ := q.u.lt
  exact ⟨(q.t.below b).fr b2.1 (by simp; omega) (by simp; omega), (q.u.below b).fr b2.1 (by simp; omega) (by simp; omega), q.n1, q.n2, q.n3⟩
theorem T2.turn (q : T2 w g mb h hb D U) (t : TrAt w1 g mb D') (f : Fr [mb] w w1) : T2 w1 g mb h hb D' U := ⟨t, q.u.fr f (by simp [q.n1]) (by simp [q.n2]), q.n1, q.n2, q.n3⟩
theorem T2.turnU (q : T2 w g mb h hb D U) {U' : DT} (t : TrAt w1 h hb U') (f : Fr [hb] w w1) : T2 w1 g mb h hb D U' := ⟨q.t.fr f (by simp [q.n3]) (by simp; exact fun e => q.n2 e.symm), t, q.n1, q.n2, q.n3⟩
end
theorem getV_there {D : DT} {k : Int} (h : There D k) : getV D k = ndV k (D k) := by unfold getV; rw [if_pos h]
set_option maxRecDepth 20000 in
theorem lfull_k2_ok {w wx : World} {g mb h hb : Nat} {D : DT} (q : T2 wx g mb h hb D (fun _ => dn0)) (hF : Full D) (B : Bs w wx) (hhb : w.heap.size ≤ hb) :
    GTreeR.lfull_k2 (fun u w' => u = .bool true ∧ Below w.heap.size w w') (some ⟨g, 0, none⟩) (some ⟨h, 0, none⟩) wx := by
  unfold GTreeR.lfull_k2
  refine (tids_new q.t).mono ?_
  rintro e w2 ⟨ai, ni, ci, rfl, hni⟩
  rw [full_ids hF] at hni
  obtain ⟨rfl, oi, bi⟩ := hni
  have h32 : ids32.length = 32 := by simp [ids32]
  have q2 := q.below bi
  have B2 := B.to bi
  have hbl : hb < wx.heap.size := q.u.lt.2
  have q20 : T2 w2 g mb h hb D (partU D 0 0) := by rw [part_zero]; exact q2
  -- the ids stay where they lie: the trees' maps lie elsewhere
  have row : ∀ {wz : World}, Fr [hb] w2 wz → ∀ i, i < 32 → ∃ b off, ai = some ⟨b, off, none⟩ ∧ wz.cell? ⟨b, off + i * 1, none⟩ = some (.int .i64 ((i : Int) + 1)) := fun {wz} f i hi => by
    have o : Own wz _ _ _ _ _ _ := oi.keep fun k hk => f.block k (oi.lt k hk).2 (by rw [List.mem_singleton]; have := (oi.lt k hk).1; omega)
    obtain ⟨b, off, ha, hc⟩ := o.row.int (k := i) (by omega)
    have hg := ids32_get i hi
    rw [(List.getElem?_eq_some_iff.1 hg).2] at hc
    exact ⟨b, off, ha, by rw [Nat.mul_one]; exact hc⟩
  have toB : ∀ {wz : World}, Fr [hb] w2 wz → Bs w wz := fun f => B2.fr1 f hhb
  have frB : ∀ {wa wb : World}, Fr [hb] w2 wa → Below wa.heap.size wa wb → Fr [hb] w2 wb := fun f b => f.trans (Fr.ofBelow (L := [hb]) b) (Gr.refl _ _)
  have frX : ∀ {wa wb wc : World} {g1 : Nat}, Fr [hb] w2 wa → Below wa.heap.size wa wb → wa.heap.size = g1 → BoxSt g1 wb wc → Fr [hb] w2 wc := fun {wa wb wc g1} f b sg b2 => by
    have hs := f.size
    refine (frB f b).trans (M := [g1]) b2.1 fun k hk => .inr (by rw [List.mem_singleton] at hk; omega)
  refine ⟨keepG_nil _ _, ai, _, ci, rfl, fun x wy => ∃ k : Nat, x = (k : Int) + 1 ∧ k ≤ 3 ∧ T2 wy g mb h hb D (partU D k 0) ∧ Fr [hb] w2 wy, fun x _ => 4 - x.toNat, ⟨0, rfl, by omega, q20, Fr.refl _ _⟩, ?_⟩
  rintro x wy ⟨k, rfl, hk3, qy, fy⟩
  refine br_dec (fun hlt => ?_) fun hge => ?_
  · have hk : k < 3 := by omega
    refine ⟨fun y wz => ∃ i : Nat, y = i ∧ i ≤ 32 ∧ T2 wz g mb h hb D (partU D k i) ∧ Fr [hb] w2 wz, fun y _ => 32 - y.toNat, ⟨0, rfl, by omega, qy, fy⟩, ?_⟩
    rintro y wz ⟨i, rfl, hi32, qz, fz⟩
    refine br_dec (fun hlt2 => ?_) fun hge2 => ?_
    · have hi : i < 32 := by omega
      obtain ⟨b, off, rfl, hc⟩ := row fz i hi
      have ht := hF.all ((i : Int) + 1) (by omega) (by omega)
      refine ⟨by omega, by omega, _, by rw [Int.toNat_natCast]; exact hc, callB (toB fz) (tget_ret qz.t ((i : Int) + 1)) fun w3 b3 B3 => ?_⟩
      rw [getV_there ht, getE_zero.2 ht]
      have q3 := qz.below b3
      have f3 := frB fz b3
      refine ⟨_, _, _, _, _, _, rfl, newB B3 fun g1 w4 g10 sg1 n4 z4 b4 B4 => boxB B4 g10 fun w5 h5 B5 z5 => br_n (fun r => r rfl) ?_⟩
      have q5 := q3.box b4 sg1 h5
      have f5 := frX f3 b4 sg1 h5
      have nxt : ∀ {wv : World}, T2 wv g mb h hb D (partU D k (i + 1)) → Fr [hb] w2 wv → (∃ j : Nat, IntKind.i64.wrap ((i : Int) + 1) = j ∧ j ≤ 32 ∧ T2 wv g mb h hb D (partU D k j) ∧ Fr [hb] w2 wv) ∧ 32 - (IntKind.i64.wrap ((i : Int) + 1)).toNat < 32 - (i : Int).toNat := fun qv fv => by
        rw [wr64 (by omega) (by omega)]
        exact ⟨⟨i + 1, by omega, by omega, qv, fv⟩, by omega⟩
      refine br_dec (fun hkk => ?_) fun hkk => nxt (by rw [part_same hkk]; exact q5) f5
      obtain ⟨p1, p2⟩ := part_put hF hk hi hkk
      refine (tput_any q5.u ((i : Int) + 1) (D ((i : Int) + 1)).par (D ((i : Int) + 1)).knd (D ((i : Int) + 1)).lim (D ((i : Int) + 1)).cls).mono ?_
      rintro e w6 ⟨rfl, t6, f6⟩
      rw [p1]
      rw [p2] at t6
      have hg1 : g1 ≠ hb := by have := q3.u.lt.2; omega
      exact ⟨keepG_fr f6 (fun r hr hr2 => by simp at hr hr2; omega), _, rfl, br_n (fun r => r rfl) (nxt (q5.turnU t6 f6) (f5.trans f6 (Gr.refl _ _)))⟩
    · obtain rfl : i = 32 := by omega
      rw [part_next] at qz
      rw [wr64 (by omega) (by omega)]
      exact ⟨⟨k + 1, by omega, by omega, qz, fz⟩, by dsimp only; omega⟩
  · obtain rfl : k = 3 := by omega
    refine ⟨fun y wz => ∃ i : Nat, y = i ∧ i ≤ 32 ∧ T2 wz g mb h hb D (partU D 3 0) ∧ Fr [hb] w2 wz, fun y _ => 32 - y.toNat, ⟨0, rfl, by omega, qy, fy⟩, ?_⟩
    rintro y wz ⟨i, rfl, hi32, qz, fz⟩
    refine br_dec (fun hlt2 => ?_) fun hge2 => ⟨by rw [h32]; rfl, toB fz⟩
    have hi : i < 32 := by omega
    have ht := hF.all ((i : Int) + 1) (by omega) (by omega)
    have htu : There (partU D 3 0) ((i : Int) + 1) := (part_there _).2 ⟨ht, .inl (hF.wf.knd _ ht)⟩
    obtain ⟨b, off, rfl, hc⟩ := row fz i hi
    have cellx : ∀ {wv : World}, Fr [hb] w2 wv → wv.cell? ⟨b, off + i * 1, none⟩ = some (.int .i64 ((i : Int) + 1)) := fun f => by
      obtain ⟨b', off', ha, hc'⟩ := row f i hi
      injection ha with ha
      injection ha with e1 e2
      subst e1; subst e2
      exact hc'
    refine ⟨by omega, by omega, _, by rw [Int.toNat_natCast]; exact hc, callB (toB fz) (tget_ret qz.t ((i : Int) + 1)) fun w3 b3 B3 => ?_⟩
    rw [getV_there ht, getE_zero.2 ht]
    have q3 := qz.below b3
    have f3 := frB fz b3
    refine ⟨_, _, _, _, _, _, rfl, newB B3 fun g1 w4 g10 sg1 n4 z4 b4 B4 => boxB B4 g10 fun w5 h5 B5 z5 => ?_⟩
    have q5 := q3.box b4 sg1 h5
    have f5 := frX f3 b4 sg1 h5
    refine ⟨by omega, by omega, _, by rw [Int.toNat_natCast]; exact cellx f5, callB B5 (tget_ret q5.u ((i : Int) + 1)) fun w6 b6 B6 => ?_⟩
    rw [getV_there htu, getE_zero.2 htu, part_all hF ht]
    have q6 := q5.below b6
    have f6 := frB f5 b6
    refine ⟨_, _, _, _, _, _, rfl, newB B6 fun g2 w7 g20 sg2 n7 z7 b7 B7 => boxB B7 g20 fun w8 h8 B8 z8 => br_n (fun r => r rfl) (br_n (fun r => r rfl) (br_f (by simp) ?_))⟩
    rw [wr64 (by omega) (by omega)]
    exact ⟨⟨i + 1, by omega, by omega, q6.box b7 sg2 h8, frX f6 b7 sg2 h8⟩, by dsimp only; omega⟩
/-- A number of the first 32. -/
theorem num32 (z : Int) : IntKind.i64.wrap (1 + IntKind.i64.wrap (Int.tmod (IntKind.u64.wrap z) 32)) = 1 + IntKind.u64.wrap z % 32 := by
  have h0 : 0 ≤ IntKind.u64.wrap z := by rw [IntKind.wrap_u64]; omega
  rw [Int.tmod_eq_emod_of_nonneg h0, wr64 (z := IntKind.u64.wrap z % 32) (by omega) (by omega), wr64 (by omega) (by omega)]
set_option maxRecDepth 20000 in
theorem lfull_walk (a : Option Addr) (c : Nat) (ps : List Int) (a2 : Option Addr) (c2 : Nat) (cs : List Int) (w : World) (hl : ps.length ≤ 9223372036854775807) (hl2 : cs.length ≤ 9223372036854775807) (hp : RowAt w a (ps.map iV)) (hc : RowAt w a2 (cs.map iV)) :
    Calls Try.prog 9 #[.slice a ps.length c, .slice a2 cs.length c2] w (Ret (.bool true) w) := by
  refine ret_in (GTreeR.lfull_calls a ps.length c a2 cs.length c2 w (fun u w' => u = .bool true ∧ Below w.heap.size w w') ?_)
  unfold GTreeR.lfull_vc
  refine (tnew_new w).mono ?_
  rintro e w2 ⟨g, mb, rfl, t2, g0, mb0, b2⟩
  refine ⟨keepG_nil _ _, _, rfl, (tnew_new w2).mono ?_⟩
  rintro e w3 ⟨h, hb, rfl, u3, h0, hb0, b3⟩
  have B3 : Bs w w3 := Bs.to b2 b3
  have hsz := b2.size
  obtain ⟨l1, l2⟩ := t2.lt
  have f0 : firstD 0 = fun _ => dn0 := by funext j; unfold firstD; rw [if_neg (by omega)]
  refine ⟨keepG_nil _ _, _, rfl, callB B3 (ltrees_ret w3) fun w4 b4 B4 => ⟨_, rfl, br_f rfl ?_⟩⟩
  have q4 : T2 w4 g mb h hb (firstD 0) (fun _ => dn0) := by
    rw [f0]
    exact ⟨(t2.below b3).below b4, u3.below b4, by omega, by omega, by omega⟩
  have hhb : w.heap.size ≤ hb := by omega
  refine ⟨fun x wx => ∃ n : Nat, x = (n : Int) + 1 ∧ n ≤ 33 ∧ T2 wx g mb h hb (firstD (min n 32)) (fun _ => dn0) ∧ Bs w wx, fun x _ => 34 - x.toNat, ⟨0, rfl, by omega, q4, B4⟩, ?_⟩
  rintro x wx ⟨n, rfl, hn33, qx, Bx⟩
  refine br_dec (fun hlt => ?_) fun hge => ?_
  · have hkn : IntKind.i64.wrap (1 + Int.tmod (IntKind.i64.wrap ((n : Int) + 1 - 1)) 3) = kndF ((n : Int) + 1) := by
      unfold kndF
      rw [wr64 (z := (n : Int) + 1 - 1) (by omega) (by omega), Int.tmod_eq_emod_of_nonneg (by omega), wr64 (by omega) (by omega)]
    have key : ∀ par, par = parF ((n : Int) + 1) → GTreeR.lfull_k1 (fun u w' => u = .bool true ∧ Below w.heap.size w w') (fun x wx => ∃ n : Nat, x = (n : Int) + 1 ∧ n ≤ 33 ∧ T2 wx g mb h hb (firstD (min n 32)) (fun _ => dn0) ∧ Bs w wx) (fun x _ => 34 - x.toNat) (some ⟨g, 0, none⟩) ((n : Int) + 1) wx par wx := by
      rintro par rfl
      unfold GTreeR.lfull_k1
      rw [hkn]
      refine (tcreate_any qx.t ((n : Int) + 1) (parF ((n : Int) + 1)) (kndF ((n : Int) + 1)) ((n : Int) + 1)).mono ?_
      rintro e w5 ⟨rfl, t5, f5⟩
      refine ⟨keepG_nil _ _, _, rfl, ?_⟩
      rw [wr64 (z := (n : Int) + 1 + 1) (by omega) (by omega)]
      by_cases hn : n < 32
      · rw [Nat.min_eq_left (by omega)] at t5 ⊢
        rw [first_put n hn]
        rw [first_step n hn] at t5
        refine br_f (by simp; omega) ⟨⟨n + 1, by omega, by omega, ?_, Bx.fr1 f5 mb0⟩, by dsimp only; omega⟩
        rw [Nat.min_eq_left (by omega)]
        exact qx.turn t5 f5
      · obtain rfl : n = 32 := by omega
        have he := first_last
        refine br_f (by rw [show min 32 32 = 32 from rfl]; simp; exact he) ⟨⟨33, rfl, by omega, ?_, Bx.fr1 f5 mb0⟩, by dsimp only; omega⟩
        have hsame : putD (firstD 32) (((32 : Nat) : Int) + 1) (parF (((32 : Nat) : Int) + 1)) (kndF (((32 : Nat) : Int) + 1)) (((32 : Nat) : Int) + 1) false = firstD 32 := by
          unfold putD
          exact if_neg he
        rw [show min 32 32 = 32 from rfl, hsame] at t5
        exact qx.turn t5 f5
    refine ⟨by decide, ?_⟩
    rw [hkn]
    refine br_dec (fun hk => key _ ?_) fun hk => key _ ?_
    · unfold parF; rw [if_pos hk]; exact wr64 (by omega) (by omega)
    · unfold parF; rw [if_neg hk]
  · obtain rfl : n = 33 := by omega
    refine ⟨fun x wx => ∃ (i : Nat) (D : DT), x = i ∧ i ≤ ps.length ∧ T2 wx g mb h hb D (fun _ => dn0) ∧ Full D ∧ Bs w wx, fun x _ => ps.length - x.toNat, ⟨0, _, rfl, by omega, qx, first_full, Bx⟩, ?_⟩
    rintro x wy ⟨i, D, rfl, hi, qy, hF, By⟩
    have hk3 : GTreeR.lfull_k3 (fun u w' => u = .bool true ∧ Below w.heap.size w w') a2 cs.length (some ⟨g, 0, none⟩) (some ⟨h, 0, none⟩) wy := by
      unfold GTreeR.lfull_k3
      refine ⟨fun x wx => ∃ (i : Nat) (D : DT), x = i ∧ i ≤ cs.length ∧ T2 wx g mb h hb D (fun _ => dn0) ∧ Full D ∧ Bs w wx, fun x _ => cs.length - x.toNat, ⟨0, D, rfl, by omega, qy, hF, By⟩, ?_⟩
      rintro x wz ⟨j, D2, rfl, hj, qz, hF2, Bz⟩
      have hk2 := lfull_k2_ok qz hF2 Bz hhb
      refine br_dec (fun hlt => br_dec (fun h20 => ?_) fun _ => hk2) fun _ => hk2
      have hjl : j < cs.length := by omega
      obtain ⟨b, off, rfl, hcc⟩ := (hc.below Bz (Nat.le_refl _)).int hjl
      refine ⟨by omega, by omega, _, by rw [Int.toNat_natCast, Nat.mul_one]; exact hcc, by decide, ?_⟩
      rw [num32]
      refine (tclose_any qz.t _).mono ?_
      rintro e w6 ⟨rfl, t6, f6⟩
      refine ⟨keepG_nil _ _, _, rfl, ?_⟩
      rw [wr64 (z := (j : Int) + 1) (by omega) (by omega)]
      exact ⟨⟨j + 1, _, by omega, by omega, qz.turn t6 f6, hF2.close _, Bz.fr1 f6 mb0⟩, by dsimp only; omega⟩
    refine br_dec (fun hlt => br_dec (fun h20 => drewB By fun w9 b9 B9 e9 => ?_) fun _ => hk3) fun _ => hk3
    have hil : i < ps.length := by omega
    obtain ⟨b, off, rfl, hcc⟩ := (hp.below B9 (Nat.le_refl _)).int hil
    have q9 := qy.below b9
    refine ⟨by omega, by omega, _, by rw [Int.toNat_natCast, Nat.mul_one]; exact hcc, by decide, by omega, by omega, _, by rw [Int.toNat_natCast, Nat.mul_one]; exact hcc, by decide, by decide, ?_⟩
    rw [num32]
    refine (tmove_any q9.t hF.wf _ _).mono ?_
    rintro e w6 ⟨rfl, t6, f6⟩
    refine ⟨keepG_nil _ _, _, rfl, ?_⟩
    rw [wr64 (z := (i : Int) + 1) (by omega) (by omega)]
    exact ⟨⟨i + 1, _, by omega, by omega, q9.turn t6 f6, hF.move _ _, B9.fr1 f6 mb0⟩, by dsimp only; omega⟩
end Go.Proofs.Ytjcabccolkmlmaa
end
section
/- Arrays and structs that came in as values: their numbers. -/
namespace Go.Proofs.Ytjcabccolkmlmaa
open Go.RowKit Go.WideShapes Go.ChangeShapes
theorem okWide_arr {P : Program} {W : World} {r : Reach} {base : Nat} {t : TypeId} {v : Value} {n : Nat} {e : Sh} {k : Nat} (hf : fitsB P (.arr n e k) t = true) (hv : Value.okWide P W r base t v) : ∃ cs, v = .agg cs ∧ cs.size = P.cellsOf t := by
  unfold fitsB at hf
  split at hf
  · rename_i l et hu
    unfold Value.okWide at hv
    rw [hu] at hv
    obtain ⟨cs, h1, h2, _⟩ := hv
    exact ⟨cs, h1, h2⟩
  · cases hf
theorem open_arrI {H : Type} {enc : TypeId × Value → H} {P : Program} {W : World} {r : Reach} {base : Nat} {t : TypeId} {v : Value} {d : DataW H} {p : List MemPlace} (n : Nat) (hf : fitsB P (.arr n (.int .i64) 1) t = true) (hc : P.cellsOf t = n) (hv : Value.okWide P W r base t v)
    (h : DataW.Trod enc P W 0 (fun _ => true) true t v d p) : ∃ zs : List Int, zs.length = n ∧ v = .agg (zs.map (Value.int .i64)).toArray ∧ ∀ z ∈ zs, -9223372036854775808 ≤ z ∧ z ≤ 9223372036854775807 := by
  obtain ⟨cs, rfl, hs⟩ := okWide_arr hf hv
  have hh := open_sh hf h
  obtain ⟨zs, hz, hp⟩ := exists_list (p := fun i z => cs.toList[i]? = some (Value.int .i64 z) ∧ (Lit.int .i64 z).wf = true) n (fun i hi => by
    obtain ⟨z, h1, h2⟩ := hh i hi
    refine ⟨z, ?_, h2⟩
    have := congrArg (·[0]?) h1
    simpa [Value.cells] using this)
  refine ⟨zs, hz, ?_, fun z hm => ?_⟩
  · congr 1
    apply Array.ext'
    apply List.ext_getElem?
    intro i
    rw [List.getElem?_map]
    by_cases hi : i < n
    · rw [List.getElem?_eq_getElem (show i < zs.length by omega)]
      exact (hp i _ (List.getElem?_eq_getElem (by omega))).1
    · rw [List.getElem?_eq_none (by simp; omega), List.getElem?_eq_none (by omega)]
      rfl
  · obtain ⟨i, hi⟩ := List.getElem?_of_mem hm
    exact i64_range (hp i z hi).2
theorem open_arr2 {H : Type} {enc : TypeId × Value → H} {P : Program} {W : World} {r : Reach} {base : Nat} {t : TypeId} {v : Value} {d : DataW H} {p : List MemPlace} (hf : fitsB P (.arr 2 (.int .i64) 1) t = true) (hc : P.cellsOf t = 2) (hv : Value.okWide P W r base t v)
    (h : DataW.Trod enc P W 0 (fun _ => true) true t v d p) : ∃ x y : Int, v = .agg #[.int .i64 x, .int .i64 y] ∧ (-9223372036854775808 ≤ x ∧ x ≤ 9223372036854775807) ∧ -9223372036854775808 ≤ y ∧ y ≤ 9223372036854775807 := by
  obtain ⟨zs, hz, rfl, hr⟩ := open_arrI 2 hf hc hv h
  match zs, hz with
  | [x, y], _ => exact ⟨x, y, rfl, hr x (by simp), hr y (by simp)⟩
theorem open_arr4 {H : Type} {enc : TypeId × Value → H} {P : Program} {W : World} {r : Reach} {base : Nat} {t : TypeId} {v : Value} {d : DataW H} {p : List MemPlace} (hf : fitsB P (.arr 4 (.int .i64) 1) t = true) (hc : P.cellsOf t = 4) (hv : Value.okWide P W r base t v)
    (h : DataW.Trod enc P W 0 (fun _ => true) true t v d p) : ∃ x y z u : Int, v = .agg #[.int .i64 x, .int .i64 y, .int .i64 z, .int .i64 u] ∧ (-9223372036854775808 ≤ x ∧ x ≤ 9223372036854775807) ∧ (-9223372036854775808 ≤ y ∧ y ≤ 9223372036854775807) ∧ (-9223372036854775808 ≤ z ∧ z ≤ 9223372036854775807) ∧ -9223372036854775808 ≤ u ∧ u ≤ 9223372036854775807 := by
  obtain ⟨zs, hz, rfl, hr⟩ := open_arrI 4 hf hc hv h
  match zs, hz with
  | [x, y, z, u], _ => exact ⟨x, y, z, u, rfl, hr x (by simp), hr y (by simp), hr z (by simp), hr u (by simp)⟩
end Go.Proofs.Ytjcabccolkmlmaa
end
section
/- What the rows of the tree need, together. -/
namespace Go.Proofs.Ytjcabccolkmlmaa
end Go.Proofs.Ytjcabccolkmlmaa
end
