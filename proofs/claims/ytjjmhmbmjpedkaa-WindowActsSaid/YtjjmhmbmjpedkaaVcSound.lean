/- What is to be shown of code over abstract frames is enough. No program in sight. -/
import Derived.Test.YtjjmhmbmjpedkaaVcFn
namespace Go.Proofs.Ytjjmhmbmjpedkaa
open Go.RowKit
variable {P : Program} {E : Env}
section
variable {n : Nat} {ρ : SFr} {σ : List LB} {a : Act} {w : World}
theorem liveR_get (hr : Rep n ρ σ a w) : ∀ (lv : LSl) (acc : List Value) (K : List Value → Prop), liveR lv ρ acc K →
    ∃ seg, K (acc ++ seg) ∧ (∀ seg2, restR lv (seg ++ seg2) = seg2) ∧ ∀ seg2 ρ0 t s, lk (headR lv (seg ++ seg2) ρ0) t = some s → (∃ v, s = .v v ∧ a.tmps[t]? = some v) ∨ lk ρ0 t = some s
  | [], acc, K, h => ⟨[], by rw [List.append_nil]; exact h, fun _ => rfl, fun _ _ _ _ h => .inr h⟩
  | (d, sh) :: r, acc, K, h => by
    unfold liveR at h
    obtain ⟨v, hv, h⟩ := withV_lk h
    obtain ⟨x, hx1, hx2⟩ := hr.slots d _ hv
    cases hx1
    have step : ∀ (ρ0 : SFr) (t : Nat) (s : SV), lk ((d, some (.v v)) :: ρ0) t = some s → (∃ v, s = .v v ∧ a.tmps[t]? = some v) ∨ lk ρ0 t = some s := fun ρ0 t s h => by
      rw [lk_cons] at h
      by_cases hd : d = t
      · subst hd
        rw [if_pos rfl] at h
        injection h with h
        exact .inl ⟨v, h.symm, hx2⟩
      · rw [if_neg hd] at h; exact .inr h
    cases sh with
    | lf l =>
      replace h : liveR r ρ (acc ++ [v]) K := by cases v <;> first | exact h.elim | exact h
      obtain ⟨seg, h1, h2, h3⟩ := liveR_get hr r _ _ h
      refine ⟨v :: seg, by rw [List.append_assoc] at h1; exact h1, fun seg2 => h2 seg2, fun seg2 ρ0 t s hl => ?_⟩
      rcases h3 _ _ _ _ (show lk (headR r (seg ++ seg2) ((d, some (.v v)) :: ρ0)) t = some s from hl) with h | h
      · exact .inl h
      · exact step ρ0 t s h
    | agg ls =>
      cases v with
      | agg cs =>
        obtain ⟨hlen, h⟩ := cond_get h
        have hlen := Nat.eq_of_beq_eq_true hlen
        obtain ⟨seg, h1, h2, h3⟩ := liveR_get hr r _ _ h
        have htk : ∀ l : List Value, (cs.toList ++ l).take ls.length = cs.toList ∧ (cs.toList ++ l).drop ls.length = l := fun l => by rw [← hlen]; simp
        refine ⟨cs.toList ++ seg, by rw [List.append_assoc] at h1; exact h1, fun seg2 => ?_, fun seg2 ρ0 t s hl => ?_⟩
        · rw [List.append_assoc]
          show restR r ((cs.toList ++ (seg ++ seg2)).drop ls.length) = seg2
          rw [(htk _).2]
          exact h2 seg2
        · rw [List.append_assoc] at hl
          replace hl : lk (headR r ((cs.toList ++ (seg ++ seg2)).drop ls.length) ((d, some (.v (.agg ((cs.toList ++ (seg ++ seg2)).take ls.length).toArray))) :: ρ0)) t = some s := hl
          rw [(htk _).1, (htk _).2] at hl
          rcases h3 _ _ _ _ hl with h | h
          · exact .inl h
          · exact step ρ0 t s h
      | _ => exact h.elim
theorem setB_inv (cs : List Value) (k : Nat) : ∀ (σ : List LB) (id : Nat) (b1 : LB), lkB (setB σ id cs) k = some b1 → ∃ b0, lkB σ k = some b0 ∧ b1.g = b0.g ∧ b1.T = b0.T ∧ (k = id → b1.cs = cs) ∧ (k ≠ id → b1 = b0)
  | x :: r, id, b1, h => by
    unfold setB at h
    unfold lkB
    cases hb : Nat.beq x.id id
    · rw [hb] at h
      simp only [cond_false, lkB] at h
      cases hk : Nat.beq x.id k
      · rw [hk] at h; exact setB_inv cs k r id b1 h
      · rw [hk] at h; injection h with h; subst h
        exact ⟨x, rfl, rfl, rfl, (fun e => by rw [← e, hk] at hb; cases hb), fun _ => rfl⟩
    · rw [hb] at h
      simp only [cond_true, lkB] at h
      cases hk : Nat.beq x.id k
      · rw [hk] at h
        exact ⟨b1, h, rfl, rfl, (fun e => by rw [e, hb] at hk; cases hk), fun _ => rfl⟩
      · rw [hk] at h; injection h with h; subst h
        exact ⟨x, rfl, rfl, rfl, fun _ => rfl, fun hne => absurd ((Nat.eq_of_beq_eq_true hk).symm.trans (Nat.eq_of_beq_eq_true hb)) hne⟩
theorem headB_same : ∀ (bx : LBx) (seg : List Value) (σ : List LB), (headB bx seg σ).map (·.g) = σ.map (·.g) ∧ (headB bx seg σ).map (·.id) = σ.map (·.id) ∧ ∀ s, den (headB bx seg σ) s = den σ s
  | [], _, _ => ⟨rfl, rfl, fun _ => rfl⟩
  | p :: r, seg, σ => by
    obtain ⟨h1, h2, h3⟩ := headB_same r (seg.drop p.2.length) (setB σ p.1 (seg.take p.2.length))
    exact ⟨h1.trans (setB_map _ _ _), h2.trans (setB_ids _ _ _), fun s => (h3 s).trans (setB_den _ _ _ _)⟩
theorem liveB_get {σ' : List LB} : ∀ (bx : LBx) (acc : List Value) (K : List Value → Prop), liveB bx σ' acc K →
    ∃ seg, K (acc ++ seg) ∧ ∀ (σ : List LB) (id : Nat) (b : LB), lkB (headB bx seg σ) id = some b → ∃ b0, lkB σ id = some b0 ∧ b.g = b0.g ∧ b.T = b0.T ∧ ((memN (idsB bx) id = true ∧ ∃ b', lkB σ' id = some b' ∧ b.cs = b'.cs) ∨ (memN (idsB bx) id = false ∧ b = b0))
  | [], acc, K, h => ⟨[], by rw [List.append_nil]; exact h, fun σ id b hb => ⟨b, hb, rfl, rfl, .inr ⟨rfl, rfl⟩⟩⟩
  | (k, ls) :: r, acc, K, h => by
    unfold liveB at h
    split at h
    · rename_i b' hb'
      obtain ⟨hlen, h⟩ := cond_get h
      have hlen := Nat.eq_of_beq_eq_true hlen
      obtain ⟨seg, h1, h2⟩ := liveB_get r _ _ h
      refine ⟨b'.cs ++ seg, by rw [List.append_assoc] at h1; exact h1, fun σ id b hb => ?_⟩
      have e1 : (b'.cs ++ seg).take ls.length = b'.cs := by rw [← hlen]; simp
      have e2 : (b'.cs ++ seg).drop ls.length = seg := by rw [← hlen]; simp
      unfold headB at hb
      simp only [e1, e2] at hb
      obtain ⟨b1, g1, g2, g3, g4⟩ := h2 _ id b hb
      obtain ⟨b0, k1, k2, k3, k4, k5⟩ := setB_inv _ _ _ _ _ g1
      refine ⟨b0, k1, g2.trans k2, g3.trans k3, ?_⟩
      unfold idsB memN
      rcases g4 with ⟨g4, b2, g5, g6⟩ | ⟨g4, rfl⟩
      · refine .inl ⟨?_, b2, g5, g6⟩
        rw [g4]; cases Nat.beq k id <;> rfl
      · cases hk : Nat.beq k id
        · refine .inr ⟨g4, k5 fun e => ?_⟩
          rw [e, Nat.beq_refl] at hk; cases hk
        · obtain rfl := Nat.eq_of_beq_eq_true hk
          exact .inl ⟨rfl, b', hb', k4 rfl⟩
    · exact h.elim
theorem okB_get {pb ids : List Nat} : ∀ {σ : List LB}, okB σ pb ids = true → ∀ b ∈ σ, memN pb b.id = true → memN ids b.id = true
  | x :: r, h, b, hb, hp => by
    unfold okB at h
    rcases List.mem_cons.1 hb with rfl | hb
    · rw [hp] at h
      simp only [cond_true] at h
      cases hi : memN ids b.id
      · rw [hi] at h; cases h
      · rfl
    · refine okB_get (σ := r) ?_ b hb hp
      cases hx : memN pb x.id
      · rw [hx] at h; exact h
      · rw [hx] at h
        simp only [cond_true] at h
        cases hi : memN ids x.id
        · rw [hi] at h; cases h
        · rw [hi] at h; exact h
def HeadRel (ids : List Nat) (σ0 σ' : List LB) : Prop := ∀ id b0, lkB σ0 id = some b0 → ∃ b', lkB σ' id = some b' ∧ b'.g = b0.g ∧ b'.T = b0.T ∧ (memN ids id = false → b' = b0)
theorem rep_head {ρ0 ρ' : SFr} {σ0 σ' : List LB} {a0 a' : Act} {w0 w' : World} (h0 : Rep n ρ0 σ0 a0 w0) (h1 : Rep n ρ' σ' a' w') {lv : LSl} {bx : LBx} {wr : List Nat} (hrel : HeadRel (idsB bx) σ0 σ') (hs : SameA (memN wr) a0 a') {K : List Value → Prop}
    (h : liveR lv ρ' [] fun vs => liveB bx σ' vs K) : ∃ vals, K vals ∧ Rep n (headR lv vals (dropS wr ρ0)) (headB bx (restR lv vals) σ0) a' w' := by
  obtain ⟨segR, h, hrest, hsl⟩ := liveR_get h1 lv _ _ h
  obtain ⟨segB, h, hbx⟩ := liveB_get bx _ _ h
  refine ⟨segR ++ segB, by simpa using h, ?_⟩
  rw [hrest]
  obtain ⟨e1, e2, e3⟩ := headB_same bx segB σ0
  refine ⟨h1.size, h1.defs, fun t s hl => ?_, fun b hb => ?_, by rw [e1]; exact h0.nodup, by rw [e2]; exact h0.ids⟩
  · rcases hsl _ _ _ _ hl with ⟨v, rfl, hv⟩ | hl
    · exact ⟨v, rfl, hv⟩
    · rw [lk_dropS] at hl
      cases hw : memN wr t
      · rw [hw] at hl
        obtain ⟨x, g1, g2⟩ := h0.slots t s (by simpa using hl)
        exact ⟨x, by rw [e3]; exact g1, by rw [hs t hw]; exact g2⟩
      · rw [hw] at hl; simp at hl
  · have hids : ((headB bx segB σ0).map (·.id)).Nodup := by rw [e2]; exact h0.ids
    obtain ⟨b0, g1, g2, g3, g4⟩ := hbx σ0 b.id b (lkB_of_mem hids hb)
    obtain ⟨b', k1, k2, k3, k4⟩ := hrel _ _ g1
    have hat := h1.boxes b' (lkB_mem k1).1
    have hcs : b.cs = b'.cs := by
      rcases g4 with ⟨_, b2, g5, g6⟩ | ⟨g4, rfl⟩
      · rw [k1] at g5; injection g5 with g5; subst g5; exact g6
      · rw [k4 g4]
    unfold LB.at at *
    rw [g2, g3, hcs, ← k2, ← k3]; exact hat
theorem headB_lk (bx : LBx) : ∀ (seg : List Value) (σ : List LB) (id : Nat) (b : LB), lkB σ id = some b → ∃ b', lkB (headB bx seg σ) id = some b' ∧ b'.g = b.g ∧ b'.T = b.T ∧ (memN (idsB bx) id = false → b' = b) := by
  induction bx with
  | nil => intro seg σ id b hb; exact ⟨b, hb, rfl, rfl, fun _ => rfl⟩
  | cons p r ih =>
    intro seg σ id b hb
    obtain ⟨b1, g1, g2, g3, g4⟩ := setB_lk (seg.take p.2.length) id σ p.1 b hb
    obtain ⟨b2, m1, m2, m3, m4⟩ := ih (seg.drop p.2.length) _ id b1 g1
    refine ⟨b2, m1, m2.trans g2, m3.trans g3, fun hn => ?_⟩
    unfold idsB memN at hn
    cases hp : Nat.beq p.1 id
    · rw [hp] at hn
      exact (m4 hn).trans (g4 fun e => by rw [e, Nat.beq_refl] at hp; cases hp)
    · rw [hp] at hn; cases hn
/-- The frame behind code. -/
def Out (n : Nat) (pro : List Nat) (wr : List Nat) (Q : VQ) (σ0 : List LB) (a0 : Act) (e : Exit) (a : Act) (w : World) : Prop :=
  ∃ ρ σ, Q e ρ σ w ∧ Rep n ρ σ a w ∧ GrowsP pro σ0 σ ∧ SameA (memN wr) a0 a
theorem memN_app (l m : List Nat) (t : Nat) : memN (l ++ m) t = (memN l t || memN m t) := by
  rw [Bool.eq_iff_iff, Bool.or_eq_true, memN_iff, memN_iff, memN_iff, List.mem_append]
theorem Out.then {pro wr1 wr2 : List Nat} {K : SFr → List LB → World → Prop} {Q : VQ} {σ0 : List LB} {a0 : Act} {c : Code}
    (hc : ∀ ρ σ a w, K ρ σ w → Rep n ρ σ a w → c.wp P (Out n pro wr2 Q σ a) a w) {e : Exit} {a : Act} {w : World} (h : Out n pro wr1 (thenQ K Q) σ0 a0 e a w) :
    Exit.then (c.wp P (Out n pro (wr1 ++ wr2) Q σ0 a0)) (Out n pro (wr1 ++ wr2) Q σ0 a0) e a w := by
  obtain ⟨ρ, σ, hq, hr, hg, hs⟩ := h
  have hs' : SameA (memN (wr1 ++ wr2)) a0 a := hs.mono fun t ht => by rw [memN_app, ht]; rfl
  cases e with
  | normal =>
    refine wp_mono (hc ρ σ a w hq hr) fun e a' w' h => ?_
    obtain ⟨ρ', σ', hq', hr', hg', hs2⟩ := h
    exact ⟨ρ', σ', hq', hr', hg.trans hg', hs'.trans (hs2.mono fun t ht => by rw [memN_app, ht]; simp)⟩
  | _ => exact ⟨ρ, σ, hq, hr, hg, hs'⟩
theorem rep_refC (hr : Rep n ρ σ a w) {c : Operand} {t : Bool} (h : ev ρ c = some (.v (.bool t))) : Rep n (refC c t ρ) σ a w := by
  cases c with
  | tmp d => exact hr.refine h
  | _ => exact hr
end
end Go.Proofs.Ytjjmhmbmjpedkaa
