/- Regions in an abstract frame, in their order and drawn. No program in sight. -/
import Derived.Test.YtjjmhmbmjpedkaaVcLoud2
namespace Go.Proofs.Ytjjmhmbmjpedkaa
open Go.RowKit
variable {P : Program} {E : Env}
def dstAt (ops : Array Oper) (j : Nat) : Option Nat := match ops[j]? with
  | some o => o.dst
  | none => none
def vGuard (ops : Array Oper) (g : Option (Nat × Bool)) (ρ : SFr) (Ky Kn : SFr → Prop) : Prop := match g with
  | none => Ky ρ
  | some q => match dstAt ops q.1 with
    | some d => withV (lk ρ d) fun v => match v with
      | .bool b => br b (cond q.2 (Ky ((d, some (.v (.bool true))) :: ρ)) (Kn ((d, some (.v (.bool true))) :: ρ))) (cond q.2 (Kn ((d, some (.v (.bool false))) :: ρ)) (Ky ((d, some (.v (.bool false))) :: ρ)))
      | .tuple _ => Kn ρ
      | _ => False
    | none => False
def isQ : Op → Bool
  | .alloc _ => false
  | .box _ _ => false
  | .store _ _ _ => false
  | .buildSlice _ _ _ => false
  | .makeSlice _ _ _ => false
  | .call c => match c.callee with
    | .builtin b => match b with
      | .len => true
      | .cap => true
      | .min => true
      | .max => true
      | _ => false
    | _ => false
  | _ => true
def vOps (P : Program) (E : Env) (n : Nat) (pro : List Nat) (ops : Array Oper) : List Nat → SFr → List LB → World → (SFr → List LB → World → Prop) → Prop
  | [], ρ, σ, w, K => K ρ σ w
  | i :: r, ρ, σ, w, K => match ops[i]? with
    | some o => cond (dstOk n o.dst) (vGuard ops o.guard ρ
      (fun ρ => cond (isQ o.op) (qop E o.op ρ σ w fun s _ => vOps P E n pro ops r (putS ρ o.dst (some s)) σ w K) (lop P E pro o ρ σ w fun s σ' w' => vOps P E n pro ops r (putS ρ o.dst s) σ' w' K))
      (fun ρ => vOps P E n pro ops r (putS ρ o.dst (some (.v undef))) σ w K)) False
    | none => False
/-- The reads of a phase. -/
def vQs (E : Env) (n : Nat) (ops : Array Oper) (σ : List LB) (w : World) : List Nat → SFr → List (Nat × SFact) → (SFr → List (Nat × SFact) → Prop) → Prop
  | [], ρ, F, K => K ρ F
  | i :: r, ρ, F, K => match ops[i]? with
    | some o => cond (dstOk n o.dst) (vGuard ops o.guard ρ
      (fun ρ => qop E o.op ρ σ w fun s f => vQs E n ops σ w r (putS ρ o.dst (some s)) (F ++ [(i, f)]) K)
      (fun ρ => vQs E n ops σ w r (putS ρ o.dst (some (.v undef))) (F ++ [(i, .tt)]) K)) False
    | none => False
def keepF (B : List Nat) (l : Nat) : List (Nat × SFact) → List (Nat × SFact)
  | [] => []
  | p :: r => cond ((B.getD l 0).testBit p.1) (keepF B l r) (p :: keepF B l r)
def factsAt : List (Nat × SFact) → World → Prop
  | [], _ => True
  | p :: r, w => match p.2 with
    | .mem f => f w ∧ factsAt r w
    | _ => factsAt r w
def noBoxF : List (Nat × SFact) → Nat → Bool
  | [], _ => true
  | p :: r, id => match p.2 with
    | .box k => cond (Nat.beq k.id id) false (noBoxF r id)
    | _ => noBoxF r id
def clearF (F : List (Nat × SFact)) : Option Nat → Bool
  | none => true
  | some id => noBoxF F id
def andF : List (Nat × SFact) → World → Prop → Prop
  | [], _, R => R
  | p :: r, w, R => match p.2 with
    | .mem f => f w ∧ andF r w R
    | _ => andF r w R
def allC : List Nat → (Nat → Prop) → Prop
  | [], _ => True
  | x :: r, f => match r with
    | [] => f x
    | _ :: _ => f x ∧ allC r f
theorem allC_get {f : Nat → Prop} : ∀ {l : List Nat}, allC l f → ∀ x ∈ l, f x
  | x :: r, h, y, hy => by
    unfold allC at h
    cases r with
    | nil => rw [List.mem_singleton] at hy; subst hy; exact h
    | cons z r =>
      rcases List.mem_cons.1 hy with rfl | hy
      · exact h.1
      · exact allC_get h.2 y hy
def vTr (P : Program) (E : Env) (n : Nat) (pro : List Nat) (ops : Array Oper) (B : List Nat) : Nat → List Nat → List Nat → List (Nat × SFact) → SFr → List LB → World → (SFr → List LB → World → Prop) → Prop
  | 0, _, _, _, ρ, σ, w, K => K ρ σ w
  | k + 1, L, Qs, F, ρ, σ, w, K => allC (readyL B L) fun l => match ops[l]? with
    | some o => cond (dstOk n o.dst) (vGuard ops o.guard ρ
      (fun ρ => cond (clearF (keepF B l F) (stBox ρ o.op)) (lop P E pro o ρ σ w fun s σ' w' => andF (keepF B l F) w' (vQs E n ops σ' w' (newQ B (L.erase l) Qs) (putS ρ o.dst s) (keepF B l F) fun ρ F => vTr P E n pro ops B k (L.erase l) (restQ B (L.erase l) Qs) F ρ σ' w' K)) False)
      (fun ρ => vQs E n ops σ w (newQ B (L.erase l) Qs) (putS ρ o.dst (some (.v undef))) (keepF B l F) fun ρ F => vTr P E n pro ops B k (L.erase l) (restQ B (L.erase l) Qs) F ρ σ w K)) False
    | none => False
def drewO (w : World) (K : World → Prop) : Prop := ∀ w1, w1.heap = w.heap → Below w.heap.size w w1 → K w1
def SameA (f : Nat → Bool) (a a' : Act) : Prop := ∀ t, f t = false → a'.tmps[t]? = a.tmps[t]?
theorem SameA.refl (f : Nat → Bool) (a : Act) : SameA f a a := fun _ _ => rfl
theorem SameA.trans {f : Nat → Bool} {a b c : Act} (h : SameA f a b) (k : SameA f b c) : SameA f a c := fun t ht => (k t ht).trans (h t ht)
theorem SameA.mono {f g : Nat → Bool} {a b : Act} (h : SameA f a b) (hg : ∀ t, f t = true → g t = true) : SameA g a b := fun t ht => h t (by cases hf : f t; rfl; rw [hg t hf] at ht; cases ht)
theorem SameA.put {f : Nat → Bool} {a : Act} {d : Option Tmp} {x : Value} (h : ∀ t, d = some t → f t = true) : SameA f a (a.put d x) := fun t ht => by
  cases d with
  | none => rfl
  | some d =>
    have hne : d ≠ t := by rintro rfl; rw [h d rfl] at ht; cases ht
    simp [Act.put, Array.getElem?_setIfInBounds_ne hne]
def wrOps (ops : Array Oper) (t : Nat) : Bool := ops.any fun o => o.dst == some t
theorem wrOps_mem {ops : Array Oper} {i : Nat} {o : Oper} (h : ops[i]? = some o) : ∀ t, o.dst = some t → wrOps ops t = true := fun t ht => by
  unfold wrOps
  obtain ⟨hi, rfl⟩ := Array.getElem?_eq_some_iff.1 h
  exact Array.any_eq_true.2 ⟨i, hi, by simp [ht]⟩
section
variable {n : Nat} {ρ : SFr} {σ : List LB} {a : Act} {w : World} {ops : Array Oper}
theorem Rep.refine (hr : Rep n ρ σ a w) {d : Nat} {b : Bool} (h : lk ρ d = some (.v (.bool b))) : Rep n ((d, some (.v (.bool b))) :: ρ) σ a w :=
  ⟨hr.size, hr.defs, fun t s hl => by
    rw [lk_cons] at hl
    by_cases hd : d = t
    · subst hd
      rw [if_pos rfl] at hl
      exact hr.slots d s (h.trans hl)
    · rw [if_neg hd] at hl; exact hr.slots t s hl, hr.boxes, hr.nodup, hr.ids⟩
theorem withV_lk {s : Option SV} {K : Value → Prop} (h : withV s K) : ∃ x, s = some (.v x) ∧ K x := by
  unfold withV at h
  split at h
  · exact ⟨_, rfl, h⟩
  · exact h.elim
theorem vGuard_get (hr : Rep n ρ σ a w) {o : Oper} {Ky Kn : SFr → Prop} (h : vGuard ops o.guard ρ Ky Kn) :
    (Region.wanted o (yielded ops a.tmps) = true ∧ ∃ ρ', Rep n ρ' σ a w ∧ Ky ρ') ∨ (Region.wanted o (yielded ops a.tmps) = false ∧ ∃ ρ', Rep n ρ' σ a w ∧ Kn ρ') := by
  unfold vGuard at h
  split at h
  · rename_i hg
    exact .inl ⟨by simp [Region.wanted, hg], ρ, hr, h⟩
  · rename_i q hg
    obtain ⟨j, want⟩ := q
    split at h
    · rename_i d hd
      obtain ⟨v, hv, h⟩ := withV_lk h
      obtain ⟨x, hx1, hx2⟩ := hr.slots d _ hv
      cases hx1
      have hy : ((ops[j]?).bind (·.dst)).bind (a.tmps[·]?) = some v := by
        unfold dstAt at hd
        cases ho : ops[j]? with
        | none => rw [ho] at hd; cases hd
        | some oj =>
          rw [ho] at hd
          simp only at hd
          simp [hd, hx2]
      split at h
      · rename_i b
        have hyy : yielded ops a.tmps j = some b := by unfold yielded; rw [hy]
        have hw : Region.wanted o (yielded ops a.tmps) = (b == want) := by simp only [Region.wanted, hg, hyy]; cases b <;> cases want <;> rfl
        have hr' := hr.refine hv
        cases b <;> cases want
        · exact .inl ⟨hw, _, hr', h⟩
        · exact .inr ⟨hw, _, hr', h⟩
        · exact .inr ⟨hw, _, hr', h⟩
        · exact .inl ⟨hw, _, hr', h⟩
      · rename_i vs
        have hyy : yielded ops a.tmps j = none := by unfold yielded; rw [hy]
        exact .inr ⟨by simp [Region.wanted, hg, hyy], ρ, hr, h⟩
      · exact h.elim
    · exact h.elim
theorem vOps_sound (hE : EOk P E) {pro : List Nat} {K : SFr → List LB → World → Prop} {Q : Exit → Act → World → Prop} {σ0 : List LB} {a0 : Act} (hQ : ∀ ρ σ a w, K ρ σ w → Rep n ρ σ a w → GrowsP pro σ0 σ → SameA (wrOps ops) a0 a → Q .normal a w) :
    ∀ (l : List Nat) (ρ : SFr) (σ : List LB) (a : Act) (w : World), Rep n ρ σ a w → GrowsP pro σ0 σ → SameA (wrOps ops) a0 a → vOps P E n pro ops l ρ σ w K → wpOps P ops Q l a w
  | [], ρ, σ, a, w, hr, hg, hs, h => hQ ρ σ a w h hr hg hs
  | i :: r, ρ, σ, a, w, hr, hg, hs, h => by
    unfold vOps at h
    unfold wpOps
    split at h
    · rename_i o ho
      obtain ⟨hd, h⟩ := cond_get h
      rw [ho]
      simp only
      have hput : ∀ x, SameA (wrOps ops) a (a.put o.dst x) := fun x => SameA.put (wrOps_mem ho)
      rcases vGuard_get hr h with ⟨hw, ρ', hr', h⟩ | ⟨hw, ρ', hr', h⟩
      · rw [if_pos hw]
        refine .inl ?_
        cases hq : isQ o.op
        · rw [hq] at h
          simp only [cond_false] at h
          refine Oper.wp_mono (fun a1 w1 => ?_) (lop_sound hE hr' hd h (Q := Q))
          rintro ⟨s, σ', hk, hr1, hg1, _, x, rfl⟩
          exact vOps_sound hE hQ r _ _ _ _ hr1 (hg.trans hg1) (hs.trans (hput x)) hk
        · rw [hq] at h
          simp only [cond_true] at h
          obtain ⟨s, f, x, hk, hden, hf, hrun, hbx⟩ := qop_sound (P := P) (o := o) hE hr' h
          unfold Oper.wp
          rw [hrun w hf, Oper.upon_value]
          exact vOps_sound hE hQ r _ _ _ _ (hr'.put hd hden) hg (hs.trans (hput x)) hk
      · rw [if_neg (by simp [hw])]
        exact vOps_sound hE hQ r _ _ _ _ (hr'.put hd rfl) hg (hs.trans (hput _)) h
    · exact h.elim
def qf (p : Nat × SFact) : QF := (p.1, p.2.holds)
/-- The boxes that facts speak of are there. -/
def InF (σ : List LB) (F : List (Nat × SFact)) : Prop := ∀ p ∈ F, ∀ b, p.2 = .box b → lkB σ b.id = some b
theorem vQs_sound (hE : EOk P E) {K : SFr → List (Nat × SFact) → Prop} : ∀ (l : List Nat) (ρ : SFr) (a : Act) (F : List (Nat × SFact)), Rep n ρ σ a w → vQs E n ops σ w l ρ F K →
    ∃ (G : List (Nat × SFact)) (a' : Act) (ρ' : SFr), G.map (·.1) = l ∧ SeqF P ops (G.map qf) a a' ∧ (∀ p ∈ G, p.2.holds w) ∧ Rep n ρ' σ a' w ∧ SameA (wrOps ops) a a' ∧ InF σ G ∧ K ρ' (F ++ G)
  | [], ρ, a, F, hr, h => ⟨[], a, ρ, rfl, rfl, (fun p hp => by cases hp), hr, SameA.refl _ _, (fun p hp => by cases hp), (by rw [List.append_nil]; exact h)⟩
  | i :: r, ρ, a, F, hr, h => by
    unfold vQs at h
    split at h
    · rename_i o ho
      obtain ⟨hd, h⟩ := cond_get h
      have hput : ∀ x, SameA (wrOps ops) a (a.put o.dst x) := fun x => SameA.put (wrOps_mem ho)
      rcases vGuard_get hr h with ⟨hw, ρ', hr', h⟩ | ⟨hw, ρ', hr', h⟩
      · obtain ⟨s, f, x, hk, hden, hf, hrun, hbx⟩ := qop_sound (P := P) (o := o) hE hr' h
        obtain ⟨G, a', ρ2, h1, h2, h3, h4, h5, h7, h6⟩ := vQs_sound hE r _ _ _ (hr'.put hd hden) hk
        refine ⟨(i, f) :: G, a', ρ2, by rw [List.map_cons, h1], ⟨o, x, ho, fun wx hx => .inl ⟨hw, .inl (hrun wx hx)⟩, h2⟩, fun p hp => ?_, h4, (hput x).trans h5, fun p hp => ?_, by rw [List.append_assoc] at h6; exact h6⟩
        · rcases List.mem_cons.1 hp with rfl | hp
          · exact hf
          · exact h3 p hp
        · rcases List.mem_cons.1 hp with rfl | hp
          · exact hbx
          · exact h7 p hp
      · obtain ⟨G, a', ρ2, h1, h2, h3, h4, h5, h7, h6⟩ := vQs_sound hE r _ _ _ (hr'.put hd (x := undef) rfl) h
        refine ⟨(i, .tt) :: G, a', ρ2, by rw [List.map_cons, h1], ⟨o, undef, ho, fun wx hx => .inr ⟨hw, rfl⟩, h2⟩, fun p hp => ?_, h4, (hput _).trans h5, fun p hp => ?_, by rw [List.append_assoc] at h6; exact h6⟩
        · rcases List.mem_cons.1 hp with rfl | hp
          · trivial
          · exact h3 p hp
        · rcases List.mem_cons.1 hp with rfl | hp
          · intro b hb; cases hb
          · exact h7 p hp
    · exact h.elim
theorem keepF_eq (B : List Nat) (l : Nat) : ∀ F, keepP B l (F.map qf) = (keepF B l F).map qf
  | [] => rfl
  | p :: r => by
    have ih := keepF_eq B l r
    unfold keepF
    unfold keepP at *
    rw [List.map_cons, List.filter_cons, ih]
    show (if (!(B.getD l 0).testBit p.1) = true then _ else _) = _
    cases (B.getD l 0).testBit p.1 <;> rfl
theorem keepF_sub (B : List Nat) (l : Nat) : ∀ {F : List (Nat × SFact)} {p}, p ∈ keepF B l F → p ∈ F
  | q :: r, p, h => by
    unfold keepF at h
    cases hb : (B.getD l 0).testBit q.1
    · rw [hb] at h
      rcases List.mem_cons.1 h with rfl | h
      · simp
      · exact List.mem_cons_of_mem _ (keepF_sub B l h)
    · rw [hb] at h; exact List.mem_cons_of_mem _ (keepF_sub B l h)
theorem factsAt_get : ∀ {F : List (Nat × SFact)} {w : World} {σ : List LB}, factsAt F w → InF σ F → (∀ b ∈ σ, b.at w) → ∀ p ∈ F, p.2.holds w
  | p :: r, w, σ, h, hi, hb, q, hq => by
    unfold factsAt at h
    rcases List.mem_cons.1 hq with rfl | hq
    · cases hf : q.2 with
      | tt => trivial
      | box b => exact hb b (lkB_mem (hi q (by simp) b hf)).1
      | mem f => rw [hf] at h; exact h.1
    · refine factsAt_get (F := r) ?_ (fun p hp => hi p (List.mem_cons_of_mem _ hp)) hb q hq
      cases hf : p.2 <;> rw [hf] at h <;> first | exact h | exact h.2
theorem andF_get : ∀ {F : List (Nat × SFact)} {w : World} {R : Prop}, andF F w R → factsAt F w ∧ R
  | [], w, R, h => ⟨trivial, h⟩
  | p :: r, w, R, h => by
    unfold andF at h
    unfold factsAt
    split at h
    · exact ⟨⟨h.1, (andF_get h.2).1⟩, (andF_get h.2).2⟩
    · rename_i hn
      have := andF_get h
      cases hf : p.2 with
      | mem f => exact absurd hf (hn f)
      | tt => exact this
      | box b => exact this
theorem noBoxF_get : ∀ {F : List (Nat × SFact)} {id : Nat}, noBoxF F id = true → ∀ p ∈ F, ∀ b, p.2 = .box b → b.id ≠ id
  | p :: r, id, h, q, hq, b, hb => by
    unfold noBoxF at h
    rcases List.mem_cons.1 hq with rfl | hq
    · rintro rfl
      rw [hb] at h
      simp at h
    · cases hf : p.2 with
      | box k =>
        rw [hf] at h
        simp only at h
        cases hk : Nat.beq k.id id
        · rw [hk] at h; exact noBoxF_get h q hq b hb
        · rw [hk] at h; cases h
      | tt => rw [hf] at h; exact noBoxF_get h q hq b hb
      | mem f => rw [hf] at h; exact noBoxF_get h q hq b hb
theorem vTr_sound (hE : EOk P E) {pro : List Nat} {B : List Nat} {K : SFr → List LB → World → Prop} {Q : Exit → Act → World → Prop} {σ0 : List LB} {a0 : Act} (hQ : ∀ ρ σ a w, K ρ σ w → Rep n ρ σ a w → GrowsP pro σ0 σ → SameA (wrOps ops) a0 a → Q .normal a w) :
    ∀ (k : Nat) (L Qs : List Nat) (F : List (Nat × SFact)) (ρ : SFr) (σ : List LB) (a : Act) (w : World), Rep n ρ σ a w → GrowsP pro σ0 σ → SameA (wrOps ops) a0 a → InF σ F → (∀ p ∈ F, p.2.holds w) → vTr P E n pro ops B k L Qs F ρ σ w K → wpTr P ops Q B k L Qs (F.map qf) a w
  | 0, L, Qs, F, ρ, σ, a, w, hr, hg, hs, _, _, h => hQ ρ σ a w h hr hg hs
  | k + 1, L, Qs, F, ρ, σ, a, w, hr, hg, hs, hin, hF, h => by
    intro l hl
    unfold vTr at h
    have h := allC_get h l hl
    unfold wpOp
    split at h
    · rename_i o ho
      obtain ⟨hd, h⟩ := cond_get h
      rw [ho]
      simp only
      have hput : ∀ x, SameA (wrOps ops) a (a.put o.dst x) := fun x => SameA.put (wrOps_mem ho)
      rcases vGuard_get hr h with ⟨hw, ρ', hr', h⟩ | ⟨hw, ρ', hr', h⟩
      · rw [if_pos hw]
        refine .inl ?_
        obtain ⟨hc, h⟩ := cond_get h
        refine Oper.wp_mono (fun a1 w1 => ?_) (lop_sound hE hr' hd h (Q := Q))
        rintro ⟨s, σ', hk, hr1, hg1, hst, x, rfl⟩
        obtain ⟨hfa, hk⟩ := andF_get hk
        have hin1 : InF σ' (keepF B l F) := fun p hp b hb => by
          refine hst b.id b (fun e => ?_) (hin p (keepF_sub B l hp) b hb)
          rw [e] at hc
          exact noBoxF_get hc p hp b hb rfl
        obtain ⟨G, a2, ρ2, h1, h2, h3, h4, h5, h7, h6⟩ := vQs_sound (P := P) hE _ _ _ _ hr1 hk
        have hall : ∀ p ∈ keepF B l F ++ G, p.2.holds w1 := fun p hp => (List.mem_append.1 hp).elim (factsAt_get hfa hin1 hr1.boxes p) (h3 p)
        have hinall : InF σ' (keepF B l F ++ G) := fun p hp => (List.mem_append.1 hp).elim (hin1 p) (h7 p)
        refine ⟨G.map qf, a2, by rw [List.map_map]; exact h1, h2, fun q hq => ?_, ?_⟩
        · rw [keepF_eq, ← List.map_append] at hq
          obtain ⟨p, hp, rfl⟩ := List.mem_map.1 hq
          exact hall p hp
        · rw [keepF_eq, ← List.map_append]
          exact vTr_sound hE hQ k _ _ _ _ _ _ _ h4 (hg.trans hg1) ((hs.trans (hput x)).trans h5) hinall hall h6
      · rw [if_neg (by simp [hw])]
        have hin1 : InF σ (keepF B l F) := fun p hp => hin p (keepF_sub B l hp)
        obtain ⟨G, a2, ρ2, h1, h2, h3, h4, h5, h7, h6⟩ := vQs_sound (P := P) hE _ _ _ _ (hr'.put hd (x := undef) rfl) h
        have hall : ∀ p ∈ keepF B l F ++ G, p.2.holds w := fun p hp => (List.mem_append.1 hp).elim (fun h => hF p (keepF_sub B l h)) (h3 p)
        have hinall : InF σ (keepF B l F ++ G) := fun p hp => (List.mem_append.1 hp).elim (hin1 p) (h7 p)
        refine ⟨G.map qf, a2, by rw [List.map_map]; exact h1, h2, fun q hq => ?_, ?_⟩
        · rw [keepF_eq, ← List.map_append] at hq
          obtain ⟨p, hp, rfl⟩ := List.mem_map.1 hq
          exact hall p hp
        · rw [keepF_eq, ← List.map_append]
          exact vTr_sound hE hQ k _ _ _ _ _ _ _ h4 hg ((hs.trans (hput _)).trans h5) hinall hall h6
    · exact h.elim
end
end Go.Proofs.Ytjjmhmbmjpedkaa
