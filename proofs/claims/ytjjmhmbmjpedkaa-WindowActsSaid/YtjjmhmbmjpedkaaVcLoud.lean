/- What an operation that acts does in an abstract frame: allocations, stores, calls, append. No program in sight. -/
import Derived.Test.YtjjmhmbmjpedkaaVcQop2
import Derived.Laws.MakeOwn
import Derived.Deep.MidRow
namespace Go.Proofs.Ytjjmhmbmjpedkaa
open Go.RowKit
variable {P : Program} {E : Env}
/-- A new block. -/
def newO (w : World) (o : Obj) (K : Nat → World → Prop) : Prop := ∀ g w1, g = w.heap.size → w1 = w.alloc o → K g w1
/-- A local box was written: all else is as it was. -/
def BoxSt (g : Nat) (w w1 : World) : Prop := Fr [g] w w1 ∧ w1.heap.size = w.heap.size
def KeepG (gs : List Nat) (w w1 : World) : Prop := (∀ g ∈ gs, g < w.heap.size) → ∀ g ∈ gs, w1.heap[g]? = w.heap[g]?
def callO (P : Program) (n : FuncId) (args : List Value) (gs : List Nat) (w : World) (sh : List Sh1) (R : Value → World → Prop) : Prop :=
  Calls P n args.toArray w fun e w1 => KeepG gs w w1 ∧ exSh sh fun v => e = .returned v ∧ R v w1
def stO (gs : List Nat) (w : World) (b off : Nat) (vs : List Value) (K : World → Prop) : Prop :=
  (∀ g ∈ gs, g ≠ b) ∧ w.there b off vs.length ∧ ∀ w1, w1 = w.setCells b off vs → K w1
def memN : List Nat → Nat → Bool
  | [], _ => false
  | x :: r, n => cond (Nat.beq x n) true (memN r n)
def oneC : Value → Bool
  | .agg _ => false
  | .tuple _ => false
  | _ => true
def allOne : List Value → Bool
  | [] => true
  | v :: r => cond (oneC v) (allOne r) false
theorem allOne_spec : ∀ {l : List Value}, allOne l = true → ∀ v ∈ l, v.oneCell' = true
  | x :: r, h, v, hv => by
    unfold allOne at h
    cases hx : oneC x
    · rw [hx] at h; cases h
    · rw [hx] at h
      rcases List.mem_cons.1 hv with rfl | hv
      · cases v <;> first | rfl | (simp [oneC] at hx)
      · exact allOne_spec h v hv
def setB : List LB → Nat → List Value → List LB
  | [], _, _ => []
  | b :: r, id, cs => cond (Nat.beq b.id id) (⟨b.id, b.g, b.T, cs⟩ :: r) (b :: setB r id cs)
def repL : Nat → List Value → List Value
  | 0, _ => []
  | n + 1, l => l ++ repL n l
def appO (P : Program) (gs : List Nat) (w : World) (e : TypeId) (size bytes : Nat) (tx : TypeId) (a : Option Addr) (n c : Nat) (x : Value) (K : Nat → Option Addr → Nat → World → Prop) : Prop :=
  ∃ (m : Nat) (xs news : List Value), Own w 0 e size (.slice a n c) n xs ∧ Src P size tx x m news w ∧ n + m ≤ maxLen ∧ (n + m) * bytes ≤ 140737488355328 ∧ (∀ g ∈ gs, (Value.slice a n c).ownBlock ≠ some g) ∧
    ∀ a' c' w1, Own w1 0 e size (.slice a' (n + m) c') (n + m) (xs ++ news) → w.grownBy w1 (Value.slice a n c).ownBlock → ((Value.slice a' (n + m) c').ownBlock = (Value.slice a n c).ownBlock ∨ ∃ g, (Value.slice a' (n + m) c').ownBlock = some g ∧ w.heap.size ≤ g) →
      K m a' c' w1
def lbuiltin (P : Program) (E : Env) (b : Builtin) (t : Array TypeId) (args : List Value) (σ : List LB) (w : World) (K : Option SV → List LB → World → Prop) : Prop :=
  match b, t.toList, args with
  | .append, [t0, tx], [.slice a n c, x] => match lkT E.tys t0 with
    | some i => match i.k with
      | .slice e => match lkT E.tys e with
        | some ei => cond (Nat.beq (cellsL ei.zero).length ei.size) (appO P (gsOf σ) w e ei.size ei.bytes tx a n c x fun m a' c' w1 => K (some (.v (.slice a' (n + m) c'))) σ w1) False
        | none => False
      | _ => False
    | none => False
  | _, _, _ => False
def lop (P : Program) (E : Env) (pro : List Nat) (o : Oper) (ρ : SFr) (σ : List LB) (w : World) (K : Option SV → List LB → World → Prop) : Prop :=
  match o.op with
  | .alloc t => match lkT E.tys t, o.dst with
    | some i, some d => cond (memN pro d)
      (match lkB σ d with
        | none => newO w (.cells (cellsL i.zero).toArray t) fun g w1 => K (some (.box d 0)) (⟨d, g, t, cellsL i.zero⟩ :: σ) w1
        | some _ => False)
      (newO w (.cells (cellsL i.zero).toArray t) fun g w1 => K (some (.v (.pointer (some ⟨g, 0, none⟩)))) σ w1)
    | _, _ => False
  | .box t x => match o.dst with
    | some d => withV (ev ρ x) fun v => cond (memN pro d)
      (match lkB σ d with
        | none => newO w (.cells (cellsL v).toArray t) fun g w1 => K (some (.box d 0)) (⟨d, g, t, cellsL v⟩ :: σ) w1
        | some _ => False)
      (newO w (.cells (cellsL v).toArray t) fun g w1 => K (some (.v (.pointer (some ⟨g, 0, none⟩)))) σ w1)
    | none => False
  | .store t x y => match lkT E.tys t with
    | some i => withV (ev ρ y) fun v => cond (Nat.beq (cellsL v).length i.size) (cond (allOne (cellsL v)) (match ev ρ x with
      | some (.box id off) => match lkB σ id with
        | some b => cond (memN pro id) (match fillL b.cs off (cellsL v) with
          | some cs' => ∀ w1, BoxSt b.g w w1 → K none (setB σ id cs') w1
          | none => False) False
        | none => False
      | some (.v (.pointer p)) => withP p fun b off => stO (gsOf σ) w b off (cellsL v) fun w1 => K none σ w1
      | _ => False) False) False
    | none => False
  | .buildSlice t len parts => match lkT E.tys t with
    | some i => match i.k with
      | .slice e => match lkT E.tys e with
        | some ei => cond (Nat.beq (cellsL ei.zero).length ei.size) (cond (Nat.ble (len * ei.size) 16777216) (buildL (fun i => some (i * ei.size, ei.size)) ρ (repL len (cellsL ei.zero)) parts.toList fun cs => newO w (.cells cs.toArray e) fun g w1 => K (some (.v (.slice (some ⟨g, 0, none⟩) len len))) σ w1) False) False
        | none => False
      | _ => False
    | none => False
  | .makeSlice t l c => match lkT E.tys t with
    | some i => match i.k with
      | .slice e => match lkT E.tys e with
        | some ei => withV (ev ρ l) fun l => withV (ev ρ c) fun c => match l, c with
          | .int _ l, .int _ c => 0 ≤ l ∧ l ≤ c ∧ (ei.bytes : Int) * c ≤ 281474976710656 ∧ c ≤ 9223372036854775807 ∧ newO w (.cells (madeCells ei.zero.cells (c.toNat * ei.size)) e) fun g w1 => K (some (.v (.slice (some ⟨g, 0, none⟩) l.toNat c.toNat))) σ w1
          | _, _ => False
        | none => False
      | _ => False
    | none => False
  | .call c => match c.callee with
    | .value f => match ev ρ f with
      | some (.v (.func (.func n) first cap)) => match lkF E.fns n with
        | some sh => evL ρ c.args.toList first.toList fun args => callO P n (args ++ cap.toList) (gsOf σ) w sh fun v w1 => K (some (.v v)) σ w1
        | none => False
      | _ => False
    | .builtin b => evL ρ c.args.toList [] fun args => lbuiltin P E b c.argTypes args σ w K
    | _ => False
  | _ => False
def putS (ρ : SFr) (d : Option Tmp) (r : Option SV) : SFr := match d with
  | some d => (d, r) :: ρ
  | none => ρ
/-- A slot that is written is there. -/
def dstOk (n : Nat) (d : Option Tmp) : Bool := match d with
  | some d => Nat.blt d n
  | none => true
section
variable {n : Nat} {ρ : SFr} {σ : List LB} {a : Act} {w : World} {o : Oper}
theorem lk_cons (d : Nat) (r : Option SV) (ρ : SFr) (t : Nat) : lk ((d, r) :: ρ) t = if d = t then r else lk ρ t := by
  show (cond (Nat.beq d t) r (lk ρ t)) = _
  by_cases h : d = t
  · subst h; simp
  · have : Nat.beq d t = false := by cases hb : Nat.beq d t; rfl; exact absurd (Nat.eq_of_beq_eq_true hb) h
    rw [this, if_neg h]; rfl
theorem Rep.put (hr : Rep n ρ σ a w) {d : Option Tmp} (hd : dstOk n d = true) {s : SV} {x : Value} (hs : den σ s = some x) : Rep n (putS ρ d (some s)) σ (a.put d x) w := by
  cases d with
  | none => exact hr
  | some d =>
    have hd : d < n := Nat.le_of_ble_eq_true hd
    refine ⟨by simp [Act.put, hr.size], hr.defs, fun t s' hl => ?_, hr.boxes, hr.nodup, hr.ids⟩
    simp only [putS, lk_cons] at hl
    by_cases h : d = t
    · subst h
      rw [if_pos rfl] at hl
      injection hl with hl
      subst hl
      exact ⟨x, hs, by simp [Act.put, hr.size, hd]⟩
    · rw [if_neg h] at hl
      obtain ⟨y, h1, h2⟩ := hr.slots t s' hl
      exact ⟨y, h1, by simp [Act.put, Array.getElem?_setIfInBounds_ne h, h2]⟩
theorem Rep.putNone (hr : Rep n ρ σ a w) (d : Option Tmp) (x : Value) : Rep n (putS ρ d none) σ (a.put d x) w := by
  cases d with
  | none => exact hr
  | some d =>
    refine ⟨by simp [Act.put, hr.size], hr.defs, fun t s' hl => ?_, hr.boxes, hr.nodup, hr.ids⟩
    simp only [putS, lk_cons] at hl
    by_cases h : d = t
    · rw [if_pos h] at hl; cases hl
    · rw [if_neg h] at hl
      obtain ⟨y, h1, h2⟩ := hr.slots t s' hl
      exact ⟨y, h1, by simp [Act.put, Array.getElem?_setIfInBounds_ne h, h2]⟩
theorem LB.at.kept {b : LB} {w w1 : World} (h : b.at w) (hk : w1.heap[b.g]? = w.heap[b.g]?) : b.at w1 := hk.trans h
theorem LB.at.lt {b : LB} {w : World} (h : b.at w) : b.g < w.heap.size := heap_lt h
theorem Rep.world (hr : Rep n ρ σ a w) {w1 : World} (hk : ∀ b ∈ σ, w1.heap[b.g]? = w.heap[b.g]?) : Rep n ρ σ a w1 :=
  ⟨hr.size, hr.defs, hr.slots, fun b hb => (hr.boxes b hb).kept (hk b hb), hr.nodup, hr.ids⟩
theorem Rep.alloc (hr : Rep n ρ σ a w) (ob : Obj) : Rep n ρ σ a (w.alloc ob) := hr.world fun b hb => Below.heap_alloc _ _ _ (hr.boxes b hb).lt
theorem gsOf_eq : ∀ (σ : List LB), gsOf σ = σ.map (·.g)
  | [] => rfl
  | b :: r => by rw [gsOf, gsOf_eq r]; rfl
theorem gs_mem {b : LB} (h : b ∈ σ) : b.g ∈ gsOf σ := by rw [gsOf_eq]; exact List.mem_map.2 ⟨b, h, rfl⟩
theorem Rep.under (hr : Rep n ρ σ a w) : ∀ g ∈ gsOf σ, g < w.heap.size := fun g hg => by
  rw [gsOf_eq] at hg
  obtain ⟨b, hb, rfl⟩ := List.mem_map.1 hg
  exact (hr.boxes b hb).lt
theorem lkB_none {σ : List LB} {d : Nat} (h : lkB σ d = none) : d ∉ σ.map (·.id) := by
  induction σ with
  | nil => simp
  | cons b r ih =>
    unfold lkB at h
    cases hb : Nat.beq b.id d
    · rw [hb] at h
      intro hm
      rcases List.mem_cons.1 hm with e | e
      · rw [e, Nat.beq_refl] at hb; cases hb
      · exact ih h e
    · rw [hb] at h; cases h
theorem lkB_of_mem {σ : List LB} (hn : (σ.map (·.id)).Nodup) {b : LB} (h : b ∈ σ) : lkB σ b.id = some b := by
  induction σ with
  | nil => cases h
  | cons x r ih =>
    rw [List.map_cons, List.nodup_cons] at hn
    unfold lkB
    rcases List.mem_cons.1 h with rfl | h
    · rw [Nat.beq_refl]; rfl
    · have : Nat.beq x.id b.id = false := by
        cases hb : Nat.beq x.id b.id
        · rfl
        · exact absurd (List.mem_map.2 ⟨b, h, (Nat.eq_of_beq_eq_true hb).symm⟩) hn.1
      rw [this]; exact ih hn.2 h
theorem den_more {b : LB} {s : SV} {x : Value} (hb : lkB σ b.id = none) (h : den σ s = some x) : den (b :: σ) s = some x := by
  cases s with
  | v y => exact h
  | box id off =>
    replace h : (lkB σ id).map (fun b => Value.pointer (some ⟨b.g, off, none⟩)) = some x := h
    show (cond (Nat.beq b.id id) (some b) (lkB σ id)).map (fun b => Value.pointer (some ⟨b.g, off, none⟩)) = some x
    by_cases he : b.id = id
    · subst he; rw [hb] at h; cases h
    · have : Nat.beq b.id id = false := by cases hq : Nat.beq b.id id; rfl; exact absurd (Nat.eq_of_beq_eq_true hq) he
      rw [this]; exact h
theorem Rep.newBox (hr : Rep n ρ σ a w) {d : Nat} {t : TypeId} {cs : List Value} (hb : lkB σ d = none) : Rep n ρ (⟨d, w.heap.size, t, cs⟩ :: σ) a (w.alloc (.cells cs.toArray t)) := by
  refine ⟨hr.size, hr.defs, fun t s h => ?_, fun b hm => ?_, ?_, ?_⟩
  · obtain ⟨x, h1, h2⟩ := hr.slots t s h
    exact ⟨x, den_more hb h1, h2⟩
  · rcases List.mem_cons.1 hm with rfl | hm
    · exact al_new rfl
    · exact al_old (hr.boxes b hm)
  · rw [List.map_cons, List.nodup_cons]
    refine ⟨fun h => ?_, hr.nodup⟩
    obtain ⟨b, hm, he⟩ := List.mem_map.1 h
    have := (hr.boxes b hm).lt
    dsimp only at he
    omega
  · rw [List.map_cons, List.nodup_cons]
    exact ⟨fun h => lkB_none hb h, hr.ids⟩
theorem setB_map (cs : List Value) : ∀ (σ : List LB) (id : Nat), (setB σ id cs).map (·.g) = σ.map (·.g)
  | [], _ => rfl
  | b :: r, id => by
    unfold setB
    cases Nat.beq b.id id
    · simp [setB_map cs r id]
    · rfl
theorem setB_ids (cs : List Value) : ∀ (σ : List LB) (id : Nat), (setB σ id cs).map (·.id) = σ.map (·.id)
  | [], _ => rfl
  | b :: r, id => by
    unfold setB
    cases Nat.beq b.id id
    · simp [setB_ids cs r id]
    · rfl
theorem setB_lk (cs : List Value) (k : Nat) : ∀ (σ : List LB) (id : Nat) (b : LB), lkB σ k = some b → ∃ b', lkB (setB σ id cs) k = some b' ∧ b'.g = b.g ∧ b'.T = b.T ∧ (k ≠ id → b' = b)
  | x :: r, id, b, h => by
    unfold setB
    unfold lkB at h
    cases hb : Nat.beq x.id id
    · simp only [cond_false, lkB]
      cases hk : Nat.beq x.id k
      · rw [hk] at h; exact setB_lk cs k r id b h
      · rw [hk] at h; injection h with h; subst h; exact ⟨x, rfl, rfl, rfl, fun _ => rfl⟩
    · simp only [cond_true, lkB]
      cases hk : Nat.beq x.id k
      · rw [hk] at h; exact ⟨b, h, rfl, rfl, fun _ => rfl⟩
      · rw [hk] at h; injection h with h; subst h
        exact ⟨⟨x.id, x.g, x.T, cs⟩, rfl, rfl, rfl, fun hne => absurd ((Nat.eq_of_beq_eq_true hk).symm.trans (Nat.eq_of_beq_eq_true hb)) hne⟩
theorem setB_den (cs : List Value) : ∀ (σ : List LB) (id : Nat) (s : SV), den (setB σ id cs) s = den σ s
  | σ, id, .v x => rfl
  | σ, id, .box k off => by
    have f : ∀ (o1 o2 : Option LB), o1.map (·.g) = o2.map (·.g) → o1.map (fun b => Value.pointer (some ⟨b.g, off, none⟩)) = o2.map (fun b => Value.pointer (some ⟨b.g, off, none⟩)) := fun o1 o2 h => by
      cases o1 <;> cases o2 <;> simp at h ⊢
      exact h
    refine f _ _ ?_
    have : ∀ (σ : List LB), (lkB (setB σ id cs) k).map (·.g) = (lkB σ k).map (·.g) := by
      intro σ
      induction σ with
      | nil => rfl
      | cons b r ih =>
        unfold setB
        cases hb : Nat.beq b.id id
        · simp only [cond_false, lkB]
          cases Nat.beq b.id k
          · exact ih
          · rfl
        · simp only [cond_true, lkB]
          cases Nat.beq b.id k <;> rfl
    exact this σ
theorem setB_mem (cs : List Value) : ∀ {σ : List LB} {id : Nat} {b b' : LB}, lkB σ id = some b → (σ.map (·.g)).Nodup → b' ∈ setB σ id cs → (b' = ⟨b.id, b.g, b.T, cs⟩) ∨ (b' ∈ σ ∧ b'.g ≠ b.g)
  | x :: r, id, b, b', hl, hn, hm => by
    unfold lkB at hl
    unfold setB at hm
    rw [List.map_cons, List.nodup_cons] at hn
    cases hb : Nat.beq x.id id
    · rw [hb] at hl hm
      have hl : lkB r id = some b := hl
      rcases List.mem_cons.1 hm with rfl | hm
      · exact .inr ⟨by simp, fun e => hn.1 (e ▸ List.mem_map.2 ⟨b, (lkB_mem hl).1, rfl⟩)⟩
      · rcases setB_mem cs hl hn.2 hm with h | ⟨h1, h2⟩
        · exact .inl h
        · exact .inr ⟨List.mem_cons_of_mem _ h1, h2⟩
    · rw [hb] at hl hm
      injection hl with hl
      subst hl
      rcases List.mem_cons.1 hm with rfl | hm
      · exact .inl rfl
      · exact .inr ⟨List.mem_cons_of_mem _ hm, fun e => hn.1 (e ▸ List.mem_map.2 ⟨b', hm, rfl⟩)⟩
theorem Rep.setBox (hr : Rep n ρ σ a w) {id : Nat} {b : LB} {cs' : List Value} (hb : lkB σ id = some b) : Rep n ρ (setB σ id cs') a (w.setRow b.g cs'.toArray) := by
  have hat := hr.boxes b (lkB_mem hb).1
  refine ⟨hr.size, hr.defs, fun t s h => ?_, fun b' hm => ?_, by rw [setB_map]; exact hr.nodup, by rw [setB_ids]; exact hr.ids⟩
  · rw [setB_den]; exact hr.slots t s h
  · rcases setB_mem cs' hb hr.nodup hm with rfl | ⟨h1, h2⟩
    · exact setRow_heap _ _ _ _ _ _ hat
    · have := hr.boxes b' h1
      unfold LB.at at *
      simp only [World.setRow, Array.getElem?_modify]
      rw [if_neg (fun e => h2 e.symm)]; exact this
/-- The boxes that were there are there; only those of 'pro' were written. -/
def GrowsP (pro : List Nat) (σ σ' : List LB) : Prop := ∀ id b, lkB σ id = some b → ∃ b', lkB σ' id = some b' ∧ b'.g = b.g ∧ b'.T = b.T ∧ (memN pro id = false → b' = b)
theorem GrowsP.refl (pro : List Nat) (σ : List LB) : GrowsP pro σ σ := fun _ b h => ⟨b, h, rfl, rfl, fun _ => rfl⟩
theorem GrowsP.trans {pro : List Nat} {σ σ1 σ2 : List LB} (h : GrowsP pro σ σ1) (h2 : GrowsP pro σ1 σ2) : GrowsP pro σ σ2 := fun id b hb => by
  obtain ⟨b1, k1, k2, k3, k4⟩ := h id b hb
  obtain ⟨b2, m1, m2, m3, m4⟩ := h2 id b1 k1
  exact ⟨b2, m1, m2.trans k2, m3.trans k3, fun hp => (m4 hp).trans (k4 hp)⟩
theorem GrowsP.new {pro : List Nat} {σ : List LB} {b : LB} (hb : lkB σ b.id = none) : GrowsP pro σ (b :: σ) := fun id b' h => by
  refine ⟨b', ?_, rfl, rfl, fun _ => rfl⟩
  have hne : Nat.beq b.id id = false := by
    cases hq : Nat.beq b.id id
    · rfl
    · rw [Nat.eq_of_beq_eq_true hq, h] at hb; cases hb
  unfold lkB
  rw [hne]; exact h
theorem GrowsP.set {pro : List Nat} {σ : List LB} {id : Nat} {cs : List Value} (hp : memN pro id = true) : GrowsP pro σ (setB σ id cs) := fun k b h => by
  obtain ⟨b', h1, h2, h3, h4⟩ := setB_lk cs k σ id b h
  exact ⟨b', h1, h2, h3, fun hk => h4 (by rintro rfl; rw [hp] at hk; cases hk)⟩
/-- Which box does a store write? -/
def stBox (ρ : SFr) : Op → Option Nat
  | .store _ x _ => match ev ρ x with
    | some (.box id _) => some id
    | _ => none
  | _ => none
def Stays (s : Option Nat) (σ σ' : List LB) : Prop := ∀ id b, s ≠ some id → lkB σ id = some b → lkB σ' id = some b
theorem Stays.refl (s : Option Nat) (σ : List LB) : Stays s σ σ := fun _ _ _ h => h
theorem Stays.new {s : Option Nat} {σ : List LB} {b : LB} (hb : lkB σ b.id = none) : Stays s σ (b :: σ) := fun id b' _ h => by
  have hne : Nat.beq b.id id = false := by
    cases hq : Nat.beq b.id id
    · rfl
    · rw [Nat.eq_of_beq_eq_true hq, h] at hb; cases hb
  unfold lkB
  rw [hne]; exact h
/-- What an operation that acts leaves. -/
def Acts (P : Program) (n : Nat) (pro : List Nat) (ρ : SFr) (σ : List LB) (o : Oper) (a : Act) (w : World) (K : Option SV → List LB → World → Prop) (Q : Exit → Act → World → Prop) : Prop :=
  o.wp P a w (fun a1 w1 => ∃ r σ', K r σ' w1 ∧ Rep n (putS ρ o.dst r) σ' a1 w1 ∧ GrowsP pro σ σ' ∧ Stays (stBox ρ o.op) σ σ' ∧ ∃ x, a1 = a.put o.dst x) Q
variable {K : Option SV → List LB → World → Prop} {Q : Exit → Act → World → Prop}
theorem acts_value {pro : List Nat} {x : Value} {w1 : World} (h : (execOp a.eval o).run P w = .ok (.value x) w1) {s : SV} {σ' : List LB} (hr : Rep n ρ σ' a w1) (hd : dstOk n o.dst = true) (hs : den σ' s = some x) (hk : K (some s) σ' w1) (hg : GrowsP pro σ σ') (hst : Stays (stBox ρ o.op) σ σ') : Acts P n pro ρ σ o a w K Q := by
  unfold Acts Oper.wp
  rw [h, Oper.upon_value]
  exact ⟨_, _, hk, hr.put hd hs, hg, hst, _, rfl⟩
theorem l_alloc (hE : EOk P E) (hr : Rep n ρ σ a w) (hd : dstOk n o.dst = true) {pro : List Nat} {t : TypeId} (ho : o.op = .alloc t) (h : lop P E pro o ρ σ w K) : Acts P n pro ρ σ o a w K Q := by
  unfold lop at h
  rw [ho] at h
  simp only at h
  split at h
  · rename_i i d hi hdst
    have hrun : (execOp a.eval o).run P w = .ok (.value (.pointer (some ⟨w.heap.size, 0, none⟩))) (w.alloc (.cells (cellsL i.zero).toArray t)) := by
      rw [cellsL_eq]
      simp [execOp, ho, Instr.alloc, hE.zeroValue hi, newVar, newRow]
    cases hm : memN pro d
    · rw [hm] at h
      exact acts_value hrun (hr.alloc _) hd rfl (h _ _ rfl rfl) (.refl _ _) (.refl _ _)
    · rw [hm] at h
      simp only [cond_true] at h
      split at h
      · rename_i hb
        exact acts_value hrun (hr.newBox hb) hd (by simp [den, lkB]) (h _ _ rfl rfl) (.new hb) (.new hb)
      · exact h.elim
  · exact h.elim
theorem l_box (hr : Rep n ρ σ a w) (hd : dstOk n o.dst = true) {pro : List Nat} {t : TypeId} {x : Operand} (ho : o.op = .box t x) (h : lop P E pro o ρ σ w K) : Acts P n pro ρ σ o a w K Q := by
  unfold lop at h
  rw [ho] at h
  simp only at h
  split at h
  · rename_i d hdst
    replace h := hr.evV h
    have hrun : (execOp a.eval o).run P w = .ok (.value (.pointer (some ⟨w.heap.size, 0, none⟩))) (w.alloc (.cells (cellsL (a.eval x)).toArray t)) := by
      rw [cellsL_eq]
      simp [execOp, ho, Instr.box, newVar, newRow]
    cases hm : memN pro d
    · rw [hm] at h
      exact acts_value hrun (hr.alloc _) hd rfl (h _ _ rfl rfl) (.refl _ _) (.refl _ _)
    · rw [hm] at h
      simp only [cond_true] at h
      split at h
      · rename_i hb
        exact acts_value hrun (hr.newBox hb) hd (by simp [den, lkB]) (h _ _ rfl rfl) (.new hb) (.new hb)
      · exact h.elim
  · exact h.elim
theorem l_store (hE : EOk P E) (hr : Rep n ρ σ a w) {pro : List Nat} {t : TypeId} {x y : Operand} (ho : o.op = .store t x y) (h : lop P E pro o ρ σ w K) : Acts P n pro ρ σ o a w K Q := by
  unfold lop at h
  rw [ho] at h
  simp only at h
  split at h
  · rename_i i hi
    replace h := hr.evV h
    obtain ⟨hs, h⟩ := cond_get h
    obtain ⟨h1, h⟩ := cond_get h
    have hs := Nat.eq_of_beq_eq_true hs
    have h1 := allOne_spec h1
    rw [cellsL_eq] at hs h1
    have hs : (a.eval y).cells.size = i.size := by simpa using hs
    split at h
    · rename_i id off hx
      obtain ⟨b, hb, hev⟩ := hr.evP hx
      rw [hb] at h
      simp only at h
      obtain ⟨hpr, h⟩ := cond_get h
      split at h
      · rename_i cs' hf
        obtain ⟨hle, rfl⟩ := fillL_get hf
        rw [cellsL_eq] at hle h
        have hat := hr.boxes b (lkB_mem hb).1
        have hst := run_storeCells_at P b.g off b.T (a.eval y).cells.toList 0 b.cs.toArray w hat (by simpa using hle) h1
        have hrun : (execOp a.eval o).run P w = .ok .skip (w.setRow b.g (b.cs.take off ++ (a.eval y).cells.toList ++ b.cs.drop (off + (a.eval y).cells.toList.length)).toArray) := by
          simp only [Nat.add_zero] at hst
          simp [execOp, ho, hev, Instr.storeAt, Instr.sureAddr, storeVar, hE.sizeOf hi, hs, hst]
        unfold Acts Oper.wp
        rw [hrun, Oper.upon_skip]
        refine ⟨none, _, h _ ⟨(Fr.refl [b.g] w).setRow (.inl (by simp)) _, by simp [World.setRow]⟩, ?_⟩
        refine ⟨(hr.setBox hb).putNone _ _, .set hpr, fun k b' hk hb' => ?_, _, rfl⟩
        obtain ⟨b2, k1, _, _, k2⟩ := setB_lk (List.take off b.cs ++ (a.eval y).cells.toList ++ List.drop (off + (a.eval y).cells.toList.length) b.cs) k σ id b' hb'
        rw [k2 (by rintro rfl; exact hk (by rw [ho]; simp [stBox, hx]))] at k1
        exact k1
      · exact h.elim
    · rename_i p hx
      have hev := evv hr hx
      obtain ⟨b, off, rfl, hg, ht, h⟩ := withP_get h
      rw [cellsL_eq] at ht h
      have hst := run_storeCells_cells (P := P) b off (a.eval y).cells.toList 0 w (fun j hj => by simpa using (ht j hj).1) (fun j hj => by simpa using (ht j hj).2) h1
      have hrun : (execOp a.eval o).run P w = .ok .skip (w.setCells b off (a.eval y).cells.toList) := by
        simp only [Nat.add_zero] at hst
        simp [execOp, ho, hev, Instr.storeAt, Instr.sureAddr, storeVar, hE.sizeOf hi, hs, hst]
      unfold Acts Oper.wp
      rw [hrun, Oper.upon_skip]
      refine ⟨none, _, h _ rfl, (hr.world fun b' hb' => ?_).putNone _ _, .refl _ _, .refl _ _, _, rfl⟩
      have hne := hg b'.g (gs_mem hb')
      have key : ∀ (vs : List Value) (off : Nat) (w : World), (w.setCells b off vs).heap[b'.g]? = w.heap[b'.g]? := by
        intro vs
        induction vs with
        | nil => intro off w; rfl
        | cons v r ih => intro off w; rw [World.setCells, ih]; exact heap_setCell_other _ _ _ _ hne
      exact key _ _ _
    · exact h.elim
  · exact h.elim
theorem repL_length (l : List Value) : ∀ n, (repL n l).length = n * l.length
  | 0 => by simp [repL]
  | n + 1 => by rw [repL, List.length_append, repL_length l n, Nat.add_mul]; omega
theorem repL_get (l : List Value) (hl : l ≠ []) : ∀ (n j : Nat), j < n * l.length → (repL n l)[j]? = l[j % l.length]?
  | 0, j, h => by omega
  | n + 1, j, h => by
    rw [repL]
    by_cases hj : j < l.length
    · rw [List.getElem?_append_left hj, Nat.mod_eq_of_lt hj]
    · rw [List.getElem?_append_right (by omega), repL_get l hl n (j - l.length) (by rw [Nat.add_mul] at h; omega), ← Nat.mod_eq_sub_mod (by omega)]
theorem repL_range (l : List Value) (n : Nat) (hl : n * l.length ≠ 0) : (Array.range (n * l.length)).map (fun i => l.toArray[i % l.toArray.size]!) = (repL n l).toArray := by
  apply Array.ext'
  apply List.ext_getElem?
  intro j
  have hne : l ≠ [] := by rintro rfl; simp at hl
  by_cases hj : j < n * l.length
  · have hm : j % l.length < l.length := Nat.mod_lt _ (List.length_pos_iff.2 hne)
    simp [repL_get l hne n j hj, hj, hm]
  · simp [hj, List.getElem?_eq_none (show (repL n l).length ≤ j by rw [repL_length]; omega)]
end
end Go.Proofs.Ytjjmhmbmjpedkaa
