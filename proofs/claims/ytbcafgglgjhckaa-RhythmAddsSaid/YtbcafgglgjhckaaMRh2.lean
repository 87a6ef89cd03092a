import Derived.Test.YtbcafgglgjhckaaMRh1
import Derived.Laws.MakeOwn
import Derived.Deep.MidRow
import Derived.Deep.LoopGhost
import Derived.KernelRfl
import Derived.Test.YtbcafgglgjhckaaProg
import Ieee.Arith
import Derived.Laws.ComplexArith
import Derived.ProofKit
import Derived.Deep.Matrix
set_option linter.unusedVariables false
section
/- What an operation that acts does in an abstract frame: allocations, stores, calls, append. No program in sight. -/
namespace Go.Proofs.Ytbcafgglgjhckaa
open Go.RowKit
variable {P : Program} {E : Env}
/-- A new block. -/
def newO (w : World) (o : Obj) (K : Nat → World → Prop) : Prop := ∀ g w1, g = w.heap.size → w1 = w.alloc o → K g w1
/-- A local box was written: all else is as it was. -/
def BoxSt (g : Nat) (w w1 : World) : Prop := Fr [g] w w1 ∧ w1.heap.size = w.heap.size
def KeepG (gs : List Nat) (w w1 : World) : Prop := (∀ g ∈ gs, g < w.heap.size) → ∀ g ∈ gs, w1.heap[g]? = w.heap[g]?
def callO (P : Program) (n : FuncId) (args : List Value) (gs : List Nat) (w : World) (sh : List Sh1) (R : Value → World → Prop) : Prop :=
  Calls P n args.toArray w fun e w1 => KeepG gs w w1 ∧ exSh sh fun v => e = .returned v ∧ R v w1
def stO (gs : List Nat) (w : World) (b off : Nat) (vs : List Value) (K : World → Prop) : Prop :=
  (∀ g ∈ gs, g ≠ b) ∧ w.there b off vs.length ∧ ∀ w1, w1 = w.setCells b off vs → K w1
def memN : List Nat → Nat → Bool
  | [], _ => false
  | x :: r, n => cond (Nat.beq x n) true (memN r n)
def oneC : Value → Bool
  | .agg _ => false
  | .tuple _ => false
  | _ => true
def allOne : List Value → Bool
  | [] => true
  | v :: r => cond (oneC v) (allOne r) false
theorem allOne_spec : ∀ {l : List Value}, allOne l = true → ∀ v ∈ l, v.oneCell' = true
  | x :: r, h, v, hv => by
    unfold allOne at h
    cases hx : oneC x
    · rw [hx] at h; cases h
    · rw [hx] at h
      rcases List.mem_cons.1 hv with rfl | hv
      · cases v <;> first | rfl | (simp [oneC] at hx)
      · exact allOne_spec h v hv
def setB : List LB → Nat → List Value → List LB
  | [], _, _ => []
  | b :: r, id, cs => cond (Nat.beq b.id id) (⟨b.id, b.g, b.T, cs⟩ :: r) (b :: setB r id cs)
def repL : Nat → List Value → List Value
  | 0, _ => []
  | n + 1, l => l ++ repL n l
def appO (P : Program) (gs : List Nat) (w : World) (e : TypeId) (size bytes : Nat) (tx : TypeId) (a : Option Addr) (n c : Nat) (x : Value) (K : Nat → Option Addr → Nat → World → Prop) : Prop :=
  ∃ (m : Nat) (xs news : List Value), Own w 0 e size (.slice a n c) n xs ∧ Src P size tx x m news w ∧ n + m ≤ maxLen ∧ (n + m) * bytes ≤ 140737488355328 ∧ (∀ g ∈ gs, (Value.slice a n c).ownBlock ≠ some g) ∧
    ∀ a' c' w1, Own w1 0 e size (.slice a' (n + m) c') (n + m) (xs ++ news) → w.grownBy w1 (Value.slice a n c).ownBlock → ((Value.slice a' (n + m) c').ownBlock = (Value.slice a n c).ownBlock ∨ ∃ g, (Value.slice a' (n + m) c').ownBlock = some g ∧ w.heap.size ≤ g) → (n + m ≤ c → a' = a ∧ c' = c) →
      K m a' c' w1
/-- 'clear' of a slice. -/
def clrO (gs : List Nat) (w : World) (a : Option Addr) (cs : List Value) (K : World → Prop) : Prop := (cs = [] ∧ K w) ∨ ∃ b off, a = some ⟨b, off, none⟩ ∧ stO gs w b off cs K
/-- 'copy' of so many cells. -/
def cpyO (gs : List Nat) (w : World) (size : Nat) (a : Option Addr) (n : Nat) (a2 : Option Addr) (n2 : Nat) (K : World → Prop) : Prop :=
  (Nat.min n2 n = 0 ∧ K w) ∨ ∃ (cs : List Value) (ad : Addr) (b off : Nat), cs.length = Nat.min n2 n * size ∧ (∀ v ∈ cs, v.oneCell' = true) ∧ a2 = some ad ∧ (∀ j v, cs[j]? = some v → w.cell? (ad.add j) = some v) ∧ a = some ⟨b, off, none⟩ ∧ stO gs w b off cs K
def lbuiltin (P : Program) (E : Env) (b : Builtin) (t : Array TypeId) (args : List Value) (σ : List LB) (w : World) (K : Option SV → List LB → World → Prop) : Prop :=
  match b, t.toList, args with
  | .append, [t0, tx], [.slice a n c, x] => match lkT E.tys t0 with
    | some i => match i.k with
      | .slice e => match lkT E.tys e with
        | some ei => cond (Nat.beq (cellsL ei.zero).length ei.size) (appO P (gsOf σ) w e ei.size ei.bytes tx a n c x fun m a' c' w1 => K (some (.v (.slice a' (n + m) c'))) σ w1) False
        | none => False
      | _ => False
    | none => False
  | .clear, [t0], [.slice a n _] => match lkT E.tys t0 with
    | some i => match i.k with
      | .slice e => match lkT E.tys e with
        | some ei => cond (Nat.beq (cellsL ei.zero).length ei.size) (cond (allOne (cellsL ei.zero)) (clrO (gsOf σ) w a (repL n (cellsL ei.zero)) fun w1 => K (some (.v (.tuple #[]))) σ w1) False) False
        | none => False
      | _ => False
    | none => False
  | .copy, [t0, _], [.slice a n _, .slice a2 n2 _] => match lkT E.tys t0 with
    | some i => match i.k with
      | .slice e => match lkT E.tys e with
        | some ei => cpyO (gsOf σ) w ei.size a n a2 n2 fun w1 => K (some (.v (.int .i64 ((Nat.min n2 n : Nat) : Int)))) σ w1
        | none => False
      | _ => False
    | none => False
  | _, _, _ => False
def lop (P : Program) (E : Env) (pro : List Nat) (o : Oper) (ρ : SFr) (σ : List LB) (w : World) (K : Option SV → List LB → World → Prop) : Prop :=
  match o.op with
  | .alloc t => match lkT E.tys t, o.dst with
    | some i, some d => cond (memN pro d)
      (match lkB σ d with
        | none => newO w (.cells (cellsL i.zero).toArray t) fun g w1 => K (some (.box d 0)) (⟨d, g, t, cellsL i.zero⟩ :: σ) w1
        | some _ => False)
      (newO w (.cells (cellsL i.zero).toArray t) fun g w1 => K (some (.v (.pointer (some ⟨g, 0, none⟩)))) σ w1)
    | _, _ => False
  | .box t x => match o.dst with
    | some d => withV (ev ρ x) fun v => cond (memN pro d)
      (match lkB σ d with
        | none => newO w (.cells (cellsL v).toArray t) fun g w1 => K (some (.box d 0)) (⟨d, g, t, cellsL v⟩ :: σ) w1
        | some _ => False)
      (newO w (.cells (cellsL v).toArray t) fun g w1 => K (some (.v (.pointer (some ⟨g, 0, none⟩)))) σ w1)
    | none => False
  | .store t x y => match lkT E.tys t with
    | some i => withV (ev ρ y) fun v => cond (Nat.beq (cellsL v).length i.size) (cond (allOne (cellsL v)) (match ev ρ x with
      | some (.box id off) => match lkB σ id with
        | some b => cond (memN pro id) (match fillL b.cs off (cellsL v) with
          | some cs' => ∀ w1, BoxSt b.g w w1 → K none (setB σ id cs') w1
          | none => False) False
        | none => False
      | some (.v (.pointer p)) => withP p fun b off => stO (gsOf σ) w b off (cellsL v) fun w1 => K none σ w1
      | _ => False) False) False
    | none => False
  | .buildSlice t len parts => match lkT E.tys t with
    | some i => match i.k with
      | .slice e => match lkT E.tys e with
        | some ei => cond (Nat.beq (cellsL ei.zero).length ei.size) (cond (Nat.ble (len * ei.size) 16777216) (buildL (fun i => some (i * ei.size, ei.size)) ρ (repL len (cellsL ei.zero)) parts.toList fun cs => newO w (.cells cs.toArray e) fun g w1 => K (some (.v (.slice (some ⟨g, 0, none⟩) len len))) σ w1) False) False
        | none => False
      | _ => False
    | none => False
  | .makeSlice t l c => match lkT E.tys t with
    | some i => match i.k with
      | .slice e => match lkT E.tys e with
        | some ei => withV (ev ρ l) fun l => withV (ev ρ c) fun c => match l, c with
          | .int _ l, .int _ c => 0 ≤ l ∧ l ≤ c ∧ (ei.bytes : Int) * c ≤ 281474976710656 ∧ c ≤ 9223372036854775807 ∧ newO w (.cells (madeCells ei.zero.cells (c.toNat * ei.size)) e) fun g w1 => K (some (.v (.slice (some ⟨g, 0, none⟩) l.toNat c.toNat))) σ w1
          | _, _ => False
        | none => False
      | _ => False
    | none => False
  | .call c => match c.callee with
    | .value f => match ev ρ f with
      | some (.v (.func (.func n) first cap)) => match lkF E.fns n with
        | some sh => evL ρ c.args.toList first.toList fun args => callO P n (args ++ cap.toList) (gsOf σ) w sh fun v w1 => K (some (.v v)) σ w1
        | none => False
      | _ => False
    | .builtin b => evL ρ c.args.toList [] fun args => lbuiltin P E b c.argTypes args σ w K
    | _ => False
  | _ => False
def putS (ρ : SFr) (d : Option Tmp) (r : Option SV) : SFr := match d with
  | some d => (d, r) :: ρ
  | none => ρ
/-- A slot that is written is there. -/
def dstOk (n : Nat) (d : Option Tmp) : Bool := match d with
  | some d => Nat.blt d n
  | none => true
section
variable {n : Nat} {ρ : SFr} {σ : List LB} {a : Act} {w : World} {o : Oper}
theorem lk_cons (d : Nat) (r : Option SV) (ρ : SFr) (t : Nat) : lk ((d, r) :: ρ) t = if d = t then r else lk ρ t := by
  show (cond (Nat.beq d t) r (lk ρ t)) = _
  by_cases h : d = t
  · subst h; simp
  · have : Nat.beq d t = false := by cases hb : Nat.beq d t; rfl; exact absurd (Nat.eq_of_beq_eq_true hb) h
    rw [this, if_neg h]; rfl
theorem Rep.put (hr : Rep n ρ σ a w) {d : Option Tmp} (hd : dstOk n d = true) {s : SV} {x : Value} (hs : den σ s = some x) : Rep n (putS ρ d (some s)) σ (a.put d x) w := by
  cases d with
  | none => exact hr
  | some d =>
    have hd : d < n := Nat.le_of_ble_eq_true hd
    refine ⟨by simp [Act.put, hr.size], hr.defs, fun t s' hl => ?_, hr.boxes, hr.nodup, hr.ids⟩
    simp only [putS, lk_cons] at hl
    by_cases h : d = t
    · subst h
      rw [if_pos rfl] at hl
      injection hl with hl
      subst hl
      exact ⟨x, hs, by simp [Act.put, hr.size, hd]⟩
    · rw [if_neg h] at hl
      obtain ⟨y, h1, h2⟩ := hr.slots t s' hl
      exact ⟨y, h1, by simp [Act.put, Array.getElem?_setIfInBounds_ne h, h2]⟩
theorem Rep.putNone (hr : Rep n ρ σ a w) (d : Option Tmp) (x : Value) : Rep n (putS ρ d none) σ (a.put d x) w := by
  cases d with
  | none => exact hr
  | some d =>
    refine ⟨by simp [Act.put, hr.size], hr.defs, fun t s' hl => ?_, hr.boxes, hr.nodup, hr.ids⟩
    simp only [putS, lk_cons] at hl
    by_cases h : d = t
    · rw [if_pos h] at hl; cases hl
    · rw [if_neg h] at hl
      obtain ⟨y, h1, h2⟩ := hr.slots t s' hl
      exact ⟨y, h1, by simp [Act.put, Array.getElem?_setIfInBounds_ne h, h2]⟩
theorem LB.at.kept {b : LB} {w w1 : World} (h : b.at w) (hk : w1.heap[b.g]? = w.heap[b.g]?) : b.at w1 := hk.trans h
theorem LB.at.lt {b : LB} {w : World} (h : b.at w) : b.g < w.heap.size := heap_lt h
theorem Rep.world (hr : Rep n ρ σ a w) {w1 : World} (hk : ∀ b ∈ σ, w1.heap[b.g]? = w.heap[b.g]?) : Rep n ρ σ a w1 :=
  ⟨hr.size, hr.defs, hr.slots, fun b hb => (hr.boxes b hb).kept (hk b hb), hr.nodup, hr.ids⟩
theorem Rep.alloc (hr : Rep n ρ σ a w) (ob : Obj) : Rep n ρ σ a (w.alloc ob) := hr.world fun b hb => Below.heap_alloc _ _ _ (hr.boxes b hb).lt
theorem gsOf_eq : ∀ (σ : List LB), gsOf σ = σ.map (·.g)
  | [] => rfl
  | b :: r => by rw [gsOf, gsOf_eq r]; rfl
theorem gs_mem {b : LB} (h : b ∈ σ) : b.g ∈ gsOf σ := by rw [gsOf_eq]; exact List.mem_map.2 ⟨b, h, rfl⟩
theorem Rep.under (hr : Rep n ρ σ a w) : ∀ g ∈ gsOf σ, g < w.heap.size := fun g hg => by
  rw [gsOf_eq] at hg
  obtain ⟨b, hb, rfl⟩ := List.mem_map.1 hg
  exact (hr.boxes b hb).lt
theorem lkB_none {σ : List LB} {d : Nat} (h : lkB σ d = none) : d ∉ σ.map (·.id) := by
  induction σ with
  | nil => simp
  | cons b r ih =>
    unfold lkB at h
    cases hb : Nat.beq b.id d
    · rw [hb] at h
      intro hm
      rcases List.mem_cons.1 hm with e | e
      · rw [e, Nat.beq_refl] at hb; cases hb
      · exact ih h e
    · rw [hb] at h; cases h
theorem lkB_of_mem {σ : List LB} (hn : (σ.map (·.id)).Nodup) {b : LB} (h : b ∈ σ) : lkB σ b.id = some b := by
  induction σ with
  | nil => cases h
  | cons x r ih =>
    rw [List.map_cons, List.nodup_cons] at hn
    unfold lkB
    rcases List.mem_cons.1 h with rfl | h
    · rw [Nat.beq_refl]; rfl
    · have : Nat.beq x.id b.id = false := by
        cases hb : Nat.beq x.id b.id
        · rfl
        · exact absurd (List.mem_map.2 ⟨b, h, (Nat.eq_of_beq_eq_true hb).symm⟩) hn.1
      rw [this]; exact ih hn.2 h
theorem den_more {b : LB} {s : SV} {x : Value} (hb : lkB σ b.id = none) (h : den σ s = some x) : den (b :: σ) s = some x := by
  cases s with
  | v y => exact h
  | box id off =>
    replace h : (lkB σ id).map (fun b => Value.pointer (some ⟨b.g, off, none⟩)) = some x := h
    show (cond (Nat.beq b.id id) (some b) (lkB σ id)).map (fun b => Value.pointer (some ⟨b.g, off, none⟩)) = some x
    by_cases he : b.id = id
    · subst he; rw [hb] at h; cases h
    · have : Nat.beq b.id id = false := by cases hq : Nat.beq b.id id; rfl; exact absurd (Nat.eq_of_beq_eq_true hq) he
      rw [this]; exact h
theorem Rep.newBox (hr : Rep n ρ σ a w) {d : Nat} {t : TypeId} {cs : List Value} (hb : lkB σ d = none) : Rep n ρ (⟨d, w.heap.size, t, cs⟩ :: σ) a (w.alloc (.cells cs.toArray t)) := by
  refine ⟨hr.size, hr.defs, fun t s h => ?_, fun b hm => ?_, ?_, ?_⟩
  · obtain ⟨x, h1, h2⟩ := hr.slots t s h
    exact ⟨x, den_more hb h1, h2⟩
  · rcases List.mem_cons.1 hm with rfl | hm
    · exact al_new rfl
    · exact al_old (hr.boxes b hm)
  · rw [List.map_cons, List.nodup_cons]
    refine ⟨fun h => ?_, hr.nodup⟩
    obtain ⟨b, hm, he⟩ := List.mem_map.1 h
    have := (hr.boxes b hm).lt
    dsimp only at he
    omega
  · rw [List.map_cons, List.nodup_cons]
    exact ⟨fun h => lkB_none hb h, hr.ids⟩
theorem setB_map (cs : List Value) : ∀ (σ : List LB) (id : Nat), (setB σ id cs).map (·.g) = σ.map (·.g)
  | [], _ => rfl
  | b :: r, id => by
    unfold setB
    cases Nat.beq b.id id
    · simp [setB_map cs r id]
    · rfl
theorem setB_ids (cs : List Value) : ∀ (σ : List LB) (id : Nat), (setB σ id cs).map (·.id) = σ.map (·.id)
  | [], _ => rfl
  | b :: r, id => by
    unfold setB
    cases Nat.beq b.id id
    · simp [setB_ids cs r id]
    · rfl
theorem setB_lk (cs : List Value) (k : Nat) : ∀ (σ : List LB) (id : Nat) (b : LB), lkB σ k = some b → ∃ b', lkB (setB σ id cs) k = some b' ∧ b'.g = b.g ∧ b'.T = b.T ∧ (k ≠ id → b' = b)
  | x :: r, id, b, h => by
    unfold setB
    unfold lkB at h
    cases hb : Nat.beq x.id id
    · simp only [cond_false, lkB]
      cases hk : Nat.beq x.id k
      · rw [hk] at h; exact setB_lk cs k r id b h
      · rw [hk] at h; injection h with h; subst h; exact ⟨x, rfl, rfl, rfl, fun _ => rfl⟩
    · simp only [cond_true, lkB]
      cases hk : Nat.beq x.id k
      · rw [hk] at h; exact ⟨b, h, rfl, rfl, fun _ => rfl⟩
      · rw [hk] at h; injection h with h; subst h
        exact ⟨⟨x.id, x.g, x.T, cs⟩, rfl, rfl, rfl, fun hne => absurd ((Nat.eq_of_beq_eq_true hk).symm.trans (Nat.eq_of_beq_eq_true hb)) hne⟩
theorem setB_den (cs : List Value) : ∀ (σ : List LB) (id : Nat) (s : SV), den (setB σ id cs) s = den σ s
  | σ, id, .v x => rfl
  | σ, id, .box k off => by
    have f : ∀ (o1 o2 : Option LB), o1.map (·.g) = o2.map (·.g) → o1.map (fun b => Value.pointer (some ⟨b.g, off, none⟩)) = o2.map (fun b => Value.pointer (some ⟨b.g, off, none⟩)) := fun o1 o2 h => by
      cases o1 <;> cases o2 <;> simp at h ⊢
      exact h
    refine f _ _ ?_
    have : ∀ (σ : List LB), (lkB (setB σ id cs) k).map (·.g) = (lkB σ k).map (·.g) := by
      intro σ
      induction σ with
      | nil => rfl
      | cons b r ih =>
        unfold setB
        cases hb : Nat.beq b.id id
        · simp only [cond_false, lkB]
          cases Nat.beq b.id k
          · exact ih
          · rfl
        · simp only [cond_true, lkB]
          cases Nat.beq b.id k <;> rfl
    exact this σ
theorem setB_mem (cs : List Value) : ∀ {σ : List LB} {id : Nat} {b b' : LB}, lkB σ id = some b → (σ.map (·.g)).Nodup → b' ∈ setB σ id cs → (b' = ⟨b.id, b.g, b.T, cs⟩) ∨ (b' ∈ σ ∧ b'.g ≠ b.g)
  | x :: r, id, b, b', hl, hn, hm => by
    unfold lkB at hl
    unfold setB at hm
    rw [List.map_cons, List.nodup_cons] at hn
    cases hb : Nat.beq x.id id
    · rw [hb] at hl hm
      have hl : lkB r id = some b := hl
      rcases List.mem_cons.1 hm with rfl | hm
      · exact .inr ⟨by simp, fun e => hn.1 (e ▸ List.mem_map.2 ⟨b, (lkB_mem hl).1, rfl⟩)⟩
      · rcases setB_mem cs hl hn.2 hm with h | ⟨h1, h2⟩
        · exact .inl h
        · exact .inr ⟨List.mem_cons_of_mem _ h1, h2⟩
    · rw [hb] at hl hm
      injection hl with hl
      subst hl
      rcases List.mem_cons.1 hm with rfl | hm
      · exact .inl rfl
      · exact .inr ⟨List.mem_cons_of_mem _ hm, fun e => hn.1 (e ▸ List.mem_map.2 ⟨b', hm, rfl⟩)⟩
theorem Rep.setBox (hr : Rep n ρ σ a w) {id : Nat} {b : LB} {cs' : List Value} (hb : lkB σ id = some b) : Rep n ρ (setB σ id cs') a (w.setRow b.g cs'.toArray) := by
  have hat := hr.boxes b (lkB_mem hb).1
  refine ⟨hr.size, hr.defs, fun t s h => ?_, fun b' hm => ?_, by rw [setB_map]; exact hr.nodup, by rw [setB_ids]; exact hr.ids⟩
  · rw [setB_den]; exact hr.slots t s h
  · rcases setB_mem cs' hb hr.nodup hm with rfl | ⟨h1, h2⟩
    · exact setRow_heap _ _ _ _ _ _ hat
    · have := hr.boxes b' h1
      unfold LB.at at *
      simp only [World.setRow, Array.getElem?_modify]
      rw [if_neg (fun e => h2 e.symm)]; exact this
/-- The boxes that were there are there; only those of 'pro' were written. -/
def GrowsP (pro : List Nat) (σ σ' : List LB) : Prop := ∀ id b, lkB σ id = some b → ∃ b', lkB σ' id = some b' ∧ b'.g = b.g ∧ b'.T = b.T ∧ (memN pro id = false → b' = b)
theorem GrowsP.refl (pro : List Nat) (σ : List LB) : GrowsP pro σ σ := fun _ b h => ⟨b, h, rfl, rfl, fun _ => rfl⟩
theorem GrowsP.trans {pro : List Nat} {σ σ1 σ2 : List LB} (h : GrowsP pro σ σ1) (h2 : GrowsP pro σ1 σ2) : GrowsP pro σ σ2 := fun id b hb => by
  obtain ⟨b1, k1, k2, k3, k4⟩ := h id b hb
  obtain ⟨b2, m1, m2, m3, m4⟩ := h2 id b1 k1
  exact ⟨b2, m1, m2.trans k2, m3.trans k3, fun hp => (m4 hp).trans (k4 hp)⟩
theorem GrowsP.new {pro : List Nat} {σ : List LB} {b : LB} (hb : lkB σ b.id = none) : GrowsP pro σ (b :: σ) := fun id b' h => by
  refine ⟨b', ?_, rfl, rfl, fun _ => rfl⟩
  have hne : Nat.beq b.id id = false := by
    cases hq : Nat.beq b.id id
    · rfl
    · rw [Nat.eq_of_beq_eq_true hq, h] at hb; cases hb
  unfold lkB
  rw [hne]; exact h
theorem GrowsP.set {pro : List Nat} {σ : List LB} {id : Nat} {cs : List Value} (hp : memN pro id = true) : GrowsP pro σ (setB σ id cs) := fun k b h => by
  obtain ⟨b', h1, h2, h3, h4⟩ := setB_lk cs k σ id b h
  exact ⟨b', h1, h2, h3, fun hk => h4 (by rintro rfl; rw [hp] at hk; cases hk)⟩
/-- Which box does a store write? -/
def stBox (ρ : SFr) : Op → Option Nat
  | .store _ x _ => match ev ρ x with
    | some (.box id _) => some id
    | _ => none
  | _ => none
def Stays (s : Option Nat) (σ σ' : List LB) : Prop := ∀ id b, s ≠ some id → lkB σ id = some b → lkB σ' id = some b
theorem Stays.refl (s : Option Nat) (σ : List LB) : Stays s σ σ := fun _ _ _ h => h
theorem Stays.new {s : Option Nat} {σ : List LB} {b : LB} (hb : lkB σ b.id = none) : Stays s σ (b :: σ) := fun id b' _ h => by
  have hne : Nat.beq b.id id = false := by
    cases hq : Nat.beq b.id id
    · rfl
    · rw [Nat.eq_of_beq_eq_true hq, h] at hb; cases hb
  unfold lkB
  rw [hne]; exact h
/-- What an operation that acts leaves. -/
def Acts (P : Program) (n : Nat) (pro : List Nat) (ρ : SFr) (σ : List LB) (o : Oper) (a : Act) (w : World) (K : Option SV → List LB → World → Prop) (Q : Exit → Act → World → Prop) : Prop :=
  o.wp P a w (fun a1 w1 => ∃ r σ', K r σ' w1 ∧ Rep n (putS ρ o.dst r) σ' a1 w1 ∧ GrowsP pro σ σ' ∧ Stays (stBox ρ o.op) σ σ' ∧ ∃ x, a1 = a.put o.dst x) Q
variable {K : Option SV → List LB → World → Prop} {Q : Exit → Act → World → Prop}
theorem acts_value {pro : List Nat} {x : Value} {w1 : World} (h : (execOp a.eval o).run P w = .ok (.value x) w1) {s : SV} {σ' : List LB} (hr : Rep n ρ σ' a w1) (hd : dstOk n o.dst = true) (hs : den σ' s = some x) (hk : K (some s) σ' w1) (hg : GrowsP pro σ σ') (hst : Stays (stBox ρ o.op) σ σ') : Acts P n pro ρ σ o a w K Q := by
  unfold Acts Oper.wp
  rw [h, Oper.upon_value]
  exact ⟨_, _, hk, hr.put hd hs, hg, hst, _, rfl⟩
theorem l_alloc (hE : EOk P E) (hr : Rep n ρ σ a w) (hd : dstOk n o.dst = true) {pro : List Nat} {t : TypeId} (ho : o.op = .alloc t) (h : lop P E pro o ρ σ w K) : Acts P n pro ρ σ o a w K Q := by
  unfold lop at h
  rw [ho] at h
  simp only at h
  split at h
  · rename_i i d hi hdst
    have hrun : (execOp a.eval o).run P w = .ok (.value (.pointer (some ⟨w.heap.size, 0, none⟩))) (w.alloc (.cells (cellsL i.zero).toArray t)) := by
      rw [cellsL_eq]
      simp [execOp, ho, Instr.alloc, hE.zeroValue hi, newVar, newRow]
    cases hm : memN pro d
    · rw [hm] at h
      exact acts_value hrun (hr.alloc _) hd rfl (h _ _ rfl rfl) (.refl _ _) (.refl _ _)
    · rw [hm] at h
      simp only [cond_true] at h
      split at h
      · rename_i hb
        exact acts_value hrun (hr.newBox hb) hd (by simp [den, lkB]) (h _ _ rfl rfl) (.new hb) (.new hb)
      · exact h.elim
  · exact h.elim
theorem l_box (hr : Rep n ρ σ a w) (hd : dstOk n o.dst = true) {pro : List Nat} {t : TypeId} {x : Operand} (ho : o.op = .box t x) (h : lop P E pro o ρ σ w K) : Acts P n pro ρ σ o a w K Q := by
  unfold lop at h
  rw [ho] at h
  simp only at h
  split at h
  · rename_i d hdst
    replace h := hr.evV h
    have hrun : (execOp a.eval o).run P w = .ok (.value (.pointer (some ⟨w.heap.size, 0, none⟩))) (w.alloc (.cells (cellsL (a.eval x)).toArray t)) := by
      rw [cellsL_eq]
      simp [execOp, ho, Instr.box, newVar, newRow]
    cases hm : memN pro d
    · rw [hm] at h
      exact acts_value hrun (hr.alloc _) hd rfl (h _ _ rfl rfl) (.refl _ _) (.refl _ _)
    · rw [hm] at h
      simp only [cond_true] at h
      split at h
      · rename_i hb
        exact acts_value hrun (hr.newBox hb) hd (by simp [den, lkB]) (h _ _ rfl rfl) (.new hb) (.new hb)
      · exact h.elim
  · exact h.elim
theorem l_store (hE : EOk P E) (hr : Rep n ρ σ a w) {pro : List Nat} {t : TypeId} {x y : Operand} (ho : o.op = .store t x y) (h : lop P E pro o ρ σ w K) : Acts P n pro ρ σ o a w K Q := by
  unfold lop at h
  rw [ho] at h
  simp only at h
  split at h
  · rename_i i hi
    replace h := hr.evV h
    obtain ⟨hs, h⟩ := cond_get h
    obtain ⟨h1, h⟩ := cond_get h
    have hs := Nat.eq_of_beq_eq_true hs
    have h1 := allOne_spec h1
    rw [cellsL_eq] at hs h1
    have hs : (a.eval y).cells.size = i.size := by simpa using hs
    split at h
    · rename_i id off hx
      obtain ⟨b, hb, hev⟩ := hr.evP hx
      rw [hb] at h
      simp only at h
      obtain ⟨hpr, h⟩ := cond_get h
      split at h
      · rename_i cs' hf
        obtain ⟨hle, rfl⟩ := fillL_get hf
        rw [cellsL_eq] at hle h
        have hat := hr.boxes b (lkB_mem hb).1
        have hst := run_storeCells_at P b.g off b.T (a.eval y).cells.toList 0 b.cs.toArray w hat (by simpa using hle) h1
        have hrun : (execOp a.eval o).run P w = .ok .skip (w.setRow b.g (b.cs.take off ++ (a.eval y).cells.toList ++ b.cs.drop (off + (a.eval y).cells.toList.length)).toArray) := by
          simp only [Nat.add_zero] at hst
          simp [execOp, ho, hev, Instr.storeAt, Instr.sureAddr, storeVar, hE.sizeOf hi, hs, hst]
        unfold Acts Oper.wp
        rw [hrun, Oper.upon_skip]
        refine ⟨none, _, h _ ⟨(Fr.refl [b.g] w).setRow (.inl (by simp)) _, by simp [World.setRow]⟩, ?_⟩
        refine ⟨(hr.setBox hb).putNone _ _, .set hpr, fun k b' hk hb' => ?_, _, rfl⟩
        obtain ⟨b2, k1, _, _, k2⟩ := setB_lk (List.take off b.cs ++ (a.eval y).cells.toList ++ List.drop (off + (a.eval y).cells.toList.length) b.cs) k σ id b' hb'
        rw [k2 (by rintro rfl; exact hk (by rw [ho]; simp [stBox, hx]))] at k1
        exact k1
      · exact h.elim
    · rename_i p hx
      have hev := evv hr hx
      obtain ⟨b, off, rfl, hg, ht, h⟩ := withP_get h
      rw [cellsL_eq] at ht h
      have hst := run_storeCells_cells (P := P) b off (a.eval y).cells.toList 0 w (fun j hj => by simpa using (ht j hj).1) (fun j hj => by simpa using (ht j hj).2) h1
      have hrun : (execOp a.eval o).run P w = .ok .skip (w.setCells b off (a.eval y).cells.toList) := by
        simp only [Nat.add_zero] at hst
        simp [execOp, ho, hev, Instr.storeAt, Instr.sureAddr, storeVar, hE.sizeOf hi, hs, hst]
      unfold Acts Oper.wp
      rw [hrun, Oper.upon_skip]
      refine ⟨none, _, h _ rfl, (hr.world fun b' hb' => ?_).putNone _ _, .refl _ _, .refl _ _, _, rfl⟩
      have hne := hg b'.g (gs_mem hb')
      have key : ∀ (vs : List Value) (off : Nat) (w : World), (w.setCells b off vs).heap[b'.g]? = w.heap[b'.g]? := by
        intro vs
        induction vs with
        | nil => intro off w; rfl
        | cons v r ih => intro off w; rw [World.setCells, ih]; exact heap_setCell_other _ _ _ _ hne
      exact key _ _ _
    · exact h.elim
  · exact h.elim
theorem repL_length (l : List Value) : ∀ n, (repL n l).length = n * l.length
  | 0 => by simp [repL]
  | n + 1 => by rw [repL, List.length_append, repL_length l n, Nat.add_mul]; omega
theorem repL_get (l : List Value) (hl : l ≠ []) : ∀ (n j : Nat), j < n * l.length → (repL n l)[j]? = l[j % l.length]?
  | 0, j, h => by omega
  | n + 1, j, h => by
    rw [repL]
    by_cases hj : j < l.length
    · rw [List.getElem?_append_left hj, Nat.mod_eq_of_lt hj]
    · rw [List.getElem?_append_right (by omega), repL_get l hl n (j - l.length) (by rw [Nat.add_mul] at h; omega), ← Nat.mod_eq_sub_mod (by omega)]
theorem repL_range (l : List Value) (n : Nat) (hl : n * l.length ≠ 0) : (Array.range (n * l.length)).map (fun i => l.toArray[i % l.toArray.size]!) = (repL n l).toArray := by
  apply Array.ext'
  apply List.ext_getElem?
  intro j
  have hne : l ≠ [] := by rintro rfl; simp at hl
  by_cases hj : j < n * l.length
  · have hm : j % l.length < l.length := Nat.mod_lt _ (List.length_pos_iff.2 hne)
    simp [repL_get l hne n j hj, hj, hm]
  · simp [hj, List.getElem?_eq_none (show (repL n l).length ≤ j by rw [repL_length]; omega)]
end
end Go.Proofs.Ytbcafgglgjhckaa
end
section
/- What an operation that acts does in an abstract frame: the rest; each of them acts so in the model. No program in sight. -/
namespace Go.Proofs.Ytbcafgglgjhckaa
open Go.RowKit
variable {P : Program} {E : Env}
section
variable {n : Nat} {ρ : SFr} {σ : List LB} {a : Act} {w : World} {o : Oper} {K : Option SV → List LB → World → Prop} {Q : Exit → Act → World → Prop}
theorem l_buildSlice (hE : EOk P E) (hr : Rep n ρ σ a w) (hd : dstOk n o.dst = true) {pro : List Nat} {t : TypeId} {len : Nat} {parts : Array (Nat × Operand)} (ho : o.op = .buildSlice t len parts) (h : lop P E pro o ρ σ w K) : Acts P n pro ρ σ o a w K Q := by
  unfold lop at h
  rw [ho] at h
  simp only at h
  split at h
  · rename_i i hi
    split at h
    · rename_i e hk
      have hu := hE.slice hi hk
      split at h
      · rename_i ei hei
        obtain ⟨hz, h⟩ := cond_get h
        obtain ⟨hl, h⟩ := cond_get h
        have hz := Nat.eq_of_beq_eq_true hz
        have hl := Nat.le_of_ble_eq_true hl
        obtain ⟨cs, hf, h⟩ := buildL_get hr h
        have hzc : ei.zero.cells = (cellsL ei.zero).toArray := by rw [cellsL_eq]
        have hrun : (execOp a.eval o).run P w = .ok (.value (.slice (some ⟨w.heap.size, 0, none⟩) len len)) (w.alloc (.cells cs.toArray e)) := by
          have hn : ¬ (len * ei.size > 2 ^ 24) := by omega
          have hb : (Instr.buildSlice t len (parts.map fun (i, x) => (i, a.eval x))).run P w = .ok (.slice (some ⟨w.heap.size, 0, none⟩) len len) (w.alloc (.cells cs.toArray e)) := by
            unfold Instr.buildSlice
            rw [Sem.run_bind, run_underlying hu, Result.andThen_ok]
            simp only [Sem.run_bind, hE.sizeOf hei, Result.andThen_ok]
            rw [if_neg hn]
            by_cases h0 : len * ei.size = 0
            · rw [if_pos h0]
              have hr0 : repL len (cellsL ei.zero) = [] := List.eq_nil_of_length_eq_zero (by rw [repL_length, hz, h0])
              rw [hr0] at hf
              have hm : (Array.map (fun x : Nat × Operand => match x with | (i, x) => (i, a.eval x)) parts).toList = parts.toList.map fun p => (p.1, a.eval p.2) := by simp
              simp only [h0]
              simp only [Array.range_zero', hm]
              simp [hf, newRow]
            · rw [if_neg h0]
              have hm : (Array.map (fun x : Nat × Operand => match x with | (i, x) => (i, a.eval x)) parts).toList = parts.toList.map fun p => (p.1, a.eval p.2) := by simp
              simp only [Sem.run_bind, hE.zeroValue hei, hzc, hm, Sem.run_pure, Result.andThen_ok]
              rw [show len * ei.size = len * (cellsL ei.zero).length by rw [hz]] at h0 ⊢
              rw [repL_range _ _ h0, hf]
              simp [newRow]
          simp [execOp, ho, hb]
        exact acts_value hrun (hr.alloc _) hd rfl (h _ _ rfl rfl) (.refl _ _) (.refl _ _)
      · exact h.elim
    · exact h.elim
  · exact h.elim
theorem l_makeSlice (hE : EOk P E) (hr : Rep n ρ σ a w) (hd : dstOk n o.dst = true) {pro : List Nat} {t : TypeId} {x y : Operand} (ho : o.op = .makeSlice t x y) (h : lop P E pro o ρ σ w K) : Acts P n pro ρ σ o a w K Q := by
  unfold lop at h
  rw [ho] at h
  simp only at h
  split at h
  · rename_i i hi
    split at h
    · rename_i e hk
      have hu := hE.slice hi hk
      split at h
      · rename_i ei hei
        replace h := hr.evV (hr.evV h)
        split at h
        · rename_i kl l kc c hx hy
          obtain ⟨h0, h1, h2, h3, h⟩ := h
          obtain ⟨inf, g1, g2, g3, g4⟩ := hE.info hei
          have := run_make (P := P) w t e inf ei.zero hu g1 g3 kl kc l c h0 h1 (by rw [g4]; exact h2) h3
          rw [g2] at this
          have hrun : (execOp a.eval o).run P w = .ok (.value (.slice (some ⟨w.heap.size, 0, none⟩) l.toNat c.toNat)) (w.alloc (.cells (madeCells ei.zero.cells (c.toNat * ei.size)) e)) := by simp [execOp, ho, hx, hy, this]
          exact acts_value hrun (hr.alloc _) hd rfl (h _ _ rfl rfl) (.refl _ _) (.refl _ _)
        · exact h.elim
      · exact h.elim
    · exact h.elim
  · exact h.elim
theorem setCells_other {b g : Nat} (hne : g ≠ b) : ∀ (vs : List Value) (off : Nat) (w : World), (w.setCells b off vs).heap[g]? = w.heap[g]?
  | [], _, _ => rfl
  | v :: r, off, w => by rw [World.setCells, setCells_other hne r]; exact heap_setCell_other _ _ _ _ hne
theorem run_stores {gs : List Nat} {w : World} {b off : Nat} {cs : List Value} {K : World → Prop} (h : stO gs w b off cs K) (h1 : ∀ v ∈ cs, v.oneCell' = true) : (storeCells ⟨b, off, none⟩ cs).run P w = .ok () (w.setCells b off cs) ∧ K (w.setCells b off cs) ∧ ∀ g ∈ gs, (w.setCells b off cs).heap[g]? = w.heap[g]? := by
  obtain ⟨hg, ht, hk⟩ := h
  have hst := run_storeCells_cells (P := P) b off cs 0 w (fun j hj => by simpa using (ht j hj).1) (fun j hj => by simpa using (ht j hj).2) h1
  exact ⟨by simpa using hst, hk _ rfl, fun g hgs => setCells_other (hg g hgs) _ _ _⟩
theorem allOne_repL {l : List Value} (h : ∀ v ∈ l, v.oneCell' = true) : ∀ n, ∀ v ∈ repL n l, v.oneCell' = true
  | 0, v, hv => by cases hv
  | n + 1, v, hv => (List.mem_append.1 hv).elim (h v) (allOne_repL h n v)
theorem run_clear (hE : EOk P E) {t0 e ty : TypeId} {ei : TI} (hu : P.underlying t0 = some (.slice e)) (hei : lkT E.tys e = some ei) (hz : (cellsL ei.zero).length = ei.size) (h1 : allOne (cellsL ei.zero) = true) {gs : List Nat} {w : World} {a : Option Addr} {n c : Nat} {K : World → Prop}
    (h : clrO gs w a (repL n (cellsL ei.zero)) K) : ∃ w1, (Builtin.clear_ #[t0] ty #[.slice a n c]).run P w = .ok (.tuple #[]) w1 ∧ K w1 ∧ ∀ g ∈ gs, w1.heap[g]? = w.heap[g]? := by
  have h1 := allOne_spec h1
  have hzc : (Builtin.zeroCells ei.zero.cells n).toList = repL n (cellsL ei.zero) := by
    unfold Builtin.zeroCells
    rw [show ei.zero.cells = (cellsL ei.zero).toArray by rw [cellsL_eq]]
    by_cases h0 : n * (cellsL ei.zero).length = 0
    · rw [show n * (cellsL ei.zero).toArray.size = 0 by simpa using h0]
      have : repL n (cellsL ei.zero) = [] := List.eq_nil_of_length_eq_zero (by rw [repL_length, h0])
      rw [this]; simp
    · have := repL_range (cellsL ei.zero) n h0
      rw [show n * (cellsL ei.zero).toArray.size = n * (cellsL ei.zero).length by simp, this]
  rcases h with ⟨h0, hk⟩ | ⟨b, off, rfl, h⟩
  · refine ⟨w, ?_, hk, fun _ _ => rfl⟩
    cases a with
    | none => simp [Builtin.clear_, run_underlying hu]
    | some ad =>
      cases n with
      | zero => simp [Builtin.clear_, run_underlying hu]
      | succ n =>
        simp [Builtin.clear_, run_underlying hu, hE.zeroValue hei, hzc, h0, storeCells]
  · obtain ⟨e1, e2, e3⟩ := run_stores (P := P) h (allOne_repL h1 n)
    refine ⟨_, ?_, e2, e3⟩
    cases n with
    | zero => simp [Builtin.clear_, run_underlying hu, repL, World.setCells]
    | succ n => simp [Builtin.clear_, run_underlying hu, hE.zeroValue hei, hzc, e1]
theorem run_copyO (hE : EOk P E) {t0 s0 e ty : TypeId} {ei : TI} (hu : P.underlying t0 = some (.slice e)) (hei : lkT E.tys e = some ei) {gs : List Nat} {w : World} {a a2 : Option Addr} {n c n2 c2 : Nat} {K : World → Prop}
    (h : cpyO gs w ei.size a n a2 n2 K) : ∃ w1, (Builtin.copy_ #[t0, s0] ty #[.slice a n c, .slice a2 n2 c2]).run P w = .ok (.int .i64 ((Nat.min n2 n : Nat) : Int)) w1 ∧ K w1 ∧ ∀ g ∈ gs, w1.heap[g]? = w.heap[g]? := by
  rcases h with ⟨h0, hk⟩ | ⟨cs, ad, b, off, hl, h1, rfl, hsrc, rfl, h⟩
  · refine ⟨w, ?_, hk, fun _ _ => rfl⟩
    have hl : ∀ (x : Addr), (loadCells x 0).run P w = .ok #[] w := fun x => by simpa using run_loadCells_list (P := P) w x [] (by simp)
    cases a <;> cases a2 <;> simp [Builtin.copy_, run_underlying hu, Builtin.lenOf, Builtin.firstCells, hE.sizeOf hei, h0, storeCells, hl, goInt]
  · obtain ⟨e1, e2, e3⟩ := run_stores (P := P) h h1
    refine ⟨_, ?_, e2, e3⟩
    have hld := run_loadCells_list (P := P) w ad cs hsrc
    simp [Builtin.copy_, run_underlying hu, Builtin.lenOf, Builtin.firstCells, hE.sizeOf hei, ← hl, hld, e1, goInt]
theorem toArr (x : Array Operand) (f : Operand → Value) : (x.toList.map f).toArray = x.map f := by apply Array.ext'; simp
theorem l_call (hE : EOk P E) (hr : Rep n ρ σ a w) (hd : dstOk n o.dst = true) {pro : List Nat} {c : Call} (ho : o.op = .call c) (h : lop P E pro o ρ σ w K) : Acts P n pro ρ σ o a w K Q := by
  unfold lop at h
  rw [ho] at h
  simp only at h
  split at h
  · rename_i f hf
    split at h
    · rename_i f' first cap hx
      have hev := evv hr hx
      split at h
      · rename_i sh hsh
        replace h := evL_get hr h
        have hfn := hE.fns _ (lkF_mem hsh)
        have harg : (first.toList ++ c.args.toList.map a.eval ++ cap.toList).toArray = first ++ c.args.map a.eval ++ cap := by apply Array.ext'; simp
        unfold callO at h
        rw [harg] at h
        have hrun : (execOp a.eval o).run P w = .ok (.enter f' (first ++ c.args.map a.eval ++ cap)) w := by
          have := hfn (first ++ c.args.map a.eval ++ cap) w
          simp only [execOp, ho, resolve, hf, hev, Deferred.ofValue, Sem.run_bind, Sem.run_pure, Result.andThen_ok, invoke]
          exact this
        unfold Acts Oper.wp
        rw [hrun, Oper.upon_enter]
        refine h.mono fun e w1 he => ?_
        obtain ⟨hk, he⟩ := he
        obtain ⟨v, rfl, he2⟩ := exSh_get he
        refine ⟨_, _, he2, (hr.world fun b hb => hk hr.under _ (gs_mem hb)).put hd rfl, .refl _ _, .refl _ _, _, rfl⟩
      · exact h.elim
    · exact h.elim
  · rename_i b hb
    replace h := evL_get hr h
    rw [List.nil_append] at h
    unfold lbuiltin at h
    split at h
    · rename_i t0 tx ad m c' x ht hargs
      split at h
      · rename_i i hi
        split at h
        · rename_i e hk
          have hu := hE.slice hi hk
          split at h
          · rename_i ei hei
            obtain ⟨hz, h⟩ := cond_get h
            have hz := Nat.eq_of_beq_eq_true hz
            obtain ⟨m2, xs, news, hown, hsrc, hl1, hl2, hg, h⟩ := h
            obtain ⟨inf, g1, g2, g3, g4⟩ := hE.info hei
            obtain ⟨v', w', hrun, hown', hgr, hor, hfit⟩ := run_app5 (P := P) t0 tx o.type inf ei.zero ei.bytes hu g1 g3 g2 g4 (by rw [cellsL_eq] at hz; simpa using hz) hown x m2 news hsrc hl1 hl2 (Nat.zero_le _)
            obtain ⟨a', cap', rfl⟩ := hown'.isSlice
            have ht' : c.argTypes = #[t0, tx] := by apply Array.ext'; simpa using ht
            have ha' : c.args.map a.eval = #[.slice ad m c', x] := by rw [← toArr, hargs]
            have hrun2 : (execOp a.eval o).run P w = .ok (.value (.slice a' (m + m2) cap')) w' := by
              simp only [execOp, ho, resolve, hb, Sem.run_bind, Sem.run_pure, Result.andThen_ok, invoke, ha', ht', builtin, hrun]
            exact acts_value hrun2 (hr.world fun b' hb' => hgr.block _ (hr.boxes b' hb').lt fun e => hg _ (gs_mem hb') e.symm) hd rfl (h _ _ _ hown' hgr hor fun hle => by have := hfit _ _ rfl hle; injection this with q1 q2 q3; exact ⟨q1, q3⟩) (.refl _ _) (.refl _ _)
          · exact h.elim
        · exact h.elim
      · exact h.elim
    · rename_i t0 ad m c' ht hargs
      split at h
      · rename_i i hi
        split at h
        · rename_i e hk
          have hu := hE.slice hi hk
          split at h
          · rename_i ei hei
            obtain ⟨hz, h⟩ := cond_get h
            obtain ⟨h1, h⟩ := cond_get h
            have hz := Nat.eq_of_beq_eq_true hz
            obtain ⟨w1, hrun, hk1, hg⟩ := run_clear hE (ty := o.type) (c := c') hu hei hz h1 h
            have ht' : c.argTypes = #[t0] := by apply Array.ext'; simpa using ht
            have ha' : c.args.map a.eval = #[.slice ad m c'] := by rw [← toArr, hargs]
            have hrun2 : (execOp a.eval o).run P w = .ok (.value (.tuple #[])) w1 := by
              simp only [execOp, ho, resolve, hb, Sem.run_bind, Sem.run_pure, Result.andThen_ok, invoke, ha', ht', builtin, hrun]
            exact acts_value hrun2 (hr.world fun b' hb' => hg _ (gs_mem hb')) hd rfl hk1 (.refl _ _) (.refl _ _)
          · exact h.elim
        · exact h.elim
      · exact h.elim
    · rename_i t0 s0 ad m c' a2 m2 c2 ht hargs
      split at h
      · rename_i i hi
        split at h
        · rename_i e hk
          have hu := hE.slice hi hk
          split at h
          · rename_i ei hei
            obtain ⟨w1, hrun, hk1, hg⟩ := run_copyO hE (s0 := s0) (ty := o.type) (c := c') (c2 := c2) hu hei h
            have ht' : c.argTypes = #[t0, s0] := by apply Array.ext'; simpa using ht
            have ha' : c.args.map a.eval = #[.slice ad m c', .slice a2 m2 c2] := by rw [← toArr, hargs]
            have hrun2 : (execOp a.eval o).run P w = .ok (.value (.int .i64 ((Nat.min m2 m : Nat) : Int))) w1 := by
              simp only [execOp, ho, resolve, hb, Sem.run_bind, Sem.run_pure, Result.andThen_ok, invoke, ha', ht', builtin, hrun]
            exact acts_value hrun2 (hr.world fun b' hb' => hg _ (gs_mem hb')) hd rfl hk1 (.refl _ _) (.refl _ _)
          · exact h.elim
        · exact h.elim
      · exact h.elim
    · exact h.elim
  · exact h.elim
theorem lop_sound (hE : EOk P E) (hr : Rep n ρ σ a w) (hd : dstOk n o.dst = true) {pro : List Nat} (h : lop P E pro o ρ σ w K) : Acts P n pro ρ σ o a w K Q := by
  cases ho : o.op with
  | alloc t => exact l_alloc hE hr hd ho h
  | box t x => exact l_box hr hd ho h
  | store t x y => exact l_store hE hr ho h
  | buildSlice t l ps => exact l_buildSlice hE hr hd ho h
  | makeSlice t x y => exact l_makeSlice hE hr hd ho h
  | call c => exact l_call hE hr hd ho h
  | _ => unfold lop at h; rw [ho] at h; exact h.elim
end
end Go.Proofs.Ytbcafgglgjhckaa
end
section
/- Regions in an abstract frame, in their order and drawn. No program in sight. -/
namespace Go.Proofs.Ytbcafgglgjhckaa
open Go.RowKit
variable {P : Program} {E : Env}
def dstAt (ops : Array Oper) (j : Nat) : Option Nat := match ops[j]? with
  | some o => o.dst
  | none => none
def vGuard (ops : Array Oper) (g : Option (Nat × Bool)) (ρ : SFr) (Ky Kn : SFr → Prop) : Prop := match g with
  | none => Ky ρ
  | some q => match dstAt ops q.1 with
    | some d => withV (lk ρ d) fun v => match v with
      | .bool b => br b (cond q.2 (Ky ((d, some (.v (.bool true))) :: ρ)) (Kn ((d, some (.v (.bool true))) :: ρ))) (cond q.2 (Kn ((d, some (.v (.bool false))) :: ρ)) (Ky ((d, some (.v (.bool false))) :: ρ)))
      | .tuple _ => Kn ρ
      | _ => False
    | none => False
def isQ : Op → Bool
  | .alloc _ => false
  | .box _ _ => false
  | .store _ _ _ => false
  | .buildSlice _ _ _ => false
  | .makeSlice _ _ _ => false
  | .call c => match c.callee with
    | .builtin b => match b with
      | .len => true
      | .complex => true
      | .real => true
      | .imag => true
      | .cap => true
      | .min => true
      | .max => true
      | _ => false
    | _ => false
  | _ => true
def vOps (P : Program) (E : Env) (n : Nat) (pro : List Nat) (ops : Array Oper) : List Nat → SFr → List LB → World → (SFr → List LB → World → Prop) → Prop
  | [], ρ, σ, w, K => K ρ σ w
  | i :: r, ρ, σ, w, K => match ops[i]? with
    | some o => cond (dstOk n o.dst) (vGuard ops o.guard ρ
      (fun ρ => cond (isQ o.op) (qop E o.op ρ σ w fun s _ => vOps P E n pro ops r (putS ρ o.dst (some s)) σ w K) (lop P E pro o ρ σ w fun s σ' w' => vOps P E n pro ops r (putS ρ o.dst s) σ' w' K))
      (fun ρ => vOps P E n pro ops r (putS ρ o.dst (some (.v undef))) σ w K)) False
    | none => False
/-- The reads of a phase. -/
def vQs (E : Env) (n : Nat) (ops : Array Oper) (σ : List LB) (w : World) : List Nat → SFr → List (Nat × SFact) → (SFr → List (Nat × SFact) → Prop) → Prop
  | [], ρ, F, K => K ρ F
  | i :: r, ρ, F, K => match ops[i]? with
    | some o => cond (dstOk n o.dst) (vGuard ops o.guard ρ
      (fun ρ => qop E o.op ρ σ w fun s f => vQs E n ops σ w r (putS ρ o.dst (some s)) (F ++ [(i, f)]) K)
      (fun ρ => vQs E n ops σ w r (putS ρ o.dst (some (.v undef))) (F ++ [(i, .tt)]) K)) False
    | none => False
def keepF (B : List Nat) (l : Nat) : List (Nat × SFact) → List (Nat × SFact)
  | [] => []
  | p :: r => cond ((B.getD l 0).testBit p.1) (keepF B l r) (p :: keepF B l r)
def factsAt : List (Nat × SFact) → World → Prop
  | [], _ => True
  | p :: r, w => match p.2 with
    | .mem f => f w ∧ factsAt r w
    | _ => factsAt r w
def noBoxF : List (Nat × SFact) → Nat → Bool
  | [], _ => true
  | p :: r, id => match p.2 with
    | .box k => cond (Nat.beq k.id id) false (noBoxF r id)
    | _ => noBoxF r id
def clearF (F : List (Nat × SFact)) : Option Nat → Bool
  | none => true
  | some id => noBoxF F id
def andF : List (Nat × SFact) → World → Prop → Prop
  | [], _, R => R
  | p :: r, w, R => match p.2 with
    | .mem f => f w ∧ andF r w R
    | _ => andF r w R
def allC : List Nat → (Nat → Prop) → Prop
  | [], _ => True
  | x :: r, f => match r with
    | [] => f x
    | _ :: _ => f x ∧ allC r f
theorem allC_get {f : Nat → Prop} : ∀ {l : List Nat}, allC l f → ∀ x ∈ l, f x
  | x :: r, h, y, hy => by
    unfold allC at h
    cases r with
    | nil => rw [List.mem_singleton] at hy; subst hy; exact h
    | cons z r =>
      rcases List.mem_cons.1 hy with rfl | hy
      · exact h.1
      · exact allC_get h.2 y hy
def vTr (P : Program) (E : Env) (n : Nat) (pro : List Nat) (ops : Array Oper) (B : List Nat) : Nat → List Nat → List Nat → List (Nat × SFact) → SFr → List LB → World → (SFr → List LB → World → Prop) → Prop
  | 0, _, _, _, ρ, σ, w, K => K ρ σ w
  | k + 1, L, Qs, F, ρ, σ, w, K => allC (readyL B L) fun l => match ops[l]? with
    | some o => cond (dstOk n o.dst) (vGuard ops o.guard ρ
      (fun ρ => cond (clearF (keepF B l F) (stBox ρ o.op)) (lop P E pro o ρ σ w fun s σ' w' => andF (keepF B l F) w' (vQs E n ops σ' w' (newQ B (L.erase l) Qs) (putS ρ o.dst s) (keepF B l F) fun ρ F => vTr P E n pro ops B k (L.erase l) (restQ B (L.erase l) Qs) F ρ σ' w' K)) False)
      (fun ρ => vQs E n ops σ w (newQ B (L.erase l) Qs) (putS ρ o.dst (some (.v undef))) (keepF B l F) fun ρ F => vTr P E n pro ops B k (L.erase l) (restQ B (L.erase l) Qs) F ρ σ w K)) False
    | none => False
def drewO (w : World) (K : World → Prop) : Prop := ∀ w1, w1.heap = w.heap → Below w.heap.size w w1 → K w1
def SameA (f : Nat → Bool) (a a' : Act) : Prop := ∀ t, f t = false → a'.tmps[t]? = a.tmps[t]?
theorem SameA.refl (f : Nat → Bool) (a : Act) : SameA f a a := fun _ _ => rfl
theorem SameA.trans {f : Nat → Bool} {a b c : Act} (h : SameA f a b) (k : SameA f b c) : SameA f a c := fun t ht => (k t ht).trans (h t ht)
theorem SameA.mono {f g : Nat → Bool} {a b : Act} (h : SameA f a b) (hg : ∀ t, f t = true → g t = true) : SameA g a b := fun t ht => h t (by cases hf : f t; rfl; rw [hg t hf] at ht; cases ht)
theorem SameA.put {f : Nat → Bool} {a : Act} {d : Option Tmp} {x : Value} (h : ∀ t, d = some t → f t = true) : SameA f a (a.put d x) := fun t ht => by
  cases d with
  | none => rfl
  | some d =>
    have hne : d ≠ t := by rintro rfl; rw [h d rfl] at ht; cases ht
    simp [Act.put, Array.getElem?_setIfInBounds_ne hne]
def wrOps (ops : Array Oper) (t : Nat) : Bool := ops.any fun o => o.dst == some t
theorem wrOps_mem {ops : Array Oper} {i : Nat} {o : Oper} (h : ops[i]? = some o) : ∀ t, o.dst = some t → wrOps ops t = true := fun t ht => by
  unfold wrOps
  obtain ⟨hi, rfl⟩ := Array.getElem?_eq_some_iff.1 h
  exact Array.any_eq_true.2 ⟨i, hi, by simp [ht]⟩
section
variable {n : Nat} {ρ : SFr} {σ : List LB} {a : Act} {w : World} {ops : Array Oper}
theorem Rep.refine (hr : Rep n ρ σ a w) {d : Nat} {b : Bool} (h : lk ρ d = some (.v (.bool b))) : Rep n ((d, some (.v (.bool b))) :: ρ) σ a w :=
  ⟨hr.size, hr.defs, fun t s hl => by
    rw [lk_cons] at hl
    by_cases hd : d = t
    · subst hd
      rw [if_pos rfl] at hl
      exact hr.slots d s (h.trans hl)
    · rw [if_neg hd] at hl; exact hr.slots t s hl, hr.boxes, hr.nodup, hr.ids⟩
theorem withV_lk {s : Option SV} {K : Value → Prop} (h : withV s K) : ∃ x, s = some (.v x) ∧ K x := by
  unfold withV at h
  split at h
  · exact ⟨_, rfl, h⟩
  · exact h.elim
theorem vGuard_get (hr : Rep n ρ σ a w) {o : Oper} {Ky Kn : SFr → Prop} (h : vGuard ops o.guard ρ Ky Kn) :
    (Region.wanted o (yielded ops a.tmps) = true ∧ ∃ ρ', Rep n ρ' σ a w ∧ Ky ρ') ∨ (Region.wanted o (yielded ops a.tmps) = false ∧ ∃ ρ', Rep n ρ' σ a w ∧ Kn ρ') := by
  unfold vGuard at h
  split at h
  · rename_i hg
    exact .inl ⟨by simp [Region.wanted, hg], ρ, hr, h⟩
  · rename_i q hg
    obtain ⟨j, want⟩ := q
    split at h
    · rename_i d hd
      obtain ⟨v, hv, h⟩ := withV_lk h
      obtain ⟨x, hx1, hx2⟩ := hr.slots d _ hv
      cases hx1
      have hy : ((ops[j]?).bind (·.dst)).bind (a.tmps[·]?) = some v := by
        unfold dstAt at hd
        cases ho : ops[j]? with
        | none => rw [ho] at hd; cases hd
        | some oj =>
          rw [ho] at hd
          simp only at hd
          simp [hd, hx2]
      split at h
      · rename_i b
        have hyy : yielded ops a.tmps j = some b := by unfold yielded; rw [hy]
        have hw : Region.wanted o (yielded ops a.tmps) = (b == want) := by simp only [Region.wanted, hg, hyy]; cases b <;> cases want <;> rfl
        have hr' := hr.refine hv
        cases b <;> cases want
        · exact .inl ⟨hw, _, hr', h⟩
        · exact .inr ⟨hw, _, hr', h⟩
        · exact .inr ⟨hw, _, hr', h⟩
        · exact .inl ⟨hw, _, hr', h⟩
      · rename_i vs
        have hyy : yielded ops a.tmps j = none := by unfold yielded; rw [hy]
        exact .inr ⟨by simp [Region.wanted, hg, hyy], ρ, hr, h⟩
      · exact h.elim
    · exact h.elim
theorem vOps_sound (hE : EOk P E) {pro : List Nat} {K : SFr → List LB → World → Prop} {Q : Exit → Act → World → Prop} {σ0 : List LB} {a0 : Act} (hQ : ∀ ρ σ a w, K ρ σ w → Rep n ρ σ a w → GrowsP pro σ0 σ → SameA (wrOps ops) a0 a → Q .normal a w) :
    ∀ (l : List Nat) (ρ : SFr) (σ : List LB) (a : Act) (w : World), Rep n ρ σ a w → GrowsP pro σ0 σ → SameA (wrOps ops) a0 a → vOps P E n pro ops l ρ σ w K → wpOps P ops Q l a w
  | [], ρ, σ, a, w, hr, hg, hs, h => hQ ρ σ a w h hr hg hs
  | i :: r, ρ, σ, a, w, hr, hg, hs, h => by
    unfold vOps at h
    unfold wpOps
    split at h
    · rename_i o ho
      obtain ⟨hd, h⟩ := cond_get h
      rw [ho]
      simp only
      have hput : ∀ x, SameA (wrOps ops) a (a.put o.dst x) := fun x => SameA.put (wrOps_mem ho)
      rcases vGuard_get hr h with ⟨hw, ρ', hr', h⟩ | ⟨hw, ρ', hr', h⟩
      · rw [if_pos hw]
        refine .inl ?_
        cases hq : isQ o.op
        · rw [hq] at h
          simp only [cond_false] at h
          refine Oper.wp_mono (fun a1 w1 => ?_) (lop_sound hE hr' hd h (Q := Q))
          rintro ⟨s, σ', hk, hr1, hg1, _, x, rfl⟩
          exact vOps_sound hE hQ r _ _ _ _ hr1 (hg.trans hg1) (hs.trans (hput x)) hk
        · rw [hq] at h
          simp only [cond_true] at h
          obtain ⟨s, f, x, hk, hden, hf, hrun, hbx⟩ := qop_sound (P := P) (o := o) hE hr' h
          unfold Oper.wp
          rw [hrun w hf, Oper.upon_value]
          exact vOps_sound hE hQ r _ _ _ _ (hr'.put hd hden) hg (hs.trans (hput x)) hk
      · rw [if_neg (by simp [hw])]
        exact vOps_sound hE hQ r _ _ _ _ (hr'.put hd rfl) hg (hs.trans (hput _)) h
    · exact h.elim
def qf (p : Nat × SFact) : QF := (p.1, p.2.holds)
/-- The boxes that facts speak of are there. -/
def InF (σ : List LB) (F : List (Nat × SFact)) : Prop := ∀ p ∈ F, ∀ b, p.2 = .box b → lkB σ b.id = some b
theorem vQs_sound (hE : EOk P E) {K : SFr → List (Nat × SFact) → Prop} : ∀ (l : List Nat) (ρ : SFr) (a : Act) (F : List (Nat × SFact)), Rep n ρ σ a w → vQs E n ops σ w l ρ F K →
    ∃ (G : List (Nat × SFact)) (a' : Act) (ρ' : SFr), G.map (·.1) = l ∧ SeqF P ops (G.map qf) a a' ∧ (∀ p ∈ G, p.2.holds w) ∧ Rep n ρ' σ a' w ∧ SameA (wrOps ops) a a' ∧ InF σ G ∧ K ρ' (F ++ G)
  | [], ρ, a, F, hr, h => ⟨[], a, ρ, rfl, rfl, (fun p hp => by cases hp), hr, SameA.refl _ _, (fun p hp => by cases hp), (by rw [List.append_nil]; exact h)⟩
  | i :: r, ρ, a, F, hr, h => by
    unfold vQs at h
    split at h
    · rename_i o ho
      obtain ⟨hd, h⟩ := cond_get h
      have hput : ∀ x, SameA (wrOps ops) a (a.put o.dst x) := fun x => SameA.put (wrOps_mem ho)
      rcases vGuard_get hr h with ⟨hw, ρ', hr', h⟩ | ⟨hw, ρ', hr', h⟩
      · obtain ⟨s, f, x, hk, hden, hf, hrun, hbx⟩ := qop_sound (P := P) (o := o) hE hr' h
        obtain ⟨G, a', ρ2, h1, h2, h3, h4, h5, h7, h6⟩ := vQs_sound hE r _ _ _ (hr'.put hd hden) hk
        refine ⟨(i, f) :: G, a', ρ2, by rw [List.map_cons, h1], ⟨o, x, ho, fun wx hx => .inl ⟨hw, .inl (hrun wx hx)⟩, h2⟩, fun p hp => ?_, h4, (hput x).trans h5, fun p hp => ?_, by rw [List.append_assoc] at h6; exact h6⟩
        · rcases List.mem_cons.1 hp with rfl | hp
          · exact hf
          · exact h3 p hp
        · rcases List.mem_cons.1 hp with rfl | hp
          · exact hbx
          · exact h7 p hp
      · obtain ⟨G, a', ρ2, h1, h2, h3, h4, h5, h7, h6⟩ := vQs_sound hE r _ _ _ (hr'.put hd (x := undef) rfl) h
        refine ⟨(i, .tt) :: G, a', ρ2, by rw [List.map_cons, h1], ⟨o, undef, ho, fun wx hx => .inr ⟨hw, rfl⟩, h2⟩, fun p hp => ?_, h4, (hput _).trans h5, fun p hp => ?_, by rw [List.append_assoc] at h6; exact h6⟩
        · rcases List.mem_cons.1 hp with rfl | hp
          · trivial
          · exact h3 p hp
        · rcases List.mem_cons.1 hp with rfl | hp
          · intro b hb; cases hb
          · exact h7 p hp
    · exact h.elim
theorem keepF_eq (B : List Nat) (l : Nat) : ∀ F, keepP B l (F.map qf) = (keepF B l F).map qf
  | [] => rfl
  | p :: r => by
    have ih := keepF_eq B l r
    unfold keepF
    unfold keepP at *
    rw [List.map_cons, List.filter_cons, ih]
    show (if (!(B.getD l 0).testBit p.1) = true then _ else _) = _
    cases (B.getD l 0).testBit p.1 <;> rfl
theorem keepF_sub (B : List Nat) (l : Nat) : ∀ {F : List (Nat × SFact)} {p}, p ∈ keepF B l F → p ∈ F
  | q :: r, p, h => by
    unfold keepF at h
    cases hb : (B.getD l 0).testBit q.1
    · rw [hb] at h
      rcases List.mem_cons.1 h with rfl | h
      · simp
      · exact List.mem_cons_of_mem _ (keepF_sub B l h)
    · rw [hb] at h; exact List.mem_cons_of_mem _ (keepF_sub B l h)
theorem factsAt_get : ∀ {F : List (Nat × SFact)} {w : World} {σ : List LB}, factsAt F w → InF σ F → (∀ b ∈ σ, b.at w) → ∀ p ∈ F, p.2.holds w
  | p :: r, w, σ, h, hi, hb, q, hq => by
    unfold factsAt at h
    rcases List.mem_cons.1 hq with rfl | hq
    · cases hf : q.2 with
      | tt => trivial
      | box b => exact hb b (lkB_mem (hi q (by simp) b hf)).1
      | mem f => rw [hf] at h; exact h.1
    · refine factsAt_get (F := r) ?_ (fun p hp => hi p (List.mem_cons_of_mem _ hp)) hb q hq
      cases hf : p.2 <;> rw [hf] at h <;> first | exact h | exact h.2
theorem andF_get : ∀ {F : List (Nat × SFact)} {w : World} {R : Prop}, andF F w R → factsAt F w ∧ R
  | [], w, R, h => ⟨trivial, h⟩
  | p :: r, w, R, h => by
    unfold andF at h
    unfold factsAt
    split at h
    · exact ⟨⟨h.1, (andF_get h.2).1⟩, (andF_get h.2).2⟩
    · rename_i hn
      have := andF_get h
      cases hf : p.2 with
      | mem f => exact absurd hf (hn f)
      | tt => exact this
      | box b => exact this
theorem noBoxF_get : ∀ {F : List (Nat × SFact)} {id : Nat}, noBoxF F id = true → ∀ p ∈ F, ∀ b, p.2 = .box b → b.id ≠ id
  | p :: r, id, h, q, hq, b, hb => by
    unfold noBoxF at h
    rcases List.mem_cons.1 hq with rfl | hq
    · rintro rfl
      rw [hb] at h
      simp at h
    · cases hf : p.2 with
      | box k =>
        rw [hf] at h
        simp only at h
        cases hk : Nat.beq k.id id
        · rw [hk] at h; exact noBoxF_get h q hq b hb
        · rw [hk] at h; cases h
      | tt => rw [hf] at h; exact noBoxF_get h q hq b hb
      | mem f => rw [hf] at h; exact noBoxF_get h q hq b hb
theorem vTr_sound (hE : EOk P E) {pro : List Nat} {B : List Nat} {K : SFr → List LB → World → Prop} {Q : Exit → Act → World → Prop} {σ0 : List LB} {a0 : Act} (hQ : ∀ ρ σ a w, K ρ σ w → Rep n ρ σ a w → GrowsP pro σ0 σ → SameA (wrOps ops) a0 a → Q .normal a w) :
    ∀ (k : Nat) (L Qs : List Nat) (F : List (Nat × SFact)) (ρ : SFr) (σ : List LB) (a : Act) (w : World), Rep n ρ σ a w → GrowsP pro σ0 σ → SameA (wrOps ops) a0 a → InF σ F → (∀ p ∈ F, p.2.holds w) → vTr P E n pro ops B k L Qs F ρ σ w K → wpTr P ops Q B k L Qs (F.map qf) a w
  | 0, L, Qs, F, ρ, σ, a, w, hr, hg, hs, _, _, h => hQ ρ σ a w h hr hg hs
  | k + 1, L, Qs, F, ρ, σ, a, w, hr, hg, hs, hin, hF, h => by
    intro l hl
    unfold vTr at h
    have h := allC_get h l hl
    unfold wpOp
    split at h
    · rename_i o ho
      obtain ⟨hd, h⟩ := cond_get h
      rw [ho]
      simp only
      have hput : ∀ x, SameA (wrOps ops) a (a.put o.dst x) := fun x => SameA.put (wrOps_mem ho)
      rcases vGuard_get hr h with ⟨hw, ρ', hr', h⟩ | ⟨hw, ρ', hr', h⟩
      · rw [if_pos hw]
        refine .inl ?_
        obtain ⟨hc, h⟩ := cond_get h
        refine Oper.wp_mono (fun a1 w1 => ?_) (lop_sound hE hr' hd h (Q := Q))
        rintro ⟨s, σ', hk, hr1, hg1, hst, x, rfl⟩
        obtain ⟨hfa, hk⟩ := andF_get hk
        have hin1 : InF σ' (keepF B l F) := fun p hp b hb => by
          refine hst b.id b (fun e => ?_) (hin p (keepF_sub B l hp) b hb)
          rw [e] at hc
          exact noBoxF_get hc p hp b hb rfl
        obtain ⟨G, a2, ρ2, h1, h2, h3, h4, h5, h7, h6⟩ := vQs_sound (P := P) hE _ _ _ _ hr1 hk
        have hall : ∀ p ∈ keepF B l F ++ G, p.2.holds w1 := fun p hp => (List.mem_append.1 hp).elim (factsAt_get hfa hin1 hr1.boxes p) (h3 p)
        have hinall : InF σ' (keepF B l F ++ G) := fun p hp => (List.mem_append.1 hp).elim (hin1 p) (h7 p)
        refine ⟨G.map qf, a2, by rw [List.map_map]; exact h1, h2, fun q hq => ?_, ?_⟩
        · rw [keepF_eq, ← List.map_append] at hq
          obtain ⟨p, hp, rfl⟩ := List.mem_map.1 hq
          exact hall p hp
        · rw [keepF_eq, ← List.map_append]
          exact vTr_sound hE hQ k _ _ _ _ _ _ _ h4 (hg.trans hg1) ((hs.trans (hput x)).trans h5) hinall hall h6
      · rw [if_neg (by simp [hw])]
        have hin1 : InF σ (keepF B l F) := fun p hp => hin p (keepF_sub B l hp)
        obtain ⟨G, a2, ρ2, h1, h2, h3, h4, h5, h7, h6⟩ := vQs_sound (P := P) hE _ _ _ _ (hr'.put hd (x := undef) rfl) h
        have hall : ∀ p ∈ keepF B l F ++ G, p.2.holds w := fun p hp => (List.mem_append.1 hp).elim (fun h => hF p (keepF_sub B l h)) (h3 p)
        have hinall : InF σ (keepF B l F ++ G) := fun p hp => (List.mem_append.1 hp).elim (hin1 p) (h7 p)
        refine ⟨G.map qf, a2, by rw [List.map_map]; exact h1, h2, fun q hq => ?_, ?_⟩
        · rw [keepF_eq, ← List.map_append] at hq
          obtain ⟨p, hp, rfl⟩ := List.mem_map.1 hq
          exact hall p hp
        · rw [keepF_eq, ← List.map_append]
          exact vTr_sound hE hQ k _ _ _ _ _ _ _ h4 hg ((hs.trans (hput _)).trans h5) hinall hall h6
    · exact h.elim
end
end Go.Proofs.Ytbcafgglgjhckaa
end
section
/- Code over abstract frames: what is to be shown of it, and that this is enough. No program in sight. -/
namespace Go.Proofs.Ytbcafgglgjhckaa
open Go.RowKit
variable {P : Program} {E : Env}
def arrow : List Lf → Type → Type
  | [], R => R
  | .int _ :: r, R => Int → arrow r R
  | .bool :: r, R => Bool → arrow r R
  | .str :: r, R => ByteArray → arrow r R
  | .slice :: r, R => Option Addr → Nat → Nat → arrow r R
  | .ptr :: r, R => Option Addr → arrow r R
  | .flt :: r, R => Nat → arrow r R
  | .cpx :: r, R => Nat → Nat → arrow r R
  | .any :: r, R => Value → arrow r R
def getA {R : Type} (dflt : R) : (ls : List Lf) → arrow ls R → List Value → R
  | [], f, vs => match vs with
    | [] => f
    | _ :: _ => dflt
  | .int k :: r, f, vs => match vs with
    | .int k' x :: vs => cond (decide (k = k')) (getA dflt r (f x) vs) dflt
    | _ => dflt
  | .bool :: r, f, vs => match vs with
    | .bool x :: vs => getA dflt r (f x) vs
    | _ => dflt
  | .str :: r, f, vs => match vs with
    | .string s :: vs => getA dflt r (f s) vs
    | _ => dflt
  | .slice :: r, f, vs => match vs with
    | .slice a n c :: vs => getA dflt r (f a n c) vs
    | _ => dflt
  | .ptr :: r, f, vs => match vs with
    | .pointer a :: vs => getA dflt r (f a) vs
    | _ => dflt
  | .flt :: r, f, vs => match vs with
    | .float .f64 b :: vs => getA dflt r (f b) vs
    | _ => dflt
  | .cpx :: r, f, vs => match vs with
    | .complex .f64 b c :: vs => getA dflt r (f b c) vs
    | _ => dflt
  | .any :: r, f, vs => match vs with
    | v :: vs => getA dflt r (f v) vs
    | [] => dflt
def allA {R : Type} : (ls : List Lf) → arrow ls R → List Value → (List Value → R → Prop) → Prop
  | [], f, acc, K => K acc f
  | .int k :: r, f, acc, K => ∀ x : Int, allA r (f x) (acc ++ [.int k x]) K
  | .bool :: r, f, acc, K => ∀ x : Bool, allA r (f x) (acc ++ [.bool x]) K
  | .str :: r, f, acc, K => ∀ x : ByteArray, allA r (f x) (acc ++ [.string x]) K
  | .slice :: r, f, acc, K => ∀ (a : Option Addr) (n c : Nat), allA r (f a n c) (acc ++ [.slice a n c]) K
  | .ptr :: r, f, acc, K => ∀ a : Option Addr, allA r (f a) (acc ++ [.pointer a]) K
  | .flt :: r, f, acc, K => ∀ b : Nat, allA r (f b) (acc ++ [.float .f64 b]) K
  | .cpx :: r, f, acc, K => ∀ b c : Nat, allA r (f b c) (acc ++ [.complex .f64 b c]) K
  | .any :: r, f, acc, K => ∀ v : Value, allA r (f v) (acc ++ [v]) K
theorem allA_get : ∀ (ls : List Lf) (I : arrow ls (World → Prop)) (acc vals : List Value) (w : World) (K : List Value → (World → Prop) → Prop), allA ls I acc K → getA (fun _ => False) ls I vals w → K (acc ++ vals) (getA (fun _ => False) ls I vals)
  | [], I, acc, vals, w, K, h, hi => by
    cases vals with
    | nil => rw [List.append_nil]; exact h
    | cons v vs => exact hi.elim
  | .int k :: r, I, acc, vals, w, K, h, hi => by
    unfold getA at hi ⊢
    split at hi
    · rename_i k' x vs
      cases hk : decide (k = k')
      · rw [hk] at hi; exact hi.elim
      · rw [hk] at hi
        obtain rfl := of_decide_eq_true hk
        have := allA_get r (I x) (acc ++ [.int k x]) vs w K (h x) hi
        rw [List.append_assoc] at this
        simpa using this
    · exact hi.elim
  | .bool :: r, I, acc, vals, w, K, h, hi => by
    unfold getA at hi ⊢
    split at hi
    · rename_i x vs
      have := allA_get r (I x) (acc ++ [.bool x]) vs w K (h x) hi
      rw [List.append_assoc] at this
      exact this
    · exact hi.elim
  | .str :: r, I, acc, vals, w, K, h, hi => by
    unfold getA at hi ⊢
    split at hi
    · rename_i x vs
      have := allA_get r (I x) (acc ++ [.string x]) vs w K (h x) hi
      rw [List.append_assoc] at this
      exact this
    · exact hi.elim
  | .slice :: r, I, acc, vals, w, K, h, hi => by
    unfold getA at hi ⊢
    split at hi
    · rename_i a n c vs
      have := allA_get r (I a n c) (acc ++ [.slice a n c]) vs w K (h a n c) hi
      rw [List.append_assoc] at this
      exact this
    · exact hi.elim
  | .ptr :: r, I, acc, vals, w, K, h, hi => by
    unfold getA at hi ⊢
    split at hi
    · rename_i a vs
      have := allA_get r (I a) (acc ++ [.pointer a]) vs w K (h a) hi
      rw [List.append_assoc] at this
      exact this
    · exact hi.elim
  | .flt :: r, I, acc, vals, w, K, h, hi => by
    unfold getA at hi ⊢
    split at hi
    · rename_i b vs
      have := allA_get r (I b) (acc ++ [.float .f64 b]) vs w K (h b) hi
      rw [List.append_assoc] at this
      exact this
    · exact hi.elim
  | .cpx :: r, I, acc, vals, w, K, h, hi => by
    unfold getA at hi ⊢
    split at hi
    · rename_i b c vs
      have := allA_get r (I b c) (acc ++ [.complex .f64 b c]) vs w K (h b c) hi
      rw [List.append_assoc] at this
      exact this
    · exact hi.elim
  | .any :: r, I, acc, vals, w, K, h, hi => by
    unfold getA at hi ⊢
    split at hi
    · rename_i v vs
      have := allA_get r (I v) (acc ++ [v]) vs w K (h v) hi
      rw [List.append_assoc] at this
      exact this
    · exact hi.elim
abbrev LSl := List (Nat × Sh1)
abbrev LBx := List (Nat × List Lf)
def lfsR : LSl → List Lf
  | [] => []
  | p :: r => (match p.2 with | .lf l => [l] | .agg ls => ls) ++ lfsR r
def lfsB : LBx → List Lf
  | [] => []
  | p :: r => p.2 ++ lfsB r
/-- The slots' values at a head, out of the flat row; what is left of it. -/
def headR : LSl → List Value → SFr → SFr
  | [], _, ρ => ρ
  | p :: r, vs, ρ => match p.2, vs with
    | .lf _, v :: vs => headR r vs ((p.1, some (.v v)) :: ρ)
    | .lf _, [] => ρ
    | .agg ls, vs => headR r (vs.drop ls.length) ((p.1, some (.v (.agg (vs.take ls.length).toArray))) :: ρ)
def restR : LSl → List Value → List Value
  | [], vs => vs
  | p :: r, vs => match p.2, vs with
    | .lf _, _ :: vs => restR r vs
    | .lf _, [] => []
    | .agg ls, vs => restR r (vs.drop ls.length)
def headB : LBx → List Value → List LB → List LB
  | [], _, σ => σ
  | p :: r, vs, σ => headB r (vs.drop p.2.length) (setB σ p.1 (vs.take p.2.length))
def liveR : LSl → SFr → List Value → (List Value → Prop) → Prop
  | [], _, acc, K => K acc
  | p :: r, ρ, acc, K => withV (lk ρ p.1) fun v => match p.2, v with
    | .lf _, .agg _ => False
    | .lf _, v => liveR r ρ (acc ++ [v]) K
    | .agg ls, .agg cs => cond (Nat.beq cs.toList.length ls.length) (liveR r ρ (acc ++ cs.toList) K) False
    | .agg _, _ => False
def liveB : LBx → List LB → List Value → (List Value → Prop) → Prop
  | [], _, acc, K => K acc
  | p :: r, σ, acc, K => match lkB σ p.1 with
    | some b => cond (Nat.beq b.cs.length p.2.length) (liveB r σ (acc ++ b.cs) K) False
    | none => False
def dropS (wr : List Nat) : SFr → SFr
  | [] => []
  | p :: r => cond (memN wr p.1) (dropS wr r) (p :: dropS wr r)
def idsB : LBx → List Nat
  | [] => []
  | p :: r => p.1 :: idsB r
def subN : List Nat → List Nat → Bool
  | [], _ => true
  | x :: r, l => cond (memN l x) (subN r l) false
/-- Boxes that may be written are among those that the head lists. -/
def okB : List LB → List Nat → List Nat → Bool
  | [], _, _ => true
  | b :: r, pb, ids => cond (memN pb b.id) (cond (memN ids b.id) (okB r pb ids) false) (okB r pb ids)
inductive AC where
  | skip
  | reg (id : Nat) (ops : Array Oper)
  | regD (id : Nat) (ops : Array Oper) (B L Qs : List Nat)
  | seq (a b : AC)
  | cond (c : Operand) (a b : AC)
  | block (id : Nat) (a : AC)
  | loop (lv : LSl) (bx : LBx) (wr pb : List Nat) (a : AC)
  | cut (lv : LSl) (bx : LBx) (wr pb : List Nat) (a : AC)
  | exit (id : Nat)
  | ret
def AC.erase : AC → Code
  | .skip => .skip
  | .reg id ops => .region id ops false
  | .regD id ops _ _ _ => .region id ops true
  | .seq a b => .seq a.erase b.erase
  | .cond c a b => .cond c a.erase b.erase
  | .block id a => .block id a.erase
  | .loop _ _ _ _ a => .loop a.erase
  | .cut _ _ _ _ a => a.erase
  | .exit id => .exit id
  | .ret => .ret
def dstsO : List Oper → List Nat
  | [] => []
  | o :: r => match o.dst with
    | some d => d :: dstsO r
    | none => dstsO r
def AC.dsts : AC → List Nat
  | .skip => []
  | .reg _ ops => dstsO ops.toList
  | .regD _ ops _ _ _ => dstsO ops.toList
  | .seq a b => a.dsts ++ b.dsts
  | .cond _ a b => a.dsts ++ b.dsts
  | .block _ a => a.dsts
  | .loop _ _ _ _ a => a.dsts
  | .cut _ _ _ _ a => a.dsts
  | .exit _ => []
  | .ret => []
abbrev VQ := Exit → SFr → List LB → World → Prop
def refC (c : Operand) (b : Bool) (ρ : SFr) : SFr := match c with
  | .tmp d => (d, some (.v (.bool b))) :: ρ
  | _ => ρ
def thenQ (K : SFr → List LB → World → Prop) (Q : VQ) : VQ
  | .normal, ρ, σ, w => K ρ σ w
  | e, ρ, σ, w => Q e ρ σ w
def blockQ (id : Nat) (Q : VQ) : VQ
  | .exit k, ρ, σ, w => cond (Nat.beq k id) (Q .normal ρ σ w) (Q (.exit k) ρ σ w)
  | e, ρ, σ, w => Q e ρ σ w
def headOk (σ : List LB) (bx : LBx) (wr pb pro : List Nat) (a : AC) : Bool := subN a.dsts wr && subN pb pro && subN (idsB bx) pro && okB σ pb (idsB bx)
def regOk (ops : Array Oper) (B L Qs : List Nat) : Bool := trB ops B L Qs
def vc (P : Program) (E : Env) (n : Nat) : AC → List Nat → VQ → SFr → List LB → World → Prop
  | .skip, _, Q, ρ, σ, w => Q .normal ρ σ w
  | .reg _ ops, pro, Q, ρ, σ, w => vOps P E n pro ops (List.range ops.size) ρ σ w (Q .normal)
  | .regD _ ops B L Qs, pro, Q, ρ, σ, w => _root_.cond (regOk ops B L Qs) (drewO w fun w1 => vQs E n ops σ w1 (newQ B L Qs) ρ [] fun ρ F => vTr P E n pro ops B L.length L (restQ B L Qs) F ρ σ w1 (Q .normal)) False
  | .seq a b, pro, Q, ρ, σ, w => vc P E n a pro (thenQ (vc P E n b pro Q) Q) ρ σ w
  | .cond c a b, pro, Q, ρ, σ, w => withV (ev ρ c) fun v => match v with
    | .bool t => br t (vc P E n a pro Q (refC c true ρ) σ w) (vc P E n b pro Q (refC c false ρ) σ w)
    | _ => False
  | .block id a, pro, Q, ρ, σ, w => vc P E n a pro (blockQ id Q) ρ σ w
  | .loop lv bx wr pb a, pro, Q, ρ, σ, w => _root_.cond (headOk σ bx wr pb pro a)
      (∃ (I : arrow (lfsR lv ++ lfsB bx) (World → Prop)) (μ : arrow (lfsR lv ++ lfsB bx) (World → Nat)),
        (liveR lv ρ [] fun vs => liveB bx σ vs fun vs => getA (fun _ => False) _ I vs w) ∧
        allA _ I [] fun vs i => ∀ w1, i w1 → vc P E n a pb (thenQ (fun ρ' σ' w' => liveR lv ρ' [] fun vs' => liveB bx σ' vs' fun vs' => getA (fun _ => False) _ I vs' w' ∧ getA (fun _ => 0) _ μ vs' w' < getA (fun _ => 0) _ μ vs w1) Q)
          (headR lv vs (dropS wr ρ)) (headB bx (restR lv vs) σ) w1) False
  | .cut lv bx wr pb a, pro, Q, ρ, σ, w => _root_.cond (headOk σ bx wr pb pro a)
      (∃ (J : arrow (lfsR lv ++ lfsB bx) (World → Prop)),
        vc P E n a pb (thenQ (fun ρ' σ' w' => liveR lv ρ' [] fun vs' => liveB bx σ' vs' fun vs' => getA (fun _ => False) _ J vs' w') Q) ρ σ w ∧
        allA _ J [] fun vs j => ∀ w1, j w1 → Q .normal (headR lv vs (dropS wr ρ)) (headB bx (restR lv vs) σ) w1) False
  | .exit id, _, Q, ρ, σ, w => Q (.exit id) ρ σ w
  | .ret, _, Q, ρ, σ, w => Q .ret ρ σ w
theorem memN_iff {n : Nat} : ∀ {l : List Nat}, memN l n = true ↔ n ∈ l
  | [] => by simp [memN]
  | x :: r => by
    unfold memN
    cases hb : Nat.beq x n
    · have : x ≠ n := fun e => by rw [e, Nat.beq_refl] at hb; cases hb
      simp only [cond_false, memN_iff, List.mem_cons]
      exact ⟨.inr, fun h => h.resolve_left (fun e => this e.symm)⟩
    · simp [Nat.eq_of_beq_eq_true hb]
theorem subN_get : ∀ {l m : List Nat}, subN l m = true → ∀ x, memN l x = true → memN m x = true
  | y :: r, m, h, x, hx => by
    unfold subN at h
    cases hy : memN m y
    · rw [hy] at h; cases h
    · rw [hy] at h
      rw [memN_iff] at hx
      rcases List.mem_cons.1 hx with rfl | hx
      · exact hy
      · exact subN_get h x (memN_iff.2 hx)
theorem dstsO_mem {d : Nat} : ∀ {l : List Oper}, d ∈ dstsO l ↔ ∃ o ∈ l, o.dst = some d
  | [] => by simp [dstsO]
  | o :: r => by
    unfold dstsO
    split
    · rename_i k hk
      simp only [List.mem_cons, dstsO_mem (l := r)]
      constructor
      · rintro (rfl | ⟨o', h1, h2⟩)
        · exact ⟨o, .inl rfl, hk⟩
        · exact ⟨o', .inr h1, h2⟩
      · rintro ⟨o', rfl | h1, h2⟩
        · rw [hk] at h2; injection h2 with h2; exact .inl h2.symm
        · exact .inr ⟨o', h1, h2⟩
    · rename_i hk
      simp only [List.mem_cons, dstsO_mem (l := r)]
      constructor
      · rintro ⟨o', h1, h2⟩; exact ⟨o', .inr h1, h2⟩
      · rintro ⟨o', rfl | h1, h2⟩
        · rw [hk] at h2; cases h2
        · exact ⟨o', h1, h2⟩
theorem wrOps_dsts {ops : Array Oper} {t : Nat} (h : wrOps ops t = true) : memN (dstsO ops.toList) t = true := by
  unfold wrOps at h
  obtain ⟨i, hi, h⟩ := Array.any_eq_true.1 h
  exact memN_iff.2 (dstsO_mem.2 ⟨ops[i], by simp, by simpa using h⟩)
theorem lk_dropS (wr : List Nat) (t : Nat) : ∀ (ρ : SFr), lk (dropS wr ρ) t = if memN wr t then none else lk ρ t
  | [] => by simp [dropS, lk]
  | p :: r => by
    obtain ⟨d, x⟩ := p
    unfold dropS
    cases hd : memN wr d
    · simp only [cond_false]
      rw [lk_cons, lk_cons, lk_dropS wr t r]
      by_cases h : d = t
      · subst h; simp [hd]
      · simp [h]
    · simp only [cond_true]
      rw [lk_dropS wr t r, lk_cons]
      by_cases h : d = t
      · subst h; simp [hd]
      · simp [h]
end Go.Proofs.Ytbcafgglgjhckaa
end
section
/- What is to be shown of code over abstract frames is enough. No program in sight. -/
namespace Go.Proofs.Ytbcafgglgjhckaa
open Go.RowKit
variable {P : Program} {E : Env}
section
variable {n : Nat} {ρ : SFr} {σ : List LB} {a : Act} {w : World}
theorem liveR_get (hr : Rep n ρ σ a w) : ∀ (lv : LSl) (acc : List Value) (K : List Value → Prop), liveR lv ρ acc K →
    ∃ seg, K (acc ++ seg) ∧ (∀ seg2, restR lv (seg ++ seg2) = seg2) ∧ ∀ seg2 ρ0 t s, lk (headR lv (seg ++ seg2) ρ0) t = some s → (∃ v, s = .v v ∧ a.tmps[t]? = some v) ∨ lk ρ0 t = some s
  | [], acc, K, h => ⟨[], by rw [List.append_nil]; exact h, fun _ => rfl, fun _ _ _ _ h => .inr h⟩
  | (d, sh) :: r, acc, K, h => by
    unfold liveR at h
    obtain ⟨v, hv, h⟩ := withV_lk h
    obtain ⟨x, hx1, hx2⟩ := hr.slots d _ hv
    cases hx1
    have step : ∀ (ρ0 : SFr) (t : Nat) (s : SV), lk ((d, some (.v v)) :: ρ0) t = some s → (∃ v, s = .v v ∧ a.tmps[t]? = some v) ∨ lk ρ0 t = some s := fun ρ0 t s h => by
      rw [lk_cons] at h
      by_cases hd : d = t
      · subst hd
        rw [if_pos rfl] at h
        injection h with h
        exact .inl ⟨v, h.symm, hx2⟩
      · rw [if_neg hd] at h; exact .inr h
    cases sh with
    | lf l =>
      replace h : liveR r ρ (acc ++ [v]) K := by cases v <;> first | exact h.elim | exact h
      obtain ⟨seg, h1, h2, h3⟩ := liveR_get hr r _ _ h
      refine ⟨v :: seg, by rw [List.append_assoc] at h1; exact h1, fun seg2 => h2 seg2, fun seg2 ρ0 t s hl => ?_⟩
      rcases h3 _ _ _ _ (show lk (headR r (seg ++ seg2) ((d, some (.v v)) :: ρ0)) t = some s from hl) with h | h
      · exact .inl h
      · exact step ρ0 t s h
    | agg ls =>
      cases v with
      | agg cs =>
        obtain ⟨hlen, h⟩ := cond_get h
        have hlen := Nat.eq_of_beq_eq_true hlen
        obtain ⟨seg, h1, h2, h3⟩ := liveR_get hr r _ _ h
        have htk : ∀ l : List Value, (cs.toList ++ l).take ls.length = cs.toList ∧ (cs.toList ++ l).drop ls.length = l := fun l => by rw [← hlen]; simp
        refine ⟨cs.toList ++ seg, by rw [List.append_assoc] at h1; exact h1, fun seg2 => ?_, fun seg2 ρ0 t s hl => ?_⟩
        · rw [List.append_assoc]
          show restR r ((cs.toList ++ (seg ++ seg2)).drop ls.length) = seg2
          rw [(htk _).2]
          exact h2 seg2
        · rw [List.append_assoc] at hl
          replace hl : lk (headR r ((cs.toList ++ (seg ++ seg2)).drop ls.length) ((d, some (.v (.agg ((cs.toList ++ (seg ++ seg2)).take ls.length).toArray))) :: ρ0)) t = some s := hl
          rw [(htk _).1, (htk _).2] at hl
          rcases h3 _ _ _ _ hl with h | h
          · exact .inl h
          · exact step ρ0 t s h
      | _ => exact h.elim
theorem setB_inv (cs : List Value) (k : Nat) : ∀ (σ : List LB) (id : Nat) (b1 : LB), lkB (setB σ id cs) k = some b1 → ∃ b0, lkB σ k = some b0 ∧ b1.g = b0.g ∧ b1.T = b0.T ∧ (k = id → b1.cs = cs) ∧ (k ≠ id → b1 = b0)
  | x :: r, id, b1, h => by
    unfold setB at h
    unfold lkB
    cases hb : Nat.beq x.id id
    · rw [hb] at h
      simp only [cond_false, lkB] at h
      cases hk : Nat.beq x.id k
      · rw [hk] at h; exact setB_inv cs k r id b1 h
      · rw [hk] at h; injection h with h; subst h
        exact ⟨x, rfl, rfl, rfl, (fun e => by rw [← e, hk] at hb; cases hb), fun _ => rfl⟩
    · rw [hb] at h
      simp only [cond_true, lkB] at h
      cases hk : Nat.beq x.id k
      · rw [hk] at h
        exact ⟨b1, h, rfl, rfl, (fun e => by rw [e, hb] at hk; cases hk), fun _ => rfl⟩
      · rw [hk] at h; injection h with h; subst h
        exact ⟨x, rfl, rfl, rfl, fun _ => rfl, fun hne => absurd ((Nat.eq_of_beq_eq_true hk).symm.trans (Nat.eq_of_beq_eq_true hb)) hne⟩
theorem headB_same : ∀ (bx : LBx) (seg : List Value) (σ : List LB), (headB bx seg σ).map (·.g) = σ.map (·.g) ∧ (headB bx seg σ).map (·.id) = σ.map (·.id) ∧ ∀ s, den (headB bx seg σ) s = den σ s
  | [], _, _ => ⟨rfl, rfl, fun _ => rfl⟩
  | p :: r, seg, σ => by
    obtain ⟨h1, h2, h3⟩ := headB_same r (seg.drop p.2.length) (setB σ p.1 (seg.take p.2.length))
    exact ⟨h1.trans (setB_map _ _ _), h2.trans (setB_ids _ _ _), fun s => (h3 s).trans (setB_den _ _ _ _)⟩
theorem liveB_get {σ' : List LB} : ∀ (bx : LBx) (acc : List Value) (K : List Value → Prop), liveB bx σ' acc K →
    ∃ seg, K (acc ++ seg) ∧ ∀ (σ : List LB) (id : Nat) (b : LB), lkB (headB bx seg σ) id = some b → ∃ b0, lkB σ id = some b0 ∧ b.g = b0.g ∧ b.T = b0.T ∧ ((memN (idsB bx) id = true ∧ ∃ b', lkB σ' id = some b' ∧ b.cs = b'.cs) ∨ (memN (idsB bx) id = false ∧ b = b0))
  | [], acc, K, h => ⟨[], by rw [List.append_nil]; exact h, fun σ id b hb => ⟨b, hb, rfl, rfl, .inr ⟨rfl, rfl⟩⟩⟩
  | (k, ls) :: r, acc, K, h => by
    unfold liveB at h
    split at h
    · rename_i b' hb'
      obtain ⟨hlen, h⟩ := cond_get h
      have hlen := Nat.eq_of_beq_eq_true hlen
      obtain ⟨seg, h1, h2⟩ := liveB_get r _ _ h
      refine ⟨b'.cs ++ seg, by rw [List.append_assoc] at h1; exact h1, fun σ id b hb => ?_⟩
      have e1 : (b'.cs ++ seg).take ls.length = b'.cs := by rw [← hlen]; simp
      have e2 : (b'.cs ++ seg).drop ls.length = seg := by rw [← hlen]; simp
      unfold headB at hb
      simp only [e1, e2] at hb
      obtain ⟨b1, g1, g2, g3, g4⟩ := h2 _ id b hb
      obtain ⟨b0, k1, k2, k3, k4, k5⟩ := setB_inv _ _ _ _ _ g1
      refine ⟨b0, k1, g2.trans k2, g3.trans k3, ?_⟩
      unfold idsB memN
      rcases g4 with ⟨g4, b2, g5, g6⟩ | ⟨g4, rfl⟩
      · refine .inl ⟨?_, b2, g5, g6⟩
        rw [g4]; cases Nat.beq k id <;> rfl
      · cases hk : Nat.beq k id
        · refine .inr ⟨g4, k5 fun e => ?_⟩
          rw [e, Nat.beq_refl] at hk; cases hk
        · obtain rfl := Nat.eq_of_beq_eq_true hk
          exact .inl ⟨rfl, b', hb', k4 rfl⟩
    · exact h.elim
theorem okB_get {pb ids : List Nat} : ∀ {σ : List LB}, okB σ pb ids = true → ∀ b ∈ σ, memN pb b.id = true → memN ids b.id = true
  | x :: r, h, b, hb, hp => by
    unfold okB at h
    rcases List.mem_cons.1 hb with rfl | hb
    · rw [hp] at h
      simp only [cond_true] at h
      cases hi : memN ids b.id
      · rw [hi] at h; cases h
      · rfl
    · refine okB_get (σ := r) ?_ b hb hp
      cases hx : memN pb x.id
      · rw [hx] at h; exact h
      · rw [hx] at h
        simp only [cond_true] at h
        cases hi : memN ids x.id
        · rw [hi] at h; cases h
        · rw [hi] at h; exact h
def HeadRel (ids : List Nat) (σ0 σ' : List LB) : Prop := ∀ id b0, lkB σ0 id = some b0 → ∃ b', lkB σ' id = some b' ∧ b'.g = b0.g ∧ b'.T = b0.T ∧ (memN ids id = false → b' = b0)
theorem rep_head {ρ0 ρ' : SFr} {σ0 σ' : List LB} {a0 a' : Act} {w0 w' : World} (h0 : Rep n ρ0 σ0 a0 w0) (h1 : Rep n ρ' σ' a' w') {lv : LSl} {bx : LBx} {wr : List Nat} (hrel : HeadRel (idsB bx) σ0 σ') (hs : SameA (memN wr) a0 a') {K : List Value → Prop}
    (h : liveR lv ρ' [] fun vs => liveB bx σ' vs K) : ∃ vals, K vals ∧ Rep n (headR lv vals (dropS wr ρ0)) (headB bx (restR lv vals) σ0) a' w' := by
  obtain ⟨segR, h, hrest, hsl⟩ := liveR_get h1 lv _ _ h
  obtain ⟨segB, h, hbx⟩ := liveB_get bx _ _ h
  refine ⟨segR ++ segB, by simpa using h, ?_⟩
  rw [hrest]
  obtain ⟨e1, e2, e3⟩ := headB_same bx segB σ0
  refine ⟨h1.size, h1.defs, fun t s hl => ?_, fun b hb => ?_, by rw [e1]; exact h0.nodup, by rw [e2]; exact h0.ids⟩
  · rcases hsl _ _ _ _ hl with ⟨v, rfl, hv⟩ | hl
    · exact ⟨v, rfl, hv⟩
    · rw [lk_dropS] at hl
      cases hw : memN wr t
      · rw [hw] at hl
        obtain ⟨x, g1, g2⟩ := h0.slots t s (by simpa using hl)
        exact ⟨x, by rw [e3]; exact g1, by rw [hs t hw]; exact g2⟩
      · rw [hw] at hl; simp at hl
  · have hids : ((headB bx segB σ0).map (·.id)).Nodup := by rw [e2]; exact h0.ids
    obtain ⟨b0, g1, g2, g3, g4⟩ := hbx σ0 b.id b (lkB_of_mem hids hb)
    obtain ⟨b', k1, k2, k3, k4⟩ := hrel _ _ g1
    have hat := h1.boxes b' (lkB_mem k1).1
    have hcs : b.cs = b'.cs := by
      rcases g4 with ⟨_, b2, g5, g6⟩ | ⟨g4, rfl⟩
      · rw [k1] at g5; injection g5 with g5; subst g5; exact g6
      · rw [k4 g4]
    unfold LB.at at *
    rw [g2, g3, hcs, ← k2, ← k3]; exact hat
theorem headB_lk (bx : LBx) : ∀ (seg : List Value) (σ : List LB) (id : Nat) (b : LB), lkB σ id = some b → ∃ b', lkB (headB bx seg σ) id = some b' ∧ b'.g = b.g ∧ b'.T = b.T ∧ (memN (idsB bx) id = false → b' = b) := by
  induction bx with
  | nil => intro seg σ id b hb; exact ⟨b, hb, rfl, rfl, fun _ => rfl⟩
  | cons p r ih =>
    intro seg σ id b hb
    obtain ⟨b1, g1, g2, g3, g4⟩ := setB_lk (seg.take p.2.length) id σ p.1 b hb
    obtain ⟨b2, m1, m2, m3, m4⟩ := ih (seg.drop p.2.length) _ id b1 g1
    refine ⟨b2, m1, m2.trans g2, m3.trans g3, fun hn => ?_⟩
    unfold idsB memN at hn
    cases hp : Nat.beq p.1 id
    · rw [hp] at hn
      exact (m4 hn).trans (g4 fun e => by rw [e, Nat.beq_refl] at hp; cases hp)
    · rw [hp] at hn; cases hn
/-- The frame behind code. -/
def Out (n : Nat) (pro : List Nat) (wr : List Nat) (Q : VQ) (σ0 : List LB) (a0 : Act) (e : Exit) (a : Act) (w : World) : Prop :=
  ∃ ρ σ, Q e ρ σ w ∧ Rep n ρ σ a w ∧ GrowsP pro σ0 σ ∧ SameA (memN wr) a0 a
theorem memN_app (l m : List Nat) (t : Nat) : memN (l ++ m) t = (memN l t || memN m t) := by
  rw [Bool.eq_iff_iff, Bool.or_eq_true, memN_iff, memN_iff, memN_iff, List.mem_append]
theorem Out.then {pro wr1 wr2 : List Nat} {K : SFr → List LB → World → Prop} {Q : VQ} {σ0 : List LB} {a0 : Act} {c : Code}
    (hc : ∀ ρ σ a w, K ρ σ w → Rep n ρ σ a w → c.wp P (Out n pro wr2 Q σ a) a w) {e : Exit} {a : Act} {w : World} (h : Out n pro wr1 (thenQ K Q) σ0 a0 e a w) :
    Exit.then (c.wp P (Out n pro (wr1 ++ wr2) Q σ0 a0)) (Out n pro (wr1 ++ wr2) Q σ0 a0) e a w := by
  obtain ⟨ρ, σ, hq, hr, hg, hs⟩ := h
  have hs' : SameA (memN (wr1 ++ wr2)) a0 a := hs.mono fun t ht => by rw [memN_app, ht]; rfl
  cases e with
  | normal =>
    refine wp_mono (hc ρ σ a w hq hr) fun e a' w' h => ?_
    obtain ⟨ρ', σ', hq', hr', hg', hs2⟩ := h
    exact ⟨ρ', σ', hq', hr', hg.trans hg', hs'.trans (hs2.mono fun t ht => by rw [memN_app, ht]; simp)⟩
  | _ => exact ⟨ρ, σ, hq, hr, hg, hs'⟩
theorem rep_refC (hr : Rep n ρ σ a w) {c : Operand} {t : Bool} (h : ev ρ c = some (.v (.bool t))) : Rep n (refC c t ρ) σ a w := by
  cases c with
  | tmp d => exact hr.refine h
  | _ => exact hr
end
end Go.Proofs.Ytbcafgglgjhckaa
end
section
/- A function whose condition holds answers so. No program in sight. -/
namespace Go.Proofs.Ytbcafgglgjhckaa
open Go.RowKit
variable {P : Program} {E : Env}
theorem vc_sound (hE : EOk P E) {n : Nat} : ∀ (c : AC) (pro : List Nat) (Q : VQ) (ρ : SFr) (σ : List LB) (a : Act) (w : World), Rep n ρ σ a w → vc P E n c pro Q ρ σ w → c.erase.wp P (Out n pro c.dsts Q σ a) a w
  | .skip, pro, Q, ρ, σ, a, w, hr, h => wp_skip ⟨ρ, σ, h, hr, .refl _ _, .refl _ _⟩
  | .reg id ops, pro, Q, ρ, σ, a, w, hr, h => by
    refine wp_region (vOps_sound (pro := pro) (K := Q .normal) (σ0 := σ) (a0 := a) hE (fun ρ' σ' a' w' hq hr' hg hs => ⟨ρ', σ', hq, hr', hg, hs.mono fun t ht => wrOps_dsts ht⟩) _ ρ σ a w hr (.refl _ _) (.refl _ _) ?_)
    exact h
  | .regD id ops B L Qs, pro, Q, ρ, σ, a, w, hr, h => by
    unfold vc at h
    obtain ⟨hok, h⟩ := cond_get h
    have h := h w.drew rfl ((Below.refl _ _).drew)
    have hr1 : Rep n ρ σ a w.drew := hr.world fun b _ => rfl
    obtain ⟨G, a', ρ', h1, h2, h3, h4, h5, h6, h7⟩ := vQs_sound (P := P) (ops := ops) hE _ _ _ _ hr1 h
    refine wp_region_tr B L Qs hE.mixed hok ⟨G.map qf, a', by rw [List.map_map]; exact h1, h2, fun q hq => ?_, ?_⟩
    · obtain ⟨p, hp, rfl⟩ := List.mem_map.1 hq
      exact h3 p hp
    · exact vTr_sound (pro := pro) (K := Q .normal) (σ0 := σ) (a0 := a) hE (fun ρ' σ' a' w' hq hr' hg hs => ⟨ρ', σ', hq, hr', hg, hs.mono fun t ht => wrOps_dsts ht⟩) _ _ _ G ρ' σ a' w.drew h4 (.refl _ _) h5 h6 h3 (by simpa using h7)
  | .seq x y, pro, Q, ρ, σ, a, w, hr, h => by
    refine wp_seq (wp_mono (vc_sound hE x pro _ ρ σ a w hr h) fun e a' w' ho => ?_)
    exact Out.then (fun ρ σ a w hk hr => vc_sound hE y pro Q ρ σ a w hr hk) ho
  | .cond c x y, pro, Q, ρ, σ, a, w, hr, h => by
    unfold vc at h
    obtain ⟨v, hv, h⟩ := withV_lk h
    split at h
    · rename_i t
      have hev := evv hr hv
      have hr' := rep_refC hr hv
      cases t
      · refine wp_cond hev (wp_mono (vc_sound hE y pro Q _ σ a w hr' h) fun e a' w' ho => ?_)
        obtain ⟨ρ', σ', hq, hr2, hg, hs⟩ := ho
        exact ⟨ρ', σ', hq, hr2, hg, hs.mono fun t ht => by unfold AC.dsts; rw [memN_app, ht]; simp⟩
      · refine wp_cond hev (wp_mono (vc_sound hE x pro Q _ σ a w hr' h) fun e a' w' ho => ?_)
        obtain ⟨ρ', σ', hq, hr2, hg, hs⟩ := ho
        exact ⟨ρ', σ', hq, hr2, hg, hs.mono fun t ht => by unfold AC.dsts; rw [memN_app, ht]; rfl⟩
    · exact h.elim
  | .block id x, pro, Q, ρ, σ, a, w, hr, h => by
    refine wp_block (wp_mono (vc_sound hE x pro (blockQ id Q) ρ σ a w hr h) fun e a' w' ho => ?_)
    obtain ⟨ρ', σ', hq, hr2, hg, hs⟩ := ho
    cases e with
    | exit k =>
      show if k = id then _ else _
      replace hq : _root_.cond (Nat.beq k id) (Q .normal ρ' σ' w') (Q (.exit k) ρ' σ' w') := hq
      by_cases hk : k = id
      · subst hk
        rw [Nat.beq_refl] at hq
        rw [if_pos rfl]
        exact ⟨ρ', σ', hq, hr2, hg, hs⟩
      · have : Nat.beq k id = false := by cases hb : Nat.beq k id; rfl; exact absurd (Nat.eq_of_beq_eq_true hb) hk
        rw [this] at hq
        rw [if_neg hk]
        exact ⟨ρ', σ', hq, hr2, hg, hs⟩
    | _ => exact ⟨ρ', σ', hq, hr2, hg, hs⟩
  | .loop lv bx wr pb x, pro, Q, ρ, σ, a, w, hr, h => by
    unfold vc at h
    obtain ⟨hok, I, μ, h0, hall⟩ := cond_get h
    unfold headOk at hok
    rw [Bool.and_eq_true, Bool.and_eq_true, Bool.and_eq_true] at hok
    obtain ⟨⟨⟨k1, k2⟩, k3⟩, k4⟩ := hok
    have hbase : HeadRel (idsB bx) σ σ := fun id b0 hb => ⟨b0, hb, rfl, rfl, fun _ => rfl⟩
    obtain ⟨vals0, hi0, hr0⟩ := rep_head (a' := a) (wr := wr) hr hr hbase (.refl _ _) h0
    have hin : SameA (memN wr) a a := .refl _ _
    refine wp_loop_ghost (fun k a1 w1 => ∃ vals, getA (fun _ => 0) _ μ vals w1 = k ∧ getA (fun _ => False) _ I vals w1 ∧ Rep n (headR lv vals (dropS wr ρ)) (headB bx (restR lv vals) σ) a1 w1 ∧ SameA (memN x.dsts) a a1) _ ⟨vals0, rfl, hi0, hr0, .refl _ _⟩ ?_
    rintro k a1 w1 ⟨vals, rfl, hi, hrh, hsame⟩
    have hv := allA_get _ I [] vals w1 _ hall hi w1 hi
    rw [List.nil_append] at hv
    obtain ⟨e1, e2, e3⟩ := headB_same bx (restR lv vals) σ
    have hgh : GrowsP pro σ (headB bx (restR lv vals) σ) := fun id b hb => by
      obtain ⟨b', g1, g2, g3, g4⟩ := headB_lk bx (restR lv vals) σ id b hb
      refine ⟨b', g1, g2, g3, fun hp => g4 ?_⟩
      cases hm2 : memN (idsB bx) id
      · rfl
      · rw [subN_get k3 id hm2] at hp; cases hp
    have hpb : ∀ {σ1 σ2 : List LB}, GrowsP pb σ1 σ2 → GrowsP pro σ1 σ2 := fun hg id b hb => by
      obtain ⟨b', g1, g2, g3, g4⟩ := hg id b hb
      refine ⟨b', g1, g2, g3, fun hp => g4 ?_⟩
      cases hm : memN pb id
      · rfl
      · rw [subN_get k2 id hm] at hp; cases hp
    refine wp_mono (vc_sound hE x pb _ _ _ a1 w1 hrh hv) fun e a2 w2 ho => ?_
    obtain ⟨ρ', σ', hq, hr2, hg, hs⟩ := ho
    cases e with
    | normal =>
      have hrel : HeadRel (idsB bx) σ σ' := fun id b0 hb => by
        obtain ⟨b1, m1, m2, m3, m4⟩ := hgh id b0 hb
        obtain ⟨b2, n1, n2, n3, n4⟩ := hg id b1 m1
        refine ⟨b2, n1, n2.trans m2, n3.trans m3, fun hid => ?_⟩
        have hpbf : memN pb id = false := by
          cases hm : memN pb id
          · rfl
          · have hb' := lkB_mem hb
            have := okB_get k4 b0 hb'.1 (by rw [hb'.2]; exact hm)
            rw [hb'.2, hid] at this; cases this
        have hb1 : b1 = b0 := by
          obtain ⟨b3, j1, _, _, j4⟩ := headB_lk bx (restR lv vals) σ id b0 hb
          rw [m1] at j1; injection j1 with j1
          rw [j1, j4 hid]
        rw [n4 hpbf, hb1]
      have hs' : SameA (memN x.dsts) a a2 := hsame.trans hs
      obtain ⟨vals', ⟨hi', hlt⟩, hrh'⟩ := rep_head hr hr2 hrel (hs'.mono (subN_get k1)) hq
      exact ⟨_, hlt, vals', rfl, hi', hrh', hs'⟩
    | _ => exact ⟨ρ', σ', hq, hr2, hgh.trans (hpb hg), hsame.trans hs⟩
  | .cut lv bx wr pb x, pro, Q, ρ, σ, a, w, hr, h => by
    unfold vc at h
    obtain ⟨hok, J, h0, hall⟩ := cond_get h
    unfold headOk at hok
    rw [Bool.and_eq_true, Bool.and_eq_true, Bool.and_eq_true] at hok
    obtain ⟨⟨⟨k1, k2⟩, k3⟩, k4⟩ := hok
    have hpb : ∀ {σ1 σ2 : List LB}, GrowsP pb σ1 σ2 → GrowsP pro σ1 σ2 := fun hg id b hb => by
      obtain ⟨b', g1, g2, g3, g4⟩ := hg id b hb
      refine ⟨b', g1, g2, g3, fun hp => g4 ?_⟩
      cases hm : memN pb id
      · rfl
      · rw [subN_get k2 id hm] at hp; cases hp
    refine wp_mono (vc_sound hE x pb _ ρ σ a w hr h0) fun e a2 w2 ho => ?_
    obtain ⟨ρ', σ', hq, hr2, hg, hs⟩ := ho
    cases e with
    | normal =>
      have hrel : HeadRel (idsB bx) σ σ' := fun id b0 hb => by
        obtain ⟨b2, n1, n2, n3, n4⟩ := hg id b0 hb
        refine ⟨b2, n1, n2, n3, fun hid => n4 ?_⟩
        cases hm : memN pb id
        · rfl
        · have hb' := lkB_mem hb
          have := okB_get k4 b0 hb'.1 (by rw [hb'.2]; exact hm)
          rw [hb'.2, hid] at this; cases this
      obtain ⟨vals, hi, hrh⟩ := rep_head hr hr2 hrel (hs.mono (subN_get k1)) hq
      have hv := allA_get _ J [] vals w2 _ hall hi w2 hi
      rw [List.nil_append] at hv
      refine ⟨_, _, hv, hrh, fun id b hb => ?_, hs⟩
      obtain ⟨b', m1, m2, m3, m4⟩ := headB_lk bx (restR lv vals) σ id b hb
      refine ⟨b', m1, m2, m3, fun hp => m4 ?_⟩
      cases hm2 : memN (idsB bx) id
      · rfl
      · rw [subN_get k3 id hm2] at hp; cases hp
    | _ => exact ⟨ρ', σ', hq, hr2, hpb hg, hs⟩
  | .exit id, pro, Q, ρ, σ, a, w, hr, h => wp_exit ⟨ρ, σ, h, hr, .refl _ _, .refl _ _⟩
  | .ret, pro, Q, ρ, σ, a, w, hr, h => wp_ret ⟨ρ, σ, h, hr, .refl _ _, .refl _ _⟩
/-- The results. -/
def vRes (E : Env) (σ : List LB) (w : World) (ρ : SFr) : List ResultVar → List Value → (List Value → Prop) → Prop
  | [], acc, K => K acc
  | .tmp t :: r, acc, K => withV (lk ρ t) fun v => vRes E σ w ρ r (acc ++ [v]) K
  | .cell t T :: r, acc, K => qop E (.load T (.tmp t)) ρ σ w fun s _ => match s with
    | .v v => vRes E σ w ρ r (acc ++ [v]) K
    | _ => False
def tupV : List Value → Value
  | [v] => v
  | l => .tuple l.toArray
def resQ (E : Env) (rs : List ResultVar) (K : Value → World → Prop) : VQ
  | .normal, ρ, σ, w => vRes E σ w ρ rs [] fun vs => K (tupV vs) w
  | .ret, ρ, σ, w => vRes E σ w ρ rs [] fun vs => K (tupV vs) w
  | _, _, _, _ => False
def argR : List Value → Nat → SFr
  | [], _ => []
  | v :: r, k => (k, some (.v v)) :: argR r (k + 1)
theorem lk_argR {t : Nat} {s : SV} : ∀ {args : List Value} {k : Nat}, lk (argR args k) t = some s → ∃ j v, t = k + j ∧ args[j]? = some v ∧ s = .v v
  | v :: r, k, h => by
    unfold argR at h
    rw [lk_cons] at h
    by_cases hk : k = t
    · rw [if_pos hk] at h
      injection h with h
      exact ⟨0, v, hk.symm, rfl, h.symm⟩
    · rw [if_neg hk] at h
      obtain ⟨j, u, h1, h2, h3⟩ := lk_argR h
      exact ⟨j + 1, u, by omega, by simpa using h2, h3⟩
theorem load_ptr {T : TypeId} {v x : Value} {w w' : World} (h : (Instr.loadAt T v).run P w = .ok x w') : (do loadVar T (← asAddr v) : Sem Value).run P w = .ok x w' := by
  unfold Instr.loadAt at h
  cases v with
  | pointer a =>
    cases a with
    | some a => exact h
    | none => cases h
  | _ => cases h
theorem vRes_get (hE : EOk P E) {n : Nat} {ρ : SFr} {σ : List LB} {a : Act} {w : World} (hr : Rep n ρ σ a w) : ∀ {rs : List ResultVar} {acc : List Value} {K : List Value → Prop}, vRes E σ w ρ rs acc K →
    ∃ vs, K (acc ++ vs) ∧ (rs.mapM fun (r : ResultVar) => match r with
      | .tmp t => (pure (a.tmps.getD t undef) : Sem Value)
      | .cell p T => do loadVar T (← asAddr (a.tmps.getD p undef))).run P w = .ok vs w
  | [], acc, K, h => ⟨[], by rw [List.append_nil]; exact h, by simp⟩
  | .tmp t :: r, acc, K, h => by
    obtain ⟨v, hv, h⟩ := withV_lk (show withV (lk ρ t) _ from h)
    obtain ⟨x, hx1, hx2⟩ := hr.slots t _ hv
    cases hx1
    obtain ⟨vs, h1, h2⟩ := vRes_get hE hr h
    refine ⟨v :: vs, by rw [List.append_assoc] at h1; exact h1, ?_⟩
    have hv2 : a.tmps.getD t undef = v := by simp [Array.getD_eq_getD_getElem?, hx2]
    rw [List.mapM_cons]
    simp only [Sem.run_bind, hv2, Sem.run_pure, Result.andThen_ok]
    rw [h2]
    rfl
  | .cell t T :: r, acc, K, h => by
    obtain ⟨s, f, x, hk, hden, hf, hrun, _⟩ := qop_sound (P := P) (o := { dst := none, op := .load T (.tmp t), type := 0, pos := "", after := #[], guard := none }) hE hr (show qop E (.load T (.tmp t)) ρ σ w _ from h)
    cases s with
    | box _ _ => exact hk.elim
    | v v =>
      cases hden
      obtain ⟨vs, h1, h2⟩ := vRes_get hE hr (show vRes E σ w ρ r (acc ++ [x]) K from hk)
      refine ⟨x :: vs, by rw [List.append_assoc] at h1; exact h1, ?_⟩
      have hl : (Instr.loadAt T (a.tmps.getD t undef)).run P w = .ok x w := by
        have := hrun w hf
        simp only [execOp, Sem.run_bind, Act.eval] at this
        cases hq : (Instr.loadAt T (a.tmps.getD t undef)).run P w with
        | ok y w' => rw [hq] at this; simp only [Result.andThen_ok, Sem.run_pure] at this; injection this with h1 h2; injection h1 with h1; rw [h1, h2]
        | halt _ _ => rw [hq] at this; cases this
      have := load_ptr hl
      rw [List.mapM_cons]
      simp only [Sem.run_bind] at this ⊢
      rw [this]
      simp only [Result.andThen_ok]
      rw [h2]
      rfl
/-- The function: its condition is enough. -/
theorem calls_of_vc (hE : EOk P E) {f : FuncId} {fn : Func} {c : Code} (hf : P.funcs[f]? = some fn) (hb : fn.body = some c) (ac : AC) (hc : ac.erase = c) (nt : Nat) (hnt : fn.ntmps = nt) (rs : List ResultVar) (hrs : fn.results.toList = rs) (pro : List Nat)
    (args : List Value) (hn : Nat.ble args.length nt = true) (w : World) (K : Value → World → Prop) (h : vc P E nt ac pro (resQ E rs K) (argR args 0) [] w) : Calls P f args.toArray w fun e w' => ∃ v, e = .returned v ∧ K v w' := by
  have hn := Nat.le_of_ble_eq_true hn
  subst hnt; subst hrs; subst hc
  refine calls_of_wp hf hb ?_
  have hr : Rep fn.ntmps (argR args 0) [] { tmps := args.toArray ++ Array.replicate (fn.ntmps - args.toArray.size) undef, defers := [] } w := by
    refine ⟨by simp; omega, rfl, fun t s hl => ?_, (fun b hb => by cases hb), List.nodup_nil, List.nodup_nil⟩
    obtain ⟨j, v, h1, h2, rfl⟩ := lk_argR hl
    refine ⟨v, rfl, ?_⟩
    have hj : j < args.length := (List.getElem?_eq_some_iff.1 h2).1
    rw [h1, Nat.zero_add, Array.getElem?_append_left (by simpa using hj)]
    simpa using h2
  refine wp_mono (vc_sound hE ac pro _ _ _ _ w hr h) fun e a' w' ho => ?_
  obtain ⟨ρ', σ', hq, hr2, _, _⟩ := ho
  have fin : (vRes E σ' w' ρ' fn.results.toList [] fun vs => K (tupV vs) w') → a'.defers = [] ∧ ∃ v, (results fn a'.tmps).run P w' = .ok v w' ∧ ∃ v', Ending.returned v = .returned v' ∧ K v' w' := fun hq => by
    obtain ⟨vs, h1, h2⟩ := vRes_get hE hr2 hq
    rw [List.nil_append] at h1
    refine ⟨hr2.defs, tupV vs, ?_, tupV vs, rfl, h1⟩
    have e : (results fn a'.tmps).run P w' = (((fn.results.toList.mapM fun (r : ResultVar) => match r with
      | .tmp t => (pure (a'.tmps.getD t undef) : Sem Value)
      | .cell p T => do loadVar T (← asAddr (a'.tmps.getD p undef))).run P w').andThen fun a w' => Result.ok a.toArray w').andThen fun a w' => .ok (if h : a.size = 1 then a[0] else .tuple a) w' := by
      unfold results
      rw [Sem.run_bind, Array.mapM_eq_mapM_toList, Sem.run_map]
      rfl
    rw [e, h2]
    simp only [Result.andThen_ok]
    congr 1
    cases vs with
    | nil => rfl
    | cons v r => cases r <;> rfl
  cases e with
  | normal => exact fin hq
  | ret => exact fin hq
  | _ => exact hq.elim
end Go.Proofs.Ytbcafgglgjhckaa
end
section
/- Notes on code: which loops and cuts carry what, and how a drawn region goes in phases; the code itself is taken from where it stands. No program in sight. -/
namespace Go.Proofs.Ytbcafgglgjhckaa
open Go.RowKit
variable {P : Program} {E : Env}
structure HeadN where
  lv : LSl
  bx : LBx
  wr : List Nat
  pb : List Nat
structure DrawN where
  B : List Nat
  L : List Nat
  Qs : List Nat
/-- Keys: a drawn region's number; of a loop, the number of the first region in it; of a cut, that of the first region in what it goes round, and which kind of node that is (0: a region, 1: a branch, 2: a block). -/
structure Notes where
  draws : List (Nat × DrawN)
  loops : List (Nat × HeadN)
  cuts : List ((Nat × Nat) × HeadN)
def lkD : List (Nat × DrawN) → Nat → Option DrawN
  | [], _ => none
  | p :: r, n => cond (Nat.beq p.1 n) (some p.2) (lkD r n)
def lkH : List (Nat × HeadN) → Nat → Option HeadN
  | [], _ => none
  | p :: r, n => cond (Nat.beq p.1 n) (some p.2) (lkH r n)
def lkC : List ((Nat × Nat) × HeadN) → Nat → Nat → Option HeadN
  | [], _, _ => none
  | p :: r, k, n => cond (Nat.beq p.1.1 k) (cond (Nat.beq p.1.2 n) (some p.2) (lkC r k n)) (lkC r k n)
def firstR : Code → Option Nat
  | .region id _ _ => some id
  | .seq a b => match firstR a with
    | some n => some n
    | none => firstR b
  | .cond _ a b => match firstR a with
    | some n => some n
    | none => firstR b
  | .block _ a => firstR a
  | .loop a => firstR a
  | _ => none
def putCut (N : Notes) (k : Nat) (n : Option Nat) (a : AC) : AC := match n with
  | some n => match lkC N.cuts k n with
    | some h => .cut h.lv h.bx h.wr h.pb a
    | none => a
  | none => a
def mkAC (N : Notes) : Code → AC
  | .skip => .skip
  | .region id ops d => putCut N 0 (some id) (cond d (match lkD N.draws id with | some n => .regD id ops n.B n.L n.Qs | none => .skip) (.reg id ops))
  | .seq a b => .seq (mkAC N a) (mkAC N b)
  | .cond c a b => putCut N 1 (match firstR a with | some n => some n | none => firstR b) (.cond c (mkAC N a) (mkAC N b))
  | .block id a => putCut N 2 (firstR a) (.block id (mkAC N a))
  | .loop a => match firstR a with
    | some n => match lkH N.loops n with
      | some h => .loop h.lv h.bx h.wr h.pb (mkAC N a)
      | none => .skip
    | none => .skip
  | .exit id => .exit id
  | .ret => .ret
  | _ => .skip
def okC (N : Notes) : Code → Bool
  | .skip => true
  | .region id _ d => cond d (match lkD N.draws id with | some _ => true | none => false) true
  | .seq a b => okC N a && okC N b
  | .cond _ a b => okC N a && okC N b
  | .block _ a => okC N a
  | .loop a => match firstR a with
    | some n => match lkH N.loops n with
      | some _ => okC N a
      | none => false
    | none => false
  | .exit _ => true
  | .ret => true
  | _ => false
theorem erase_cut (N : Notes) (k : Nat) (n : Option Nat) (a : AC) : (putCut N k n a).erase = a.erase := by
  unfold putCut
  split
  · split <;> rfl
  · rfl
theorem erase_mk (N : Notes) : ∀ (c : Code), okC N c = true → (mkAC N c).erase = c
  | .skip, _ => rfl
  | .region id ops d, h => by
    unfold mkAC
    rw [erase_cut]
    cases d
    · rfl
    · unfold okC at h
      simp only [cond_true] at h ⊢
      split at h
      · rfl
      · cases h
  | .seq a b, h => by
    unfold okC at h
    rw [Bool.and_eq_true] at h
    unfold mkAC AC.erase
    rw [erase_mk N a h.1, erase_mk N b h.2]
  | .cond c a b, h => by
    unfold okC at h
    rw [Bool.and_eq_true] at h
    unfold mkAC
    rw [erase_cut]
    unfold AC.erase
    rw [erase_mk N a h.1, erase_mk N b h.2]
  | .block id a, h => by
    unfold okC at h
    unfold mkAC
    rw [erase_cut]
    unfold AC.erase
    rw [erase_mk N a h]
  | .loop a, h => by
    unfold okC at h
    unfold mkAC
    split at h
    · split at h
      · unfold AC.erase
        rw [erase_mk N a h]
      · cases h
    · cases h
  | .exit _, _ => rfl
  | .ret, _ => rfl
  | .rangeFunc .., h => by cases h
  | .scope .., h => by cases h
  | .label .., h => by cases h
  | .goto .., h => by cases h
  | .refuse .., h => by cases h
/-- The condition of a function, off its own text. -/
def fvc (P : Program) (E : Env) (fn : Func) (N : Notes) (pro : List Nat) (args : List Value) (w : World) (K : Value → World → Prop) : Prop :=
  match fn.body with
  | some c => cond (okC N c) (cond (Nat.ble args.length fn.ntmps) (vc P E fn.ntmps (mkAC N c) pro (resQ E fn.results.toList K) (argR args 0) [] w) False) False
  | none => False
theorem calls_of_fvc (hE : EOk P E) {f : FuncId} {fn : Func} (hf : P.funcs[f]? = some fn) (N : Notes) (pro : List Nat) (args : List Value) (w : World) (K : Value → World → Prop) (h : fvc P E fn N pro args w K) : Calls P f args.toArray w fun e w' => ∃ v, e = .returned v ∧ K v w' := by
  unfold fvc at h
  split at h
  · rename_i c hb
    obtain ⟨hok, h⟩ := cond_get h
    obtain ⟨hn, h⟩ := cond_get h
    exact calls_of_vc hE hf hb (mkAC N c) (erase_mk N c hok) fn.ntmps rfl fn.results.toList rfl pro args hn w K h
  · exact h.elim
theorem use_vc {A B : Prop} (h : A) (e : A = B) : B := e ▸ h
theorem tyok {t : TypeId} {i : TI} (h1 : (P.underlying t).map tkOf = some i.k) (h2 : (P.info? t).map (fun x => (x.size, x.zero, x.bytes)) = some (i.size, some i.zero, i.bytes)) : TyOk P t i := ⟨h1, h2⟩
theorem fnok {f : FuncId} {fn : Func} (hf : P.funcs[f]? = some fn) (h1 : (fn.name == "runtime.NumGoroutine") = false) (h2 : fn.body.isNone = false) : FnOk P f := fun args w => by
  unfold callFunc
  simp only [Sem.run_bind]
  show (Sem.run P _ w) = _
  simp [hf, h1, h2]
end Go.Proofs.Ytbcafgglgjhckaa
end
section
/- Conditions of functions, printed by a program of this claim's own (vcgen.py) out of the loaded code; each is proved to be enough. -/
set_option maxRecDepth 100000
namespace Go.Proofs.Ytbcafgglgjhckaa
open Go.RowKit
namespace GRh
def env : Env := ⟨[(3, ⟨.int .i64, 1, .int .i64 0, 8, [.int .i64]⟩), (4, ⟨.bool, 1, .bool false, 1, [.bool]⟩), (22, ⟨.arr 4 3, 4, .agg #[.int .i64 0, .int .i64 0, .int .i64 0, .int .i64 0], 32, [.int .i64, .int .i64, .int .i64, .int .i64]⟩), (24, ⟨.struct [(0, 22)], 4, .agg #[.int .i64 0, .int .i64 0, .int .i64 0, .int .i64 0], 32, [.int .i64, .int .i64, .int .i64, .int .i64]⟩), (31, ⟨.int .u64, 1, .int .u64 0, 8, [.int .u64]⟩), (34, ⟨.flt .f64, 1, .float .f64 0, 8, [.flt]⟩), (45, ⟨.arr 2 3, 2, .agg #[.int .i64 0, .int .i64 0], 16, [.int .i64, .int .i64]⟩)], [(7, [.agg [.int .i64, .int .i64, .int .i64, .int .i64], .lf (.int .i64)]), (8, [.agg [.int .i64, .int .i64, .int .i64, .int .i64], .lf (.int .i64)]), (9, [.lf (.bool)]), (10, [.lf (.cpx)]), (11, [.lf (.int .i64), .lf (.int .i64)]), (12, [.lf (.int .i64), .lf (.bool)]), (13, [.lf (.int .i64), .lf (.bool)]), (14, [.lf (.int .i64), .lf (.bool)]), (15, [.lf (.int .i64), .lf (.bool)]), (16, [.lf (.bool)]), (17, [.lf (.int .i64)]), (18, [.agg [.int .i64, .int .i64, .int .i64, .int .i64]]), (19, [.lf (.int .i64), .lf (.int .i64)]), (20, [.agg [.int .i64, .int .i64, .int .i64, .int .i64], .lf (.int .i64)]), (21, [.lf (.bool)]), (22, [.lf (.flt)]), (23, [.lf (.int .i64)]), (24, [.lf (.int .i64), .lf (.bool)]), (25, [.lf (.int .i64), .lf (.bool)]), (26, [.lf (.int .i64), .lf (.bool)]), (27, [.agg [.int .u64, .int .u64, .int .u64, .int .u64, .int .u64, .int .u64, .int .u64, .int .u64, .int .u64, .int .u64, .bool]]), (28, [.agg [.int .u64, .int .u64, .int .u64, .int .u64, .int .u64, .int .u64, .int .u64, .int .u64, .int .u64, .int .u64, .bool]]), (29, [.agg [.int .u64, .int .u64, .int .u64, .int .u64, .int .u64, .int .u64, .int .u64, .int .u64, .int .u64, .int .u64, .bool]]), (30, [.lf (.int .i64), .lf (.bool)]), (31, [.lf (.int .i64), .lf (.bool)])], [22, 24]⟩
theorem ty3 : TyOk Try.prog 3 ⟨.int .i64, 1, .int .i64 0, 8, [.int .i64]⟩ := tyok (by kernel_rfl) (by kernel_rfl)
theorem ty4 : TyOk Try.prog 4 ⟨.bool, 1, .bool false, 1, [.bool]⟩ := tyok (by kernel_rfl) (by kernel_rfl)
theorem ty22 : TyOk Try.prog 22 ⟨.arr 4 3, 4, .agg #[.int .i64 0, .int .i64 0, .int .i64 0, .int .i64 0], 32, [.int .i64, .int .i64, .int .i64, .int .i64]⟩ := tyok (by kernel_rfl) (by kernel_rfl)
theorem ty24 : TyOk Try.prog 24 ⟨.struct [(0, 22)], 4, .agg #[.int .i64 0, .int .i64 0, .int .i64 0, .int .i64 0], 32, [.int .i64, .int .i64, .int .i64, .int .i64]⟩ := tyok (by kernel_rfl) (by kernel_rfl)
theorem ty31 : TyOk Try.prog 31 ⟨.int .u64, 1, .int .u64 0, 8, [.int .u64]⟩ := tyok (by kernel_rfl) (by kernel_rfl)
theorem ty34 : TyOk Try.prog 34 ⟨.flt .f64, 1, .float .f64 0, 8, [.flt]⟩ := tyok (by kernel_rfl) (by kernel_rfl)
theorem ty45 : TyOk Try.prog 45 ⟨.arr 2 3, 2, .agg #[.int .i64 0, .int .i64 0], 16, [.int .i64, .int .i64]⟩ := tyok (by kernel_rfl) (by kernel_rfl)
theorem fn7 : FnOk Try.prog 7 := fnok Try.func7 (by kernel_rfl) (by kernel_rfl)
theorem fn8 : FnOk Try.prog 8 := fnok Try.func8 (by kernel_rfl) (by kernel_rfl)
theorem fn9 : FnOk Try.prog 9 := fnok Try.func9 (by kernel_rfl) (by kernel_rfl)
theorem fn10 : FnOk Try.prog 10 := fnok Try.func10 (by kernel_rfl) (by kernel_rfl)
theorem fn11 : FnOk Try.prog 11 := fnok Try.func11 (by kernel_rfl) (by kernel_rfl)
theorem fn12 : FnOk Try.prog 12 := fnok Try.func12 (by kernel_rfl) (by kernel_rfl)
theorem fn13 : FnOk Try.prog 13 := fnok Try.func13 (by kernel_rfl) (by kernel_rfl)
theorem fn14 : FnOk Try.prog 14 := fnok Try.func14 (by kernel_rfl) (by kernel_rfl)
theorem fn15 : FnOk Try.prog 15 := fnok Try.func15 (by kernel_rfl) (by kernel_rfl)
theorem fn16 : FnOk Try.prog 16 := fnok Try.func16 (by kernel_rfl) (by kernel_rfl)
theorem fn17 : FnOk Try.prog 17 := fnok Try.func17 (by kernel_rfl) (by kernel_rfl)
theorem fn18 : FnOk Try.prog 18 := fnok Try.func18 (by kernel_rfl) (by kernel_rfl)
theorem fn19 : FnOk Try.prog 19 := fnok Try.func19 (by kernel_rfl) (by kernel_rfl)
theorem fn20 : FnOk Try.prog 20 := fnok Try.func20 (by kernel_rfl) (by kernel_rfl)
theorem fn21 : FnOk Try.prog 21 := fnok Try.func21 (by kernel_rfl) (by kernel_rfl)
theorem fn22 : FnOk Try.prog 22 := fnok Try.func22 (by kernel_rfl) (by kernel_rfl)
theorem fn23 : FnOk Try.prog 23 := fnok Try.func23 (by kernel_rfl) (by kernel_rfl)
theorem fn24 : FnOk Try.prog 24 := fnok Try.func24 (by kernel_rfl) (by kernel_rfl)
theorem fn25 : FnOk Try.prog 25 := fnok Try.func25 (by kernel_rfl) (by kernel_rfl)
theorem fn26 : FnOk Try.prog 26 := fnok Try.func26 (by kernel_rfl) (by kernel_rfl)
theorem fn27 : FnOk Try.prog 27 := fnok Try.func27 (by kernel_rfl) (by kernel_rfl)
theorem fn28 : FnOk Try.prog 28 := fnok Try.func28 (by kernel_rfl) (by kernel_rfl)
theorem fn29 : FnOk Try.prog 29 := fnok Try.func29 (by kernel_rfl) (by kernel_rfl)
theorem fn30 : FnOk Try.prog 30 := fnok Try.func30 (by kernel_rfl) (by kernel_rfl)
theorem fn31 : FnOk Try.prog 31 := fnok Try.func31 (by kernel_rfl) (by kernel_rfl)
theorem eqt22 : EqTy Try.prog 22 := ⟨by kernel_rfl, by kernel_rfl, by kernel_rfl⟩
theorem eqt24 : EqTy Try.prog 24 := ⟨by kernel_rfl, by kernel_rfl, by kernel_rfl⟩
theorem envOk : EOk Try.prog env := ⟨(by simp only [env, List.forall_mem_cons, List.not_mem_nil, false_implies, implies_true, and_true]; exact ⟨ty3, ty4, ty22, ty24, ty31, ty34, ty45⟩), (by simp only [env, List.forall_mem_cons, List.not_mem_nil, false_implies, implies_true, and_true]; exact ⟨fn7, fn8, fn9, fn10, fn11, fn12, fn13, fn14, fn15, fn16, fn17, fn18, fn19, fn20, fn21, fn22, fn23, fn24, fn25, fn26, fn27, fn28, fn29, fn30, fn31⟩), by kernel_rfl, (by simp only [env, List.forall_mem_cons, List.not_mem_nil, false_implies, implies_true, and_true]; exact ⟨eqt22, eqt24⟩)⟩
/-- (purser/rhythm.Rhythm).right -/
def right_vc (x0_0 : Int) (x0_1 : Int) (x0_2 : Int) (x0_3 : Int) (w : World) (K : Value → World → Prop) : Prop :=
  newO w (.cells #[.int .i64 x0_0, .int .i64 x0_1, .int .i64 x0_2, .int .i64 x0_3] 24) fun g w_2 =>
  ∃ (I : Int → World → Prop) (μ : Int → World → Nat),
  I 0 w_2 ∧
  ∀ (x7 : Int) (w_3 : World), I x7 w_3 →
  br (decide (x7 < 4)) (
    (0 : Int) ≤ x7 ∧ x7 < ((4 : Nat) : Int) ∧ ∃ (x9 : Int), ([.int .i64 x0_0, .int .i64 x0_1, .int .i64 x0_2, .int .i64 x0_3] : List Value)[x7.toNat]? = some (.int .i64 x9) ∧
    br (decide (x9 < 0)) (
      K (.bool false) w_3
    ) (
      br (decide (x9 > 1125899906842624)) (
        K (.bool false) w_3
      ) (
        I (IntKind.i64.wrap (x7 + 1)) w_3 ∧ μ (IntKind.i64.wrap (x7 + 1)) w_3 < μ x7 w_3
      )
    )
  ) (
    K (.bool true) w_3
  )
def right_notes : Notes := ⟨[], [(2, ⟨[(7, .lf (.int .i64))], [], [8, 9, 4, 10, 11, 12, 13, 14, 15, 2, 16, 7], []⟩)], []⟩
theorem right_calls (x0_0 : Int) (x0_1 : Int) (x0_2 : Int) (x0_3 : Int) (w : World) (K : Value → World → Prop) (h : right_vc x0_0 x0_1 x0_2 x0_3 w K) : Calls Try.prog 21 #[.agg #[.int .i64 x0_0, .int .i64 x0_1, .int .i64 x0_2, .int .i64 x0_3]] w fun e w' => ∃ v, e = .returned v ∧ K v w' :=
  calls_of_fvc envOk Try.func21 right_notes [1] [.agg #[.int .i64 x0_0, .int .i64 x0_1, .int .i64 x0_2, .int .i64 x0_3]] w K (use_vc h (by as_aux_lemma => kernel_rfl))
/-- purser/rhythm.Quarter -/
def quarter_vc (x0 : Int) (x1 : Int) (w : World) (K : Value → World → Prop) : Prop :=
  br (decide (x0 < 0)) (
    K (.tuple #[.int .i64 0, .int .i64 1]) w
  ) (
    br (decide (x1 < 4)) (
      K (.tuple #[.int .i64 0, .int .i64 1]) w
    ) (
      br (decide (x1 > 1073741824)) (
        K (.tuple #[.int .i64 0, .int .i64 1]) w
      ) (
        (x1 : Int) ≠ 0 ∧
        (x1 : Int) ≠ 0 ∧
        K (.tuple #[.int .i64 (IntKind.i64.wrap (Int.tdiv (IntKind.i64.wrap ((Int.tmod x0 x1) * 4)) x1)), .int .i64 0]) w
      )
    )
  )
def quarter_notes : Notes := ⟨[], [], []⟩
theorem quarter_calls (x0 : Int) (x1 : Int) (w : World) (K : Value → World → Prop) (h : quarter_vc x0 x1 w K) : Calls Try.prog 19 #[.int .i64 x0, .int .i64 x1] w fun e w' => ∃ v, e = .returned v ∧ K v w' :=
  calls_of_fvc envOk Try.func19 quarter_notes [] [.int .i64 x0, .int .i64 x1] w K (use_vc h (by as_aux_lemma => kernel_rfl))
/-- purser/rhythm.Add -/
def radd_vc (x0_0 : Int) (x0_1 : Int) (x0_2 : Int) (x0_3 : Int) (x1 : Int) (x2 : Int) (w : World) (K : Value → World → Prop) : Prop :=
  newO w (.cells #[.int .i64 x0_0, .int .i64 x0_1, .int .i64 x0_2, .int .i64 x0_3] 24) fun g w_2 =>
  newO w_2 (.cells #[.int .i64 0, .int .i64 0, .int .i64 0, .int .i64 0] 24) fun g_2 w_3 =>
  ∃ (x9_0 : Int) (x9_1 : Int) (x9_2 : Int) (x9_3 : Int),
  cellsAt w_3 g 0 [.int .i64 x9_0, .int .i64 x9_1, .int .i64 x9_2, .int .i64 x9_3] ∧
  Calls Try.prog 21 #[.agg #[.int .i64 x9_0, .int .i64 x9_1, .int .i64 x9_2, .int .i64 x9_3]] w_3 fun e w_4 => KeepG [g_2] w_3 w_4 ∧
  ∃ (b10 : Bool),
  e = .returned (.bool b10) ∧
  br (!b10) (
    ∀ w_5 : World, BoxSt g_2 w_4 w_5 →
    K (.tuple #[.agg #[.int .i64 0, .int .i64 0, .int .i64 0, .int .i64 0], .int .i64 1]) w_5
  ) (
    br (decide (x1 < 0)) (
      ∀ w_6 : World, BoxSt g_2 w_4 w_6 →
      K (.tuple #[.agg #[.int .i64 0, .int .i64 0, .int .i64 0, .int .i64 0], .int .i64 1]) w_6
    ) (
      br (decide (x1 ≥ 4)) (
        ∀ w_7 : World, BoxSt g_2 w_4 w_7 →
        K (.tuple #[.agg #[.int .i64 0, .int .i64 0, .int .i64 0, .int .i64 0], .int .i64 1]) w_7
      ) (
        br (decide (x2 < 0)) (
          ∀ w_8 : World, BoxSt g_2 w_4 w_8 →
          K (.tuple #[.agg #[.int .i64 0, .int .i64 0, .int .i64 0, .int .i64 0], .int .i64 1]) w_8
        ) (
          (0 : Int) ≤ x1 ∧ x1 < ((4 : Nat) : Int) ∧
          ∃ (x30 : Int), w_4.cell? ⟨g, 0 + x1.toNat * 1, none⟩ = some (.int .i64 x30) ∧
          br (decide (x2 > (IntKind.i64.wrap (1125899906842624 - x30)))) (
            ∀ w_9 : World, BoxSt g_2 w_4 w_9 →
            K (.tuple #[.agg #[.int .i64 0, .int .i64 0, .int .i64 0, .int .i64 0], .int .i64 6]) w_9
          ) (
            (0 : Int) ≤ x1 ∧ x1 < ((4 : Nat) : Int) ∧
            ∃ (x37 : Int), w_4.cell? ⟨g, 0 + x1.toNat * 1, none⟩ = some (.int .i64 x37) ∧
            (0 : Int) ≤ x1 ∧ x1 < ((4 : Nat) : Int) ∧
            stO [g_2] w_4 g (0 + x1.toNat * 1) [.int .i64 (IntKind.i64.wrap (x37 + x2))] fun w_10 =>
            ∃ (x42_0 : Int) (x42_1 : Int) (x42_2 : Int) (x42_3 : Int),
            cellsAt w_10 g 0 [.int .i64 x42_0, .int .i64 x42_1, .int .i64 x42_2, .int .i64 x42_3] ∧
            ∀ w_11 : World, BoxSt g_2 w_10 w_11 →
            K (.tuple #[.agg #[.int .i64 x42_0, .int .i64 x42_1, .int .i64 x42_2, .int .i64 x42_3], .int .i64 0]) w_11
          )
        )
      )
    )
  )
def radd_notes : Notes := ⟨[], [], []⟩
theorem radd_calls (x0_0 : Int) (x0_1 : Int) (x0_2 : Int) (x0_3 : Int) (x1 : Int) (x2 : Int) (w : World) (K : Value → World → Prop) (h : radd_vc x0_0 x0_1 x0_2 x0_3 x1 x2 w K) : Calls Try.prog 20 #[.agg #[.int .i64 x0_0, .int .i64 x0_1, .int .i64 x0_2, .int .i64 x0_3], .int .i64 x1, .int .i64 x2] w fun e w' => ∃ v, e = .returned v ∧ K v w' :=
  calls_of_fvc envOk Try.func20 radd_notes [6] [.agg #[.int .i64 x0_0, .int .i64 x0_1, .int .i64 x0_2, .int .i64 x0_3], .int .i64 x1, .int .i64 x2] w K (use_vc h (by as_aux_lemma => kernel_rfl))
/-- purser/rhythm.Join -/
def join_vc (x0_0 : Int) (x0_1 : Int) (x0_2 : Int) (x0_3 : Int) (x1_0 : Int) (x1_1 : Int) (x1_2 : Int) (x1_3 : Int) (w : World) (K : Value → World → Prop) : Prop :=
  newO w (.cells #[.int .i64 x0_0, .int .i64 x0_1, .int .i64 x0_2, .int .i64 x0_3] 24) fun g w_2 =>
  newO w_2 (.cells #[.int .i64 x1_0, .int .i64 x1_1, .int .i64 x1_2, .int .i64 x1_3] 24) fun g_2 w_3 =>
  newO w_3 (.cells #[.int .i64 0, .int .i64 0, .int .i64 0, .int .i64 0] 24) fun g_3 w_4 =>
  Calls Try.prog 21 #[.agg #[.int .i64 x1_0, .int .i64 x1_1, .int .i64 x1_2, .int .i64 x1_3]] w_4 fun e w_5 => KeepG [g_3, g_2, g] w_4 w_5 ∧
  ∃ (b10 : Bool),
  e = .returned (.bool b10) ∧
  br (!b10) (
    ∀ w_6 : World, BoxSt g_3 w_5 w_6 →
    K (.tuple #[.agg #[.int .i64 0, .int .i64 0, .int .i64 0, .int .i64 0], .int .i64 1]) w_6
  ) (
    ∃ (I : Int → Int → Int → Int → Int → Int → Int → Int → Int → World → Prop) (μ : Int → Int → Int → Int → Int → Int → Int → Int → Int → World → Nat),
    I 0 0 0 0 0 x0_0 x0_1 x0_2 x0_3 w_5 ∧
    ∀ (x15 : Int) (x4_0 : Int) (x4_1 : Int) (x4_2 : Int) (x4_3 : Int) (x2_0 : Int) (x2_1 : Int) (x2_2 : Int) (x2_3 : Int) (w_7 : World), I x15 x4_0 x4_1 x4_2 x4_3 x2_0 x2_1 x2_2 x2_3 w_7 →
    br (decide (x15 < 4)) (
      (0 : Int) ≤ x15 ∧ x15 < ((4 : Nat) : Int) ∧ ∃ (x18 : Int), ([.int .i64 x1_0, .int .i64 x1_1, .int .i64 x1_2, .int .i64 x1_3] : List Value)[x15.toNat]? = some (.int .i64 x18) ∧
      Calls Try.prog 20 #[.agg #[.int .i64 x2_0, .int .i64 x2_1, .int .i64 x2_2, .int .i64 x2_3], .int .i64 x15, .int .i64 x18] w_7 fun e_2 w_8 => KeepG [g_3, g_2, g] w_7 w_8 ∧
      ∃ (x23_0_0 : Int) (x23_0_1 : Int) (x23_0_2 : Int) (x23_0_3 : Int) (x23_1 : Int),
      e_2 = .returned (.tuple #[.agg #[.int .i64 x23_0_0, .int .i64 x23_0_1, .int .i64 x23_0_2, .int .i64 x23_0_3], .int .i64 x23_1]) ∧
      ∀ w_9 : World, BoxSt g w_8 w_9 →
      br (decide (x23_1 ≠ 0)) (
        ∀ w_10 : World, BoxSt g_3 w_9 w_10 →
        K (.tuple #[.agg #[.int .i64 0, .int .i64 0, .int .i64 0, .int .i64 0], .int .i64 x23_1]) w_10
      ) (
        I (IntKind.i64.wrap (x15 + 1)) x4_0 x4_1 x4_2 x4_3 x23_0_0 x23_0_1 x23_0_2 x23_0_3 w_9 ∧ μ (IntKind.i64.wrap (x15 + 1)) x4_0 x4_1 x4_2 x4_3 x23_0_0 x23_0_1 x23_0_2 x23_0_3 w_9 < μ x15 x4_0 x4_1 x4_2 x4_3 x2_0 x2_1 x2_2 x2_3 w_7
      )
    ) (
      ∀ w_11 : World, BoxSt g_3 w_7 w_11 →
      K (.tuple #[.agg #[.int .i64 x2_0, .int .i64 x2_1, .int .i64 x2_2, .int .i64 x2_3], .int .i64 0]) w_11
    )
  )
def join_notes : Notes := ⟨[], [(4, ⟨[(15, .lf (.int .i64))], [(4, [.int .i64, .int .i64, .int .i64, .int .i64]), (2, [.int .i64, .int .i64, .int .i64, .int .i64])], [16, 17, 18, 6, 7, 8, 20, 21, 22, 23, 19, 24, 25, 26, 27, 28, 29, 5, 30, 15], [4, 2]⟩)], []⟩
theorem join_calls (x0_0 : Int) (x0_1 : Int) (x0_2 : Int) (x0_3 : Int) (x1_0 : Int) (x1_1 : Int) (x1_2 : Int) (x1_3 : Int) (w : World) (K : Value → World → Prop) (h : join_vc x0_0 x0_1 x0_2 x0_3 x1_0 x1_1 x1_2 x1_3 w K) : Calls Try.prog 7 #[.agg #[.int .i64 x0_0, .int .i64 x0_1, .int .i64 x0_2, .int .i64 x0_3], .agg #[.int .i64 x1_0, .int .i64 x1_1, .int .i64 x1_2, .int .i64 x1_3]] w fun e w' => ∃ v, e = .returned v ∧ K v w' :=
  calls_of_fvc envOk Try.func7 join_notes [2, 3, 4] [.agg #[.int .i64 x0_0, .int .i64 x0_1, .int .i64 x0_2, .int .i64 x0_3], .agg #[.int .i64 x1_0, .int .i64 x1_1, .int .i64 x1_2, .int .i64 x1_3]] w K (use_vc h (by as_aux_lemma => kernel_rfl))
/-- purser/rhythm.Turn -/
def turn_vc (x0_0 : Int) (x0_1 : Int) (x0_2 : Int) (x0_3 : Int) (x1 : Int) (w : World) (K : Value → World → Prop) : Prop :=
  newO w (.cells #[.int .i64 x0_0, .int .i64 x0_1, .int .i64 x0_2, .int .i64 x0_3] 24) fun g w_2 =>
  newO w_2 (.cells #[.int .i64 0, .int .i64 0, .int .i64 0, .int .i64 0] 24) fun g_2 w_3 =>
  newO w_3 (.cells #[.int .i64 0, .int .i64 0, .int .i64 0, .int .i64 0] 24) fun g_3 w_4 =>
  ∃ (I : Int → World → Prop) (μ : Int → World → Nat),
  I 0 w_4 ∧
  ∀ (x10 : Int) (w_5 : World), I x10 w_5 →
  br (decide (x10 < 4)) (
    (0 : Int) ≤ x10 ∧ x10 < ((4 : Nat) : Int) ∧ ∃ (x13 : Int), ([.int .i64 x0_0, .int .i64 x0_1, .int .i64 x0_2, .int .i64 x0_3] : List Value)[x10.toNat]? = some (.int .i64 x13) ∧
    (4 : Int) ≠ 0 ∧
    (0 : Int) ≤ Int.tmod (IntKind.u64.wrap ((IntKind.u64.wrap x10) + (IntKind.u64.wrap x1))) 4 ∧ Int.tmod (IntKind.u64.wrap ((IntKind.u64.wrap x10) + (IntKind.u64.wrap x1))) 4 < ((4 : Nat) : Int) ∧
    stO [g_2, g] w_5 g_3 (0 + (Int.tmod (IntKind.u64.wrap ((IntKind.u64.wrap x10) + (IntKind.u64.wrap x1))) 4).toNat * 1) [.int .i64 x13] fun w_6 =>
    I (IntKind.i64.wrap (x10 + 1)) w_6 ∧ μ (IntKind.i64.wrap (x10 + 1)) w_6 < μ x10 w_5
  ) (
    ∃ (x24_0 : Int) (x24_1 : Int) (x24_2 : Int) (x24_3 : Int),
    cellsAt w_5 g_3 0 [.int .i64 x24_0, .int .i64 x24_1, .int .i64 x24_2, .int .i64 x24_3] ∧
    ∀ w_7 : World, BoxSt g_2 w_5 w_7 →
    K (.agg #[.int .i64 x24_0, .int .i64 x24_1, .int .i64 x24_2, .int .i64 x24_3]) w_7
  )
def turn_notes : Notes := ⟨[], [(3, ⟨[(10, .lf (.int .i64))], [], [11, 12, 13, 6, 7, 14, 15, 16, 17, 18, 19, 20, 21, 22, 23, 10], []⟩)], []⟩
theorem turn_calls (x0_0 : Int) (x0_1 : Int) (x0_2 : Int) (x0_3 : Int) (x1 : Int) (w : World) (K : Value → World → Prop) (h : turn_vc x0_0 x0_1 x0_2 x0_3 x1 w K) : Calls Try.prog 18 #[.agg #[.int .i64 x0_0, .int .i64 x0_1, .int .i64 x0_2, .int .i64 x0_3], .int .i64 x1] w fun e w' => ∃ v, e = .returned v ∧ K v w' :=
  calls_of_fvc envOk Try.func18 turn_notes [2, 4] [.agg #[.int .i64 x0_0, .int .i64 x0_1, .int .i64 x0_2, .int .i64 x0_3], .int .i64 x1] w K (use_vc h (by as_aux_lemma => kernel_rfl))
/-- purser/rhythm.Vector -/
def vector_vc (x0_0 : Int) (x0_1 : Int) (x0_2 : Int) (x0_3 : Int) (w : World) (K : Value → World → Prop) : Prop :=
  newO w (.cells #[.int .i64 x0_0, .int .i64 x0_1, .int .i64 x0_2, .int .i64 x0_3] 24) fun g w_2 =>
  Calls Try.prog 21 #[.agg #[.int .i64 x0_0, .int .i64 x0_1, .int .i64 x0_2, .int .i64 x0_3]] w_2 fun e w_3 => KeepG [g] w_2 w_3 ∧
  ∃ (b8 : Bool),
  e = .returned (.bool b8) ∧
  br (!b8) (
    K (.complex .f64 0 0) w_3
  ) (
    ∃ (I : Nat → Nat → Nat → Nat → Int → World → Prop) (μ : Nat → Nat → Nat → Nat → Int → World → Nat),
    I 0 0 4607182418800017408 0 0 w_3 ∧
    ∀ (cr3 : Nat) (ci3 : Nat) (cr4 : Nat) (ci4 : Nat) (x12 : Int) (w_4 : World), I cr3 ci3 cr4 ci4 x12 w_4 →
    br (decide (x12 < 4)) (
      (0 : Int) ≤ x12 ∧ x12 < ((4 : Nat) : Int) ∧ ∃ (x14 : Int), ([.int .i64 x0_0, .int .i64 x0_1, .int .i64 x0_2, .int .i64 x0_3] : List Value)[x12.toNat]? = some (.int .i64 x14) ∧
      ∃ (cr : Nat) (ci : Nat), cMulBits (floatOfInt .f64 x14) 0 cr4 ci4 = some (cr, ci) ∧
      ∃ (cr_2 : Nat) (ci_2 : Nat), cSumBits .add .f64 cr3 ci3 cr ci = some (cr_2, ci_2) ∧
      ∃ (cr_3 : Nat) (ci_3 : Nat), cMulBits cr4 ci4 0 4607182418800017408 = some (cr_3, ci_3) ∧
      I cr_2 ci_2 cr_3 ci_3 (IntKind.i64.wrap (x12 + 1)) w_4 ∧ μ cr_2 ci_2 cr_3 ci_3 (IntKind.i64.wrap (x12 + 1)) w_4 < μ cr3 ci3 cr4 ci4 x12 w_4
    ) (
      K (.complex .f64 cr3 ci3) w_4
    )
  )
def vector_notes : Notes := ⟨[], [(6, ⟨[(3, .lf (.cpx)), (4, .lf (.cpx)), (12, .lf (.int .i64))], [], [13, 14, 6, 15, 16, 17, 18, 19, 20, 21, 3, 22, 23, 4, 24, 12], []⟩)], []⟩
theorem vector_calls (x0_0 : Int) (x0_1 : Int) (x0_2 : Int) (x0_3 : Int) (w : World) (K : Value → World → Prop) (h : vector_vc x0_0 x0_1 x0_2 x0_3 w K) : Calls Try.prog 10 #[.agg #[.int .i64 x0_0, .int .i64 x0_1, .int .i64 x0_2, .int .i64 x0_3]] w fun e w' => ∃ v, e = .returned v ∧ K v w' :=
  calls_of_fvc envOk Try.func10 vector_notes [1] [.agg #[.int .i64 x0_0, .int .i64 x0_1, .int .i64 x0_2, .int .i64 x0_3]] w K (use_vc h (by as_aux_lemma => kernel_rfl))
/-- purser/rhythm.size -/
def rsize_vc (fb0 : Nat) (w : World) (K : Value → World → Prop) : Prop :=
  br (ordF fb0 0 == some .lt) (
    K (.float .f64 (Op.negFloat .f64 fb0)) w
  ) (
    K (.float .f64 fb0) w
  )
def rsize_notes : Notes := ⟨[], [], []⟩
theorem rsize_calls (fb0 : Nat) (w : World) (K : Value → World → Prop) (h : rsize_vc fb0 w K) : Calls Try.prog 22 #[.float .f64 fb0] w fun e w' => ∃ v, e = .returned v ∧ K v w' :=
  calls_of_fvc envOk Try.func22 rsize_notes [] [.float .f64 fb0] w K (use_vc h (by as_aux_lemma => kernel_rfl))
/-- purser/rhythm.Peak -/
def peak_vc (x0_0 : Int) (x0_1 : Int) (x0_2 : Int) (x0_3 : Int) (w : World) (K : Value → World → Prop) : Prop :=
  newO w (.cells #[.int .i64 x0_0, .int .i64 x0_1, .int .i64 x0_2, .int .i64 x0_3] 24) fun g w_2 =>
  Calls Try.prog 10 #[.agg #[.int .i64 x0_0, .int .i64 x0_1, .int .i64 x0_2, .int .i64 x0_3]] w_2 fun e w_3 => KeepG [g] w_2 w_3 ∧
  ∃ (cr9 : Nat) (ci9 : Nat),
  e = .returned (.complex .f64 cr9 ci9) ∧
  Calls Try.prog 22 #[.float .f64 cr9] w_3 fun e_2 w_4 => KeepG [g] w_3 w_4 ∧
  ∃ (fb15 : Nat),
  e_2 = .returned (.float .f64 fb15) ∧
  Calls Try.prog 22 #[.float .f64 ci9] w_4 fun e_3 w_5 => KeepG [g] w_4 w_5 ∧
  ∃ (fb17 : Nat),
  e_3 = .returned (.float .f64 fb17) ∧
  br ((ordF cr9 0 == some .eq) && (ordF ci9 0 == some .eq)) (
    K (.tuple #[.int .i64 0, .bool false]) w_5
  ) (
    br (ordF fb15 fb17 == some .gt || ordF fb15 fb17 == some .eq) (
      br (ordF cr9 0 == some .gt) (
        K (.tuple #[.int .i64 0, .bool true]) w_5
      ) (
        br (ordF fb15 fb17 == some .gt || ordF fb15 fb17 == some .eq) (
          K (.tuple #[.int .i64 2, .bool true]) w_5
        ) (
          br (ordF ci9 0 == some .gt) (
            K (.tuple #[.int .i64 1, .bool true]) w_5
          ) (
            K (.tuple #[.int .i64 3, .bool true]) w_5
          )
        )
      )
    ) (
      br (ordF fb15 fb17 == some .gt || ordF fb15 fb17 == some .eq) (
        K (.tuple #[.int .i64 2, .bool true]) w_5
      ) (
        br (ordF ci9 0 == some .gt) (
          K (.tuple #[.int .i64 1, .bool true]) w_5
        ) (
          K (.tuple #[.int .i64 3, .bool true]) w_5
        )
      )
    )
  )
def peak_notes : Notes := ⟨[], [], []⟩
theorem peak_calls (x0_0 : Int) (x0_1 : Int) (x0_2 : Int) (x0_3 : Int) (w : World) (K : Value → World → Prop) (h : peak_vc x0_0 x0_1 x0_2 x0_3 w K) : Calls Try.prog 12 #[.agg #[.int .i64 x0_0, .int .i64 x0_1, .int .i64 x0_2, .int .i64 x0_3]] w fun e w' => ∃ v, e = .returned v ∧ K v w' :=
  calls_of_fvc envOk Try.func12 peak_notes [1] [.agg #[.int .i64 x0_0, .int .i64 x0_1, .int .i64 x0_2, .int .i64 x0_3]] w K (use_vc h (by as_aux_lemma => kernel_rfl))
/-- purser/rhythm.square -/
def square_vc (fb0 : Nat) (w : World) (K : Value → World → Prop) : Prop :=
  ∃ x5 : Int, floatToIntVal .f64 fb0 .i64 = some x5 ∧
  ∃ x7 : Int, floatToIntVal .f64 fb0 .i64 = some x7 ∧
  Calls Try.prog 31 #[.int .i64 x5, .int .i64 x7] w fun e w_2 => KeepG [] w w_2 ∧
  ∃ (x8_0 : Int) (b8_1 : Bool),
  e = .returned (.tuple #[.int .i64 x8_0, .bool b8_1]) ∧
  K (.tuple #[.int .i64 x8_0, .bool b8_1]) w_2
def square_notes : Notes := ⟨[], [], []⟩
theorem square_calls (fb0 : Nat) (w : World) (K : Value → World → Prop) (h : square_vc fb0 w K) : Calls Try.prog 24 #[.float .f64 fb0] w fun e w' => ∃ v, e = .returned v ∧ K v w' :=
  calls_of_fvc envOk Try.func24 square_notes [] [.float .f64 fb0] w K (use_vc h (by as_aux_lemma => kernel_rfl))
/-- purser/rhythm.Strength -/
def strength_vc (x0_0 : Int) (x0_1 : Int) (x0_2 : Int) (x0_3 : Int) (w : World) (K : Value → World → Prop) : Prop :=
  newO w (.cells #[.int .i64 x0_0, .int .i64 x0_1, .int .i64 x0_2, .int .i64 x0_3] 24) fun g w_2 =>
  Calls Try.prog 21 #[.agg #[.int .i64 x0_0, .int .i64 x0_1, .int .i64 x0_2, .int .i64 x0_3]] w_2 fun e w_3 => KeepG [g] w_2 w_3 ∧
  ∃ (b10 : Bool),
  e = .returned (.bool b10) ∧
  br (!b10) (
    K (.tuple #[.int .i64 0, .bool false]) w_3
  ) (
    Calls Try.prog 10 #[.agg #[.int .i64 x0_0, .int .i64 x0_1, .int .i64 x0_2, .int .i64 x0_3]] w_3 fun e_2 w_4 => KeepG [g] w_3 w_4 ∧
    ∃ (cr13 : Nat) (ci13 : Nat),
    e_2 = .returned (.complex .f64 cr13 ci13) ∧
    Calls Try.prog 24 #[.float .f64 cr13] w_4 fun e_3 w_5 => KeepG [g] w_4 w_5 ∧
    ∃ (x17_0 : Int) (b17_1 : Bool),
    e_3 = .returned (.tuple #[.int .i64 x17_0, .bool b17_1]) ∧
    Calls Try.prog 24 #[.float .f64 ci13] w_5 fun e_4 w_6 => KeepG [g] w_5 w_6 ∧
    ∃ (x23_0 : Int) (b23_1 : Bool),
    e_4 = .returned (.tuple #[.int .i64 x23_0, .bool b23_1]) ∧
    br (!b17_1) (
      K (.tuple #[.int .i64 0, .bool false]) w_6
    ) (
      br (!b23_1) (
        K (.tuple #[.int .i64 0, .bool false]) w_6
      ) (
        Calls Try.prog 25 #[.int .i64 x17_0, .int .i64 x23_0] w_6 fun e_5 w_7 => KeepG [g] w_6 w_7 ∧
        ∃ (x34_0 : Int) (b34_1 : Bool),
        e_5 = .returned (.tuple #[.int .i64 x34_0, .bool b34_1]) ∧
        K (.tuple #[.int .i64 x34_0, .bool b34_1]) w_7
      )
    )
  )
def strength_notes : Notes := ⟨[], [], []⟩
theorem strength_calls (x0_0 : Int) (x0_1 : Int) (x0_2 : Int) (x0_3 : Int) (w : World) (K : Value → World → Prop) (h : strength_vc x0_0 x0_1 x0_2 x0_3 w K) : Calls Try.prog 14 #[.agg #[.int .i64 x0_0, .int .i64 x0_1, .int .i64 x0_2, .int .i64 x0_3]] w fun e w' => ∃ v, e = .returned v ∧ K v w' :=
  calls_of_fvc envOk Try.func14 strength_notes [1] [.agg #[.int .i64 x0_0, .int .i64 x0_1, .int .i64 x0_2, .int .i64 x0_3]] w K (use_vc h (by as_aux_lemma => kernel_rfl))
/-- purser/rhythm.Total -/
def total_vc (x0_0 : Int) (x0_1 : Int) (x0_2 : Int) (x0_3 : Int) (w : World) (K : Value → World → Prop) : Prop :=
  newO w (.cells #[.int .i64 x0_0, .int .i64 x0_1, .int .i64 x0_2, .int .i64 x0_3] 24) fun g w_2 =>
  ∃ (x5_0 : Int) (x5_1 : Int) (x5_2 : Int) (x5_3 : Int),
  cellsAt w_2 g 0 [.int .i64 x5_0, .int .i64 x5_1, .int .i64 x5_2, .int .i64 x5_3] ∧
  Calls Try.prog 21 #[.agg #[.int .i64 x5_0, .int .i64 x5_1, .int .i64 x5_2, .int .i64 x5_3]] w_2 fun e w_3 => KeepG [] w_2 w_3 ∧
  ∃ (b6 : Bool),
  e = .returned (.bool b6) ∧
  br (!b6) (
    K (.int .i64 0) w_3
  ) (
    Calls Try.prog 30 #[.slice (some ⟨g, 0, none⟩) 4 4] w_3 fun e_2 w_4 => KeepG [] w_3 w_4 ∧
    ∃ (x11_0 : Int) (b11_1 : Bool),
    e_2 = .returned (.tuple #[.int .i64 x11_0, .bool b11_1]) ∧
    K (.int .i64 x11_0) w_4
  )
def total_notes : Notes := ⟨[], [], []⟩
theorem total_calls (x0_0 : Int) (x0_1 : Int) (x0_2 : Int) (x0_3 : Int) (w : World) (K : Value → World → Prop) (h : total_vc x0_0 x0_1 x0_2 x0_3 w K) : Calls Try.prog 17 #[.agg #[.int .i64 x0_0, .int .i64 x0_1, .int .i64 x0_2, .int .i64 x0_3]] w fun e w' => ∃ v, e = .returned v ∧ K v w' :=
  calls_of_fvc envOk Try.func17 total_notes [] [.agg #[.int .i64 x0_0, .int .i64 x0_1, .int .i64 x0_2, .int .i64 x0_3]] w K (use_vc h (by as_aux_lemma => kernel_rfl))
/-- purser/purserlaw12.beats -/
def beats_vc  (w : World) (K : Value → World → Prop) : Prop :=
  newO w (.cells #[.int .i64 0, .int .i64 0, .int .i64 0, .int .i64 0] 24) fun g w_2 =>
  ∀ w_3 : World, BoxSt g w_2 w_3 →
  Calls Try.prog 12 #[.agg #[.int .i64 0, .int .i64 5, .int .i64 0, .int .i64 2]] w_3 fun e w_4 => KeepG [g] w_3 w_4 ∧
  ∃ (x10_0 : Int) (b10_1 : Bool),
  e = .returned (.tuple #[.int .i64 x10_0, .bool b10_1]) ∧
  Calls Try.prog 14 #[.agg #[.int .i64 0, .int .i64 5, .int .i64 0, .int .i64 2]] w_4 fun e_2 w_5 => KeepG [g] w_4 w_5 ∧
  ∃ (x15_0 : Int) (b15_1 : Bool),
  e_2 = .returned (.tuple #[.int .i64 x15_0, .bool b15_1]) ∧
  Calls Try.prog 10 #[.agg #[.int .i64 0, .int .i64 5, .int .i64 0, .int .i64 2]] w_5 fun e_3 w_6 => KeepG [g] w_5 w_6 ∧
  ∃ (cr19 : Nat) (ci19 : Nat),
  e_3 = .returned (.complex .f64 cr19 ci19) ∧
  br ((ordF cr19 0 == some .eq) && (ordF ci19 4613937818241073152 == some .eq)) (
    br b10_1 (
      br (decide (x10_0 = 1)) (
        br b15_1 (
          K (.bool (decide (x15_0 = 9))) w_6
        ) (
          K (.bool false) w_6
        )
      ) (
        K (.bool false) w_6
      )
    ) (
      K (.bool false) w_6
    )
  ) (
    K (.bool false) w_6
  )
def beats_notes : Notes := ⟨[], [], []⟩
theorem beats_calls  (w : World) (K : Value → World → Prop) (h : beats_vc  w K) : Calls Try.prog 9 #[] w fun e w' => ∃ v, e = .returned v ∧ K v w' :=
  calls_of_fvc envOk Try.func9 beats_notes [1] [] w K (use_vc h (by as_aux_lemma => kernel_rfl))
/-- purser/purserlaw12.RhythmAdds -/
def ladds_k1 (K : Value → World → Prop) (x2 : Int) (g : Nat) (g_2 : Nat) (x12_0 : Int) (x12_1 : Int) (x12_2 : Int) (x12_3 : Int) (g_3 : Nat) (x8 : Int) (w_8 : World) : Prop :=
  Calls Try.prog 20 #[.agg #[.int .i64 x12_0, .int .i64 x12_1, .int .i64 x12_2, .int .i64 x12_3], .int .i64 x8, .int .i64 x2] w_8 fun e_3 w_9 => KeepG [g_3, g_2] w_8 w_9 ∧
  ∃ (x72_0_0 : Int) (x72_0_1 : Int) (x72_0_2 : Int) (x72_0_3 : Int) (x72_1 : Int),
  e_3 = .returned (.tuple #[.agg #[.int .i64 x72_0_0, .int .i64 x72_0_1, .int .i64 x72_0_2, .int .i64 x72_0_3], .int .i64 x72_1]) ∧
  newO w_9 (.cells #[.int .i64 0, .int .i64 0, .int .i64 0, .int .i64 0] 24) fun g_4 w_10 =>
  ∀ w_11 : World, BoxSt g_4 w_10 w_11 →
  ∃ (x75_0 : Int) (x75_1 : Int) (x75_2 : Int) (x75_3 : Int),
  cellsAt w_11 g 0 [.int .i64 x75_0, .int .i64 x75_1, .int .i64 x75_2, .int .i64 x75_3] ∧
  Calls Try.prog 16 #[.agg #[.int .i64 x75_0, .int .i64 x75_1, .int .i64 x75_2, .int .i64 x75_3]] w_11 fun e_4 w_12 => KeepG [g_4, g_3, g_2] w_11 w_12 ∧
  ∃ (b76 : Bool),
  e_4 = .returned (.bool b76) ∧
  br (!b76) (
    br (decide (x72_1 = 1)) (
      K (.bool (((decide (x72_0_0 = 0)) && ((decide (x72_0_1 = 0)) && ((decide (x72_0_2 = 0)) && ((decide (x72_0_3 = 0)) && true)))) && true)) w_12
    ) (
      K (.bool false) w_12
    )
  ) (
    br (decide (x8 < 0)) (
      br (decide (x72_1 = 1)) (
        K (.bool (((decide (x72_0_0 = 0)) && ((decide (x72_0_1 = 0)) && ((decide (x72_0_2 = 0)) && ((decide (x72_0_3 = 0)) && true)))) && true)) w_12
      ) (
        K (.bool false) w_12
      )
    ) (
      br (decide (x8 > 3)) (
        br (decide (x72_1 = 1)) (
          K (.bool (((decide (x72_0_0 = 0)) && ((decide (x72_0_1 = 0)) && ((decide (x72_0_2 = 0)) && ((decide (x72_0_3 = 0)) && true)))) && true)) w_12
        ) (
          K (.bool false) w_12
        )
      ) (
        br (decide (x2 < 0)) (
          br (decide (x72_1 = 1)) (
            K (.bool (((decide (x72_0_0 = 0)) && ((decide (x72_0_1 = 0)) && ((decide (x72_0_2 = 0)) && ((decide (x72_0_3 = 0)) && true)))) && true)) w_12
          ) (
            K (.bool false) w_12
          )
        ) (
          (0 : Int) ≤ x8 ∧ x8 < ((4 : Nat) : Int) ∧
          ∃ (x100 : Int), w_12.cell? ⟨g, 0 + x8.toNat * 1, none⟩ = some (.int .i64 x100) ∧
          br (decide (x2 > (IntKind.i64.wrap (1125899906842624 - x100)))) (
            br (decide (x72_1 = 6)) (
              K (.bool (((decide (x72_0_0 = 0)) && ((decide (x72_0_1 = 0)) && ((decide (x72_0_2 = 0)) && ((decide (x72_0_3 = 0)) && true)))) && true)) w_12
            ) (
              K (.bool false) w_12
            )
          ) (
            (0 : Int) ≤ x8 ∧ x8 < ((4 : Nat) : Int) ∧
            ∃ (x113 : Int), w_12.cell? ⟨g, 0 + x8.toNat * 1, none⟩ = some (.int .i64 x113) ∧
            (0 : Int) ≤ x8 ∧ x8 < ((4 : Nat) : Int) ∧
            stO [g_4, g_3, g_2] w_12 g (0 + x8.toNat * 1) [.int .i64 (IntKind.i64.wrap (x113 + x2))] fun w_13 =>
            drewO w_13 fun w_14 =>
            br (decide (x72_1 = 0)) (
              ∃ (x122_0 : Int) (x122_1 : Int) (x122_2 : Int) (x122_3 : Int),
              cellsAt w_14 g 0 [.int .i64 x122_0, .int .i64 x122_1, .int .i64 x122_2, .int .i64 x122_3] ∧
              br ((decide (x72_0_0 = x122_0)) && ((decide (x72_0_1 = x122_1)) && ((decide (x72_0_2 = x122_2)) && ((decide (x72_0_3 = x122_3)) && true)))) (
                Calls Try.prog 17 #[.agg #[.int .i64 x72_0_0, .int .i64 x72_0_1, .int .i64 x72_0_2, .int .i64 x72_0_3]] w_14 fun e_5 w_15 => KeepG [g_4, g_3, g_2] w_14 w_15 ∧
                ∃ (x127 : Int),
                e_5 = .returned (.int .i64 x127) ∧
                Calls Try.prog 17 #[.agg #[.int .i64 x12_0, .int .i64 x12_1, .int .i64 x12_2, .int .i64 x12_3]] w_15 fun e_6 w_16 => KeepG [g_4, g_3, g_2] w_15 w_16 ∧
                ∃ (x129 : Int),
                e_6 = .returned (.int .i64 x129) ∧
                K (.bool (decide (x127 = (IntKind.i64.wrap (x129 + x2))))) w_16
              ) (
                K (.bool false) w_14
              )
            ) (
              K (.bool false) w_14
            )
          )
        )
      )
    )
  )
def ladds_vc (x0_0 : Int) (x0_1 : Int) (x0_2 : Int) (x0_3 : Int) (x1_0 : Int) (x1_1 : Int) (x2 : Int) (w : World) (K : Value → World → Prop) : Prop :=
  newO w (.cells #[.int .i64 x0_0, .int .i64 x0_1, .int .i64 x0_2, .int .i64 x0_3] 22) fun g w_2 =>
  newO w_2 (.cells #[.int .i64 x1_0, .int .i64 x1_1] 45) fun g_2 w_3 =>
  ∃ (x12_0 : Int) (x12_1 : Int) (x12_2 : Int) (x12_3 : Int),
  cellsAt w_3 g 0 [.int .i64 x12_0, .int .i64 x12_1, .int .i64 x12_2, .int .i64 x12_3] ∧
  newO w_3 (.cells #[.int .i64 0, .int .i64 0, .int .i64 0, .int .i64 0] 24) fun g_3 w_4 =>
  ∀ w_5 : World, BoxSt g_3 w_4 w_5 →
  Calls Try.prog 19 #[.int .i64 x1_0, .int .i64 x1_1] w_5 fun e w_6 => KeepG [g_3, g_2] w_5 w_6 ∧
  ∃ (x19_0 : Int) (x19_1 : Int),
  e = .returned (.tuple #[.int .i64 x19_0, .int .i64 x19_1]) ∧
  Calls Try.prog 9 #[] w_6 fun e_2 w_7 => KeepG [g_3, g_2] w_6 w_7 ∧
  ∃ (b22 : Bool),
  e_2 = .returned (.bool b22) ∧
  br (!b22) (
    K (.bool false) w_7
  ) (
    br (decide (x1_0 < 0)) (
      br (decide (x19_1 ≠ 1)) (
        K (.bool false) w_7
      ) (
        br (decide (x19_0 ≠ 0)) (
          K (.bool false) w_7
        ) (
          ladds_k1 K x2 g g_2 x12_0 x12_1 x12_2 x12_3 g_3 x1_0 w_7
        )
      )
    ) (
      br (decide (x1_1 < 4)) (
        br (decide (x19_1 ≠ 1)) (
          K (.bool false) w_7
        ) (
          br (decide (x19_0 ≠ 0)) (
            K (.bool false) w_7
          ) (
            ladds_k1 K x2 g g_2 x12_0 x12_1 x12_2 x12_3 g_3 x1_0 w_7
          )
        )
      ) (
        br (decide (x1_1 > 1073741824)) (
          br (decide (x19_1 ≠ 1)) (
            K (.bool false) w_7
          ) (
            br (decide (x19_0 ≠ 0)) (
              K (.bool false) w_7
            ) (
              ladds_k1 K x2 g g_2 x12_0 x12_1 x12_2 x12_3 g_3 x1_0 w_7
            )
          )
        ) (
          drewO w_7 fun w_18 =>
          br (decide (x19_1 ≠ 0)) (
            K (.bool false) w_18
          ) (
            (x1_1 : Int) ≠ 0 ∧
            (x1_1 : Int) ≠ 0 ∧
            br (decide (x19_0 ≠ (IntKind.i64.wrap (Int.tdiv (IntKind.i64.wrap ((Int.tmod x1_0 x1_1) * 4)) x1_1)))) (
              K (.bool false) w_18
            ) (
              br (decide (x19_0 < 0)) (
                K (.bool false) w_18
              ) (
                br (decide (x19_0 > 3)) (
                  K (.bool false) w_18
                ) (
                  ladds_k1 K x2 g g_2 x12_0 x12_1 x12_2 x12_3 g_3 x19_0 w_18
                )
              )
            )
          )
        )
      )
    )
  )
def ladds_notes : Notes := ⟨[(17, ⟨[0, 1, 3, 7, 15, 7, 63, 127, 255, 511, 1023, 511, 4095, 511, 16383, 32767, 65535, 131071], [10, 12], [0, 1, 2, 3, 4, 5, 6, 7, 8, 9, 11, 13, 14, 15, 16, 17]⟩), (9, ⟨[0, 1, 3, 7, 7, 23, 7, 71, 247, 503, 7, 1031, 4087, 8191, 16383, 32767, 65535, 131071, 262143, 524287, 1048575, 2097151, 4194303], [], [0, 1, 2, 3, 4, 5, 6, 7, 8, 9, 10, 11, 12, 13, 14, 15, 16, 17, 18, 19, 20, 21, 22]⟩)], [], []⟩
theorem ladds_calls (x0_0 : Int) (x0_1 : Int) (x0_2 : Int) (x0_3 : Int) (x1_0 : Int) (x1_1 : Int) (x2 : Int) (w : World) (K : Value → World → Prop) (h : ladds_vc x0_0 x0_1 x0_2 x0_3 x1_0 x1_1 x2 w K) : Calls Try.prog 6 #[.agg #[.int .i64 x0_0, .int .i64 x0_1, .int .i64 x0_2, .int .i64 x0_3], .agg #[.int .i64 x1_0, .int .i64 x1_1], .int .i64 x2] w fun e w' => ∃ v, e = .returned v ∧ K v w' :=
  calls_of_fvc envOk Try.func6 ladds_notes [4, 7, 10] [.agg #[.int .i64 x0_0, .int .i64 x0_1, .int .i64 x0_2, .int .i64 x0_3], .agg #[.int .i64 x1_0, .int .i64 x1_1], .int .i64 x2] w K (use_vc h (by as_aux_lemma => kernel_rfl))
/-- purser/purserlaw12.RhythmVectors -/
def lvectors_k1 (K : Value → World → Prop) (x0_0 : Int) (x0_1 : Int) (x0_2 : Int) (x0_3 : Int) (g : Nat) (g_2 : Nat) (x20_0 : Int) (x20_1 : Int) (x25_0 : Int) (b25_1 : Bool) (x30_0 : Int) (b30_1 : Bool) (x35_0 : Int) (b35_1 : Bool) (x40_0 : Int) (b40_1 : Bool) (x14 : Int) (w_11 : World) : Prop :=
  Calls Try.prog 10 #[.agg #[.int .i64 x0_0, .int .i64 x0_1, .int .i64 x0_2, .int .i64 x0_3]] w_11 fun e_7 w_12 => KeepG [g_2, g] w_11 w_12 ∧
  ∃ (cr57 : Nat) (ci57 : Nat),
  e_7 = .returned (.complex .f64 cr57 ci57) ∧
  Calls Try.prog 9 #[] w_12 fun e_8 w_13 => KeepG [g_2, g] w_12 w_13 ∧
  ∃ (b58 : Bool),
  e_8 = .returned (.bool b58) ∧
  br b58 (
    ∃ x62 : Int, floatToIntVal .f64 cr57 .i64 = some x62 ∧
    br (decide (x62 = x20_0)) (
      ∃ x69 : Int, floatToIntVal .f64 ci57 .i64 = some x69 ∧
      br (decide (x69 = x20_1)) (
        br (decide (x25_0 = x30_0)) (
          br (decide (b25_1 = b30_1)) (
            br (decide (x35_0 = x40_0)) (
              br (decide (b35_1 = b40_1)) (
                Calls Try.prog 17 #[.agg #[.int .i64 x0_0, .int .i64 x0_1, .int .i64 x0_2, .int .i64 x0_3]] w_13 fun e_9 w_14 => KeepG [g_2, g] w_13 w_14 ∧
                ∃ (x95 : Int),
                e_9 = .returned (.int .i64 x95) ∧
                K (.bool (decide (x95 = x14))) w_14
              ) (
                K (.bool false) w_13
              )
            ) (
              K (.bool false) w_13
            )
          ) (
            K (.bool false) w_13
          )
        ) (
          K (.bool false) w_13
        )
      ) (
        K (.bool false) w_13
      )
    ) (
      K (.bool false) w_13
    )
  ) (
    K (.bool false) w_13
  )
def lvectors_vc (x0_0 : Int) (x0_1 : Int) (x0_2 : Int) (x0_3 : Int) (w : World) (K : Value → World → Prop) : Prop :=
  newO w (.cells #[.int .i64 x0_0, .int .i64 x0_1, .int .i64 x0_2, .int .i64 x0_3] 22) fun g w_2 =>
  newO w_2 (.cells #[.int .i64 0, .int .i64 0, .int .i64 0, .int .i64 0] 24) fun g_2 w_3 =>
  ∀ w_4 : World, BoxSt g_2 w_3 w_4 →
  Calls Try.prog 11 #[.agg #[.int .i64 x0_0, .int .i64 x0_1, .int .i64 x0_2, .int .i64 x0_3]] w_4 fun e w_5 => KeepG [g_2, g] w_4 w_5 ∧
  ∃ (x20_0 : Int) (x20_1 : Int),
  e = .returned (.tuple #[.int .i64 x20_0, .int .i64 x20_1]) ∧
  Calls Try.prog 12 #[.agg #[.int .i64 x0_0, .int .i64 x0_1, .int .i64 x0_2, .int .i64 x0_3]] w_5 fun e_2 w_6 => KeepG [g_2, g] w_5 w_6 ∧
  ∃ (x25_0 : Int) (b25_1 : Bool),
  e_2 = .returned (.tuple #[.int .i64 x25_0, .bool b25_1]) ∧
  Calls Try.prog 13 #[.agg #[.int .i64 x0_0, .int .i64 x0_1, .int .i64 x0_2, .int .i64 x0_3]] w_6 fun e_3 w_7 => KeepG [g_2, g] w_6 w_7 ∧
  ∃ (x30_0 : Int) (b30_1 : Bool),
  e_3 = .returned (.tuple #[.int .i64 x30_0, .bool b30_1]) ∧
  Calls Try.prog 14 #[.agg #[.int .i64 x0_0, .int .i64 x0_1, .int .i64 x0_2, .int .i64 x0_3]] w_7 fun e_4 w_8 => KeepG [g_2, g] w_7 w_8 ∧
  ∃ (x35_0 : Int) (b35_1 : Bool),
  e_4 = .returned (.tuple #[.int .i64 x35_0, .bool b35_1]) ∧
  Calls Try.prog 15 #[.agg #[.int .i64 x0_0, .int .i64 x0_1, .int .i64 x0_2, .int .i64 x0_3]] w_8 fun e_5 w_9 => KeepG [g_2, g] w_8 w_9 ∧
  ∃ (x40_0 : Int) (b40_1 : Bool),
  e_5 = .returned (.tuple #[.int .i64 x40_0, .bool b40_1]) ∧
  Calls Try.prog 16 #[.agg #[.int .i64 x0_0, .int .i64 x0_1, .int .i64 x0_2, .int .i64 x0_3]] w_9 fun e_6 w_10 => KeepG [g_2, g] w_9 w_10 ∧
  ∃ (b44 : Bool),
  e_6 = .returned (.bool b44) ∧
  br b44 (
    lvectors_k1 K x0_0 x0_1 x0_2 x0_3 g g_2 x20_0 x20_1 x25_0 b25_1 x30_0 b30_1 x35_0 b35_1 x40_0 b40_1 (IntKind.i64.wrap ((IntKind.i64.wrap ((IntKind.i64.wrap (x0_0 + x0_1)) + x0_2)) + x0_3)) w_10
  ) (
    lvectors_k1 K x0_0 x0_1 x0_2 x0_3 g g_2 x20_0 x20_1 x25_0 b25_1 x30_0 b30_1 x35_0 b35_1 x40_0 b40_1 0 w_10
  )
def lvectors_notes : Notes := ⟨[], [], []⟩
theorem lvectors_calls (x0_0 : Int) (x0_1 : Int) (x0_2 : Int) (x0_3 : Int) (w : World) (K : Value → World → Prop) (h : lvectors_vc x0_0 x0_1 x0_2 x0_3 w K) : Calls Try.prog 4 #[.agg #[.int .i64 x0_0, .int .i64 x0_1, .int .i64 x0_2, .int .i64 x0_3]] w fun e w' => ∃ v, e = .returned v ∧ K v w' :=
  calls_of_fvc envOk Try.func4 lvectors_notes [1, 3] [.agg #[.int .i64 x0_0, .int .i64 x0_1, .int .i64 x0_2, .int .i64 x0_3]] w K (use_vc h (by as_aux_lemma => kernel_rfl))
/-- purser/purserlaw12.RhythmTurns -/
def lturns_vc (x0_0 : Int) (x0_1 : Int) (x0_2 : Int) (x0_3 : Int) (x1 : Int) (w : World) (K : Value → World → Prop) : Prop :=
  newO w (.cells #[.int .i64 x0_0, .int .i64 x0_1, .int .i64 x0_2, .int .i64 x0_3] 22) fun g w_2 =>
  ∃ (x15_0 : Int) (x15_1 : Int) (x15_2 : Int) (x15_3 : Int),
  cellsAt w_2 g 0 [.int .i64 x15_0, .int .i64 x15_1, .int .i64 x15_2, .int .i64 x15_3] ∧
  newO w_2 (.cells #[.int .i64 0, .int .i64 0, .int .i64 0, .int .i64 0] 24) fun g_2 w_3 =>
  ∀ w_4 : World, BoxSt g_2 w_3 w_4 →
  Calls Try.prog 18 #[.agg #[.int .i64 x15_0, .int .i64 x15_1, .int .i64 x15_2, .int .i64 x15_3], .int .i64 1] w_4 fun e w_5 => KeepG [g_2] w_4 w_5 ∧
  ∃ (x18_0 : Int) (x18_1 : Int) (x18_2 : Int) (x18_3 : Int),
  e = .returned (.agg #[.int .i64 x18_0, .int .i64 x18_1, .int .i64 x18_2, .int .i64 x18_3]) ∧
  newO w_5 (.cells #[.int .i64 0, .int .i64 0, .int .i64 0, .int .i64 0] 24) fun g_3 w_6 =>
  ∀ w_7 : World, BoxSt g_3 w_6 w_7 →
  Calls Try.prog 18 #[.agg #[.int .i64 x15_0, .int .i64 x15_1, .int .i64 x15_2, .int .i64 x15_3], .int .i64 x1] w_7 fun e_2 w_8 => KeepG [g_3, g_2] w_7 w_8 ∧
  ∃ (x21_0 : Int) (x21_1 : Int) (x21_2 : Int) (x21_3 : Int),
  e_2 = .returned (.agg #[.int .i64 x21_0, .int .i64 x21_1, .int .i64 x21_2, .int .i64 x21_3]) ∧
  newO w_8 (.cells #[.int .i64 0, .int .i64 0, .int .i64 0, .int .i64 0] 24) fun g_4 w_9 =>
  stO [g_3, g_2] w_9 g_4 0 [.int .i64 x21_0, .int .i64 x21_1, .int .i64 x21_2, .int .i64 x21_3] fun w_10 =>
  ∃ (I : Int → World → Prop) (μ : Int → World → Nat),
  I 0 w_10 ∧
  ∀ (x8 : Int) (w_11 : World), I x8 w_11 →
  br (decide (x8 < 4)) (
    drewO w_11 fun w_12 =>
    (4 : Int) ≠ 0 ∧
    (0 : Int) ≤ Int.tmod (IntKind.u64.wrap ((IntKind.u64.wrap x8) + (IntKind.u64.wrap x1))) 4 ∧ Int.tmod (IntKind.u64.wrap ((IntKind.u64.wrap x8) + (IntKind.u64.wrap x1))) 4 < ((4 : Nat) : Int) ∧
    ∃ (x34 : Int), w_12.cell? ⟨g_4, 0 + (Int.tmod (IntKind.u64.wrap ((IntKind.u64.wrap x8) + (IntKind.u64.wrap x1))) 4).toNat * 1, none⟩ = some (.int .i64 x34) ∧
    (0 : Int) ≤ x8 ∧ x8 < ((4 : Nat) : Int) ∧
    ∃ (x37 : Int), w_12.cell? ⟨g, 0 + x8.toNat * 1, none⟩ = some (.int .i64 x37) ∧
    br (decide (x34 ≠ x37)) (
      K (.bool false) w_12
    ) (
      I (IntKind.i64.wrap (x8 + 1)) w_12 ∧ μ (IntKind.i64.wrap (x8 + 1)) w_12 < μ x8 w_11
    )
  ) (
    drewO w_11 fun w_13 =>
    Calls Try.prog 10 #[.agg #[.int .i64 x15_0, .int .i64 x15_1, .int .i64 x15_2, .int .i64 x15_3]] w_13 fun e_3 w_14 => KeepG [g_3, g_2] w_13 w_14 ∧
    ∃ (cr40 : Nat) (ci40 : Nat),
    e_3 = .returned (.complex .f64 cr40 ci40) ∧
    Calls Try.prog 10 #[.agg #[.int .i64 x18_0, .int .i64 x18_1, .int .i64 x18_2, .int .i64 x18_3]] w_14 fun e_4 w_15 => KeepG [g_3, g_2] w_14 w_15 ∧
    ∃ (cr42 : Nat) (ci42 : Nat),
    e_4 = .returned (.complex .f64 cr42 ci42) ∧
    Calls Try.prog 14 #[.agg #[.int .i64 x15_0, .int .i64 x15_1, .int .i64 x15_2, .int .i64 x15_3]] w_15 fun e_5 w_16 => KeepG [g_3, g_2] w_15 w_16 ∧
    ∃ (x45_0 : Int) (b45_1 : Bool),
    e_5 = .returned (.tuple #[.int .i64 x45_0, .bool b45_1]) ∧
    Calls Try.prog 14 #[.agg #[.int .i64 x18_0, .int .i64 x18_1, .int .i64 x18_2, .int .i64 x18_3]] w_16 fun e_6 w_17 => KeepG [g_3, g_2] w_16 w_17 ∧
    ∃ (x50_0 : Int) (b50_1 : Bool),
    e_6 = .returned (.tuple #[.int .i64 x50_0, .bool b50_1]) ∧
    drewO w_17 fun w_18 =>
    Calls Try.prog 9 #[] w_18 fun e_7 w_19 => KeepG [g_3, g_2] w_18 w_19 ∧
    ∃ (b53 : Bool),
    e_7 = .returned (.bool b53) ∧
    br b53 (
      br (ordF cr42 (Op.negFloat .f64 ci40) == some .eq) (
        br (ordF ci42 cr40 == some .eq) (
          br (decide (x45_0 = x50_0)) (
            br (decide (b45_1 = b50_1)) (
              Calls Try.prog 18 #[.agg #[.int .i64 x18_0, .int .i64 x18_1, .int .i64 x18_2, .int .i64 x18_3], .int .i64 1] w_19 fun e_8 w_20 => KeepG [g_3, g_2] w_19 w_20 ∧
              ∃ (x81_0 : Int) (x81_1 : Int) (x81_2 : Int) (x81_3 : Int),
              e_8 = .returned (.agg #[.int .i64 x81_0, .int .i64 x81_1, .int .i64 x81_2, .int .i64 x81_3]) ∧
              Calls Try.prog 18 #[.agg #[.int .i64 x81_0, .int .i64 x81_1, .int .i64 x81_2, .int .i64 x81_3], .int .i64 2] w_20 fun e_9 w_21 => KeepG [g_3, g_2] w_20 w_21 ∧
              ∃ (x82_0 : Int) (x82_1 : Int) (x82_2 : Int) (x82_3 : Int),
              e_9 = .returned (.agg #[.int .i64 x82_0, .int .i64 x82_1, .int .i64 x82_2, .int .i64 x82_3]) ∧
              br (((decide (x82_0 = x15_0)) && ((decide (x82_1 = x15_1)) && ((decide (x82_2 = x15_2)) && ((decide (x82_3 = x15_3)) && true)))) && true) (
                Calls Try.prog 17 #[.agg #[.int .i64 x18_0, .int .i64 x18_1, .int .i64 x18_2, .int .i64 x18_3]] w_21 fun e_10 w_22 => KeepG [g_3, g_2] w_21 w_22 ∧
                ∃ (x88 : Int),
                e_10 = .returned (.int .i64 x88) ∧
                Calls Try.prog 17 #[.agg #[.int .i64 x15_0, .int .i64 x15_1, .int .i64 x15_2, .int .i64 x15_3]] w_22 fun e_11 w_23 => KeepG [g_3, g_2] w_22 w_23 ∧
                ∃ (x90 : Int),
                e_11 = .returned (.int .i64 x90) ∧
                K (.bool (decide (x88 = x90))) w_23
              ) (
                K (.bool false) w_21
              )
            ) (
              K (.bool false) w_19
            )
          ) (
            K (.bool false) w_19
          )
        ) (
          K (.bool false) w_19
        )
      ) (
        K (.bool false) w_19
      )
    ) (
      K (.bool false) w_19
    )
  )
def lturns_notes : Notes := ⟨[(7, ⟨[0, 1, 0, 4, 15, 31, 0, 127, 255, 0, 512, 1536, 4095], [], [0, 1, 2, 3, 4, 5, 6, 7, 8, 9, 10, 11, 12]⟩), (9, ⟨[0, 1, 0, 7, 15, 31], [1, 3], [0, 2, 4, 5]⟩), (12, ⟨[0, 1, 3, 7, 3, 19, 51, 127, 255, 511, 1023, 2047, 1023, 5119, 16383, 32767, 65535, 131071, 131071, 524287, 1048575, 2097151, 4194303, 4194303, 16777215, 33554431, 67108863, 134217727, 268435455, 536870911, 134217727, 2147483647, 4294967295, 8589934591, 17179869183, 34359738367, 17179869183, 137438953471, 274877906943, 549755813887, 1099511627775], [0, 28, 29, 35, 37], [1, 2, 3, 4, 5, 6, 7, 8, 9, 10, 11, 12, 13, 14, 15, 16, 17, 18, 19, 20, 21, 22, 23, 24, 25, 26, 27, 30, 31, 32, 33, 34, 36, 38, 39, 40]⟩)], [(5, ⟨[(8, .lf (.int .i64))], [], [22, 23, 26, 27, 28, 29, 30, 31, 32, 33, 34, 35, 36, 37, 38, 4, 24, 25, 8], []⟩)], []⟩
theorem lturns_calls (x0_0 : Int) (x0_1 : Int) (x0_2 : Int) (x0_3 : Int) (x1 : Int) (w : World) (K : Value → World → Prop) (h : lturns_vc x0_0 x0_1 x0_2 x0_3 x1 w K) : Calls Try.prog 5 #[.agg #[.int .i64 x0_0, .int .i64 x0_1, .int .i64 x0_2, .int .i64 x0_3], .int .i64 x1] w fun e w' => ∃ v, e = .returned v ∧ K v w' :=
  calls_of_fvc envOk Try.func5 lturns_notes [5, 6] [.agg #[.int .i64 x0_0, .int .i64 x0_1, .int .i64 x0_2, .int .i64 x0_3], .int .i64 x1] w K (use_vc h (by as_aux_lemma => kernel_rfl))
/-- purser/purserlaw12.RhythmJoins -/
def ljoins_k1 (K : Value → World → Prop) (x0_0 : Int) (x0_1 : Int) (x0_2 : Int) (x0_3 : Int) (x1_0 : Int) (x1_1 : Int) (x1_2 : Int) (x1_3 : Int) (x2 : Int) (g : Nat) (g_2 : Nat) (g_5 : Nat) (g_6 : Nat) (x7_0 : Int) (x7_1 : Int) (x7_2 : Int) (x7_3 : Int) (x8_0 : Int) (x8_1 : Int) (x8_2 : Int) (x8_3 : Int) (w_9 : World) : Prop :=
  Calls Try.prog 7 #[.agg #[.int .i64 x7_0, .int .i64 x7_1, .int .i64 x7_2, .int .i64 x7_3], .agg #[.int .i64 x8_0, .int .i64 x8_1, .int .i64 x8_2, .int .i64 x8_3]] w_9 fun e w_10 => KeepG [g_5, g_6, g_2, g] w_9 w_10 ∧
  ∃ (x25_0_0 : Int) (x25_0_1 : Int) (x25_0_2 : Int) (x25_0_3 : Int) (x25_1 : Int),
  e = .returned (.tuple #[.agg #[.int .i64 x25_0_0, .int .i64 x25_0_1, .int .i64 x25_0_2, .int .i64 x25_0_3], .int .i64 x25_1]) ∧
  newO w_10 (.cells #[.int .i64 0, .int .i64 0, .int .i64 0, .int .i64 0] 24) fun g_7 w_11 =>
  ∀ w_12 : World, BoxSt g_7 w_11 w_12 →
  Calls Try.prog 8 #[.agg #[.int .i64 x0_0, .int .i64 x0_1, .int .i64 x0_2, .int .i64 x0_3], .agg #[.int .i64 x1_0, .int .i64 x1_1, .int .i64 x1_2, .int .i64 x1_3]] w_12 fun e_2 w_13 => KeepG [g_7, g_5, g_6, g_2, g] w_12 w_13 ∧
  ∃ (x31_0_0 : Int) (x31_0_1 : Int) (x31_0_2 : Int) (x31_0_3 : Int) (x31_1 : Int),
  e_2 = .returned (.tuple #[.agg #[.int .i64 x31_0_0, .int .i64 x31_0_1, .int .i64 x31_0_2, .int .i64 x31_0_3], .int .i64 x31_1]) ∧
  newO w_13 (.cells #[.int .i64 0, .int .i64 0, .int .i64 0, .int .i64 0] 22) fun g_8 w_14 =>
  ∀ w_15 : World, BoxSt g_8 w_14 w_15 →
  Calls Try.prog 9 #[] w_15 fun e_3 w_16 => KeepG [g_8, g_7, g_5, g_6, g_2, g] w_15 w_16 ∧
  ∃ (b34 : Bool),
  e_3 = .returned (.bool b34) ∧
  br (!b34) (
    K (.bool false) w_16
  ) (
    br (decide (x25_1 ≠ x31_1)) (
      K (.bool false) w_16
    ) (
      br (!((decide (x25_0_0 = x31_0_0)) && ((decide (x25_0_1 = x31_0_1)) && ((decide (x25_0_2 = x31_0_2)) && ((decide (x25_0_3 = x31_0_3)) && true))))) (
        K (.bool false) w_16
      ) (
        br (decide (x25_1 ≠ 0)) (
          K (.bool true) w_16
        ) (
          (1125899906842624 : Int) ≠ 0 ∧
          Calls Try.prog 7 #[.agg #[.int .i64 x7_0, .int .i64 x7_1, .int .i64 x7_2, .int .i64 x7_3], .agg #[.int .i64 (IntKind.i64.wrap (Int.tmod (IntKind.u64.wrap x2) 1125899906842624)), .int .i64 (IntKind.i64.wrap (Int.tmod (IntKind.u64.wrap x2) 1125899906842624)), .int .i64 (IntKind.i64.wrap (Int.tmod (IntKind.u64.wrap x2) 1125899906842624)), .int .i64 (IntKind.i64.wrap (Int.tmod (IntKind.u64.wrap x2) 1125899906842624))]] w_16 fun e_4 w_17 => KeepG [g_8, g_7, g_5, g_6, g_2, g] w_16 w_17 ∧
          ∃ (x61_0_0 : Int) (x61_0_1 : Int) (x61_0_2 : Int) (x61_0_3 : Int) (x61_1 : Int),
          e_4 = .returned (.tuple #[.agg #[.int .i64 x61_0_0, .int .i64 x61_0_1, .int .i64 x61_0_2, .int .i64 x61_0_3], .int .i64 x61_1]) ∧
          newO w_17 (.cells #[.int .i64 0, .int .i64 0, .int .i64 0, .int .i64 0] 24) fun g_9 w_18 =>
          ∀ w_19 : World, BoxSt g_9 w_18 w_19 →
          drewO w_19 fun w_20 =>
          Calls Try.prog 10 #[.agg #[.int .i64 x7_0, .int .i64 x7_1, .int .i64 x7_2, .int .i64 x7_3]] w_20 fun e_5 w_21 => KeepG [g_9, g_8, g_7, g_5, g_6, g_2, g] w_20 w_21 ∧
          ∃ (cr65 : Nat) (ci65 : Nat),
          e_5 = .returned (.complex .f64 cr65 ci65) ∧
          Calls Try.prog 10 #[.agg #[.int .i64 x8_0, .int .i64 x8_1, .int .i64 x8_2, .int .i64 x8_3]] w_21 fun e_6 w_22 => KeepG [g_9, g_8, g_7, g_5, g_6, g_2, g] w_21 w_22 ∧
          ∃ (cr67 : Nat) (ci67 : Nat),
          e_6 = .returned (.complex .f64 cr67 ci67) ∧
          Calls Try.prog 10 #[.agg #[.int .i64 x25_0_0, .int .i64 x25_0_1, .int .i64 x25_0_2, .int .i64 x25_0_3]] w_22 fun e_7 w_23 => KeepG [g_9, g_8, g_7, g_5, g_6, g_2, g] w_22 w_23 ∧
          ∃ (cr69 : Nat) (ci69 : Nat),
          e_7 = .returned (.complex .f64 cr69 ci69) ∧
          ∃ fb : Nat, floatBits .add .f64 cr65 cr67 = some fb ∧
          br (ordF cr69 fb == some .eq) (
            ∃ fb_2 : Nat, floatBits .add .f64 ci65 ci67 = some fb_2 ∧
            br (ordF ci69 fb_2 == some .eq) (
              br (decide (x61_1 ≠ 0)) (
                K (.bool true) w_23
              ) (
                Calls Try.prog 10 #[.agg #[.int .i64 x61_0_0, .int .i64 x61_0_1, .int .i64 x61_0_2, .int .i64 x61_0_3]] w_23 fun e_8 w_24 => KeepG [g_9, g_8, g_7, g_5, g_6, g_2, g] w_23 w_24 ∧
                ∃ (cr93 : Nat) (ci93 : Nat),
                e_8 = .returned (.complex .f64 cr93 ci93) ∧
                K (.bool ((ordF cr93 cr65 == some .eq) && (ordF ci93 ci65 == some .eq))) w_24
              )
            ) (
              K (.bool false) w_23
            )
          ) (
            K (.bool false) w_23
          )
        )
      )
    )
  )
def ljoins_vc (x0_0 : Int) (x0_1 : Int) (x0_2 : Int) (x0_3 : Int) (x1_0 : Int) (x1_1 : Int) (x1_2 : Int) (x1_3 : Int) (x2 : Int) (w : World) (K : Value → World → Prop) : Prop :=
  newO w (.cells #[.int .i64 x0_0, .int .i64 x0_1, .int .i64 x0_2, .int .i64 x0_3] 22) fun g w_2 =>
  newO w_2 (.cells #[.int .i64 x1_0, .int .i64 x1_1, .int .i64 x1_2, .int .i64 x1_3] 22) fun g_2 w_3 =>
  drewO w_3 fun w_4 =>
  (
    newO w_4 (.cells #[.int .i64 0, .int .i64 0, .int .i64 0, .int .i64 0] 24) fun g_3 w_5 =>
    newO w_5 (.cells #[.int .i64 0, .int .i64 0, .int .i64 0, .int .i64 0] 24) fun g_4 w_6 =>
    ∀ w_7 : World, BoxSt g_3 w_6 w_7 →
    ∀ w_8 : World, BoxSt g_4 w_7 w_8 →
    ljoins_k1 K x0_0 x0_1 x0_2 x0_3 x1_0 x1_1 x1_2 x1_3 x2 g g_2 g_4 g_3 x0_0 x0_1 x0_2 x0_3 x1_0 x1_1 x1_2 x1_3 w_8
  ) ∧
  (
    newO w_4 (.cells #[.int .i64 0, .int .i64 0, .int .i64 0, .int .i64 0] 24) fun g_10 w_25 =>
    newO w_25 (.cells #[.int .i64 0, .int .i64 0, .int .i64 0, .int .i64 0] 24) fun g_11 w_26 =>
    ∀ w_27 : World, BoxSt g_11 w_26 w_27 →
    ∀ w_28 : World, BoxSt g_10 w_27 w_28 →
    ljoins_k1 K x0_0 x0_1 x0_2 x0_3 x1_0 x1_1 x1_2 x1_3 x2 g g_2 g_11 g_10 x0_0 x0_1 x0_2 x0_3 x1_0 x1_1 x1_2 x1_3 w_28
  )
def ljoins_notes : Notes := ⟨[(1, ⟨[0, 1, 0, 4, 0, 0, 51, 127], [4, 5, 6, 7], [0, 1, 2, 3]⟩), (10, ⟨[0, 1, 0, 7, 15, 31], [1, 3], [0, 2, 4, 5]⟩)], [], []⟩
theorem ljoins_calls (x0_0 : Int) (x0_1 : Int) (x0_2 : Int) (x0_3 : Int) (x1_0 : Int) (x1_1 : Int) (x1_2 : Int) (x1_3 : Int) (x2 : Int) (w : World) (K : Value → World → Prop) (h : ljoins_vc x0_0 x0_1 x0_2 x0_3 x1_0 x1_1 x1_2 x1_3 x2 w K) : Calls Try.prog 3 #[.agg #[.int .i64 x0_0, .int .i64 x0_1, .int .i64 x0_2, .int .i64 x0_3], .agg #[.int .i64 x1_0, .int .i64 x1_1, .int .i64 x1_2, .int .i64 x1_3], .int .i64 x2] w fun e w' => ∃ v, e = .returned v ∧ K v w' :=
  calls_of_fvc envOk Try.func3 ljoins_notes [3, 4, 7, 8, 9, 11, 13] [.agg #[.int .i64 x0_0, .int .i64 x0_1, .int .i64 x0_2, .int .i64 x0_3], .agg #[.int .i64 x1_0, .int .i64 x1_1, .int .i64 x1_2, .int .i64 x1_3], .int .i64 x2] w K (use_vc h (by as_aux_lemma => kernel_rfl))
/-- purser/purserref12.Right -/
def rright_vc (x0_0 : Int) (x0_1 : Int) (x0_2 : Int) (x0_3 : Int) (w : World) (K : Value → World → Prop) : Prop :=
  newO w (.cells #[.int .i64 x0_0, .int .i64 x0_1, .int .i64 x0_2, .int .i64 x0_3] 22) fun g w_2 =>
  ∃ (I : Int → World → Prop) (μ : Int → World → Nat),
  I 0 w_2 ∧
  ∀ (x3 : Int) (w_3 : World), I x3 w_3 →
  br (decide (x3 < 4)) (
    (0 : Int) ≤ x3 ∧ x3 < ((4 : Nat) : Int) ∧
    ∃ (x10 : Int), w_3.cell? ⟨g, 0 + x3.toNat * 1, none⟩ = some (.int .i64 x10) ∧
    br (decide (x10 < 0)) (
      K (.bool false) w_3
    ) (
      (0 : Int) ≤ x3 ∧ x3 < ((4 : Nat) : Int) ∧
      ∃ (x15 : Int), w_3.cell? ⟨g, 0 + x3.toNat * 1, none⟩ = some (.int .i64 x15) ∧
      br (decide (x15 > 1125899906842624)) (
        K (.bool false) w_3
      ) (
        I (IntKind.i64.wrap (x3 + 1)) w_3 ∧ μ (IntKind.i64.wrap (x3 + 1)) w_3 < μ x3 w_3
      )
    )
  ) (
    K (.bool true) w_3
  )
def rright_notes : Notes := ⟨[], [(2, ⟨[(3, .lf (.int .i64))], [], [4, 5, 8, 9, 10, 11, 12, 13, 14, 15, 16, 17, 2, 6, 7, 3], []⟩)], []⟩
theorem rright_calls (x0_0 : Int) (x0_1 : Int) (x0_2 : Int) (x0_3 : Int) (w : World) (K : Value → World → Prop) (h : rright_vc x0_0 x0_1 x0_2 x0_3 w K) : Calls Try.prog 16 #[.agg #[.int .i64 x0_0, .int .i64 x0_1, .int .i64 x0_2, .int .i64 x0_3]] w fun e w' => ∃ v, e = .returned v ∧ K v w' :=
  calls_of_fvc envOk Try.func16 rright_notes [] [.agg #[.int .i64 x0_0, .int .i64 x0_1, .int .i64 x0_2, .int .i64 x0_3]] w K (use_vc h (by as_aux_lemma => kernel_rfl))
/-- purser/purserref12.Vector -/
def rvector_vc (x0_0 : Int) (x0_1 : Int) (x0_2 : Int) (x0_3 : Int) (w : World) (K : Value → World → Prop) : Prop :=
  newO w (.cells #[.int .i64 x0_0, .int .i64 x0_1, .int .i64 x0_2, .int .i64 x0_3] 22) fun g w_2 =>
  Calls Try.prog 16 #[.agg #[.int .i64 x0_0, .int .i64 x0_1, .int .i64 x0_2, .int .i64 x0_3]] w_2 fun e w_3 => KeepG [g] w_2 w_3 ∧
  ∃ (b5 : Bool),
  e = .returned (.bool b5) ∧
  br (!b5) (
    K (.tuple #[.int .i64 0, .int .i64 0]) w_3
  ) (
    drewO w_3 fun w_4 =>
    K (.tuple #[.int .i64 (IntKind.i64.wrap (x0_0 - x0_2)), .int .i64 (IntKind.i64.wrap (x0_1 - x0_3))]) w_4
  )
def rvector_notes : Notes := ⟨[(3, ⟨[0, 1, 0, 4, 15, 0, 32, 0, 128, 480, 31, 2047], [], [0, 1, 2, 3, 4, 5, 6, 7, 8, 9, 10, 11]⟩)], [], []⟩
theorem rvector_calls (x0_0 : Int) (x0_1 : Int) (x0_2 : Int) (x0_3 : Int) (w : World) (K : Value → World → Prop) (h : rvector_vc x0_0 x0_1 x0_2 x0_3 w K) : Calls Try.prog 11 #[.agg #[.int .i64 x0_0, .int .i64 x0_1, .int .i64 x0_2, .int .i64 x0_3]] w fun e w' => ∃ v, e = .returned v ∧ K v w' :=
  calls_of_fvc envOk Try.func11 rvector_notes [1] [.agg #[.int .i64 x0_0, .int .i64 x0_1, .int .i64 x0_2, .int .i64 x0_3]] w K (use_vc h (by as_aux_lemma => kernel_rfl))
/-- purser/purserref12.size -/
def rrsize_vc (x0 : Int) (w : World) (K : Value → World → Prop) : Prop :=
  K (.int .i64 (max x0 (IntKind.i64.wrap (0 - x0)))) w
def rrsize_notes : Notes := ⟨[], [], []⟩
theorem rrsize_calls (x0 : Int) (w : World) (K : Value → World → Prop) (h : rrsize_vc x0 w K) : Calls Try.prog 23 #[.int .i64 x0] w fun e w' => ∃ v, e = .returned v ∧ K v w' :=
  calls_of_fvc envOk Try.func23 rrsize_notes [] [.int .i64 x0] w K (use_vc h (by as_aux_lemma => kernel_rfl))
/-- purser/purserref12.Peak -/
def rpeak_k1 (K : Value → World → Prop) (g : Nat) (x8_0 : Int) (x8_1 : Int) (w_4 : World) : Prop :=
  Calls Try.prog 23 #[.int .i64 x8_0] w_4 fun e_2 w_5 => KeepG [g] w_4 w_5 ∧
  ∃ (x18 : Int),
  e_2 = .returned (.int .i64 x18) ∧
  Calls Try.prog 23 #[.int .i64 x8_1] w_5 fun e_3 w_6 => KeepG [g] w_5 w_6 ∧
  ∃ (x20 : Int),
  e_3 = .returned (.int .i64 x20) ∧
  br (decide (x18 ≥ x20)) (
    br (decide (x8_0 > 0)) (
      K (.tuple #[.int .i64 0, .bool true]) w_6
    ) (
      K (.tuple #[.int .i64 2, .bool true]) w_6
    )
  ) (
    br (decide (x8_1 > 0)) (
      K (.tuple #[.int .i64 1, .bool true]) w_6
    ) (
      K (.tuple #[.int .i64 3, .bool true]) w_6
    )
  )
def rpeak_vc (x0_0 : Int) (x0_1 : Int) (x0_2 : Int) (x0_3 : Int) (w : World) (K : Value → World → Prop) : Prop :=
  newO w (.cells #[.int .i64 x0_0, .int .i64 x0_1, .int .i64 x0_2, .int .i64 x0_3] 22) fun g w_2 =>
  Calls Try.prog 11 #[.agg #[.int .i64 x0_0, .int .i64 x0_1, .int .i64 x0_2, .int .i64 x0_3]] w_2 fun e w_3 => KeepG [g] w_2 w_3 ∧
  ∃ (x8_0 : Int) (x8_1 : Int),
  e = .returned (.tuple #[.int .i64 x8_0, .int .i64 x8_1]) ∧
  br (decide (x8_0 = 0)) (
    br (decide (x8_1 = 0)) (
      K (.tuple #[.int .i64 0, .bool false]) w_3
    ) (
      rpeak_k1 K g x8_0 x8_1 w_3
    )
  ) (
    rpeak_k1 K g x8_0 x8_1 w_3
  )
def rpeak_notes : Notes := ⟨[], [], []⟩
theorem rpeak_calls (x0_0 : Int) (x0_1 : Int) (x0_2 : Int) (x0_3 : Int) (w : World) (K : Value → World → Prop) (h : rpeak_vc x0_0 x0_1 x0_2 x0_3 w K) : Calls Try.prog 13 #[.agg #[.int .i64 x0_0, .int .i64 x0_1, .int .i64 x0_2, .int .i64 x0_3]] w fun e w' => ∃ v, e = .returned v ∧ K v w' :=
  calls_of_fvc envOk Try.func13 rpeak_notes [1] [.agg #[.int .i64 x0_0, .int .i64 x0_1, .int .i64 x0_2, .int .i64 x0_3]] w K (use_vc h (by as_aux_lemma => kernel_rfl))
/-- purser/purserref12.Strength -/
def rstrength_vc (x0_0 : Int) (x0_1 : Int) (x0_2 : Int) (x0_3 : Int) (w : World) (K : Value → World → Prop) : Prop :=
  newO w (.cells #[.int .i64 x0_0, .int .i64 x0_1, .int .i64 x0_2, .int .i64 x0_3] 22) fun g w_2 =>
  Calls Try.prog 16 #[.agg #[.int .i64 x0_0, .int .i64 x0_1, .int .i64 x0_2, .int .i64 x0_3]] w_2 fun e w_3 => KeepG [g] w_2 w_3 ∧
  ∃ (b7 : Bool),
  e = .returned (.bool b7) ∧
  br (!b7) (
    K (.tuple #[.int .i64 0, .bool false]) w_3
  ) (
    Calls Try.prog 11 #[.agg #[.int .i64 x0_0, .int .i64 x0_1, .int .i64 x0_2, .int .i64 x0_3]] w_3 fun e_2 w_4 => KeepG [g] w_3 w_4 ∧
    ∃ (x11_0 : Int) (x11_1 : Int),
    e_2 = .returned (.tuple #[.int .i64 x11_0, .int .i64 x11_1]) ∧
    Calls Try.prog 29 #[.int .i64 x11_0] w_4 fun e_3 w_5 => KeepG [g] w_4 w_5 ∧
    ∃ (x15_0 : Int) (x15_1 : Int) (x15_2 : Int) (x15_3 : Int) (x15_4 : Int) (x15_5 : Int) (x15_6 : Int) (x15_7 : Int) (x15_8 : Int) (x15_9 : Int) (b15_10 : Bool),
    e_3 = .returned (.agg #[.int .u64 x15_0, .int .u64 x15_1, .int .u64 x15_2, .int .u64 x15_3, .int .u64 x15_4, .int .u64 x15_5, .int .u64 x15_6, .int .u64 x15_7, .int .u64 x15_8, .int .u64 x15_9, .bool b15_10]) ∧
    Calls Try.prog 29 #[.int .i64 x11_0] w_5 fun e_4 w_6 => KeepG [g] w_5 w_6 ∧
    ∃ (x17_0 : Int) (x17_1 : Int) (x17_2 : Int) (x17_3 : Int) (x17_4 : Int) (x17_5 : Int) (x17_6 : Int) (x17_7 : Int) (x17_8 : Int) (x17_9 : Int) (b17_10 : Bool),
    e_4 = .returned (.agg #[.int .u64 x17_0, .int .u64 x17_1, .int .u64 x17_2, .int .u64 x17_3, .int .u64 x17_4, .int .u64 x17_5, .int .u64 x17_6, .int .u64 x17_7, .int .u64 x17_8, .int .u64 x17_9, .bool b17_10]) ∧
    Calls Try.prog 28 #[.agg #[.int .u64 x15_0, .int .u64 x15_1, .int .u64 x15_2, .int .u64 x15_3, .int .u64 x15_4, .int .u64 x15_5, .int .u64 x15_6, .int .u64 x15_7, .int .u64 x15_8, .int .u64 x15_9, .bool b15_10], .agg #[.int .u64 x17_0, .int .u64 x17_1, .int .u64 x17_2, .int .u64 x17_3, .int .u64 x17_4, .int .u64 x17_5, .int .u64 x17_6, .int .u64 x17_7, .int .u64 x17_8, .int .u64 x17_9, .bool b17_10]] w_6 fun e_5 w_7 => KeepG [g] w_6 w_7 ∧
    ∃ (x18_0 : Int) (x18_1 : Int) (x18_2 : Int) (x18_3 : Int) (x18_4 : Int) (x18_5 : Int) (x18_6 : Int) (x18_7 : Int) (x18_8 : Int) (x18_9 : Int) (b18_10 : Bool),
    e_5 = .returned (.agg #[.int .u64 x18_0, .int .u64 x18_1, .int .u64 x18_2, .int .u64 x18_3, .int .u64 x18_4, .int .u64 x18_5, .int .u64 x18_6, .int .u64 x18_7, .int .u64 x18_8, .int .u64 x18_9, .bool b18_10]) ∧
    Calls Try.prog 29 #[.int .i64 x11_1] w_7 fun e_6 w_8 => KeepG [g] w_7 w_8 ∧
    ∃ (x20_0 : Int) (x20_1 : Int) (x20_2 : Int) (x20_3 : Int) (x20_4 : Int) (x20_5 : Int) (x20_6 : Int) (x20_7 : Int) (x20_8 : Int) (x20_9 : Int) (b20_10 : Bool),
    e_6 = .returned (.agg #[.int .u64 x20_0, .int .u64 x20_1, .int .u64 x20_2, .int .u64 x20_3, .int .u64 x20_4, .int .u64 x20_5, .int .u64 x20_6, .int .u64 x20_7, .int .u64 x20_8, .int .u64 x20_9, .bool b20_10]) ∧
    Calls Try.prog 29 #[.int .i64 x11_1] w_8 fun e_7 w_9 => KeepG [g] w_8 w_9 ∧
    ∃ (x22_0 : Int) (x22_1 : Int) (x22_2 : Int) (x22_3 : Int) (x22_4 : Int) (x22_5 : Int) (x22_6 : Int) (x22_7 : Int) (x22_8 : Int) (x22_9 : Int) (b22_10 : Bool),
    e_7 = .returned (.agg #[.int .u64 x22_0, .int .u64 x22_1, .int .u64 x22_2, .int .u64 x22_3, .int .u64 x22_4, .int .u64 x22_5, .int .u64 x22_6, .int .u64 x22_7, .int .u64 x22_8, .int .u64 x22_9, .bool b22_10]) ∧
    Calls Try.prog 28 #[.agg #[.int .u64 x20_0, .int .u64 x20_1, .int .u64 x20_2, .int .u64 x20_3, .int .u64 x20_4, .int .u64 x20_5, .int .u64 x20_6, .int .u64 x20_7, .int .u64 x20_8, .int .u64 x20_9, .bool b20_10], .agg #[.int .u64 x22_0, .int .u64 x22_1, .int .u64 x22_2, .int .u64 x22_3, .int .u64 x22_4, .int .u64 x22_5, .int .u64 x22_6, .int .u64 x22_7, .int .u64 x22_8, .int .u64 x22_9, .bool b22_10]] w_9 fun e_8 w_10 => KeepG [g] w_9 w_10 ∧
    ∃ (x23_0 : Int) (x23_1 : Int) (x23_2 : Int) (x23_3 : Int) (x23_4 : Int) (x23_5 : Int) (x23_6 : Int) (x23_7 : Int) (x23_8 : Int) (x23_9 : Int) (b23_10 : Bool),
    e_8 = .returned (.agg #[.int .u64 x23_0, .int .u64 x23_1, .int .u64 x23_2, .int .u64 x23_3, .int .u64 x23_4, .int .u64 x23_5, .int .u64 x23_6, .int .u64 x23_7, .int .u64 x23_8, .int .u64 x23_9, .bool b23_10]) ∧
    Calls Try.prog 27 #[.agg #[.int .u64 x18_0, .int .u64 x18_1, .int .u64 x18_2, .int .u64 x18_3, .int .u64 x18_4, .int .u64 x18_5, .int .u64 x18_6, .int .u64 x18_7, .int .u64 x18_8, .int .u64 x18_9, .bool b18_10], .agg #[.int .u64 x23_0, .int .u64 x23_1, .int .u64 x23_2, .int .u64 x23_3, .int .u64 x23_4, .int .u64 x23_5, .int .u64 x23_6, .int .u64 x23_7, .int .u64 x23_8, .int .u64 x23_9, .bool b23_10]] w_10 fun e_9 w_11 => KeepG [g] w_10 w_11 ∧
    ∃ (x24_0 : Int) (x24_1 : Int) (x24_2 : Int) (x24_3 : Int) (x24_4 : Int) (x24_5 : Int) (x24_6 : Int) (x24_7 : Int) (x24_8 : Int) (x24_9 : Int) (b24_10 : Bool),
    e_9 = .returned (.agg #[.int .u64 x24_0, .int .u64 x24_1, .int .u64 x24_2, .int .u64 x24_3, .int .u64 x24_4, .int .u64 x24_5, .int .u64 x24_6, .int .u64 x24_7, .int .u64 x24_8, .int .u64 x24_9, .bool b24_10]) ∧
    Calls Try.prog 26 #[.agg #[.int .u64 x24_0, .int .u64 x24_1, .int .u64 x24_2, .int .u64 x24_3, .int .u64 x24_4, .int .u64 x24_5, .int .u64 x24_6, .int .u64 x24_7, .int .u64 x24_8, .int .u64 x24_9, .bool b24_10]] w_11 fun e_10 w_12 => KeepG [g] w_11 w_12 ∧
    ∃ (x25_0 : Int) (b25_1 : Bool),
    e_10 = .returned (.tuple #[.int .i64 x25_0, .bool b25_1]) ∧
    K (.tuple #[.int .i64 x25_0, .bool b25_1]) w_12
  )
def rstrength_notes : Notes := ⟨[], [], []⟩
theorem rstrength_calls (x0_0 : Int) (x0_1 : Int) (x0_2 : Int) (x0_3 : Int) (w : World) (K : Value → World → Prop) (h : rstrength_vc x0_0 x0_1 x0_2 x0_3 w K) : Calls Try.prog 15 #[.agg #[.int .i64 x0_0, .int .i64 x0_1, .int .i64 x0_2, .int .i64 x0_3]] w fun e w' => ∃ v, e = .returned v ∧ K v w' :=
  calls_of_fvc envOk Try.func15 rstrength_notes [1] [.agg #[.int .i64 x0_0, .int .i64 x0_1, .int .i64 x0_2, .int .i64 x0_3]] w K (use_vc h (by as_aux_lemma => kernel_rfl))
/-- purser/purserref12.Join -/
def rjoin_vc (x0_0 : Int) (x0_1 : Int) (x0_2 : Int) (x0_3 : Int) (x1_0 : Int) (x1_1 : Int) (x1_2 : Int) (x1_3 : Int) (w : World) (K : Value → World → Prop) : Prop :=
  newO w (.cells #[.int .i64 x0_0, .int .i64 x0_1, .int .i64 x0_2, .int .i64 x0_3] 22) fun g w_2 =>
  newO w_2 (.cells #[.int .i64 x1_0, .int .i64 x1_1, .int .i64 x1_2, .int .i64 x1_3] 22) fun g_2 w_3 =>
  newO w_3 (.cells #[.int .i64 0, .int .i64 0, .int .i64 0, .int .i64 0] 22) fun g_3 w_4 =>
  ∃ (x7_0 : Int) (x7_1 : Int) (x7_2 : Int) (x7_3 : Int),
  cellsAt w_4 g 0 [.int .i64 x7_0, .int .i64 x7_1, .int .i64 x7_2, .int .i64 x7_3] ∧
  Calls Try.prog 16 #[.agg #[.int .i64 x7_0, .int .i64 x7_1, .int .i64 x7_2, .int .i64 x7_3]] w_4 fun e w_5 => KeepG [g_3] w_4 w_5 ∧
  ∃ (b8 : Bool),
  e = .returned (.bool b8) ∧
  br (!b8) (
    ∀ w_6 : World, BoxSt g_3 w_5 w_6 →
    K (.tuple #[.agg #[.int .i64 0, .int .i64 0, .int .i64 0, .int .i64 0], .int .i64 1]) w_6
  ) (
    ∃ (x11_0 : Int) (x11_1 : Int) (x11_2 : Int) (x11_3 : Int),
    cellsAt w_5 g_2 0 [.int .i64 x11_0, .int .i64 x11_1, .int .i64 x11_2, .int .i64 x11_3] ∧
    Calls Try.prog 16 #[.agg #[.int .i64 x11_0, .int .i64 x11_1, .int .i64 x11_2, .int .i64 x11_3]] w_5 fun e_2 w_7 => KeepG [g_3] w_5 w_7 ∧
    ∃ (b12 : Bool),
    e_2 = .returned (.bool b12) ∧
    br (!b12) (
      ∀ w_8 : World, BoxSt g_3 w_7 w_8 →
      K (.tuple #[.agg #[.int .i64 0, .int .i64 0, .int .i64 0, .int .i64 0], .int .i64 1]) w_8
    ) (
      ∃ (I : Int → World → Prop) (μ : Int → World → Nat),
      I 0 w_7 ∧
      ∀ (x6 : Int) (w_9 : World), I x6 w_9 →
      br (decide (x6 < 4)) (
        drewO w_9 fun w_10 =>
        (0 : Int) ≤ x6 ∧ x6 < ((4 : Nat) : Int) ∧
        ∃ (x23 : Int), w_10.cell? ⟨g, 0 + x6.toNat * 1, none⟩ = some (.int .i64 x23) ∧
        (0 : Int) ≤ x6 ∧ x6 < ((4 : Nat) : Int) ∧
        ∃ (x26 : Int), w_10.cell? ⟨g_2, 0 + x6.toNat * 1, none⟩ = some (.int .i64 x26) ∧
        (0 : Int) ≤ x6 ∧ x6 < ((4 : Nat) : Int) ∧
        stO [g_3] w_10 g (0 + x6.toNat * 1) [.int .i64 (IntKind.i64.wrap (x23 + x26))] fun w_11 =>
        I (IntKind.i64.wrap (x6 + 1)) w_11 ∧ μ (IntKind.i64.wrap (x6 + 1)) w_11 < μ x6 w_9
      ) (
        ∃ (x29_0 : Int) (x29_1 : Int) (x29_2 : Int) (x29_3 : Int),
        cellsAt w_9 g 0 [.int .i64 x29_0, .int .i64 x29_1, .int .i64 x29_2, .int .i64 x29_3] ∧
        Calls Try.prog 16 #[.agg #[.int .i64 x29_0, .int .i64 x29_1, .int .i64 x29_2, .int .i64 x29_3]] w_9 fun e_3 w_12 => KeepG [g_3] w_9 w_12 ∧
        ∃ (b30 : Bool),
        e_3 = .returned (.bool b30) ∧
        br (!b30) (
          ∀ w_13 : World, BoxSt g_3 w_12 w_13 →
          K (.tuple #[.agg #[.int .i64 0, .int .i64 0, .int .i64 0, .int .i64 0], .int .i64 6]) w_13
        ) (
          ∃ (x33_0 : Int) (x33_1 : Int) (x33_2 : Int) (x33_3 : Int),
          cellsAt w_12 g 0 [.int .i64 x33_0, .int .i64 x33_1, .int .i64 x33_2, .int .i64 x33_3] ∧
          ∀ w_14 : World, BoxSt g_3 w_12 w_14 →
          K (.tuple #[.agg #[.int .i64 x33_0, .int .i64 x33_1, .int .i64 x33_2, .int .i64 x33_3], .int .i64 0]) w_14
        )
      )
    )
  )
def rjoin_notes : Notes := ⟨[(6, ⟨[0, 0, 2, 6, 0, 16, 48, 126, 255, 511], [9], [0, 1, 2, 3, 4, 5, 6, 7, 8]⟩)], [(4, ⟨[(6, .lf (.int .i64))], [], [16, 17, 20, 21, 22, 23, 24, 25, 26, 27, 28, 18, 19, 6], []⟩)], []⟩
theorem rjoin_calls (x0_0 : Int) (x0_1 : Int) (x0_2 : Int) (x0_3 : Int) (x1_0 : Int) (x1_1 : Int) (x1_2 : Int) (x1_3 : Int) (w : World) (K : Value → World → Prop) (h : rjoin_vc x0_0 x0_1 x0_2 x0_3 x1_0 x1_1 x1_2 x1_3 w K) : Calls Try.prog 8 #[.agg #[.int .i64 x0_0, .int .i64 x0_1, .int .i64 x0_2, .int .i64 x0_3], .agg #[.int .i64 x1_0, .int .i64 x1_1, .int .i64 x1_2, .int .i64 x1_3]] w fun e w' => ∃ v, e = .returned v ∧ K v w' :=
  calls_of_fvc envOk Try.func8 rjoin_notes [4] [.agg #[.int .i64 x0_0, .int .i64 x0_1, .int .i64 x0_2, .int .i64 x0_3], .agg #[.int .i64 x1_0, .int .i64 x1_1, .int .i64 x1_2, .int .i64 x1_3]] w K (use_vc h (by as_aux_lemma => kernel_rfl))
end GRh
end Go.Proofs.Ytbcafgglgjhckaa
end
section
/- Whole numbers below 2^53 as words of a double: exact. No program in sight. -/
namespace Go.Proofs.Ytbcafgglgjhckaa
open Ieee
theorem dB : double.binade = 4503599627370496 := by decide
theorem dL : double.leastPlace = -1074 := by decide
theorem dI : double.infRung = 9218868437227405312 := by decide
theorem dS : double.signWeight = 9223372036854775808 := by decide
theorem dF : double.fractionBits = 52 := rfl
/-- A word that stands for a whole number (a zero of either sign). -/
def Fl (b : Nat) (z : Int) : Prop := ∃ (s : Bool) (m k : Nat), double.read b = .number s m (-(k : Int)) ∧ m = z.natAbs * 2 ^ k ∧ (z ≠ 0 → s = decide (z < 0))
theorem read_word (s : Bool) (r : Nat) (h1 : 4503599627370496 ≤ r) (h2 : r < 9218868437227405312) :
    double.read (double.word s r) = .number s (4503599627370496 + r % 4503599627370496) (-1074 + ((r / 4503599627370496 - 1 : Nat) : Int)) := by
  unfold Format.read Format.word
  rw [dS, dB, dI, dL]
  cases s
  · have e1 : r / 9223372036854775808 % 2 = 0 := by omega
    have e2 : r % 9223372036854775808 = r := by omega
    simp only [Bool.false_eq_true, if_false, e1, e2]
    rw [if_neg (by omega), if_pos h2]
    rfl
  · have e1 : (9223372036854775808 + r) / 9223372036854775808 % 2 = 1 := by omega
    have e2 : (9223372036854775808 + r) % 9223372036854775808 = r := by omega
    simp only [if_true, e1, e2]
    rw [if_neg (by omega), if_pos h2]
    rfl
theorem read_zero (s : Bool) : double.read (double.word s 0) = .number s 0 (-1074) := by cases s <;> decide +kernel
theorem log2_mul (n k : Nat) (h : n ≠ 0) : (n * 2 ^ k).log2 = n.log2 + k := by
  have hp := Nat.two_pow_pos k
  refine (Nat.log2_eq_iff (by have := Nat.mul_pos (Nat.pos_of_ne_zero h) hp; omega)).2 ⟨?_, ?_⟩
  · rw [Nat.pow_add]; exact Nat.mul_le_mul_right _ (Nat.log2_self_le h)
  · rw [show n.log2 + k + 1 = (n.log2 + 1) + k by omega, Nat.pow_add]; exact Nat.mul_lt_mul_of_pos_right Nat.lt_log2_self hp
theorem cut_exact (neg : Bool) (n d : Nat) : Toward.even.cut neg (n * 2 ^ d) d = n := by
  unfold Toward.cut
  by_cases h0 : n = 0
  · subst h0; simp
  have hl := log2_mul n d h0
  have hmin : min d ((n * 2 ^ d).log2 + 2) = d := by omega
  have hp := Nat.two_pow_pos d
  rw [hmin, Nat.one_shiftLeft]
  dsimp only
  rw [Nat.mul_div_cancel _ hp, Nat.mul_mod_left]
  simp
theorem write_fl {s : Bool} {mag k : Nat} {z : Int} (hm : mag = z.natAbs * 2 ^ k) (hz : z.natAbs < 9007199254740992) (hs : z ≠ 0 → s = decide (z < 0)) : Fl (double.write (.number s mag (-(k : Int)))) z := by
  by_cases h0 : z = 0
  · subst h0
    have : mag = 0 := by simp [hm]
    subst this
    obtain ⟨q, hq⟩ : ∃ q : Nat, (-1074 : Int) = -(q : Int) := ⟨1074, rfl⟩
    refine ⟨s, 0, q, ?_, by rw [Int.natAbs_zero, Nat.zero_mul], fun h => absurd rfl h⟩
    show double.read (double.nearest s 0 _) = _
    unfold Format.nearest
    rw [if_pos rfl, read_zero, hq]
  have hn : z.natAbs ≠ 0 := by omega
  generalize hzn : z.natAbs = n at *
  have hlg := log2_mul n k hn
  have hl53 : n.log2 < 53 := (Nat.log2_lt hn).2 hz
  have hlo := Nat.log2_self_le hn
  have hhi := @Nat.lt_log2_self n
  generalize hL : n.log2 = l at *
  have hpk := Nat.two_pow_pos k
  have hmag : mag ≠ 0 := by rw [hm]; have := Nat.mul_pos (Nat.pos_of_ne_zero hn) hpk; omega
  -- what is kept
  have hkeep : Toward.even.cut s (mag <<< ((-(k : Int)) - ((l : Int) - 52)).toNat) (((l : Int) - 52) - (-(k : Int))).toNat = n * 2 ^ (52 - l) := by
    by_cases hc : k + l ≤ 52
    · have e1 : ((-(k : Int)) - ((l : Int) - 52)).toNat = 52 - l - k := by omega
      have e2 : (((l : Int) - 52) - (-(k : Int))).toNat = 0 := by omega
      rw [e1, e2, Nat.shiftLeft_eq, hm, Nat.mul_assoc, ← Nat.pow_add, show k + (52 - l - k) = 52 - l by omega]
      have := cut_exact s (n * 2 ^ (52 - l)) 0
      rwa [Nat.pow_zero, Nat.mul_one] at this
    · have e1 : ((-(k : Int)) - ((l : Int) - 52)).toNat = 0 := by omega
      have e2 : (((l : Int) - 52) - (-(k : Int))).toNat = k - (52 - l) := by omega
      rw [e1, e2, Nat.shiftLeft_zero, hm, show k = (52 - l) + (k - (52 - l)) by omega, Nat.pow_add, ← Nat.mul_assoc, show (52 - l) + (k - (52 - l)) - (52 - l) = k - (52 - l) by omega]
      exact cut_exact s _ _
  have hk1 : 4503599627370496 ≤ n * 2 ^ (52 - l) := by
    have := Nat.mul_le_mul_right (2 ^ (52 - l)) hlo
    rw [← Nat.pow_add, show l + (52 - l) = 52 by omega] at this
    exact this
  have hk2 : n * 2 ^ (52 - l) < 9007199254740992 := by
    have := Nat.mul_lt_mul_of_pos_right hhi (Nat.two_pow_pos (52 - l))
    rw [← Nat.pow_add, show l + 1 + (52 - l) = 53 by omega] at this
    exact this
  have hw : double.write (.number s mag (-(k : Int))) = double.word s ((l + 1022) * 4503599627370496 + n * 2 ^ (52 - l)) := by
    show double.nearest s mag _ = _
    unfold Format.nearest
    rw [if_neg hmag, dF, dL, dB, dI]
    have hlast : max (-(k : Int) + (mag.log2 : Int) - ((52 : Nat) : Int)) (-1074) = (l : Int) - 52 := by rw [hm, hlg]; omega
    simp only [hlast, hkeep]
    have e3 : ((l : Int) - 52 - (-1074)).toNat = l + 1022 := by omega
    rw [e3, Nat.min_eq_left (by omega)]
  rw [hw]
  refine ⟨s, n * 2 ^ (52 - l), 52 - l, ?_, by rw [hzn], hs⟩
  rw [read_word _ _ (by omega) (by omega)]
  generalize n * 2 ^ (52 - l) = q at *
  congr 1
  · omega
  · omega
theorem fl_int {z : Int} (hz : z.natAbs < 9007199254740992) : Fl (double.write (.number (z < 0) z.natAbs 0)) z := write_fl (k := 0) (by simp) hz fun _ => rfl
theorem signed_val (s : Bool) (m u : Nat) : signed s m u = if s then -((m * 2 ^ u : Nat) : Int) else ((m * 2 ^ u : Nat) : Int) := by
  unfold signed
  rw [Nat.shiftLeft_eq]
theorem fl_signed {z : Int} {s : Bool} {m k j : Nat} (hm : m = z.natAbs * 2 ^ k) (hs : z ≠ 0 → s = decide (z < 0)) : signed s m j = z * ((2 ^ (k + j) : Nat) : Int) := by
  rw [signed_val, hm, Nat.mul_assoc, ← Nat.pow_add]
  generalize 2 ^ (k + j) = p
  by_cases h0 : z = 0
  · subst h0; cases s <;> simp
  rw [hs h0]
  by_cases hz : z < 0
  · simp only [hz, decide_true, if_true]
    rw [show z = -(z.natAbs : Int) by omega]
    simp [Int.neg_mul]
  · simp only [hz, decide_false, Bool.false_eq_true, if_false]
    rw [show z = (z.natAbs : Int) by omega]
    simp
/-- A sum of two whole numbers. -/
theorem fl_add {x y : Nat} {a b : Int} (hx : Fl x a) (hy : Fl y b) (h : (a + b).natAbs < 9007199254740992) : ∃ r, double.add x y = some r ∧ Fl r (a + b) := by
  obtain ⟨s, m, k, e1, hm, hs⟩ := hx
  obtain ⟨t, n, j, e2, hn, ht⟩ := hy
  unfold Format.add
  rw [e1, e2]
  refine ⟨_, rfl, ?_⟩
  have hbase : min (-(k : Int)) (-(j : Int)) = -((max k j : Nat) : Int) := by omega
  have hsum : signed s m (-(k : Int) - min (-(k : Int)) (-(j : Int))).toNat + signed t n (-(j : Int) - min (-(k : Int)) (-(j : Int))).toNat = (a + b) * ((2 ^ max k j : Nat) : Int) := by
    rw [hbase, fl_signed hm hs, fl_signed hn ht, show k + (-(k : Int) - -((max k j : Nat) : Int)).toNat = max k j by omega, show j + (-(j : Int) - -((max k j : Nat) : Int)).toNat = max k j by omega, Int.add_mul]
  simp only [hsum]
  rw [hbase]
  have hp := Nat.two_pow_pos (max k j)
  refine write_fl (by rw [Int.natAbs_mul]; rfl) h fun h0 => ?_
  have h1 : (a + b) * ((2 ^ max k j : Nat) : Int) ≠ 0 := Int.mul_ne_zero h0 (by omega)
  rw [if_neg h1]
  refine decide_eq_decide.2 ⟨fun q => ?_, fun q => Int.mul_neg_of_neg_of_pos q (by omega)⟩
  exact Int.not_le.1 fun q2 => by have := Int.mul_nonneg q2 (show (0 : Int) ≤ ((2 ^ max k j : Nat) : Int) by omega); omega
/-- Data that stand for a whole number. -/
def FlD (d : Datum) (z : Int) : Prop := ∃ (s : Bool) (m k : Nat), d = .number s m (-(k : Int)) ∧ m = z.natAbs * 2 ^ k ∧ (z ≠ 0 → s = decide (z < 0))
theorem Fl.dat {x : Nat} {z : Int} (h : Fl x z) : FlD (double.read x) z := h
theorem FlD.opposite {d : Datum} {z : Int} (h : FlD d z) : FlD d.opposite (-z) := by
  obtain ⟨s, m, k, rfl, hm, hs⟩ := h
  refine ⟨!s, m, k, rfl, by rw [hm, Int.natAbs_neg], fun h0 => ?_⟩
  have h1 : z ≠ 0 := by omega
  rw [hs h1]
  by_cases hz : z < 0
  · rw [decide_eq_true hz, decide_eq_false (by omega)]; rfl
  · rw [decide_eq_false hz, decide_eq_true (by omega)]; rfl
theorem flD_sum {d e : Datum} {a b : Int} (hx : FlD d a) (hy : FlD e b) (h : (a + b).natAbs < 9007199254740992) : ∃ r, (d.sum e).map double.write = some r ∧ Fl r (a + b) := by
  obtain ⟨s, m, k, rfl, hm, hs⟩ := hx
  obtain ⟨t, n, j, rfl, hn, ht⟩ := hy
  refine ⟨_, rfl, ?_⟩
  have hbase : min (-(k : Int)) (-(j : Int)) = -((max k j : Nat) : Int) := by omega
  have hsum : signed s m (-(k : Int) - min (-(k : Int)) (-(j : Int))).toNat + signed t n (-(j : Int) - min (-(k : Int)) (-(j : Int))).toNat = (a + b) * ((2 ^ max k j : Nat) : Int) := by
    rw [hbase, fl_signed hm hs, fl_signed hn ht, show k + (-(k : Int) - -((max k j : Nat) : Int)).toNat = max k j by omega, show j + (-(j : Int) - -((max k j : Nat) : Int)).toNat = max k j by omega, Int.add_mul]
  simp only [hsum]
  rw [hbase]
  have hp := Nat.two_pow_pos (max k j)
  refine write_fl (by rw [Int.natAbs_mul]; rfl) h fun h0 => ?_
  have h1 : (a + b) * ((2 ^ max k j : Nat) : Int) ≠ 0 := Int.mul_ne_zero h0 (by omega)
  rw [if_neg h1]
  refine decide_eq_decide.2 ⟨fun q => ?_, fun q => Int.mul_neg_of_neg_of_pos q (by omega)⟩
  exact Int.not_le.1 fun q2 => by have := Int.mul_nonneg q2 (show (0 : Int) ≤ ((2 ^ max k j : Nat) : Int) by omega); omega
theorem fl_sub {x y : Nat} {a b : Int} (hx : Fl x a) (hy : Fl y b) (h : (a - b).natAbs < 9007199254740992) : ∃ r, double.sub x y = some r ∧ Fl r (a - b) := by
  have := flD_sum hx.dat hy.dat.opposite (by rw [← Int.sub_eq_add_neg]; exact h)
  rw [← Int.sub_eq_add_neg] at this
  exact this
/-- A product of two whole numbers. -/
theorem fl_mul {x y : Nat} {a b : Int} (hx : Fl x a) (hy : Fl y b) (h : (a * b).natAbs < 9007199254740992) : ∃ r, double.mul x y = some r ∧ Fl r (a * b) := by
  obtain ⟨s, m, k, e1, hm, hs⟩ := hx
  obtain ⟨t, n, j, e2, hn, ht⟩ := hy
  unfold Format.mul
  rw [e1, e2]
  refine ⟨_, rfl, ?_⟩
  show Fl (double.write (.number (s ^^ t) (m * n) (-(k : Int) + -(j : Int)))) (a * b)
  rw [show -(k : Int) + -(j : Int) = -((k + j : Nat) : Int) by omega]
  refine write_fl (by rw [hm, hn, Int.natAbs_mul, Nat.pow_add, Nat.mul_mul_mul_comm]) h fun h0 => ?_
  have ha : a ≠ 0 := fun q => h0 (by rw [q, Int.zero_mul])
  have hb : b ≠ 0 := fun q => h0 (by rw [q, Int.mul_zero])
  rw [hs ha, ht hb]
  by_cases h1 : a < 0 <;> by_cases h2 : b < 0
  · have := Int.mul_pos_of_neg_of_neg h1 h2
    rw [decide_eq_true h1, decide_eq_true h2, decide_eq_false (by omega)]; rfl
  · have := Int.mul_neg_of_neg_of_pos h1 (show 0 < b by omega)
    rw [decide_eq_true h1, decide_eq_false h2, decide_eq_true this]; rfl
  · have := Int.mul_neg_of_pos_of_neg (show 0 < a by omega) h2
    rw [decide_eq_false h1, decide_eq_true h2, decide_eq_true this]; rfl
  · have := Int.mul_pos (show 0 < a by omega) (show 0 < b by omega)
    rw [decide_eq_false h1, decide_eq_false h2, decide_eq_false (by omega)]; rfl
theorem cmp_mul {a b p : Int} (hp : 0 < p) : compare (a * p) (b * p) = compare a b := by
  show compareOfLessAndEq _ _ = compareOfLessAndEq _ _
  unfold compareOfLessAndEq
  have h1 : a * p < b * p ↔ a < b := ⟨fun h => Int.lt_of_mul_lt_mul_right h (by omega), fun h => Int.mul_lt_mul_of_pos_right h hp⟩
  have h2 : a * p = b * p ↔ a = b := ⟨fun h => Int.eq_of_mul_eq_mul_right (by omega) h, fun h => by rw [h]⟩
  simp only [h1, h2]
/-- How two whole numbers stand. -/
theorem fl_order {x y : Nat} {a b : Int} (hx : Fl x a) (hy : Fl y b) : double.order x y = some (compare a b) := by
  obtain ⟨s, m, k, e1, hm, hs⟩ := hx
  obtain ⟨t, n, j, e2, hn, ht⟩ := hy
  unfold Format.order
  rw [e1, e2]
  show some (compare (signed s m (-(k : Int) - min (-(k : Int)) (-(j : Int))).toNat) (signed t n (-(j : Int) - min (-(k : Int)) (-(j : Int))).toNat)) = _
  have hbase : min (-(k : Int)) (-(j : Int)) = -((max k j : Nat) : Int) := by omega
  rw [hbase, fl_signed hm hs, fl_signed hn ht, show k + (-(k : Int) - -((max k j : Nat) : Int)).toNat = max k j by omega, show j + (-(j : Int) - -((max k j : Nat) : Int)).toNat = max k j by omega, cmp_mul (by have := Nat.two_pow_pos (max k j); omega)]
theorem cut_whole (way : Toward) (neg : Bool) (n d : Nat) : way.cut neg (n * 2 ^ d) d = n := by
  unfold Toward.cut
  by_cases h0 : n = 0
  · subst h0; cases way <;> simp
  have hl := log2_mul n d h0
  have hmin : min d ((n * 2 ^ d).log2 + 2) = d := by omega
  have hp := Nat.two_pow_pos d
  rw [hmin, Nat.one_shiftLeft]
  dsimp only
  rw [Nat.mul_div_cancel _ hp, Nat.mul_mod_left]
  cases way <;> simp
/-- A whole number's whole part. -/
theorem fl_toInt {x : Nat} {z : Int} (h : Fl x z) (way : Toward) : (double.read x).toInt way = some z := by
  obtain ⟨s, m, k, e1, hm, hs⟩ := h
  rw [e1]
  have e2 : (-(k : Int)).toNat = 0 := by omega
  have e3 : (-(-(k : Int))).toNat = k := by omega
  unfold Datum.toInt Datum.integral
  simp only [e2, e3, Nat.shiftLeft_zero]
  rw [hm, cut_whole]
  have := fl_signed (m := z.natAbs) (k := 0) (j := 0) (s := s) (by simp) hs
  rw [this]
  simp
end Go.Proofs.Ytbcafgglgjhckaa
end
section
/- Whole numbers as floats and complex numbers in the model's own words. No program in sight. -/
namespace Go.Proofs.Ytbcafgglgjhckaa
theorem fb_int {z : Int} (hz : z.natAbs < 9007199254740992) : Fl (floatOfInt .f64 z) z := fl_int hz
theorem fb_add {x y : Nat} {a b : Int} (hx : Fl x a) (hy : Fl y b) (h : (a + b).natAbs < 9007199254740992) : ∃ r, floatBits .add .f64 x y = some r ∧ Fl r (a + b) := fl_add hx hy h
theorem fb_sub {x y : Nat} {a b : Int} (hx : Fl x a) (hy : Fl y b) (h : (a - b).natAbs < 9007199254740992) : ∃ r, floatBits .sub .f64 x y = some r ∧ Fl r (a - b) := fl_sub hx hy h
theorem fb_mul {x y : Nat} {a b : Int} (hx : Fl x a) (hy : Fl y b) (h : (a * b).natAbs < 9007199254740992) : ∃ r, floatBits .mul .f64 x y = some r ∧ Fl r (a * b) := fl_mul hx hy h
theorem fb_toInt {x : Nat} {z : Int} (hx : Fl x z) (h : -9223372036854775808 ≤ z ∧ z ≤ 9223372036854775807) : floatToIntVal .f64 x .i64 = some z := by
  unfold floatToIntVal
  have := fl_toInt hx .zero
  show (match (Ieee.double.read x).toInt .zero with | some n => _ | none => _) = _
  rw [this]
  exact if_pos h
/-- A complex number of two whole parts. -/
def Cx (a b : Nat) (x y : Int) : Prop := Fl a x ∧ Fl b y
theorem cx_add {a b c d : Nat} {x y u v : Int} (h : Cx a b x y) (k : Cx c d u v) (h1 : (x + u).natAbs < 9007199254740992) (h2 : (y + v).natAbs < 9007199254740992) : ∃ re im, cSumBits .add .f64 a b c d = some (re, im) ∧ Cx re im (x + u) (y + v) := by
  obtain ⟨re, e1, f1⟩ := fb_add h.1 k.1 h1
  obtain ⟨im, e2, f2⟩ := fb_add h.2 k.2 h2
  exact ⟨re, im, by unfold cSumBits; rw [e1, e2]; rfl, f1, f2⟩
theorem cx_mul {a b c d : Nat} {x y u v : Int} (h : Cx a b x y) (k : Cx c d u v) (h1 : (x * u).natAbs < 2251799813685248) (h2 : (y * v).natAbs < 2251799813685248) (h3 : (x * v).natAbs < 2251799813685248) (h4 : (y * u).natAbs < 2251799813685248) :
    ∃ re im, cMulBits a b c d = some (re, im) ∧ Cx re im (x * u - y * v) (x * v + y * u) := by
  obtain ⟨ac, e1, f1⟩ := fb_mul h.1 k.1 (by omega)
  obtain ⟨bd, e2, f2⟩ := fb_mul h.2 k.2 (by omega)
  obtain ⟨re, e3, f3⟩ := fb_sub f1 f2 (by omega)
  obtain ⟨ad, e4, f4⟩ := fb_mul h.1 k.2 (by omega)
  obtain ⟨bc, e5, f5⟩ := fb_mul h.2 k.1 (by omega)
  obtain ⟨im, e6, f6⟩ := fb_add f4 f5 (by omega)
  exact ⟨re, im, by unfold cMulBits; simp only [e1, e2, e3, e4, e5, e6, Option.bind_some], f3, f6⟩
/-- Where the way points to behind so many quarters. -/
def wayX (i : Nat) : Int := match i % 4 with | 0 => 1 | 1 => 0 | 2 => -1 | _ => 0
def wayY (i : Nat) : Int := match i % 4 with | 0 => 0 | 1 => 1 | 2 => 0 | _ => -1
theorem way_next (i : Nat) (hi : i < 4) : wayX (i + 1) = wayX i * 0 - wayY i * 1 ∧ wayY (i + 1) = wayX i * 1 + wayY i * 0 := by
  have : i = 0 ∨ i = 1 ∨ i = 2 ∨ i = 3 := by omega
  rcases this with rfl | rfl | rfl | rfl <;> decide
/-- One quarter's part, and the way further. -/
theorem cx_part {n : Int} {a b c d : Nat} {i : Nat} (hi : i < 4) (hn : n.natAbs ≤ 1125899906842624) (h : Cx a b n 0) (k : Cx c d (wayX i) (wayY i)) : ∃ re im, cMulBits a b c d = some (re, im) ∧ Cx re im (n * wayX i) (n * wayY i) := by
  have : i = 0 ∨ i = 1 ∨ i = 2 ∨ i = 3 := by omega
  have key : (n * wayX i).natAbs < 2251799813685248 ∧ (n * wayY i).natAbs < 2251799813685248 := by
    rcases this with rfl | rfl | rfl | rfl
    · show (n * 1).natAbs < _ ∧ (n * 0).natAbs < _; omega
    · show (n * 0).natAbs < _ ∧ (n * 1).natAbs < _; omega
    · show (n * -1).natAbs < _ ∧ (n * 0).natAbs < _; omega
    · show (n * 0).natAbs < _ ∧ (n * -1).natAbs < _; omega
  have := cx_mul h k key.1 (by simp) key.2 (by simp)
  simpa using this
theorem cx_turn {a b c d : Nat} {i : Nat} (hi : i < 4) (h : Cx a b (wayX i) (wayY i)) (k : Cx c d 0 1) : ∃ re im, cMulBits a b c d = some (re, im) ∧ Cx re im (wayX (i + 1)) (wayY (i + 1)) := by
  obtain ⟨e1, e2⟩ := way_next i hi
  rw [e1, e2]
  have key : (wayX i).natAbs ≤ 1 ∧ (wayY i).natAbs ≤ 1 := by
    have : i = 0 ∨ i = 1 ∨ i = 2 ∨ i = 3 := by omega
    rcases this with rfl | rfl | rfl | rfl <;> decide
  exact cx_mul h k (by simp) (by simp; omega) (by simp; omega) (by simp)
end Go.Proofs.Ytbcafgglgjhckaa
end
section
/- The sign of a whole number as a float; how two stand, as bits. No program in sight. -/
namespace Go.Proofs.Ytbcafgglgjhckaa
theorem read_neg (b : Nat) : Ieee.double.read (Op.negFloat .f64 b) = (Ieee.double.read b).opposite := by
  have e0 : Op.negFloat .f64 b = b ^^^ 2 ^ 63 := rfl
  have e1 : (b ^^^ 2 ^ 63) % 9223372036854775808 = b % 9223372036854775808 := by
    have := Nat.xor_mod_two_pow (a := b) (b := 2 ^ 63) (n := 63)
    rw [Nat.mod_self, Nat.xor_zero] at this
    exact this
  have e2 : (b ^^^ 2 ^ 63) / 9223372036854775808 % 2 = 1 - b / 9223372036854775808 % 2 := by
    have h := Nat.xor_div_two_pow (a := b) (b := 2 ^ 63) (n := 63)
    rw [Nat.div_self (by decide)] at h
    have h' : (b ^^^ 2 ^ 63) / 9223372036854775808 = b / 9223372036854775808 ^^^ 1 := h
    rw [h']
    have h2 := Nat.xor_mod_two_pow (a := b / 9223372036854775808) (b := 1) (n := 1)
    have h3 : (b / 9223372036854775808 ^^^ 1) % 2 = b / 9223372036854775808 % 2 ^^^ 1 := h2
    rw [h3]
    have h4 : b / 9223372036854775808 % 2 = 0 ∨ b / 9223372036854775808 % 2 = 1 := by omega
    rcases h4 with h4 | h4 <;> rw [h4] <;> rfl
  rw [e0]
  unfold Ieee.Format.read
  rw [dS, dB, dI, dL, e1, e2]
  have h4 : b / 9223372036854775808 % 2 = 0 ∨ b / 9223372036854775808 % 2 = 1 := by omega
  dsimp only
  rcases h4 with h4 | h4 <;> rw [h4] <;> (repeat' split) <;> rfl
theorem fl_neg {b : Nat} {z : Int} (h : Fl b z) : Fl (Op.negFloat .f64 b) (-z) := by
  have := h.dat.opposite
  rw [← read_neg] at this
  exact this
theorem ord_cmp {x y : Nat} {a b : Int} (hx : Fl x a) (hy : Fl y b) : FloatKind.f64.format.order x y = some (compare a b) := fl_order hx hy
theorem cmp_eq (a b : Int) : (compare a b == .eq) = decide (a = b) := by
  show (compareOfLessAndEq a b == .eq) = _
  unfold compareOfLessAndEq
  by_cases h : a < b
  · rw [if_pos h, decide_eq_false (by omega)]; rfl
  · rw [if_neg h]
    by_cases h2 : a = b
    · rw [if_pos h2, decide_eq_true h2]; rfl
    · rw [if_neg h2, decide_eq_false h2]; rfl
theorem cmp_lt (a b : Int) : (compare a b == .lt) = decide (a < b) := by
  show (compareOfLessAndEq a b == .lt) = _
  unfold compareOfLessAndEq
  by_cases h : a < b
  · rw [if_pos h, decide_eq_true h]; rfl
  · rw [if_neg h, decide_eq_false h]
    split <;> rfl
theorem cmp_gt (a b : Int) : (compare a b == .gt) = decide (a > b) := by
  show (compareOfLessAndEq a b == .gt) = _
  unfold compareOfLessAndEq
  by_cases h : a < b
  · rw [if_pos h, decide_eq_false (by omega)]; rfl
  · rw [if_neg h]
    by_cases h2 : a = b
    · rw [if_pos h2, decide_eq_false (by omega)]; rfl
    · rw [if_neg h2, decide_eq_true (by omega)]; rfl
end Go.Proofs.Ytbcafgglgjhckaa
end
section
/- Arguments as the walks want them: bytes, rows of bytes. No program in sight. -/
namespace Go.Proofs.Ytbcafgglgjhckaa
open Go.RowKit Go.ChangeShapes
variable {H : Type} {enc : TypeId × Value → H} {P : Program} {W : World}
theorem addr_plain {w : World} {a : Addr} {v : Value} (h : w.cell? (a.add 0) = some v) : a = ⟨a.block, a.off, none⟩ := by
  have h0 : a.add 0 = a := by unfold Addr.add; rfl
  rw [h0] at h
  unfold World.cell? at h
  split at h
  · split at h
    · cases h
    · rename_i hs
      obtain ⟨b, o, s⟩ := a
      cases s with
      | none => rfl
      | some x => simp at hs
  · cases h
def ofI (zs : List Int) : List UInt8 := zs.map fun z => UInt8.ofNat z.toNat
theorem bV_ofI {z : Int} (h : (Lit.int .u8 z).wf = true) : bV (UInt8.ofNat z.toNat) = .int .u8 z := by
  have hz : 0 ≤ z ∧ z < 256 := by
    have e1 : IntKind.u8.min = 0 := rfl
    have e2 : IntKind.u8.max = 255 := rfl
    simp [Lit.wf] at h
    omega
  unfold bV
  rw [UInt8.toNat_ofNat', Nat.mod_eq_of_lt (by omega)]
  congr 1
  omega
theorem row_of_cells {a : Addr} {zs : List Int} {len : Nat} (hl : len ≤ zs.length) (hc : ∀ i, i < zs.length → W.cell? (a.add i) = some (.int .u8 (zs.getD i 0))) (hw : ∀ n ∈ zs, (Lit.int .u8 n).wf = true) : (ofI (zs.take len)).length = len ∧ RowAt W (some a) ((ofI (zs.take len)).map bV) := by
  refine ⟨by simp [ofI]; omega, ?_⟩
  cases hz : zs with
  | nil => exact .inl (by simp [ofI])
  | cons z0 r =>
    rw [← hz]
    have h0 := hc 0 (by rw [hz]; simp)
    have ha := addr_plain h0
    refine .inr ⟨a.block, a.off, by rw [← ha], fun i v hv => ?_⟩
    rw [List.getElem?_map, ofI, List.getElem?_map, List.getElem?_take] at hv
    split at hv
    · rcases hq : zs[i]? with _ | z
      · rw [hq] at hv; cases hv
      · rw [hq] at hv
        simp only [Option.map_some, Option.some.injEq] at hv
        have hi : i < zs.length := (List.getElem?_eq_some_iff.1 hq).1
        have h1 := hc i hi
        rw [ha, Addr.add_lit, List.getD_eq_getElem?_getD, hq] at h1
        rw [← hv, bV_ofI (hw z (List.mem_of_getElem? hq))]
        exact h1
    · cases hv
theorem open_bytes {t e : TypeId} {v : Value} {d : DataW H} {p : List MemPlace} (ht : P.underlying t = some (.slice e)) (he : P.underlying e = some (.int .u8)) (hc : P.cellsOf e = 1)
    (hv : ∃ a l c, v = .slice a l c) (h : DataW.Trod enc P W 0 (fun _ => true) true t v d p) : ∃ (bs : List UInt8) (a : Option Addr) (c : Nat), v = .slice a bs.length c ∧ bs.length ≤ c ∧ c ≤ maxLen ∧ RowAt W a (bs.map bV) := by
  obtain ⟨a, l, c, rfl⟩ := hv
  obtain ⟨fuel, hf⟩ := h
  rcases open_ints ht he hc hf with ⟨hcs, _⟩ | ⟨x, l', c', zs, hcs, _, hl, hm, hz, _, hcell, hwz⟩
  · simp [Value.cells] at hcs
    obtain ⟨rfl, rfl, rfl⟩ := hcs
    exact ⟨[], none, 0, rfl, Nat.le_refl _, by decide, .inl rfl⟩
  · simp [Value.cells] at hcs
    obtain ⟨rfl, rfl, rfl⟩ := hcs
    simp only [if_true] at hz
    obtain ⟨h1, h2⟩ := row_of_cells (len := l) (by omega) hcell hwz
    exact ⟨ofI (zs.take l), some x, c, by rw [h1], by rw [h1]; exact hl, hm, h2⟩
theorem open_parts {t e q : TypeId} {v : Value} {d : DataW H} {p : List MemPlace} (ht : P.underlying t = some (.slice e)) (he : P.underlying e = some (.slice q)) (hq : P.underlying q = some (.int .u8)) (ce : P.cellsOf e = 1) (cq : P.cellsOf q = 1)
    (hv : ∃ a l c, v = .slice a l c) (h : DataW.Trod enc P W 0 (fun _ => true) true t v d p) : ∃ (ps : List (List UInt8)) (a : Option Addr) (c : Nat), v = .slice a ps.length c ∧ ps.length ≤ c ∧ c ≤ maxLen ∧ PartsAt W a ps := by
  obtain ⟨a, l, c, rfl⟩ := hv
  obtain ⟨fuel, hf⟩ := h
  rcases Deep.open_int_rows ht he hq ce cq hf with ⟨hcs, _⟩ | ⟨x, l', c', A, L, C, Z, hcs, _, hl, hm, _, hrow⟩
  · simp [Value.cells] at hcs
    obtain ⟨rfl, rfl, rfl⟩ := hcs
    exact ⟨[], none, 0, rfl, Nat.le_refl _, by decide, .nil⟩
  · simp [Value.cells] at hcs
    obtain ⟨rfl, rfl, rfl⟩ := hcs
    have each : ∀ r, r < c → (ofI ((Z r).take (L r))).length = L r ∧ RowAt W (A r) ((ofI ((Z r).take (L r))).map bV) := fun r hr => by
      obtain ⟨_, h2, _, h4, h5, h6, h7⟩ := hrow r hr
      cases hA : A r with
      | none =>
        have hC := h6 hA
        have hL : L r = 0 := by omega
        rw [hL]
        exact ⟨by simp [ofI], .inl (by simp [ofI])⟩
      | some a' => exact row_of_cells (by omega) (fun i hi => (h7 a' hA).2 i (by omega)) h5
    let ps : List (List UInt8) := (List.range l).map fun r => ofI ((Z r).take (L r))
    let vs : List (Option Addr × Nat) := (List.range l).map fun r => (A r, C r)
    have hps : ps.length = l := by simp [ps]
    refine ⟨ps, some x, c, by rw [hps], by rw [hps]; exact hl, hm, vs, ?_, by simp [ps, vs], ?_⟩
    · by_cases h0 : l = 0
      · exact .inl (by rw [List.map_eq_nil_iff]; simp [ps, vs, h0])
      · have ha := addr_plain (hrow 0 (by omega)).1
        refine .inr ⟨x.block, x.off, by rw [← ha], fun i v hv => ?_⟩
        rw [List.getElem?_map] at hv
        rcases hz : (vs.zip ps)[i]? with _ | ⟨v1, p1⟩
        · rw [hz] at hv; cases hv
        · rw [hz] at hv
          simp only [Option.map_some, Option.some.injEq] at hv
          rw [List.getElem?_zip_eq_some] at hz
          obtain ⟨z1, z2⟩ := hz
          have hi : i < l := by
            have := (List.getElem?_eq_some_iff.1 z2).1
            omega
          simp only [vs, ps, List.getElem?_map, List.getElem?_range hi, Option.map_some, Option.some.injEq] at z1 z2
          rw [← hv, ← z1, ← z2, (each i (by omega)).1]
          have h1 := (hrow i (by omega)).1
          rw [ha, Addr.add_lit] at h1
          exact h1
    · intro v1 p1 hm1
      obtain ⟨i, hi⟩ := List.getElem?_of_mem hm1
      rw [List.getElem?_zip_eq_some] at hi
      obtain ⟨z1, z2⟩ := hi
      have hi : i < l := by
        have := (List.getElem?_eq_some_iff.1 z2).1
        omega
      simp only [vs, ps, List.getElem?_map, List.getElem?_range hi, Option.map_some, Option.some.injEq] at z1 z2
      obtain ⟨_, h2, h3, _⟩ := hrow i (by omega)
      rw [← z1, ← z2, (each i (by omega)).1]
      exact ⟨(each i (by omega)).2, h2, Nat.le_trans h2 h3⟩
theorem int_nat {z : Int} (h : 0 ≤ z) : ∃ n : Nat, z = (n : Int) := ⟨z.toNat, by omega⟩
theorem u32_nat {z : Int} (h : (Lit.int .u32 z).wf = true) : ∃ n : Nat, z = (n : Int) ∧ n < 4294967296 := by
  have hz : 0 ≤ z ∧ z < 4294967296 := by
    have e1 : IntKind.u32.min = 0 := rfl
    have e2 : IntKind.u32.max = 4294967295 := rfl
    simp [Lit.wf] at h
    omega
  exact ⟨z.toNat, by omega, by omega⟩
theorem i64_range {z : Int} (h : (Lit.int .i64 z).wf = true) : -9223372036854775808 ≤ z ∧ z ≤ 9223372036854775807 := by
  have e1 : IntKind.i64.min = -9223372036854775808 := rfl
  have e2 : IntKind.i64.max = 9223372036854775807 := rfl
  simp [Lit.wf] at h
  omega
end Go.Proofs.Ytbcafgglgjhckaa
end
