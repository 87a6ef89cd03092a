import Derived.Test.YtamlgnhnmilbdaaMCrB1
import Derived.Laws.MakeOwn
import Derived.Deep.MidRow
import Derived.Deep.LoopGhost
import Derived.KernelRfl
import Derived.Test.YtamlgnhnmilbdaaProg
import Derived.Test.YtamlgnhnmilbdaaRows
import Derived.Deep.DeepCutAuto
import Derived.Deep.CutBlock
import Derived.OwnWalk
import Derived.ScopeJumps
import Derived.WalkMore
set_option linter.unusedVariables false
section
/- What an operation that acts does in an abstract frame: allocations, stores, calls, append. No program in sight. -/
namespace Go.Proofs.Ytamlgnhnmilbdaa
open Go.RowKit
variable {P : Program} {E : Env}
/-- A new block. -/
def newO (w : World) (o : Obj) (K : Nat → World → Prop) : Prop := ∀ g w1, g = w.heap.size → w1 = w.alloc o → K g w1
/-- A local box was written: all else is as it was. -/
def BoxSt (g : Nat) (w w1 : World) : Prop := Fr [g] w w1 ∧ w1.heap.size = w.heap.size
def KeepG (gs : List Nat) (w w1 : World) : Prop := (∀ g ∈ gs, g < w.heap.size) → ∀ g ∈ gs, w1.heap[g]? = w.heap[g]?
def callO (P : Program) (n : FuncId) (args : List Value) (gs : List Nat) (w : World) (sh : List Sh1) (R : Value → World → Prop) : Prop :=
  Calls P n args.toArray w fun e w1 => KeepG gs w w1 ∧ exSh sh fun v => e = .returned v ∧ R v w1
def stO (gs : List Nat) (w : World) (b off : Nat) (vs : List Value) (K : World → Prop) : Prop :=
  (∀ g ∈ gs, g ≠ b) ∧ w.there b off vs.length ∧ ∀ w1, w1 = w.setCells b off vs → K w1
def memN : List Nat → Nat → Bool
  | [], _ => false
  | x :: r, n => cond (Nat.beq x n) true (memN r n)
def oneC : Value → Bool
  | .agg _ => false
  | .tuple _ => false
  | _ => true
def allOne : List Value → Bool
  | [] => true
  | v :: r => cond (oneC v) (allOne r) false
theorem allOne_spec : ∀ {l : List Value}, allOne l = true → ∀ v ∈ l, v.oneCell' = true
  | x :: r, h, v, hv => by
    unfold allOne at h
    cases hx : oneC x
    · rw [hx] at h; cases h
    · rw [hx] at h
      rcases List.mem_cons.1 hv with rfl | hv
      · cases v <;> first | rfl | (simp [oneC] at hx)
      · exact allOne_spec h v hv
def setB : List LB → Nat → List Value → List LB
  | [], _, _ => []
  | b :: r, id, cs => cond (Nat.beq b.id id) (⟨b.id, b.g, b.T, cs⟩ :: r) (b :: setB r id cs)
def repL : Nat → List Value → List Value
  | 0, _ => []
  | n + 1, l => l ++ repL n l
def appO (P : Program) (gs : List Nat) (w : World) (e : TypeId) (size bytes : Nat) (tx : TypeId) (a : Option Addr) (n c : Nat) (x : Value) (K : Nat → Option Addr → Nat → World → Prop) : Prop :=
  ∃ (m : Nat) (xs news : List Value), Own w 0 e size (.slice a n c) n xs ∧ Src P size tx x m news w ∧ n + m ≤ maxLen ∧ (n + m) * bytes ≤ 140737488355328 ∧ (∀ g ∈ gs, (Value.slice a n c).ownBlock ≠ some g) ∧
    ∀ a' c' w1, Own w1 0 e size (.slice a' (n + m) c') (n + m) (xs ++ news) → w.grownBy w1 (Value.slice a n c).ownBlock → ((Value.slice a' (n + m) c').ownBlock = (Value.slice a n c).ownBlock ∨ ∃ g, (Value.slice a' (n + m) c').ownBlock = some g ∧ w.heap.size ≤ g) → (n + m ≤ c → a' = a ∧ c' = c) →
      K m a' c' w1
/-- 'clear' of a slice. -/
def clrO (gs : List Nat) (w : World) (a : Option Addr) (cs : List Value) (K : World → Prop) : Prop := (cs = [] ∧ K w) ∨ ∃ b off, a = some ⟨b, off, none⟩ ∧ stO gs w b off cs K
/-- 'copy' of so many cells. -/
def cpyO (gs : List Nat) (w : World) (size : Nat) (a : Option Addr) (n : Nat) (a2 : Option Addr) (n2 : Nat) (K : World → Prop) : Prop :=
  (Nat.min n2 n = 0 ∧ K w) ∨ ∃ (cs : List Value) (ad : Addr) (b off : Nat), cs.length = Nat.min n2 n * size ∧ (∀ v ∈ cs, v.oneCell' = true) ∧ a2 = some ad ∧ (∀ j v, cs[j]? = some v → w.cell? (ad.add j) = some v) ∧ a = some ⟨b, off, none⟩ ∧ stO gs w b off cs K
def lbuiltin (P : Program) (E : Env) (b : Builtin) (t : Array TypeId) (args : List Value) (σ : List LB) (w : World) (K : Option SV → List LB → World → Prop) : Prop :=
  match b, t.toList, args with
  | .append, [t0, tx], [.slice a n c, x] => match lkT E.tys t0 with
    | some i => match i.k with
      | .slice e => match lkT E.tys e with
        | some ei => cond (Nat.beq (cellsL ei.zero).length ei.size) (appO P (gsOf σ) w e ei.size ei.bytes tx a n c x fun m a' c' w1 => K (some (.v (.slice a' (n + m) c'))) σ w1) False
        | none => False
      | _ => False
    | none => False
  | .clear, [t0], [.slice a n _] => match lkT E.tys t0 with
    | some i => match i.k with
      | .slice e => match lkT E.tys e with
        | some ei => cond (Nat.beq (cellsL ei.zero).length ei.size) (cond (allOne (cellsL ei.zero)) (clrO (gsOf σ) w a (repL n (cellsL ei.zero)) fun w1 => K (some (.v (.tuple #[]))) σ w1) False) False
        | none => False
      | _ => False
    | none => False
  | .copy, [t0, _], [.slice a n _, .slice a2 n2 _] => match lkT E.tys t0 with
    | some i => match i.k with
      | .slice e => match lkT E.tys e with
        | some ei => cpyO (gsOf σ) w ei.size a n a2 n2 fun w1 => K (some (.v (.int .i64 ((Nat.min n2 n : Nat) : Int)))) σ w1
        | none => False
      | _ => False
    | none => False
  | _, _, _ => False
def lop (P : Program) (E : Env) (pro : List Nat) (o : Oper) (ρ : SFr) (σ : List LB) (w : World) (K : Option SV → List LB → World → Prop) : Prop :=
  match o.op with
  | .alloc t => match lkT E.tys t, o.dst with
    | some i, some d => cond (memN pro d)
      (match lkB σ d with
        | none => newO w (.cells (cellsL i.zero).toArray t) fun g w1 => K (some (.box d 0)) (⟨d, g, t, cellsL i.zero⟩ :: σ) w1
        | some _ => False)
      (newO w (.cells (cellsL i.zero).toArray t) fun g w1 => K (some (.v (.pointer (some ⟨g, 0, none⟩)))) σ w1)
    | _, _ => False
  | .box t x => match o.dst with
    | some d => withV (ev ρ x) fun v => cond (memN pro d)
      (match lkB σ d with
        | none => newO w (.cells (cellsL v).toArray t) fun g w1 => K (some (.box d 0)) (⟨d, g, t, cellsL v⟩ :: σ) w1
        | some _ => False)
      (newO w (.cells (cellsL v).toArray t) fun g w1 => K (some (.v (.pointer (some ⟨g, 0, none⟩)))) σ w1)
    | none => False
  | .store t x y => match lkT E.tys t with
    | some i => withV (ev ρ y) fun v => cond (Nat.beq (cellsL v).length i.size) (cond (allOne (cellsL v)) (match ev ρ x with
      | some (.box id off) => match lkB σ id with
        | some b => cond (memN pro id) (match fillL b.cs off (cellsL v) with
          | some cs' => ∀ w1, BoxSt b.g w w1 → K none (setB σ id cs') w1
          | none => False) False
        | none => False
      | some (.v (.pointer p)) => withP p fun b off => stO (gsOf σ) w b off (cellsL v) fun w1 => K none σ w1
      | _ => False) False) False
    | none => False
  | .buildSlice t len parts => match lkT E.tys t with
    | some i => match i.k with
      | .slice e => match lkT E.tys e with
        | some ei => cond (Nat.beq (cellsL ei.zero).length ei.size) (cond (Nat.ble (len * ei.size) 16777216) (buildL (fun i => some (i * ei.size, ei.size)) ρ (repL len (cellsL ei.zero)) parts.toList fun cs => newO w (.cells cs.toArray e) fun g w1 => K (some (.v (.slice (some ⟨g, 0, none⟩) len len))) σ w1) False) False
        | none => False
      | _ => False
    | none => False
  | .makeSlice t l c => match lkT E.tys t with
    | some i => match i.k with
      | .slice e => match lkT E.tys e with
        | some ei => withV (ev ρ l) fun l => withV (ev ρ c) fun c => match l, c with
          | .int _ l, .int _ c => 0 ≤ l ∧ l ≤ c ∧ (ei.bytes : Int) * c ≤ 281474976710656 ∧ c ≤ 9223372036854775807 ∧ newO w (.cells (madeCells ei.zero.cells (c.toNat * ei.size)) e) fun g w1 => K (some (.v (.slice (some ⟨g, 0, none⟩) l.toNat c.toNat))) σ w1
          | _, _ => False
        | none => False
      | _ => False
    | none => False
  | .call c => match c.callee with
    | .value f => match ev ρ f with
      | some (.v (.func (.func n) first cap)) => match lkF E.fns n with
        | some sh => evL ρ c.args.toList first.toList fun args => callO P n (args ++ cap.toList) (gsOf σ) w sh fun v w1 => K (some (.v v)) σ w1
        | none => False
      | _ => False
    | .builtin b => evL ρ c.args.toList [] fun args => lbuiltin P E b c.argTypes args σ w K
    | _ => False
  | _ => False
def putS (ρ : SFr) (d : Option Tmp) (r : Option SV) : SFr := match d with
  | some d => (d, r) :: ρ
  | none => ρ
/-- A slot that is written is there. -/
def dstOk (n : Nat) (d : Option Tmp) : Bool := match d with
  | some d => Nat.blt d n
  | none => true
section
variable {n : Nat} {ρ : SFr} {σ : List LB} {a : Act} {w : World} {o : Oper}
theorem lk_cons (d : Nat) (r : Option SV) (ρ : SFr) (t : Nat) : lk ((d, r) :: ρ) t = if d = t then r else lk ρ t := by
  show (cond (Nat.beq d t) r (lk ρ t)) = _
  by_cases h : d = t
  · subst h; simp
  · have : Nat.beq d t = false := by cases hb : Nat.beq d t; rfl; exact absurd (Nat.eq_of_beq_eq_true hb) h
    rw [this, if_neg h]; rfl
theorem Rep.put (hr : Rep n ρ σ a w) {d : Option Tmp} (hd : dstOk n d = true) {s : SV} {x : Value} (hs : den σ s = some x) : Rep n (putS ρ d (some s)) σ (a.put d x) w := by
  cases d with
  | none => exact hr
  | some d =>
    have hd : d < n := Nat.le_of_ble_eq_true hd
    refine ⟨by simp [Act.put, hr.size], hr.defs, fun t s' hl => ?_, hr.boxes, hr.nodup, hr.ids⟩
    simp only [putS, lk_cons] at hl
    by_cases h : d = t
    · subst h
      rw [if_pos rfl] at hl
      injection hl with hl
      subst hl
      exact ⟨x, hs, by simp [Act.put, hr.size, hd]⟩
    · rw [if_neg h] at hl
      obtain ⟨y, h1, h2⟩ := hr.slots t s' hl
      exact ⟨y, h1, by simp [Act.put, Array.getElem?_setIfInBounds_ne h, h2]⟩
theorem Rep.putNone (hr : Rep n ρ σ a w) (d : Option Tmp) (x : Value) : Rep n (putS ρ d none) σ (a.put d x) w := by
  cases d with
  | none => exact hr
  | some d =>
    refine ⟨by simp [Act.put, hr.size], hr.defs, fun t s' hl => ?_, hr.boxes, hr.nodup, hr.ids⟩
    simp only [putS, lk_cons] at hl
    by_cases h : d = t
    · rw [if_pos h] at hl; cases hl
    · rw [if_neg h] at hl
      obtain ⟨y, h1, h2⟩ := hr.slots t s' hl
      exact ⟨y, h1, by simp [Act.put, Array.getElem?_setIfInBounds_ne h, h2]⟩
theorem LB.at.kept {b : LB} {w w1 : World} (h : b.at w) (hk : w1.heap[b.g]? = w.heap[b.g]?) : b.at w1 := hk.trans h
theorem LB.at.lt {b : LB} {w : World} (h : b.at w) : b.g < w.heap.size := heap_lt h
theorem Rep.world (hr : Rep n ρ σ a w) {w1 : World} (hk : ∀ b ∈ σ, w1.heap[b.g]? = w.heap[b.g]?) : Rep n ρ σ a w1 :=
  ⟨hr.size, hr.defs, hr.slots, fun b hb => (hr.boxes b hb).kept (hk b hb), hr.nodup, hr.ids⟩
theorem Rep.alloc (hr : Rep n ρ σ a w) (ob : Obj) : Rep n ρ σ a (w.alloc ob) := hr.world fun b hb => Below.heap_alloc _ _ _ (hr.boxes b hb).lt
theorem gsOf_eq : ∀ (σ : List LB), gsOf σ = σ.map (·.g)
  | [] => rfl
  | b :: r => by rw [gsOf, gsOf_eq r]; rfl
theorem gs_mem {b : LB} (h : b ∈ σ) : b.g ∈ gsOf σ := by rw [gsOf_eq]; exact List.mem_map.2 ⟨b, h, rfl⟩
theorem Rep.under (hr : Rep n ρ σ a w) : ∀ g ∈ gsOf σ, g < w.heap.size := fun g hg => by
  rw [gsOf_eq] at hg
  obtain ⟨b, hb, rfl⟩ := List.mem_map.1 hg
  exact (hr.boxes b hb).lt
theorem lkB_none {σ : List LB} {d : Nat} (h : lkB σ d = none) : d ∉ σ.map (·.id) := by
  induction σ with
  | nil => simp
  | cons b r ih =>
    unfold lkB at h
    cases hb : Nat.beq b.id d
    · rw [hb] at h
      intro hm
      rcases List.mem_cons.1 hm with e | e
      · rw [e, Nat.beq_refl] at hb; cases hb
      · exact ih h e
    · rw [hb] at h; cases h
theorem lkB_of_mem {σ : List LB} (hn : (σ.map (·.id)).Nodup) {b : LB} (h : b ∈ σ) : lkB σ b.id = some b := by
  induction σ with
  | nil => cases h
  | cons x r ih =>
    rw [List.map_cons, List.nodup_cons] at hn
    unfold lkB
    rcases List.mem_cons.1 h with rfl | h
    · rw [Nat.beq_refl]; rfl
    · have : Nat.beq x.id b.id = false := by
        cases hb : Nat.beq x.id b.id
        · rfl
        · exact absurd (List.mem_map.2 ⟨b, h, (Nat.eq_of_beq_eq_true hb).symm⟩) hn.1
      rw [this]; exact ih hn.2 h
theorem den_more {b : LB} {s : SV} {x : Value} (hb : lkB σ b.id = none) (h : den σ s = some x) : den (b :: σ) s = some x := by
  cases s with
  | v y => exact h
  | box id off =>
    replace h : (lkB σ id).map (fun b => Value.pointer (some ⟨b.g, off, none⟩)) = some x := h
    show (cond (Nat.beq b.id id) (some b) (lkB σ id)).map (fun b => Value.pointer (some ⟨b.g, off, none⟩)) = some x
    by_cases he : b.id = id
    · subst he; rw [hb] at h; cases h
    · have : Nat.beq b.id id = false := by cases hq : Nat.beq b.id id; rfl; exact absurd (Nat.eq_of_beq_eq_true hq) he
      rw [this]; exact h
theorem Rep.newBox (hr : Rep n ρ σ a w) {d : Nat} {t : TypeId} {cs : List Value} (hb : lkB σ d = none) : Rep n ρ (⟨d, w.heap.size, t, cs⟩ :: σ) a (w.alloc (.cells cs.toArray t)) := by
  refine ⟨hr.size, hr.defs, fun t s h => ?_, fun b hm => ?_, ?_, ?_⟩
  · obtain ⟨x, h1, h2⟩ := hr.slots t s h
    exact ⟨x, den_more hb h1, h2⟩
  · rcases List.mem_cons.1 hm with rfl | hm
    · exact al_new rfl
    · exact al_old (hr.boxes b hm)
  · rw [List.map_cons, List.nodup_cons]
    refine ⟨fun h => ?_, hr.nodup⟩
    obtain ⟨b, hm, he⟩ := List.mem_map.1 h
    have := (hr.boxes b hm).lt
    dsimp only at he
    omega
  · rw [List.map_cons, List.nodup_cons]
    exact ⟨fun h => lkB_none hb h, hr.ids⟩
theorem setB_map (cs : List Value) : ∀ (σ : List LB) (id : Nat), (setB σ id cs).map (·.g) = σ.map (·.g)
  | [], _ => rfl
  | b :: r, id => by
    unfold setB
    cases Nat.beq b.id id
    · simp [setB_map cs r id]
    · rfl
theorem setB_ids (cs : List Value) : ∀ (σ : List LB) (id : Nat), (setB σ id cs).map (·.id) = σ.map (·.id)
  | [], _ => rfl
  | b :: r, id => by
    unfold setB
    cases Nat.beq b.id id
    · simp [setB_ids cs r id]
    · rfl
theorem setB_lk (cs : List Value) (k : Nat) : ∀ (σ : List LB) (id : Nat) (b : LB), lkB σ k = some b → ∃ b', lkB (setB σ id cs) k = some b' ∧ b'.g = b.g ∧ b'.T = b.T ∧ (k ≠ id → b' = b)
  | x :: r, id, b, h => by
    unfold setB
    unfold lkB at h
    cases hb : Nat.beq x.id id
    · simp only [cond_false, lkB]
      cases hk : Nat.beq x.id k
      · rw [hk] at h; exact setB_lk cs k r id b h
      · rw [hk] at h; injection h with h; subst h; exact ⟨x, rfl, rfl, rfl, fun _ => rfl⟩
    · simp only [cond_true, lkB]
      cases hk : Nat.beq x.id k
      · rw [hk] at h; exact ⟨b, h, rfl, rfl, fun _ => rfl⟩
      · rw [hk] at h; injection h with h; subst h
        exact ⟨⟨x.id, x.g, x.T, cs⟩, rfl, rfl, rfl, fun hne => absurd ((Nat.eq_of_beq_eq_true hk).symm.trans (Nat.eq_of_beq_eq_true hb)) hne⟩
theorem setB_den (cs : List Value) : ∀ (σ : List LB) (id : Nat) (s : SV), den (setB σ id cs) s = den σ s
  | σ, id, .v x => rfl
  | σ, id, .box k off => by
    have f : ∀ (o1 o2 : Option LB), o1.map (·.g) = o2.map (·.g) → o1.map (fun b => Value.pointer (some ⟨b.g, off, none⟩)) = o2.map (fun b => Value.pointer (some ⟨b.g, off, none⟩)) := fun o1 o2 h => by
      cases o1 <;> cases o2 <;> simp at h ⊢
      exact h
    refine f _ _ ?_
    have : ∀ (σ : List LB), (lkB (setB σ id cs) k).map (·.g) = (lkB σ k).map (·.g) := by
      intro σ
      induction σ with
      | nil => rfl
      | cons b r ih =>
        unfold setB
        cases hb : Nat.beq b.id id
        · simp only [cond_false, lkB]
          cases Nat.beq b.id k
          · exact ih
          · rfl
        · simp only [cond_true, lkB]
          cases Nat.beq b.id k <;> rfl
    exact this σ
theorem setB_mem (cs : List Value) : ∀ {σ : List LB} {id : Nat} {b b' : LB}, lkB σ id = some b → (σ.map (·.g)).Nodup → b' ∈ setB σ id cs → (b' = ⟨b.id, b.g, b.T, cs⟩) ∨ (b' ∈ σ ∧ b'.g ≠ b.g)
  | x :: r, id, b, b', hl, hn, hm => by
    unfold lkB at hl
    unfold setB at hm
    rw [List.map_cons, List.nodup_cons] at hn
    cases hb : Nat.beq x.id id
    · rw [hb] at hl hm
      have hl : lkB r id = some b := hl
      rcases List.mem_cons.1 hm with rfl | hm
      · exact .inr ⟨by simp, fun e => hn.1 (e ▸ List.mem_map.2 ⟨b, (lkB_mem hl).1, rfl⟩)⟩
      · rcases setB_mem cs hl hn.2 hm with h | ⟨h1, h2⟩
        · exact .inl h
        · exact .inr ⟨List.mem_cons_of_mem _ h1, h2⟩
    · rw [hb] at hl hm
      injection hl with hl
      subst hl
      rcases List.mem_cons.1 hm with rfl | hm
      · exact .inl rfl
      · exact .inr ⟨List.mem_cons_of_mem _ hm, fun e => hn.1 (e ▸ List.mem_map.2 ⟨b', hm, rfl⟩)⟩
theorem Rep.setBox (hr : Rep n ρ σ a w) {id : Nat} {b : LB} {cs' : List Value} (hb : lkB σ id = some b) : Rep n ρ (setB σ id cs') a (w.setRow b.g cs'.toArray) := by
  have hat := hr.boxes b (lkB_mem hb).1
  refine ⟨hr.size, hr.defs, fun t s h => ?_, fun b' hm => ?_, by rw [setB_map]; exact hr.nodup, by rw [setB_ids]; exact hr.ids⟩
  · rw [setB_den]; exact hr.slots t s h
  · rcases setB_mem cs' hb hr.nodup hm with rfl | ⟨h1, h2⟩
    · exact setRow_heap _ _ _ _ _ _ hat
    · have := hr.boxes b' h1
      unfold LB.at at *
      simp only [World.setRow, Array.getElem?_modify]
      rw [if_neg (fun e => h2 e.symm)]; exact this
/-- The boxes that were there are there; only those of 'pro' were written. -/
def GrowsP (pro : List Nat) (σ σ' : List LB) : Prop := ∀ id b, lkB σ id = some b → ∃ b', lkB σ' id = some b' ∧ b'.g = b.g ∧ b'.T = b.T ∧ (memN pro id = false → b' = b)
theorem GrowsP.refl (pro : List Nat) (σ : List LB) : GrowsP pro σ σ := fun _ b h => ⟨b, h, rfl, rfl, fun _ => rfl⟩
theorem GrowsP.trans {pro : List Nat} {σ σ1 σ2 : List LB} (h : GrowsP pro σ σ1) (h2 : GrowsP pro σ1 σ2) : GrowsP pro σ σ2 := fun id b hb => by
  obtain ⟨b1, k1, k2, k3, k4⟩ := h id b hb
  obtain ⟨b2, m1, m2, m3, m4⟩ := h2 id b1 k1
  exact ⟨b2, m1, m2.trans k2, m3.trans k3, fun hp => (m4 hp).trans (k4 hp)⟩
theorem GrowsP.new {pro : List Nat} {σ : List LB} {b : LB} (hb : lkB σ b.id = none) : GrowsP pro σ (b :: σ) := fun id b' h => by
  refine ⟨b', ?_, rfl, rfl, fun _ => rfl⟩
  have hne : Nat.beq b.id id = false := by
    cases hq : Nat.beq b.id id
    · rfl
    · rw [Nat.eq_of_beq_eq_true hq, h] at hb; cases hb
  unfold lkB
  rw [hne]; exact h
theorem GrowsP.set {pro : List Nat} {σ : List LB} {id : Nat} {cs : List Value} (hp : memN pro id = true) : GrowsP pro σ (setB σ id cs) := fun k b h => by
  obtain ⟨b', h1, h2, h3, h4⟩ := setB_lk cs k σ id b h
  exact ⟨b', h1, h2, h3, fun hk => h4 (by rintro rfl; rw [hp] at hk; cases hk)⟩
/-- Which box does a store write? -/
def stBox (ρ : SFr) : Op → Option Nat
  | .store _ x _ => match ev ρ x with
    | some (.box id _) => some id
    | _ => none
  | _ => none
def Stays (s : Option Nat) (σ σ' : List LB) : Prop := ∀ id b, s ≠ some id → lkB σ id = some b → lkB σ' id = some b
theorem Stays.refl (s : Option Nat) (σ : List LB) : Stays s σ σ := fun _ _ _ h => h
theorem Stays.new {s : Option Nat} {σ : List LB} {b : LB} (hb : lkB σ b.id = none) : Stays s σ (b :: σ) := fun id b' _ h => by
  have hne : Nat.beq b.id id = false := by
    cases hq : Nat.beq b.id id
    · rfl
    · rw [Nat.eq_of_beq_eq_true hq, h] at hb; cases hb
  unfold lkB
  rw [hne]; exact h
/-- What an operation that acts leaves. -/
def Acts (P : Program) (n : Nat) (pro : List Nat) (ρ : SFr) (σ : List LB) (o : Oper) (a : Act) (w : World) (K : Option SV → List LB → World → Prop) (Q : Exit → Act → World → Prop) : Prop :=
  o.wp P a w (fun a1 w1 => ∃ r σ', K r σ' w1 ∧ Rep n (putS ρ o.dst r) σ' a1 w1 ∧ GrowsP pro σ σ' ∧ Stays (stBox ρ o.op) σ σ' ∧ ∃ x, a1 = a.put o.dst x) Q
variable {K : Option SV → List LB → World → Prop} {Q : Exit → Act → World → Prop}
theorem acts_value {pro : List Nat} {x : Value} {w1 : World} (h : (execOp a.eval o).run P w = .ok (.value x) w1) {s : SV} {σ' : List LB} (hr : Rep n ρ σ' a w1) (hd : dstOk n o.dst = true) (hs : den σ' s = some x) (hk : K (some s) σ' w1) (hg : GrowsP pro σ σ') (hst : Stays (stBox ρ o.op) σ σ') : Acts P n pro ρ σ o a w K Q := by
  unfold Acts Oper.wp
  rw [h, Oper.upon_value]
  exact ⟨_, _, hk, hr.put hd hs, hg, hst, _, rfl⟩
theorem l_alloc (hE : EOk P E) (hr : Rep n ρ σ a w) (hd : dstOk n o.dst = true) {pro : List Nat} {t : TypeId} (ho : o.op = .alloc t) (h : lop P E pro o ρ σ w K) : Acts P n pro ρ σ o a w K Q := by
  unfold lop at h
  rw [ho] at h
  simp only at h
  split at h
  · rename_i i d hi hdst
    have hrun : (execOp a.eval o).run P w = .ok (.value (.pointer (some ⟨w.heap.size, 0, none⟩))) (w.alloc (.cells (cellsL i.zero).toArray t)) := by
      rw [cellsL_eq]
      simp [execOp, ho, Instr.alloc, hE.zeroValue hi, newVar, newRow]
    cases hm : memN pro d
    · rw [hm] at h
      exact acts_value hrun (hr.alloc _) hd rfl (h _ _ rfl rfl) (.refl _ _) (.refl _ _)
    · rw [hm] at h
      simp only [cond_true] at h
      split at h
      · rename_i hb
        exact acts_value hrun (hr.newBox hb) hd (by simp [den, lkB]) (h _ _ rfl rfl) (.new hb) (.new hb)
      · exact h.elim
  · exact h.elim
theorem l_box (hr : Rep n ρ σ a w) (hd : dstOk n o.dst = true) {pro : List Nat} {t : TypeId} {x : Operand} (ho : o.op = .box t x) (h : lop P E pro o ρ σ w K) : Acts P n pro ρ σ o a w K Q := by
  unfold lop at h
  rw [ho] at h
  simp only at h
  split at h
  · rename_i d hdst
    replace h := hr.evV h
    have hrun : (execOp a.eval o).run P w = .ok (.value (.pointer (some ⟨w.heap.size, 0, none⟩))) (w.alloc (.cells (cellsL (a.eval x)).toArray t)) := by
      rw [cellsL_eq]
      simp [execOp, ho, Instr.box, newVar, newRow]
    cases hm : memN pro d
    · rw [hm] at h
      exact acts_value hrun (hr.alloc _) hd rfl (h _ _ rfl rfl) (.refl _ _) (.refl _ _)
    · rw [hm] at h
      simp only [cond_true] at h
      split at h
      · rename_i hb
        exact acts_value hrun (hr.newBox hb) hd (by simp [den, lkB]) (h _ _ rfl rfl) (.new hb) (.new hb)
      · exact h.elim
  · exact h.elim
theorem l_store (hE : EOk P E) (hr : Rep n ρ σ a w) {pro : List Nat} {t : TypeId} {x y : Operand} (ho : o.op = .store t x y) (h : lop P E pro o ρ σ w K) : Acts P n pro ρ σ o a w K Q := by
  unfold lop at h
  rw [ho] at h
  simp only at h
  split at h
  · rename_i i hi
    replace h := hr.evV h
    obtain ⟨hs, h⟩ := cond_get h
    obtain ⟨h1, h⟩ := cond_get h
    have hs := Nat.eq_of_beq_eq_true hs
    have h1 := allOne_spec h1
    rw [cellsL_eq] at hs h1
    have hs : (a.eval y).cells.size = i.size := by simpa using hs
    split at h
    · rename_i id off hx
      obtain ⟨b, hb, hev⟩ := hr.evP hx
      rw [hb] at h
      simp only at h
      obtain ⟨hpr, h⟩ := cond_get h
      split at h
      · rename_i cs' hf
        obtain ⟨hle, rfl⟩ := fillL_get hf
        rw [cellsL_eq] at hle h
        have hat := hr.boxes b (lkB_mem hb).1
        have hst := run_storeCells_at P b.g off b.T (a.eval y).cells.toList 0 b.cs.toArray w hat (by simpa using hle) h1
        have hrun : (execOp a.eval o).run P w = .ok .skip (w.setRow b.g (b.cs.take off ++ (a.eval y).cells.toList ++ b.cs.drop (off + (a.eval y).cells.toList.length)).toArray) := by
          simp only [Nat.add_zero] at hst
          simp [execOp, ho, hev, Instr.storeAt, Instr.sureAddr, storeVar, hE.sizeOf hi, hs, hst]
        unfold Acts Oper.wp
        rw [hrun, Oper.upon_skip]
        refine ⟨none, _, h _ ⟨(Fr.refl [b.g] w).setRow (.inl (by simp)) _, by simp [World.setRow]⟩, ?_⟩
        refine ⟨(hr.setBox hb).putNone _ _, .set hpr, fun k b' hk hb' => ?_, _, rfl⟩
        obtain ⟨b2, k1, _, _, k2⟩ := setB_lk (List.take off b.cs ++ (a.eval y).cells.toList ++ List.drop (off + (a.eval y).cells.toList.length) b.cs) k σ id b' hb'
        rw [k2 (by rintro rfl; exact hk (by rw [ho]; simp [stBox, hx]))] at k1
        exact k1
      · exact h.elim
    · rename_i p hx
      have hev := evv hr hx
      obtain ⟨b, off, rfl, hg, ht, h⟩ := withP_get h
      rw [cellsL_eq] at ht h
      have hst := run_storeCells_cells (P := P) b off (a.eval y).cells.toList 0 w (fun j hj => by simpa using (ht j hj).1) (fun j hj => by simpa using (ht j hj).2) h1
      have hrun : (execOp a.eval o).run P w = .ok .skip (w.setCells b off (a.eval y).cells.toList) := by
        simp only [Nat.add_zero] at hst
        simp [execOp, ho, hev, Instr.storeAt, Instr.sureAddr, storeVar, hE.sizeOf hi, hs, hst]
      unfold Acts Oper.wp
      rw [hrun, Oper.upon_skip]
      refine ⟨none, _, h _ rfl, (hr.world fun b' hb' => ?_).putNone _ _, .refl _ _, .refl _ _, _, rfl⟩
      have hne := hg b'.g (gs_mem hb')
      have key : ∀ (vs : List Value) (off : Nat) (w : World), (w.setCells b off vs).heap[b'.g]? = w.heap[b'.g]? := by
        intro vs
        induction vs with
        | nil => intro off w; rfl
        | cons v r ih => intro off w; rw [World.setCells, ih]; exact heap_setCell_other _ _ _ _ hne
      exact key _ _ _
    · exact h.elim
  · exact h.elim
theorem repL_length (l : List Value) : ∀ n, (repL n l).length = n * l.length
  | 0 => by simp [repL]
  | n + 1 => by rw [repL, List.length_append, repL_length l n, Nat.add_mul]; omega
theorem repL_get (l : List Value) (hl : l ≠ []) : ∀ (n j : Nat), j < n * l.length → (repL n l)[j]? = l[j % l.length]?
  | 0, j, h => by omega
  | n + 1, j, h => by
    rw [repL]
    by_cases hj : j < l.length
    · rw [List.getElem?_append_left hj, Nat.mod_eq_of_lt hj]
    · rw [List.getElem?_append_right (by omega), repL_get l hl n (j - l.length) (by rw [Nat.add_mul] at h; omega), ← Nat.mod_eq_sub_mod (by omega)]
theorem repL_range (l : List Value) (n : Nat) (hl : n * l.length ≠ 0) : (Array.range (n * l.length)).map (fun i => l.toArray[i % l.toArray.size]!) = (repL n l).toArray := by
  apply Array.ext'
  apply List.ext_getElem?
  intro j
  have hne : l ≠ [] := by rintro rfl; simp at hl
  by_cases hj : j < n * l.length
  · have hm : j % l.length < l.length := Nat.mod_lt _ (List.length_pos_iff.2 hne)
    simp [repL_get l hne n j hj, hj, hm]
  · simp [hj, List.getElem?_eq_none (show (repL n l).length ≤ j by rw [repL_length]; omega)]
end
end Go.Proofs.Ytamlgnhnmilbdaa
end
section
/- What an operation that acts does in an abstract frame: the rest; each of them acts so in the model. No program in sight. -/
namespace Go.Proofs.Ytamlgnhnmilbdaa
open Go.RowKit
variable {P : Program} {E : Env}
section
variable {n : Nat} {ρ : SFr} {σ : List LB} {a : Act} {w : World} {o : Oper} {K : Option SV → List LB → World → Prop} {Q : Exit → Act → World → Prop}
theorem l_buildSlice (hE : EOk P E) (hr : Rep n ρ σ a w) (hd : dstOk n o.dst = true) {pro : List Nat} {t : TypeId} {len : Nat} {parts : Array (Nat × Operand)} (ho : o.op = .buildSlice t len parts) (h : lop P E pro o ρ σ w K) : Acts P n pro ρ σ o a w K Q := by
  unfold lop at h
  rw [ho] at h
  simp only at h
  split at h
  · rename_i i hi
    split at h
    · rename_i e hk
      have hu := hE.slice hi hk
      split at h
      · rename_i ei hei
        obtain ⟨hz, h⟩ := cond_get h
        obtain ⟨hl, h⟩ := cond_get h
        have hz := Nat.eq_of_beq_eq_true hz
        have hl := Nat.le_of_ble_eq_true hl
        obtain ⟨cs, hf, h⟩ := buildL_get hr h
        have hzc : ei.zero.cells = (cellsL ei.zero).toArray := by rw [cellsL_eq]
        have hrun : (execOp a.eval o).run P w = .ok (.value (.slice (some ⟨w.heap.size, 0, none⟩) len len)) (w.alloc (.cells cs.toArray e)) := by
          have hn : ¬ (len * ei.size > 2 ^ 24) := by omega
          have hb : (Instr.buildSlice t len (parts.map fun (i, x) => (i, a.eval x))).run P w = .ok (.slice (some ⟨w.heap.size, 0, none⟩) len len) (w.alloc (.cells cs.toArray e)) := by
            unfold Instr.buildSlice
            rw [Sem.run_bind, run_underlying hu, Result.andThen_ok]
            simp only [Sem.run_bind, hE.sizeOf hei, Result.andThen_ok]
            rw [if_neg hn]
            by_cases h0 : len * ei.size = 0
            · rw [if_pos h0]
              have hr0 : repL len (cellsL ei.zero) = [] := List.eq_nil_of_length_eq_zero (by rw [repL_length, hz, h0])
              rw [hr0] at hf
              have hm : (Array.map (fun x : Nat × Operand => match x with | (i, x) => (i, a.eval x)) parts).toList = parts.toList.map fun p => (p.1, a.eval p.2) := by simp
              simp only [h0]
              simp only [Array.range_zero', hm]
              simp [hf, newRow]
            · rw [if_neg h0]
              have hm : (Array.map (fun x : Nat × Operand => match x with | (i, x) => (i, a.eval x)) parts).toList = parts.toList.map fun p => (p.1, a.eval p.2) := by simp
              simp only [Sem.run_bind, hE.zeroValue hei, hzc, hm, Sem.run_pure, Result.andThen_ok]
              rw [show len * ei.size = len * (cellsL ei.zero).length by rw [hz]] at h0 ⊢
              rw [repL_range _ _ h0, hf]
              simp [newRow]
          simp [execOp, ho, hb]
        exact acts_value hrun (hr.alloc _) hd rfl (h _ _ rfl rfl) (.refl _ _) (.refl _ _)
      · exact h.elim
    · exact h.elim
  · exact h.elim
theorem l_makeSlice (hE : EOk P E) (hr : Rep n ρ σ a w) (hd : dstOk n o.dst = true) {pro : List Nat} {t : TypeId} {x y : Operand} (ho : o.op = .makeSlice t x y) (h : lop P E pro o ρ σ w K) : Acts P n pro ρ σ o a w K Q := by
  unfold lop at h
  rw [ho] at h
  simp only at h
  split at h
  · rename_i i hi
    split at h
    · rename_i e hk
      have hu := hE.slice hi hk
      split at h
      · rename_i ei hei
        replace h := hr.evV (hr.evV h)
        split at h
        · rename_i kl l kc c hx hy
          obtain ⟨h0, h1, h2, h3, h⟩ := h
          obtain ⟨inf, g1, g2, g3, g4⟩ := hE.info hei
          have := run_make (P := P) w t e inf ei.zero hu g1 g3 kl kc l c h0 h1 (by rw [g4]; exact h2) h3
          rw [g2] at this
          have hrun : (execOp a.eval o).run P w = .ok (.value (.slice (some ⟨w.heap.size, 0, none⟩) l.toNat c.toNat)) (w.alloc (.cells (madeCells ei.zero.cells (c.toNat * ei.size)) e)) := by simp [execOp, ho, hx, hy, this]
          exact acts_value hrun (hr.alloc _) hd rfl (h _ _ rfl rfl) (.refl _ _) (.refl _ _)
        · exact h.elim
      · exact h.elim
    · exact h.elim
  · exact h.elim
theorem setCells_other {b g : Nat} (hne : g ≠ b) : ∀ (vs : List Value) (off : Nat) (w : World), (w.setCells b off vs).heap[g]? = w.heap[g]?
  | [], _, _ => rfl
  | v :: r, off, w => by rw [World.setCells, setCells_other hne r]; exact heap_setCell_other _ _ _ _ hne
theorem run_stores {gs : List Nat} {w : World} {b off : Nat} {cs : List Value} {K : World → Prop} (h : stO gs w b off cs K) (h1 : ∀ v ∈ cs, v.oneCell' = true) : (storeCells ⟨b, off, none⟩ cs).run P w = .ok () (w.setCells b off cs) ∧ K (w.setCells b off cs) ∧ ∀ g ∈ gs, (w.setCells b off cs).heap[g]? = w.heap[g]? := by
  obtain ⟨hg, ht, hk⟩ := h
  have hst := run_storeCells_cells (P := P) b off cs 0 w (fun j hj => by simpa using (ht j hj).1) (fun j hj => by simpa using (ht j hj).2) h1
  exact ⟨by simpa using hst, hk _ rfl, fun g hgs => setCells_other (hg g hgs) _ _ _⟩
theorem allOne_repL {l : List Value} (h : ∀ v ∈ l, v.oneCell' = true) : ∀ n, ∀ v ∈ repL n l, v.oneCell' = true
  | 0, v, hv => by cases hv
  | n + 1, v, hv => (List.mem_append.1 hv).elim (h v) (allOne_repL h n v)
theorem run_clear (hE : EOk P E) {t0 e ty : TypeId} {ei : TI} (hu : P.underlying t0 = some (.slice e)) (hei : lkT E.tys e = some ei) (hz : (cellsL ei.zero).length = ei.size) (h1 : allOne (cellsL ei.zero) = true) {gs : List Nat} {w : World} {a : Option Addr} {n c : Nat} {K : World → Prop}
    (h : clrO gs w a (repL n (cellsL ei.zero)) K) : ∃ w1, (Builtin.clear_ #[t0] ty #[.slice a n c]).run P w = .ok (.tuple #[]) w1 ∧ K w1 ∧ ∀ g ∈ gs, w1.heap[g]? = w.heap[g]? := by
  have h1 := allOne_spec h1
  have hzc : (Builtin.zeroCells ei.zero.cells n).toList = repL n (cellsL ei.zero) := by
    unfold Builtin.zeroCells
    rw [show ei.zero.cells = (cellsL ei.zero).toArray by rw [cellsL_eq]]
    by_cases h0 : n * (cellsL ei.zero).length = 0
    · rw [show n * (cellsL ei.zero).toArray.size = 0 by simpa using h0]
      have : repL n (cellsL ei.zero) = [] := List.eq_nil_of_length_eq_zero (by rw [repL_length, h0])
      rw [this]; simp
    · have := repL_range (cellsL ei.zero) n h0
      rw [show n * (cellsL ei.zero).toArray.size = n * (cellsL ei.zero).length by simp, this]
  rcases h with ⟨h0, hk⟩ | ⟨b, off, rfl, h⟩
  · refine ⟨w, ?_, hk, fun _ _ => rfl⟩
    cases a with
    | none => simp [Builtin.clear_, run_underlying hu]
    | some ad =>
      cases n with
      | zero => simp [Builtin.clear_, run_underlying hu]
      | succ n =>
        simp [Builtin.clear_, run_underlying hu, hE.zeroValue hei, hzc, h0, storeCells]
  · obtain ⟨e1, e2, e3⟩ := run_stores (P := P) h (allOne_repL h1 n)
    refine ⟨_, ?_, e2, e3⟩
    cases n with
    | zero => simp [Builtin.clear_, run_underlying hu, repL, World.setCells]
    | succ n => simp [Builtin.clear_, run_underlying hu, hE.zeroValue hei, hzc, e1]
theorem run_copyO (hE : EOk P E) {t0 s0 e ty : TypeId} {ei : TI} (hu : P.underlying t0 = some (.slice e)) (hei : lkT E.tys e = some ei) {gs : List Nat} {w : World} {a a2 : Option Addr} {n c n2 c2 : Nat} {K : World → Prop}
    (h : cpyO gs w ei.size a n a2 n2 K) : ∃ w1, (Builtin.copy_ #[t0, s0] ty #[.slice a n c, .slice a2 n2 c2]).run P w = .ok (.int .i64 ((Nat.min n2 n : Nat) : Int)) w1 ∧ K w1 ∧ ∀ g ∈ gs, w1.heap[g]? = w.heap[g]? := by
  rcases h with ⟨h0, hk⟩ | ⟨cs, ad, b, off, hl, h1, rfl, hsrc, rfl, h⟩
  · refine ⟨w, ?_, hk, fun _ _ => rfl⟩
    have hl : ∀ (x : Addr), (loadCells x 0).run P w = .ok #[] w := fun x => by simpa using run_loadCells_list (P := P) w x [] (by simp)
    cases a <;> cases a2 <;> simp [Builtin.copy_, run_underlying hu, Builtin.lenOf, Builtin.firstCells, hE.sizeOf hei, h0, storeCells, hl, goInt]
  · obtain ⟨e1, e2, e3⟩ := run_stores (P := P) h h1
    refine ⟨_, ?_, e2, e3⟩
    have hld := run_loadCells_list (P := P) w ad cs hsrc
    simp [Builtin.copy_, run_underlying hu, Builtin.lenOf, Builtin.firstCells, hE.sizeOf hei, ← hl, hld, e1, goInt]
theorem toArr (x : Array Operand) (f : Operand → Value) : (x.toList.map f).toArray = x.map f := by apply Array.ext'; simp
theorem l_call (hE : EOk P E) (hr : Rep n ρ σ a w) (hd : dstOk n o.dst = true) {pro : List Nat} {c : Call} (ho : o.op = .call c) (h : lop P E pro o ρ σ w K) : Acts P n pro ρ σ o a w K Q := by
  unfold lop at h
  rw [ho] at h
  simp only at h
  split at h
  · rename_i f hf
    split at h
    · rename_i f' first cap hx
      have hev := evv hr hx
      split at h
      · rename_i sh hsh
        replace h := evL_get hr h
        have hfn := hE.fns _ (lkF_mem hsh)
        have harg : (first.toList ++ c.args.toList.map a.eval ++ cap.toList).toArray = first ++ c.args.map a.eval ++ cap := by apply Array.ext'; simp
        unfold callO at h
        rw [harg] at h
        have hrun : (execOp a.eval o).run P w = .ok (.enter f' (first ++ c.args.map a.eval ++ cap)) w := by
          have := hfn (first ++ c.args.map a.eval ++ cap) w
          simp only [execOp, ho, resolve, hf, hev, Deferred.ofValue, Sem.run_bind, Sem.run_pure, Result.andThen_ok, invoke]
          exact this
        unfold Acts Oper.wp
        rw [hrun, Oper.upon_enter]
        refine h.mono fun e w1 he => ?_
        obtain ⟨hk, he⟩ := he
        obtain ⟨v, rfl, he2⟩ := exSh_get he
        refine ⟨_, _, he2, (hr.world fun b hb => hk hr.under _ (gs_mem hb)).put hd rfl, .refl _ _, .refl _ _, _, rfl⟩
      · exact h.elim
    · exact h.elim
  · rename_i b hb
    replace h := evL_get hr h
    rw [List.nil_append] at h
    unfold lbuiltin at h
    split at h
    · rename_i t0 tx ad m c' x ht hargs
      split at h
      · rename_i i hi
        split at h
        · rename_i e hk
          have hu := hE.slice hi hk
          split at h
          · rename_i ei hei
            obtain ⟨hz, h⟩ := cond_get h
            have hz := Nat.eq_of_beq_eq_true hz
            obtain ⟨m2, xs, news, hown, hsrc, hl1, hl2, hg, h⟩ := h
            obtain ⟨inf, g1, g2, g3, g4⟩ := hE.info hei
            obtain ⟨v', w', hrun, hown', hgr, hor, hfit⟩ := run_app5 (P := P) t0 tx o.type inf ei.zero ei.bytes hu g1 g3 g2 g4 (by rw [cellsL_eq] at hz; simpa using hz) hown x m2 news hsrc hl1 hl2 (Nat.zero_le _)
            obtain ⟨a', cap', rfl⟩ := hown'.isSlice
            have ht' : c.argTypes = #[t0, tx] := by apply Array.ext'; simpa using ht
            have ha' : c.args.map a.eval = #[.slice ad m c', x] := by rw [← toArr, hargs]
            have hrun2 : (execOp a.eval o).run P w = .ok (.value (.slice a' (m + m2) cap')) w' := by
              simp only [execOp, ho, resolve, hb, Sem.run_bind, Sem.run_pure, Result.andThen_ok, invoke, ha', ht', builtin, hrun]
            exact acts_value hrun2 (hr.world fun b' hb' => hgr.block _ (hr.boxes b' hb').lt fun e => hg _ (gs_mem hb') e.symm) hd rfl (h _ _ _ hown' hgr hor fun hle => by have := hfit _ _ rfl hle; injection this with q1 q2 q3; exact ⟨q1, q3⟩) (.refl _ _) (.refl _ _)
          · exact h.elim
        · exact h.elim
      · exact h.elim
    · rename_i t0 ad m c' ht hargs
      split at h
      · rename_i i hi
        split at h
        · rename_i e hk
          have hu := hE.slice hi hk
          split at h
          · rename_i ei hei
            obtain ⟨hz, h⟩ := cond_get h
            obtain ⟨h1, h⟩ := cond_get h
            have hz := Nat.eq_of_beq_eq_true hz
            obtain ⟨w1, hrun, hk1, hg⟩ := run_clear hE (ty := o.type) (c := c') hu hei hz h1 h
            have ht' : c.argTypes = #[t0] := by apply Array.ext'; simpa using ht
            have ha' : c.args.map a.eval = #[.slice ad m c'] := by rw [← toArr, hargs]
            have hrun2 : (execOp a.eval o).run P w = .ok (.value (.tuple #[])) w1 := by
              simp only [execOp, ho, resolve, hb, Sem.run_bind, Sem.run_pure, Result.andThen_ok, invoke, ha', ht', builtin, hrun]
            exact acts_value hrun2 (hr.world fun b' hb' => hg _ (gs_mem hb')) hd rfl hk1 (.refl _ _) (.refl _ _)
          · exact h.elim
        · exact h.elim
      · exact h.elim
    · rename_i t0 s0 ad m c' a2 m2 c2 ht hargs
      split at h
      · rename_i i hi
        split at h
        · rename_i e hk
          have hu := hE.slice hi hk
          split at h
          · rename_i ei hei
            obtain ⟨w1, hrun, hk1, hg⟩ := run_copyO hE (s0 := s0) (ty := o.type) (c := c') (c2 := c2) hu hei h
            have ht' : c.argTypes = #[t0, s0] := by apply Array.ext'; simpa using ht
            have ha' : c.args.map a.eval = #[.slice ad m c', .slice a2 m2 c2] := by rw [← toArr, hargs]
            have hrun2 : (execOp a.eval o).run P w = .ok (.value (.int .i64 ((Nat.min m2 m : Nat) : Int))) w1 := by
              simp only [execOp, ho, resolve, hb, Sem.run_bind, Sem.run_pure, Result.andThen_ok, invoke, ha', ht', builtin, hrun]
            exact acts_value hrun2 (hr.world fun b' hb' => hg _ (gs_mem hb')) hd rfl hk1 (.refl _ _) (.refl _ _)
          · exact h.elim
        · exact h.elim
      · exact h.elim
    · exact h.elim
  · exact h.elim
theorem lop_sound (hE : EOk P E) (hr : Rep n ρ σ a w) (hd : dstOk n o.dst = true) {pro : List Nat} (h : lop P E pro o ρ σ w K) : Acts P n pro ρ σ o a w K Q := by
  cases ho : o.op with
  | alloc t => exact l_alloc hE hr hd ho h
  | box t x => exact l_box hr hd ho h
  | store t x y => exact l_store hE hr ho h
  | buildSlice t l ps => exact l_buildSlice hE hr hd ho h
  | makeSlice t x y => exact l_makeSlice hE hr hd ho h
  | call c => exact l_call hE hr hd ho h
  | _ => unfold lop at h; rw [ho] at h; exact h.elim
end
end Go.Proofs.Ytamlgnhnmilbdaa
end
section
/- Regions in an abstract frame, in their order and drawn. No program in sight. -/
namespace Go.Proofs.Ytamlgnhnmilbdaa
open Go.RowKit
variable {P : Program} {E : Env}
def dstAt (ops : Array Oper) (j : Nat) : Option Nat := match ops[j]? with
  | some o => o.dst
  | none => none
def vGuard (ops : Array Oper) (g : Option (Nat × Bool)) (ρ : SFr) (Ky Kn : SFr → Prop) : Prop := match g with
  | none => Ky ρ
  | some q => match dstAt ops q.1 with
    | some d => withV (lk ρ d) fun v => match v with
      | .bool b => br b (cond q.2 (Ky ((d, some (.v (.bool true))) :: ρ)) (Kn ((d, some (.v (.bool true))) :: ρ))) (cond q.2 (Kn ((d, some (.v (.bool false))) :: ρ)) (Ky ((d, some (.v (.bool false))) :: ρ)))
      | .tuple _ => Kn ρ
      | _ => False
    | none => False
def isQ : Op → Bool
  | .alloc _ => false
  | .box _ _ => false
  | .store _ _ _ => false
  | .buildSlice _ _ _ => false
  | .makeSlice _ _ _ => false
  | .call c => match c.callee with
    | .builtin b => match b with
      | .len => true
      | .cap => true
      | .min => true
      | .max => true
      | _ => false
    | _ => false
  | _ => true
def vOps (P : Program) (E : Env) (n : Nat) (pro : List Nat) (ops : Array Oper) : List Nat → SFr → List LB → World → (SFr → List LB → World → Prop) → Prop
  | [], ρ, σ, w, K => K ρ σ w
  | i :: r, ρ, σ, w, K => match ops[i]? with
    | some o => cond (dstOk n o.dst) (vGuard ops o.guard ρ
      (fun ρ => cond (isQ o.op) (qop E o.op ρ σ w fun s _ => vOps P E n pro ops r (putS ρ o.dst (some s)) σ w K) (lop P E pro o ρ σ w fun s σ' w' => vOps P E n pro ops r (putS ρ o.dst s) σ' w' K))
      (fun ρ => vOps P E n pro ops r (putS ρ o.dst (some (.v undef))) σ w K)) False
    | none => False
/-- The reads of a phase. -/
def vQs (E : Env) (n : Nat) (ops : Array Oper) (σ : List LB) (w : World) : List Nat → SFr → List (Nat × SFact) → (SFr → List (Nat × SFact) → Prop) → Prop
  | [], ρ, F, K => K ρ F
  | i :: r, ρ, F, K => match ops[i]? with
    | some o => cond (dstOk n o.dst) (vGuard ops o.guard ρ
      (fun ρ => qop E o.op ρ σ w fun s f => vQs E n ops σ w r (putS ρ o.dst (some s)) (F ++ [(i, f)]) K)
      (fun ρ => vQs E n ops σ w r (putS ρ o.dst (some (.v undef))) (F ++ [(i, .tt)]) K)) False
    | none => False
def keepF (B : List Nat) (l : Nat) : List (Nat × SFact) → List (Nat × SFact)
  | [] => []
  | p :: r => cond ((B.getD l 0).testBit p.1) (keepF B l r) (p :: keepF B l r)
def factsAt : List (Nat × SFact) → World → Prop
  | [], _ => True
  | p :: r, w => match p.2 with
    | .mem f => f w ∧ factsAt r w
    | _ => factsAt r w
def noBoxF : List (Nat × SFact) → Nat → Bool
  | [], _ => true
  | p :: r, id => match p.2 with
    | .box k => cond (Nat.beq k.id id) false (noBoxF r id)
    | _ => noBoxF r id
def clearF (F : List (Nat × SFact)) : Option Nat → Bool
  | none => true
  | some id => noBoxF F id
def andF : List (Nat × SFact) → World → Prop → Prop
  | [], _, R => R
  | p :: r, w, R => match p.2 with
    | .mem f => f w ∧ andF r w R
    | _ => andF r w R
def allC : List Nat → (Nat → Prop) → Prop
  | [], _ => True
  | x :: r, f => match r with
    | [] => f x
    | _ :: _ => f x ∧ allC r f
theorem allC_get {f : Nat → Prop} : ∀ {l : List Nat}, allC l f → ∀ x ∈ l, f x
  | x :: r, h, y, hy => by
    unfold allC at h
    cases r with
    | nil => rw [List.mem_singleton] at hy; subst hy; exact h
    | cons z r =>
      rcases List.mem_cons.1 hy with rfl | hy
      · exact h.1
      · exact allC_get h.2 y hy
def vTr (P : Program) (E : Env) (n : Nat) (pro : List Nat) (ops : Array Oper) (B : List Nat) : Nat → List Nat → List Nat → List (Nat × SFact) → SFr → List LB → World → (SFr → List LB → World → Prop) → Prop
  | 0, _, _, _, ρ, σ, w, K => K ρ σ w
  | k + 1, L, Qs, F, ρ, σ, w, K => allC (readyL B L) fun l => match ops[l]? with
    | some o => cond (dstOk n o.dst) (vGuard ops o.guard ρ
      (fun ρ => cond (clearF (keepF B l F) (stBox ρ o.op)) (lop P E pro o ρ σ w fun s σ' w' => andF (keepF B l F) w' (vQs E n ops σ' w' (newQ B (L.erase l) Qs) (putS ρ o.dst s) (keepF B l F) fun ρ F => vTr P E n pro ops B k (L.erase l) (restQ B (L.erase l) Qs) F ρ σ' w' K)) False)
      (fun ρ => vQs E n ops σ w (newQ B (L.erase l) Qs) (putS ρ o.dst (some (.v undef))) (keepF B l F) fun ρ F => vTr P E n pro ops B k (L.erase l) (restQ B (L.erase l) Qs) F ρ σ w K)) False
    | none => False
def drewO (w : World) (K : World → Prop) : Prop := ∀ w1, w1.heap = w.heap → Below w.heap.size w w1 → K w1
def SameA (f : Nat → Bool) (a a' : Act) : Prop := ∀ t, f t = false → a'.tmps[t]? = a.tmps[t]?
theorem SameA.refl (f : Nat → Bool) (a : Act) : SameA f a a := fun _ _ => rfl
theorem SameA.trans {f : Nat → Bool} {a b c : Act} (h : SameA f a b) (k : SameA f b c) : SameA f a c := fun t ht => (k t ht).trans (h t ht)
theorem SameA.mono {f g : Nat → Bool} {a b : Act} (h : SameA f a b) (hg : ∀ t, f t = true → g t = true) : SameA g a b := fun t ht => h t (by cases hf : f t; rfl; rw [hg t hf] at ht; cases ht)
theorem SameA.put {f : Nat → Bool} {a : Act} {d : Option Tmp} {x : Value} (h : ∀ t, d = some t → f t = true) : SameA f a (a.put d x) := fun t ht => by
  cases d with
  | none => rfl
  | some d =>
    have hne : d ≠ t := by rintro rfl; rw [h d rfl] at ht; cases ht
    simp [Act.put, Array.getElem?_setIfInBounds_ne hne]
def wrOps (ops : Array Oper) (t : Nat) : Bool := ops.any fun o => o.dst == some t
theorem wrOps_mem {ops : Array Oper} {i : Nat} {o : Oper} (h : ops[i]? = some o) : ∀ t, o.dst = some t → wrOps ops t = true := fun t ht => by
  unfold wrOps
  obtain ⟨hi, rfl⟩ := Array.getElem?_eq_some_iff.1 h
  exact Array.any_eq_true.2 ⟨i, hi, by simp [ht]⟩
section
variable {n : Nat} {ρ : SFr} {σ : List LB} {a : Act} {w : World} {ops : Array Oper}
theorem Rep.refine (hr : Rep n ρ σ a w) {d : Nat} {b : Bool} (h : lk ρ d = some (.v (.bool b))) : Rep n ((d, some (.v (.bool b))) :: ρ) σ a w :=
  ⟨hr.size, hr.defs, fun t s hl => by
    rw [lk_cons] at hl
    by_cases hd : d = t
    · subst hd
      rw [if_pos rfl] at hl
      exact hr.slots d s (h.trans hl)
    · rw [if_neg hd] at hl; exact hr.slots t s hl, hr.boxes, hr.nodup, hr.ids⟩
theorem withV_lk {s : Option SV} {K : Value → Prop} (h : withV s K) : ∃ x, s = some (.v x) ∧ K x := by
  unfold withV at h
  split at h
  · exact ⟨_, rfl, h⟩
  · exact h.elim
theorem vGuard_get (hr : Rep n ρ σ a w) {o : Oper} {Ky Kn : SFr → Prop} (h : vGuard ops o.guard ρ Ky Kn) :
    (Region.wanted o (yielded ops a.tmps) = true ∧ ∃ ρ', Rep n ρ' σ a w ∧ Ky ρ') ∨ (Region.wanted o (yielded ops a.tmps) = false ∧ ∃ ρ', Rep n ρ' σ a w ∧ Kn ρ') := by
  unfold vGuard at h
  split at h
  · rename_i hg
    exact .inl ⟨by simp [Region.wanted, hg], ρ, hr, h⟩
  · rename_i q hg
    obtain ⟨j, want⟩ := q
    split at h
    · rename_i d hd
      obtain ⟨v, hv, h⟩ := withV_lk h
      obtain ⟨x, hx1, hx2⟩ := hr.slots d _ hv
      cases hx1
      have hy : ((ops[j]?).bind (·.dst)).bind (a.tmps[·]?) = some v := by
        unfold dstAt at hd
        cases ho : ops[j]? with
        | none => rw [ho] at hd; cases hd
        | some oj =>
          rw [ho] at hd
          simp only at hd
          simp [hd, hx2]
      split at h
      · rename_i b
        have hyy : yielded ops a.tmps j = some b := by unfold yielded; rw [hy]
        have hw : Region.wanted o (yielded ops a.tmps) = (b == want) := by simp only [Region.wanted, hg, hyy]; cases b <;> cases want <;> rfl
        have hr' := hr.refine hv
        cases b <;> cases want
        · exact .inl ⟨hw, _, hr', h⟩
        · exact .inr ⟨hw, _, hr', h⟩
        · exact .inr ⟨hw, _, hr', h⟩
        · exact .inl ⟨hw, _, hr', h⟩
      · rename_i vs
        have hyy : yielded ops a.tmps j = none := by unfold yielded; rw [hy]
        exact .inr ⟨by simp [Region.wanted, hg, hyy], ρ, hr, h⟩
      · exact h.elim
    · exact h.elim
theorem vOps_sound (hE : EOk P E) {pro : List Nat} {K : SFr → List LB → World → Prop} {Q : Exit → Act → World → Prop} {σ0 : List LB} {a0 : Act} (hQ : ∀ ρ σ a w, K ρ σ w → Rep n ρ σ a w → GrowsP pro σ0 σ → SameA (wrOps ops) a0 a → Q .normal a w) :
    ∀ (l : List Nat) (ρ : SFr) (σ : List LB) (a : Act) (w : World), Rep n ρ σ a w → GrowsP pro σ0 σ → SameA (wrOps ops) a0 a → vOps P E n pro ops l ρ σ w K → wpOps P ops Q l a w
  | [], ρ, σ, a, w, hr, hg, hs, h => hQ ρ σ a w h hr hg hs
  | i :: r, ρ, σ, a, w, hr, hg, hs, h => by
    unfold vOps at h
    unfold wpOps
    split at h
    · rename_i o ho
      obtain ⟨hd, h⟩ := cond_get h
      rw [ho]
      simp only
      have hput : ∀ x, SameA (wrOps ops) a (a.put o.dst x) := fun x => SameA.put (wrOps_mem ho)
      rcases vGuard_get hr h with ⟨hw, ρ', hr', h⟩ | ⟨hw, ρ', hr', h⟩
      · rw [if_pos hw]
        refine .inl ?_
        cases hq : isQ o.op
        · rw [hq] at h
          simp only [cond_false] at h
          refine Oper.wp_mono (fun a1 w1 => ?_) (lop_sound hE hr' hd h (Q := Q))
          rintro ⟨s, σ', hk, hr1, hg1, _, x, rfl⟩
          exact vOps_sound hE hQ r _ _ _ _ hr1 (hg.trans hg1) (hs.trans (hput x)) hk
        · rw [hq] at h
          simp only [cond_true] at h
          obtain ⟨s, f, x, hk, hden, hf, hrun, hbx⟩ := qop_sound (P := P) (o := o) hE hr' h
          unfold Oper.wp
          rw [hrun w hf, Oper.upon_value]
          exact vOps_sound hE hQ r _ _ _ _ (hr'.put hd hden) hg (hs.trans (hput x)) hk
      · rw [if_neg (by simp [hw])]
        exact vOps_sound hE hQ r _ _ _ _ (hr'.put hd rfl) hg (hs.trans (hput _)) h
    · exact h.elim
def qf (p : Nat × SFact) : QF := (p.1, p.2.holds)
/-- The boxes that facts speak of are there. -/
def InF (σ : List LB) (F : List (Nat × SFact)) : Prop := ∀ p ∈ F, ∀ b, p.2 = .box b → lkB σ b.id = some b
theorem vQs_sound (hE : EOk P E) {K : SFr → List (Nat × SFact) → Prop} : ∀ (l : List Nat) (ρ : SFr) (a : Act) (F : List (Nat × SFact)), Rep n ρ σ a w → vQs E n ops σ w l ρ F K →
    ∃ (G : List (Nat × SFact)) (a' : Act) (ρ' : SFr), G.map (·.1) = l ∧ SeqF P ops (G.map qf) a a' ∧ (∀ p ∈ G, p.2.holds w) ∧ Rep n ρ' σ a' w ∧ SameA (wrOps ops) a a' ∧ InF σ G ∧ K ρ' (F ++ G)
  | [], ρ, a, F, hr, h => ⟨[], a, ρ, rfl, rfl, (fun p hp => by cases hp), hr, SameA.refl _ _, (fun p hp => by cases hp), (by rw [List.append_nil]; exact h)⟩
  | i :: r, ρ, a, F, hr, h => by
    unfold vQs at h
    split at h
    · rename_i o ho
      obtain ⟨hd, h⟩ := cond_get h
      have hput : ∀ x, SameA (wrOps ops) a (a.put o.dst x) := fun x => SameA.put (wrOps_mem ho)
      rcases vGuard_get hr h with ⟨hw, ρ', hr', h⟩ | ⟨hw, ρ', hr', h⟩
      · obtain ⟨s, f, x, hk, hden, hf, hrun, hbx⟩ := qop_sound (P := P) (o := o) hE hr' h
        obtain ⟨G, a', ρ2, h1, h2, h3, h4, h5, h7, h6⟩ := vQs_sound hE r _ _ _ (hr'.put hd hden) hk
        refine ⟨(i, f) :: G, a', ρ2, by rw [List.map_cons, h1], ⟨o, x, ho, fun wx hx => .inl ⟨hw, .inl (hrun wx hx)⟩, h2⟩, fun p hp => ?_, h4, (hput x).trans h5, fun p hp => ?_, by rw [List.append_assoc] at h6; exact h6⟩
        · rcases List.mem_cons.1 hp with rfl | hp
          · exact hf
          · exact h3 p hp
        · rcases List.mem_cons.1 hp with rfl | hp
          · exact hbx
          · exact h7 p hp
      · obtain ⟨G, a', ρ2, h1, h2, h3, h4, h5, h7, h6⟩ := vQs_sound hE r _ _ _ (hr'.put hd (x := undef) rfl) h
        refine ⟨(i, .tt) :: G, a', ρ2, by rw [List.map_cons, h1], ⟨o, undef, ho, fun wx hx => .inr ⟨hw, rfl⟩, h2⟩, fun p hp => ?_, h4, (hput _).trans h5, fun p hp => ?_, by rw [List.append_assoc] at h6; exact h6⟩
        · rcases List.mem_cons.1 hp with rfl | hp
          · trivial
          · exact h3 p hp
        · rcases List.mem_cons.1 hp with rfl | hp
          · intro b hb; cases hb
          · exact h7 p hp
    · exact h.elim
theorem keepF_eq (B : List Nat) (l : Nat) : ∀ F, keepP B l (F.map qf) = (keepF B l F).map qf
  | [] => rfl
  | p :: r => by
    have ih := keepF_eq B l r
    unfold keepF
    unfold keepP at *
    rw [List.map_cons, List.filter_cons, ih]
    show (if (!(B.getD l 0).testBit p.1) = true then _ else _) = _
    cases (B.getD l 0).testBit p.1 <;> rfl
theorem keepF_sub (B : List Nat) (l : Nat) : ∀ {F : List (Nat × SFact)} {p}, p ∈ keepF B l F → p ∈ F
  | q :: r, p, h => by
    unfold keepF at h
    cases hb : (B.getD l 0).testBit q.1
    · rw [hb] at h
      rcases List.mem_cons.1 h with rfl | h
      · simp
      · exact List.mem_cons_of_mem _ (keepF_sub B l h)
    · rw [hb] at h; exact List.mem_cons_of_mem _ (keepF_sub B l h)
theorem factsAt_get : ∀ {F : List (Nat × SFact)} {w : World} {σ : List LB}, factsAt F w → InF σ F → (∀ b ∈ σ, b.at w) → ∀ p ∈ F, p.2.holds w
  | p :: r, w, σ, h, hi, hb, q, hq => by
    unfold factsAt at h
    rcases List.mem_cons.1 hq with rfl | hq
    · cases hf : q.2 with
      | tt => trivial
      | box b => exact hb b (lkB_mem (hi q (by simp) b hf)).1
      | mem f => rw [hf] at h; exact h.1
    · refine factsAt_get (F := r) ?_ (fun p hp => hi p (List.mem_cons_of_mem _ hp)) hb q hq
      cases hf : p.2 <;> rw [hf] at h <;> first | exact h | exact h.2
theorem andF_get : ∀ {F : List (Nat × SFact)} {w : World} {R : Prop}, andF F w R → factsAt F w ∧ R
  | [], w, R, h => ⟨trivial, h⟩
  | p :: r, w, R, h => by
    unfold andF at h
    unfold factsAt
    split at h
    · exact ⟨⟨h.1, (andF_get h.2).1⟩, (andF_get h.2).2⟩
    · rename_i hn
      have := andF_get h
      cases hf : p.2 with
      | mem f => exact absurd hf (hn f)
      | tt => exact this
      | box b => exact this
theorem noBoxF_get : ∀ {F : List (Nat × SFact)} {id : Nat}, noBoxF F id = true → ∀ p ∈ F, ∀ b, p.2 = .box b → b.id ≠ id
  | p :: r, id, h, q, hq, b, hb => by
    unfold noBoxF at h
    rcases List.mem_cons.1 hq with rfl | hq
    · rintro rfl
      rw [hb] at h
      simp at h
    · cases hf : p.2 with
      | box k =>
        rw [hf] at h
        simp only at h
        cases hk : Nat.beq k.id id
        · rw [hk] at h; exact noBoxF_get h q hq b hb
        · rw [hk] at h; cases h
      | tt => rw [hf] at h; exact noBoxF_get h q hq b hb
      | mem f => rw [hf] at h; exact noBoxF_get h q hq b hb
theorem vTr_sound (hE : EOk P E) {pro : List Nat} {B : List Nat} {K : SFr → List LB → World → Prop} {Q : Exit → Act → World → Prop} {σ0 : List LB} {a0 : Act} (hQ : ∀ ρ σ a w, K ρ σ w → Rep n ρ σ a w → GrowsP pro σ0 σ → SameA (wrOps ops) a0 a → Q .normal a w) :
    ∀ (k : Nat) (L Qs : List Nat) (F : List (Nat × SFact)) (ρ : SFr) (σ : List LB) (a : Act) (w : World), Rep n ρ σ a w → GrowsP pro σ0 σ → SameA (wrOps ops) a0 a → InF σ F → (∀ p ∈ F, p.2.holds w) → vTr P E n pro ops B k L Qs F ρ σ w K → wpTr P ops Q B k L Qs (F.map qf) a w
  | 0, L, Qs, F, ρ, σ, a, w, hr, hg, hs, _, _, h => hQ ρ σ a w h hr hg hs
  | k + 1, L, Qs, F, ρ, σ, a, w, hr, hg, hs, hin, hF, h => by
    intro l hl
    unfold vTr at h
    have h := allC_get h l hl
    unfold wpOp
    split at h
    · rename_i o ho
      obtain ⟨hd, h⟩ := cond_get h
      rw [ho]
      simp only
      have hput : ∀ x, SameA (wrOps ops) a (a.put o.dst x) := fun x => SameA.put (wrOps_mem ho)
      rcases vGuard_get hr h with ⟨hw, ρ', hr', h⟩ | ⟨hw, ρ', hr', h⟩
      · rw [if_pos hw]
        refine .inl ?_
        obtain ⟨hc, h⟩ := cond_get h
        refine Oper.wp_mono (fun a1 w1 => ?_) (lop_sound hE hr' hd h (Q := Q))
        rintro ⟨s, σ', hk, hr1, hg1, hst, x, rfl⟩
        obtain ⟨hfa, hk⟩ := andF_get hk
        have hin1 : InF σ' (keepF B l F) := fun p hp b hb => by
          refine hst b.id b (fun e => ?_) (hin p (keepF_sub B l hp) b hb)
          rw [e] at hc
          exact noBoxF_get hc p hp b hb rfl
        obtain ⟨G, a2, ρ2, h1, h2, h3, h4, h5, h7, h6⟩ := vQs_sound (P := P) hE _ _ _ _ hr1 hk
        have hall : ∀ p ∈ keepF B l F ++ G, p.2.holds w1 := fun p hp => (List.mem_append.1 hp).elim (factsAt_get hfa hin1 hr1.boxes p) (h3 p)
        have hinall : InF σ' (keepF B l F ++ G) := fun p hp => (List.mem_append.1 hp).elim (hin1 p) (h7 p)
        refine ⟨G.map qf, a2, by rw [List.map_map]; exact h1, h2, fun q hq => ?_, ?_⟩
        · rw [keepF_eq, ← List.map_append] at hq
          obtain ⟨p, hp, rfl⟩ := List.mem_map.1 hq
          exact hall p hp
        · rw [keepF_eq, ← List.map_append]
          exact vTr_sound hE hQ k _ _ _ _ _ _ _ h4 (hg.trans hg1) ((hs.trans (hput x)).trans h5) hinall hall h6
      · rw [if_neg (by simp [hw])]
        have hin1 : InF σ (keepF B l F) := fun p hp => hin p (keepF_sub B l hp)
        obtain ⟨G, a2, ρ2, h1, h2, h3, h4, h5, h7, h6⟩ := vQs_sound (P := P) hE _ _ _ _ (hr'.put hd (x := undef) rfl) h
        have hall : ∀ p ∈ keepF B l F ++ G, p.2.holds w := fun p hp => (List.mem_append.1 hp).elim (fun h => hF p (keepF_sub B l h)) (h3 p)
        have hinall : InF σ (keepF B l F ++ G) := fun p hp => (List.mem_append.1 hp).elim (hin1 p) (h7 p)
        refine ⟨G.map qf, a2, by rw [List.map_map]; exact h1, h2, fun q hq => ?_, ?_⟩
        · rw [keepF_eq, ← List.map_append] at hq
          obtain ⟨p, hp, rfl⟩ := List.mem_map.1 hq
          exact hall p hp
        · rw [keepF_eq, ← List.map_append]
          exact vTr_sound hE hQ k _ _ _ _ _ _ _ h4 hg ((hs.trans (hput _)).trans h5) hinall hall h6
    · exact h.elim
end
end Go.Proofs.Ytamlgnhnmilbdaa
end
section
/- Code over abstract frames: what is to be shown of it, and that this is enough. No program in sight. -/
namespace Go.Proofs.Ytamlgnhnmilbdaa
open Go.RowKit
variable {P : Program} {E : Env}
def arrow : List Lf → Type → Type
  | [], R => R
  | .int _ :: r, R => Int → arrow r R
  | .bool :: r, R => Bool → arrow r R
  | .str :: r, R => ByteArray → arrow r R
  | .slice :: r, R => Option Addr → Nat → Nat → arrow r R
  | .ptr :: r, R => Option Addr → arrow r R
  | .any :: r, R => Value → arrow r R
def getA {R : Type} (dflt : R) : (ls : List Lf) → arrow ls R → List Value → R
  | [], f, vs => match vs with
    | [] => f
    | _ :: _ => dflt
  | .int k :: r, f, vs => match vs with
    | .int k' x :: vs => cond (decide (k = k')) (getA dflt r (f x) vs) dflt
    | _ => dflt
  | .bool :: r, f, vs => match vs with
    | .bool x :: vs => getA dflt r (f x) vs
    | _ => dflt
  | .str :: r, f, vs => match vs with
    | .string s :: vs => getA dflt r (f s) vs
    | _ => dflt
  | .slice :: r, f, vs => match vs with
    | .slice a n c :: vs => getA dflt r (f a n c) vs
    | _ => dflt
  | .ptr :: r, f, vs => match vs with
    | .pointer a :: vs => getA dflt r (f a) vs
    | _ => dflt
  | .any :: r, f, vs => match vs with
    | v :: vs => getA dflt r (f v) vs
    | [] => dflt
def allA {R : Type} : (ls : List Lf) → arrow ls R → List Value → (List Value → R → Prop) → Prop
  | [], f, acc, K => K acc f
  | .int k :: r, f, acc, K => ∀ x : Int, allA r (f x) (acc ++ [.int k x]) K
  | .bool :: r, f, acc, K => ∀ x : Bool, allA r (f x) (acc ++ [.bool x]) K
  | .str :: r, f, acc, K => ∀ x : ByteArray, allA r (f x) (acc ++ [.string x]) K
  | .slice :: r, f, acc, K => ∀ (a : Option Addr) (n c : Nat), allA r (f a n c) (acc ++ [.slice a n c]) K
  | .ptr :: r, f, acc, K => ∀ a : Option Addr, allA r (f a) (acc ++ [.pointer a]) K
  | .any :: r, f, acc, K => ∀ v : Value, allA r (f v) (acc ++ [v]) K
theorem allA_get : ∀ (ls : List Lf) (I : arrow ls (World → Prop)) (acc vals : List Value) (w : World) (K : List Value → (World → Prop) → Prop), allA ls I acc K → getA (fun _ => False) ls I vals w → K (acc ++ vals) (getA (fun _ => False) ls I vals)
  | [], I, acc, vals, w, K, h, hi => by
    cases vals with
    | nil => rw [List.append_nil]; exact h
    | cons v vs => exact hi.elim
  | .int k :: r, I, acc, vals, w, K, h, hi => by
    unfold getA at hi ⊢
    split at hi
    · rename_i k' x vs
      cases hk : decide (k = k')
      · rw [hk] at hi; exact hi.elim
      · rw [hk] at hi
        obtain rfl := of_decide_eq_true hk
        have := allA_get r (I x) (acc ++ [.int k x]) vs w K (h x) hi
        rw [List.append_assoc] at this
        simpa using this
    · exact hi.elim
  | .bool :: r, I, acc, vals, w, K, h, hi => by
    unfold getA at hi ⊢
    split at hi
    · rename_i x vs
      have := allA_get r (I x) (acc ++ [.bool x]) vs w K (h x) hi
      rw [List.append_assoc] at this
      exact this
    · exact hi.elim
  | .str :: r, I, acc, vals, w, K, h, hi => by
    unfold getA at hi ⊢
    split at hi
    · rename_i x vs
      have := allA_get r (I x) (acc ++ [.string x]) vs w K (h x) hi
      rw [List.append_assoc] at this
      exact this
    · exact hi.elim
  | .slice :: r, I, acc, vals, w, K, h, hi => by
    unfold getA at hi ⊢
    split at hi
    · rename_i a n c vs
      have := allA_get r (I a n c) (acc ++ [.slice a n c]) vs w K (h a n c) hi
      rw [List.append_assoc] at this
      exact this
    · exact hi.elim
  | .ptr :: r, I, acc, vals, w, K, h, hi => by
    unfold getA at hi ⊢
    split at hi
    · rename_i a vs
      have := allA_get r (I a) (acc ++ [.pointer a]) vs w K (h a) hi
      rw [List.append_assoc] at this
      exact this
    · exact hi.elim
  | .any :: r, I, acc, vals, w, K, h, hi => by
    unfold getA at hi ⊢
    split at hi
    · rename_i v vs
      have := allA_get r (I v) (acc ++ [v]) vs w K (h v) hi
      rw [List.append_assoc] at this
      exact this
    · exact hi.elim
abbrev LSl := List (Nat × Sh1)
abbrev LBx := List (Nat × List Lf)
def lfsR : LSl → List Lf
  | [] => []
  | p :: r => (match p.2 with | .lf l => [l] | .agg ls => ls) ++ lfsR r
def lfsB : LBx → List Lf
  | [] => []
  | p :: r => p.2 ++ lfsB r
/-- The slots' values at a head, out of the flat row; what is left of it. -/
def headR : LSl → List Value → SFr → SFr
  | [], _, ρ => ρ
  | p :: r, vs, ρ => match p.2, vs with
    | .lf _, v :: vs => headR r vs ((p.1, some (.v v)) :: ρ)
    | .lf _, [] => ρ
    | .agg ls, vs => headR r (vs.drop ls.length) ((p.1, some (.v (.agg (vs.take ls.length).toArray))) :: ρ)
def restR : LSl → List Value → List Value
  | [], vs => vs
  | p :: r, vs => match p.2, vs with
    | .lf _, _ :: vs => restR r vs
    | .lf _, [] => []
    | .agg ls, vs => restR r (vs.drop ls.length)
def headB : LBx → List Value → List LB → List LB
  | [], _, σ => σ
  | p :: r, vs, σ => headB r (vs.drop p.2.length) (setB σ p.1 (vs.take p.2.length))
def liveR : LSl → SFr → List Value → (List Value → Prop) → Prop
  | [], _, acc, K => K acc
  | p :: r, ρ, acc, K => withV (lk ρ p.1) fun v => match p.2, v with
    | .lf _, .agg _ => False
    | .lf _, v => liveR r ρ (acc ++ [v]) K
    | .agg ls, .agg cs => cond (Nat.beq cs.toList.length ls.length) (liveR r ρ (acc ++ cs.toList) K) False
    | .agg _, _ => False
def liveB : LBx → List LB → List Value → (List Value → Prop) → Prop
  | [], _, acc, K => K acc
  | p :: r, σ, acc, K => match lkB σ p.1 with
    | some b => cond (Nat.beq b.cs.length p.2.length) (liveB r σ (acc ++ b.cs) K) False
    | none => False
def dropS (wr : List Nat) : SFr → SFr
  | [] => []
  | p :: r => cond (memN wr p.1) (dropS wr r) (p :: dropS wr r)
def idsB : LBx → List Nat
  | [] => []
  | p :: r => p.1 :: idsB r
def subN : List Nat → List Nat → Bool
  | [], _ => true
  | x :: r, l => cond (memN l x) (subN r l) false
/-- Boxes that may be written are among those that the head lists. -/
def okB : List LB → List Nat → List Nat → Bool
  | [], _, _ => true
  | b :: r, pb, ids => cond (memN pb b.id) (cond (memN ids b.id) (okB r pb ids) false) (okB r pb ids)
inductive AC where
  | skip
  | reg (id : Nat) (ops : Array Oper)
  | regD (id : Nat) (ops : Array Oper) (B L Qs : List Nat)
  | seq (a b : AC)
  | cond (c : Operand) (a b : AC)
  | block (id : Nat) (a : AC)
  | loop (lv : LSl) (bx : LBx) (wr pb : List Nat) (a : AC)
  | cut (lv : LSl) (bx : LBx) (wr pb : List Nat) (a : AC)
  | exit (id : Nat)
  | ret
def AC.erase : AC → Code
  | .skip => .skip
  | .reg id ops => .region id ops false
  | .regD id ops _ _ _ => .region id ops true
  | .seq a b => .seq a.erase b.erase
  | .cond c a b => .cond c a.erase b.erase
  | .block id a => .block id a.erase
  | .loop _ _ _ _ a => .loop a.erase
  | .cut _ _ _ _ a => a.erase
  | .exit id => .exit id
  | .ret => .ret
def dstsO : List Oper → List Nat
  | [] => []
  | o :: r => match o.dst with
    | some d => d :: dstsO r
    | none => dstsO r
def AC.dsts : AC → List Nat
  | .skip => []
  | .reg _ ops => dstsO ops.toList
  | .regD _ ops _ _ _ => dstsO ops.toList
  | .seq a b => a.dsts ++ b.dsts
  | .cond _ a b => a.dsts ++ b.dsts
  | .block _ a => a.dsts
  | .loop _ _ _ _ a => a.dsts
  | .cut _ _ _ _ a => a.dsts
  | .exit _ => []
  | .ret => []
abbrev VQ := Exit → SFr → List LB → World → Prop
def refC (c : Operand) (b : Bool) (ρ : SFr) : SFr := match c with
  | .tmp d => (d, some (.v (.bool b))) :: ρ
  | _ => ρ
def thenQ (K : SFr → List LB → World → Prop) (Q : VQ) : VQ
  | .normal, ρ, σ, w => K ρ σ w
  | e, ρ, σ, w => Q e ρ σ w
def blockQ (id : Nat) (Q : VQ) : VQ
  | .exit k, ρ, σ, w => cond (Nat.beq k id) (Q .normal ρ σ w) (Q (.exit k) ρ σ w)
  | e, ρ, σ, w => Q e ρ σ w
def headOk (σ : List LB) (bx : LBx) (wr pb pro : List Nat) (a : AC) : Bool := subN a.dsts wr && subN pb pro && subN (idsB bx) pro && okB σ pb (idsB bx)
def regOk (ops : Array Oper) (B L Qs : List Nat) : Bool := trB ops B L Qs
def vc (P : Program) (E : Env) (n : Nat) : AC → List Nat → VQ → SFr → List LB → World → Prop
  | .skip, _, Q, ρ, σ, w => Q .normal ρ σ w
  | .reg _ ops, pro, Q, ρ, σ, w => vOps P E n pro ops (List.range ops.size) ρ σ w (Q .normal)
  | .regD _ ops B L Qs, pro, Q, ρ, σ, w => _root_.cond (regOk ops B L Qs) (drewO w fun w1 => vQs E n ops σ w1 (newQ B L Qs) ρ [] fun ρ F => vTr P E n pro ops B L.length L (restQ B L Qs) F ρ σ w1 (Q .normal)) False
  | .seq a b, pro, Q, ρ, σ, w => vc P E n a pro (thenQ (vc P E n b pro Q) Q) ρ σ w
  | .cond c a b, pro, Q, ρ, σ, w => withV (ev ρ c) fun v => match v with
    | .bool t => br t (vc P E n a pro Q (refC c true ρ) σ w) (vc P E n b pro Q (refC c false ρ) σ w)
    | _ => False
  | .block id a, pro, Q, ρ, σ, w => vc P E n a pro (blockQ id Q) ρ σ w
  | .loop lv bx wr pb a, pro, Q, ρ, σ, w => _root_.cond (headOk σ bx wr pb pro a)
      (∃ (I : arrow (lfsR lv ++ lfsB bx) (World → Prop)) (μ : arrow (lfsR lv ++ lfsB bx) (World → Nat)),
        (liveR lv ρ [] fun vs => liveB bx σ vs fun vs => getA (fun _ => False) _ I vs w) ∧
        allA _ I [] fun vs i => ∀ w1, i w1 → vc P E n a pb (thenQ (fun ρ' σ' w' => liveR lv ρ' [] fun vs' => liveB bx σ' vs' fun vs' => getA (fun _ => False) _ I vs' w' ∧ getA (fun _ => 0) _ μ vs' w' < getA (fun _ => 0) _ μ vs w1) Q)
          (headR lv vs (dropS wr ρ)) (headB bx (restR lv vs) σ) w1) False
  | .cut lv bx wr pb a, pro, Q, ρ, σ, w => _root_.cond (headOk σ bx wr pb pro a)
      (∃ (J : arrow (lfsR lv ++ lfsB bx) (World → Prop)),
        vc P E n a pb (thenQ (fun ρ' σ' w' => liveR lv ρ' [] fun vs' => liveB bx σ' vs' fun vs' => getA (fun _ => False) _ J vs' w') Q) ρ σ w ∧
        allA _ J [] fun vs j => ∀ w1, j w1 → Q .normal (headR lv vs (dropS wr ρ)) (headB bx (restR lv vs) σ) w1) False
  | .exit id, _, Q, ρ, σ, w => Q (.exit id) ρ σ w
  | .ret, _, Q, ρ, σ, w => Q .ret ρ σ w
theorem memN_iff {n : Nat} : ∀ {l : List Nat}, memN l n = true ↔ n ∈ l
  | [] => by simp [memN]
  | x :: r => by
    unfold memN
    cases hb : Nat.beq x n
    · have : x ≠ n := fun e => by rw [e, Nat.beq_refl] at hb; cases hb
      simp only [cond_false, memN_iff, List.mem_cons]
      exact ⟨.inr, fun h => h.resolve_left (fun e => this e.symm)⟩
    · simp [Nat.eq_of_beq_eq_true hb]
theorem subN_get : ∀ {l m : List Nat}, subN l m = true → ∀ x, memN l x = true → memN m x = true
  | y :: r, m, h, x, hx => by
    unfold subN at h
    cases hy : memN m y
    · rw [hy] at h; cases h
    · rw [hy] at h
      rw [memN_iff] at hx
      rcases List.mem_cons.1 hx with rfl | hx
      · exact hy
      · exact subN_get h x (memN_iff.2 hx)
theorem dstsO_mem {d : Nat} : ∀ {l : List Oper}, d ∈ dstsO l ↔ ∃ o ∈ l, o.dst = some d
  | [] => by simp [dstsO]
  | o :: r => by
    unfold dstsO
    split
    · rename_i k hk
      simp only [List.mem_cons, dstsO_mem (l := r)]
      constructor
      · rintro (rfl | ⟨o', h1, h2⟩)
        · exact ⟨o, .inl rfl, hk⟩
        · exact ⟨o', .inr h1, h2⟩
      · rintro ⟨o', rfl | h1, h2⟩
        · rw [hk] at h2; injection h2 with h2; exact .inl h2.symm
        · exact .inr ⟨o', h1, h2⟩
    · rename_i hk
      simp only [List.mem_cons, dstsO_mem (l := r)]
      constructor
      · rintro ⟨o', h1, h2⟩; exact ⟨o', .inr h1, h2⟩
      · rintro ⟨o', rfl | h1, h2⟩
        · rw [hk] at h2; cases h2
        · exact ⟨o', h1, h2⟩
theorem wrOps_dsts {ops : Array Oper} {t : Nat} (h : wrOps ops t = true) : memN (dstsO ops.toList) t = true := by
  unfold wrOps at h
  obtain ⟨i, hi, h⟩ := Array.any_eq_true.1 h
  exact memN_iff.2 (dstsO_mem.2 ⟨ops[i], by simp, by simpa using h⟩)
theorem lk_dropS (wr : List Nat) (t : Nat) : ∀ (ρ : SFr), lk (dropS wr ρ) t = if memN wr t then none else lk ρ t
  | [] => by simp [dropS, lk]
  | p :: r => by
    obtain ⟨d, x⟩ := p
    unfold dropS
    cases hd : memN wr d
    · simp only [cond_false]
      rw [lk_cons, lk_cons, lk_dropS wr t r]
      by_cases h : d = t
      · subst h; simp [hd]
      · simp [h]
    · simp only [cond_true]
      rw [lk_dropS wr t r, lk_cons]
      by_cases h : d = t
      · subst h; simp [hd]
      · simp [h]
end Go.Proofs.Ytamlgnhnmilbdaa
end
section
/- What is to be shown of code over abstract frames is enough. No program in sight. -/
namespace Go.Proofs.Ytamlgnhnmilbdaa
open Go.RowKit
variable {P : Program} {E : Env}
section
variable {n : Nat} {ρ : SFr} {σ : List LB} {a : Act} {w : World}
theorem liveR_get (hr : Rep n ρ σ a w) : ∀ (lv : LSl) (acc : List Value) (K : List Value → Prop), liveR lv ρ acc K →
    ∃ seg, K (acc ++ seg) ∧ (∀ seg2, restR lv (seg ++ seg2) = seg2) ∧ ∀ seg2 ρ0 t s, lk (headR lv (seg ++ seg2) ρ0) t = some s → (∃ v, s = .v v ∧ a.tmps[t]? = some v) ∨ lk ρ0 t = some s
  | [], acc, K, h => ⟨[], by rw [List.append_nil]; exact h, fun _ => rfl, fun _ _ _ _ h => .inr h⟩
  | (d, sh) :: r, acc, K, h => by
    unfold liveR at h
    obtain ⟨v, hv, h⟩ := withV_lk h
    obtain ⟨x, hx1, hx2⟩ := hr.slots d _ hv
    cases hx1
    have step : ∀ (ρ0 : SFr) (t : Nat) (s : SV), lk ((d, some (.v v)) :: ρ0) t = some s → (∃ v, s = .v v ∧ a.tmps[t]? = some v) ∨ lk ρ0 t = some s := fun ρ0 t s h => by
      rw [lk_cons] at h
      by_cases hd : d = t
      · subst hd
        rw [if_pos rfl] at h
        injection h with h
        exact .inl ⟨v, h.symm, hx2⟩
      · rw [if_neg hd] at h; exact .inr h
    cases sh with
    | lf l =>
      replace h : liveR r ρ (acc ++ [v]) K := by cases v <;> first | exact h.elim | exact h
      obtain ⟨seg, h1, h2, h3⟩ := liveR_get hr r _ _ h
      refine ⟨v :: seg, by rw [List.append_assoc] at h1; exact h1, fun seg2 => h2 seg2, fun seg2 ρ0 t s hl => ?_⟩
      rcases h3 _ _ _ _ (show lk (headR r (seg ++ seg2) ((d, some (.v v)) :: ρ0)) t = some s from hl) with h | h
      · exact .inl h
      · exact step ρ0 t s h
    | agg ls =>
      cases v with
      | agg cs =>
        obtain ⟨hlen, h⟩ := cond_get h
        have hlen := Nat.eq_of_beq_eq_true hlen
        obtain ⟨seg, h1, h2, h3⟩ := liveR_get hr r _ _ h
        have htk : ∀ l : List Value, (cs.toList ++ l).take ls.length = cs.toList ∧ (cs.toList ++ l).drop ls.length = l := fun l => by rw [← hlen]; simp
        refine ⟨cs.toList ++ seg, by rw [List.append_assoc] at h1; exact h1, fun seg2 => ?_, fun seg2 ρ0 t s hl => ?_⟩
        · rw [List.append_assoc]
          show restR r ((cs.toList ++ (seg ++ seg2)).drop ls.length) = seg2
          rw [(htk _).2]
          exact h2 seg2
        · rw [List.append_assoc] at hl
          replace hl : lk (headR r ((cs.toList ++ (seg ++ seg2)).drop ls.length) ((d, some (.v (.agg ((cs.toList ++ (seg ++ seg2)).take ls.length).toArray))) :: ρ0)) t = some s := hl
          rw [(htk _).1, (htk _).2] at hl
          rcases h3 _ _ _ _ hl with h | h
          · exact .inl h
          · exact step ρ0 t s h
      | _ => exact h.elim
theorem setB_inv (cs : List Value) (k : Nat) : ∀ (σ : List LB) (id : Nat) (b1 : LB), lkB (setB σ id cs) k = some b1 → ∃ b0, lkB σ k = some b0 ∧ b1.g = b0.g ∧ b1.T = b0.T ∧ (k = id → b1.cs = cs) ∧ (k ≠ id → b1 = b0)
  | x :: r, id, b1, h => by
    unfold setB at h
    unfold lkB
    cases hb : Nat.beq x.id id
    · rw [hb] at h
      simp only [cond_false, lkB] at h
      cases hk : Nat.beq x.id k
      · rw [hk] at h; exact setB_inv cs k r id b1 h
      · rw [hk] at h; injection h with h; subst h
        exact ⟨x, rfl, rfl, rfl, (fun e => by rw [← e, hk] at hb; cases hb), fun _ => rfl⟩
    · rw [hb] at h
      simp only [cond_true, lkB] at h
      cases hk : Nat.beq x.id k
      · rw [hk] at h
        exact ⟨b1, h, rfl, rfl, (fun e => by rw [e, hb] at hk; cases hk), fun _ => rfl⟩
      · rw [hk] at h; injection h with h; subst h
        exact ⟨x, rfl, rfl, rfl, fun _ => rfl, fun hne => absurd ((Nat.eq_of_beq_eq_true hk).symm.trans (Nat.eq_of_beq_eq_true hb)) hne⟩
theorem headB_same : ∀ (bx : LBx) (seg : List Value) (σ : List LB), (headB bx seg σ).map (·.g) = σ.map (·.g) ∧ (headB bx seg σ).map (·.id) = σ.map (·.id) ∧ ∀ s, den (headB bx seg σ) s = den σ s
  | [], _, _ => ⟨rfl, rfl, fun _ => rfl⟩
  | p :: r, seg, σ => by
    obtain ⟨h1, h2, h3⟩ := headB_same r (seg.drop p.2.length) (setB σ p.1 (seg.take p.2.length))
    exact ⟨h1.trans (setB_map _ _ _), h2.trans (setB_ids _ _ _), fun s => (h3 s).trans (setB_den _ _ _ _)⟩
theorem liveB_get {σ' : List LB} : ∀ (bx : LBx) (acc : List Value) (K : List Value → Prop), liveB bx σ' acc K →
    ∃ seg, K (acc ++ seg) ∧ ∀ (σ : List LB) (id : Nat) (b : LB), lkB (headB bx seg σ) id = some b → ∃ b0, lkB σ id = some b0 ∧ b.g = b0.g ∧ b.T = b0.T ∧ ((memN (idsB bx) id = true ∧ ∃ b', lkB σ' id = some b' ∧ b.cs = b'.cs) ∨ (memN (idsB bx) id = false ∧ b = b0))
  | [], acc, K, h => ⟨[], by rw [List.append_nil]; exact h, fun σ id b hb => ⟨b, hb, rfl, rfl, .inr ⟨rfl, rfl⟩⟩⟩
  | (k, ls) :: r, acc, K, h => by
    unfold liveB at h
    split at h
    · rename_i b' hb'
      obtain ⟨hlen, h⟩ := cond_get h
      have hlen := Nat.eq_of_beq_eq_true hlen
      obtain ⟨seg, h1, h2⟩ := liveB_get r _ _ h
      refine ⟨b'.cs ++ seg, by rw [List.append_assoc] at h1; exact h1, fun σ id b hb => ?_⟩
      have e1 : (b'.cs ++ seg).take ls.length = b'.cs := by rw [← hlen]; simp
      have e2 : (b'.cs ++ seg).drop ls.length = seg := by rw [← hlen]; simp
      unfold headB at hb
      simp only [e1, e2] at hb
      obtain ⟨b1, g1, g2, g3, g4⟩ := h2 _ id b hb
      obtain ⟨b0, k1, k2, k3, k4, k5⟩ := setB_inv _ _ _ _ _ g1
      refine ⟨b0, k1, g2.trans k2, g3.trans k3, ?_⟩
      unfold idsB memN
      rcases g4 with ⟨g4, b2, g5, g6⟩ | ⟨g4, rfl⟩
      · refine .inl ⟨?_, b2, g5, g6⟩
        rw [g4]; cases Nat.beq k id <;> rfl
      · cases hk : Nat.beq k id
        · refine .inr ⟨g4, k5 fun e => ?_⟩
          rw [e, Nat.beq_refl] at hk; cases hk
        · obtain rfl := Nat.eq_of_beq_eq_true hk
          exact .inl ⟨rfl, b', hb', k4 rfl⟩
    · exact h.elim
theorem okB_get {pb ids : List Nat} : ∀ {σ : List LB}, okB σ pb ids = true → ∀ b ∈ σ, memN pb b.id = true → memN ids b.id = true
  | x :: r, h, b, hb, hp => by
    unfold okB at h
    rcases List.mem_cons.1 hb with rfl | hb
    · rw [hp] at h
      simp only [cond_true] at h
      cases hi : memN ids b.id
      · rw [hi] at h; cases h
      · rfl
    · refine okB_get (σ := r) ?_ b hb hp
      cases hx : memN pb x.id
      · rw [hx] at h; exact h
      · rw [hx] at h
        simp only [cond_true] at h
        cases hi : memN ids x.id
        · rw [hi] at h; cases h
        · rw [hi] at h; exact h
def HeadRel (ids : List Nat) (σ0 σ' : List LB) : Prop := ∀ id b0, lkB σ0 id = some b0 → ∃ b', lkB σ' id = some b' ∧ b'.g = b0.g ∧ b'.T = b0.T ∧ (memN ids id = false → b' = b0)
theorem rep_head {ρ0 ρ' : SFr} {σ0 σ' : List LB} {a0 a' : Act} {w0 w' : World} (h0 : Rep n ρ0 σ0 a0 w0) (h1 : Rep n ρ' σ' a' w') {lv : LSl} {bx : LBx} {wr : List Nat} (hrel : HeadRel (idsB bx) σ0 σ') (hs : SameA (memN wr) a0 a') {K : List Value → Prop}
    (h : liveR lv ρ' [] fun vs => liveB bx σ' vs K) : ∃ vals, K vals ∧ Rep n (headR lv vals (dropS wr ρ0)) (headB bx (restR lv vals) σ0) a' w' := by
  obtain ⟨segR, h, hrest, hsl⟩ := liveR_get h1 lv _ _ h
  obtain ⟨segB, h, hbx⟩ := liveB_get bx _ _ h
  refine ⟨segR ++ segB, by simpa using h, ?_⟩
  rw [hrest]
  obtain ⟨e1, e2, e3⟩ := headB_same bx segB σ0
  refine ⟨h1.size, h1.defs, fun t s hl => ?_, fun b hb => ?_, by rw [e1]; exact h0.nodup, by rw [e2]; exact h0.ids⟩
  · rcases hsl _ _ _ _ hl with ⟨v, rfl, hv⟩ | hl
    · exact ⟨v, rfl, hv⟩
    · rw [lk_dropS] at hl
      cases hw : memN wr t
      · rw [hw] at hl
        obtain ⟨x, g1, g2⟩ := h0.slots t s (by simpa using hl)
        exact ⟨x, by rw [e3]; exact g1, by rw [hs t hw]; exact g2⟩
      · rw [hw] at hl; simp at hl
  · have hids : ((headB bx segB σ0).map (·.id)).Nodup := by rw [e2]; exact h0.ids
    obtain ⟨b0, g1, g2, g3, g4⟩ := hbx σ0 b.id b (lkB_of_mem hids hb)
    obtain ⟨b', k1, k2, k3, k4⟩ := hrel _ _ g1
    have hat := h1.boxes b' (lkB_mem k1).1
    have hcs : b.cs = b'.cs := by
      rcases g4 with ⟨_, b2, g5, g6⟩ | ⟨g4, rfl⟩
      · rw [k1] at g5; injection g5 with g5; subst g5; exact g6
      · rw [k4 g4]
    unfold LB.at at *
    rw [g2, g3, hcs, ← k2, ← k3]; exact hat
theorem headB_lk (bx : LBx) : ∀ (seg : List Value) (σ : List LB) (id : Nat) (b : LB), lkB σ id = some b → ∃ b', lkB (headB bx seg σ) id = some b' ∧ b'.g = b.g ∧ b'.T = b.T ∧ (memN (idsB bx) id = false → b' = b) := by
  induction bx with
  | nil => intro seg σ id b hb; exact ⟨b, hb, rfl, rfl, fun _ => rfl⟩
  | cons p r ih =>
    intro seg σ id b hb
    obtain ⟨b1, g1, g2, g3, g4⟩ := setB_lk (seg.take p.2.length) id σ p.1 b hb
    obtain ⟨b2, m1, m2, m3, m4⟩ := ih (seg.drop p.2.length) _ id b1 g1
    refine ⟨b2, m1, m2.trans g2, m3.trans g3, fun hn => ?_⟩
    unfold idsB memN at hn
    cases hp : Nat.beq p.1 id
    · rw [hp] at hn
      exact (m4 hn).trans (g4 fun e => by rw [e, Nat.beq_refl] at hp; cases hp)
    · rw [hp] at hn; cases hn
/-- The frame behind code. -/
def Out (n : Nat) (pro : List Nat) (wr : List Nat) (Q : VQ) (σ0 : List LB) (a0 : Act) (e : Exit) (a : Act) (w : World) : Prop :=
  ∃ ρ σ, Q e ρ σ w ∧ Rep n ρ σ a w ∧ GrowsP pro σ0 σ ∧ SameA (memN wr) a0 a
theorem memN_app (l m : List Nat) (t : Nat) : memN (l ++ m) t = (memN l t || memN m t) := by
  rw [Bool.eq_iff_iff, Bool.or_eq_true, memN_iff, memN_iff, memN_iff, List.mem_append]
theorem Out.then {pro wr1 wr2 : List Nat} {K : SFr → List LB → World → Prop} {Q : VQ} {σ0 : List LB} {a0 : Act} {c : Code}
    (hc : ∀ ρ σ a w, K ρ σ w → Rep n ρ σ a w → c.wp P (Out n pro wr2 Q σ a) a w) {e : Exit} {a : Act} {w : World} (h : Out n pro wr1 (thenQ K Q) σ0 a0 e a w) :
    Exit.then (c.wp P (Out n pro (wr1 ++ wr2) Q σ0 a0)) (Out n pro (wr1 ++ wr2) Q σ0 a0) e a w := by
  obtain ⟨ρ, σ, hq, hr, hg, hs⟩ := h
  have hs' : SameA (memN (wr1 ++ wr2)) a0 a := hs.mono fun t ht => by rw [memN_app, ht]; rfl
  cases e with
  | normal =>
    refine wp_mono (hc ρ σ a w hq hr) fun e a' w' h => ?_
    obtain ⟨ρ', σ', hq', hr', hg', hs2⟩ := h
    exact ⟨ρ', σ', hq', hr', hg.trans hg', hs'.trans (hs2.mono fun t ht => by rw [memN_app, ht]; simp)⟩
  | _ => exact ⟨ρ, σ, hq, hr, hg, hs'⟩
theorem rep_refC (hr : Rep n ρ σ a w) {c : Operand} {t : Bool} (h : ev ρ c = some (.v (.bool t))) : Rep n (refC c t ρ) σ a w := by
  cases c with
  | tmp d => exact hr.refine h
  | _ => exact hr
end
end Go.Proofs.Ytamlgnhnmilbdaa
end
section
/- A function whose condition holds answers so. No program in sight. -/
namespace Go.Proofs.Ytamlgnhnmilbdaa
open Go.RowKit
variable {P : Program} {E : Env}
theorem vc_sound (hE : EOk P E) {n : Nat} : ∀ (c : AC) (pro : List Nat) (Q : VQ) (ρ : SFr) (σ : List LB) (a : Act) (w : World), Rep n ρ σ a w → vc P E n c pro Q ρ σ w → c.erase.wp P (Out n pro c.dsts Q σ a) a w
  | .skip, pro, Q, ρ, σ, a, w, hr, h => wp_skip ⟨ρ, σ, h, hr, .refl _ _, .refl _ _⟩
  | .reg id ops, pro, Q, ρ, σ, a, w, hr, h => by
    refine wp_region (vOps_sound (pro := pro) (K := Q .normal) (σ0 := σ) (a0 := a) hE (fun ρ' σ' a' w' hq hr' hg hs => ⟨ρ', σ', hq, hr', hg, hs.mono fun t ht => wrOps_dsts ht⟩) _ ρ σ a w hr (.refl _ _) (.refl _ _) ?_)
    exact h
  | .regD id ops B L Qs, pro, Q, ρ, σ, a, w, hr, h => by
    unfold vc at h
    obtain ⟨hok, h⟩ := cond_get h
    have h := h w.drew rfl ((Below.refl _ _).drew)
    have hr1 : Rep n ρ σ a w.drew := hr.world fun b _ => rfl
    obtain ⟨G, a', ρ', h1, h2, h3, h4, h5, h6, h7⟩ := vQs_sound (P := P) (ops := ops) hE _ _ _ _ hr1 h
    refine wp_region_tr B L Qs hE.mixed hok ⟨G.map qf, a', by rw [List.map_map]; exact h1, h2, fun q hq => ?_, ?_⟩
    · obtain ⟨p, hp, rfl⟩ := List.mem_map.1 hq
      exact h3 p hp
    · exact vTr_sound (pro := pro) (K := Q .normal) (σ0 := σ) (a0 := a) hE (fun ρ' σ' a' w' hq hr' hg hs => ⟨ρ', σ', hq, hr', hg, hs.mono fun t ht => wrOps_dsts ht⟩) _ _ _ G ρ' σ a' w.drew h4 (.refl _ _) h5 h6 h3 (by simpa using h7)
  | .seq x y, pro, Q, ρ, σ, a, w, hr, h => by
    refine wp_seq (wp_mono (vc_sound hE x pro _ ρ σ a w hr h) fun e a' w' ho => ?_)
    exact Out.then (fun ρ σ a w hk hr => vc_sound hE y pro Q ρ σ a w hr hk) ho
  | .cond c x y, pro, Q, ρ, σ, a, w, hr, h => by
    unfold vc at h
    obtain ⟨v, hv, h⟩ := withV_lk h
    split at h
    · rename_i t
      have hev := evv hr hv
      have hr' := rep_refC hr hv
      cases t
      · refine wp_cond hev (wp_mono (vc_sound hE y pro Q _ σ a w hr' h) fun e a' w' ho => ?_)
        obtain ⟨ρ', σ', hq, hr2, hg, hs⟩ := ho
        exact ⟨ρ', σ', hq, hr2, hg, hs.mono fun t ht => by unfold AC.dsts; rw [memN_app, ht]; simp⟩
      · refine wp_cond hev (wp_mono (vc_sound hE x pro Q _ σ a w hr' h) fun e a' w' ho => ?_)
        obtain ⟨ρ', σ', hq, hr2, hg, hs⟩ := ho
        exact ⟨ρ', σ', hq, hr2, hg, hs.mono fun t ht => by unfold AC.dsts; rw [memN_app, ht]; rfl⟩
    · exact h.elim
  | .block id x, pro, Q, ρ, σ, a, w, hr, h => by
    refine wp_block (wp_mono (vc_sound hE x pro (blockQ id Q) ρ σ a w hr h) fun e a' w' ho => ?_)
    obtain ⟨ρ', σ', hq, hr2, hg, hs⟩ := ho
    cases e with
    | exit k =>
      show if k = id then _ else _
      replace hq : _root_.cond (Nat.beq k id) (Q .normal ρ' σ' w') (Q (.exit k) ρ' σ' w') := hq
      by_cases hk : k = id
      · subst hk
        rw [Nat.beq_refl] at hq
        rw [if_pos rfl]
        exact ⟨ρ', σ', hq, hr2, hg, hs⟩
      · have : Nat.beq k id = false := by cases hb : Nat.beq k id; rfl; exact absurd (Nat.eq_of_beq_eq_true hb) hk
        rw [this] at hq
        rw [if_neg hk]
        exact ⟨ρ', σ', hq, hr2, hg, hs⟩
    | _ => exact ⟨ρ', σ', hq, hr2, hg, hs⟩
  | .loop lv bx wr pb x, pro, Q, ρ, σ, a, w, hr, h => by
    unfold vc at h
    obtain ⟨hok, I, μ, h0, hall⟩ := cond_get h
    unfold headOk at hok
    rw [Bool.and_eq_true, Bool.and_eq_true, Bool.and_eq_true] at hok
    obtain ⟨⟨⟨k1, k2⟩, k3⟩, k4⟩ := hok
    have hbase : HeadRel (idsB bx) σ σ := fun id b0 hb => ⟨b0, hb, rfl, rfl, fun _ => rfl⟩
    obtain ⟨vals0, hi0, hr0⟩ := rep_head (a' := a) (wr := wr) hr hr hbase (.refl _ _) h0
    have hin : SameA (memN wr) a a := .refl _ _
    refine wp_loop_ghost (fun k a1 w1 => ∃ vals, getA (fun _ => 0) _ μ vals w1 = k ∧ getA (fun _ => False) _ I vals w1 ∧ Rep n (headR lv vals (dropS wr ρ)) (headB bx (restR lv vals) σ) a1 w1 ∧ SameA (memN x.dsts) a a1) _ ⟨vals0, rfl, hi0, hr0, .refl _ _⟩ ?_
    rintro k a1 w1 ⟨vals, rfl, hi, hrh, hsame⟩
    have hv := allA_get _ I [] vals w1 _ hall hi w1 hi
    rw [List.nil_append] at hv
    obtain ⟨e1, e2, e3⟩ := headB_same bx (restR lv vals) σ
    have hgh : GrowsP pro σ (headB bx (restR lv vals) σ) := fun id b hb => by
      obtain ⟨b', g1, g2, g3, g4⟩ := headB_lk bx (restR lv vals) σ id b hb
      refine ⟨b', g1, g2, g3, fun hp => g4 ?_⟩
      cases hm2 : memN (idsB bx) id
      · rfl
      · rw [subN_get k3 id hm2] at hp; cases hp
    have hpb : ∀ {σ1 σ2 : List LB}, GrowsP pb σ1 σ2 → GrowsP pro σ1 σ2 := fun hg id b hb => by
      obtain ⟨b', g1, g2, g3, g4⟩ := hg id b hb
      refine ⟨b', g1, g2, g3, fun hp => g4 ?_⟩
      cases hm : memN pb id
      · rfl
      · rw [subN_get k2 id hm] at hp; cases hp
    refine wp_mono (vc_sound hE x pb _ _ _ a1 w1 hrh hv) fun e a2 w2 ho => ?_
    obtain ⟨ρ', σ', hq, hr2, hg, hs⟩ := ho
    cases e with
    | normal =>
      have hrel : HeadRel (idsB bx) σ σ' := fun id b0 hb => by
        obtain ⟨b1, m1, m2, m3, m4⟩ := hgh id b0 hb
        obtain ⟨b2, n1, n2, n3, n4⟩ := hg id b1 m1
        refine ⟨b2, n1, n2.trans m2, n3.trans m3, fun hid => ?_⟩
        have hpbf : memN pb id = false := by
          cases hm : memN pb id
          · rfl
          · have hb' := lkB_mem hb
            have := okB_get k4 b0 hb'.1 (by rw [hb'.2]; exact hm)
            rw [hb'.2, hid] at this; cases this
        have hb1 : b1 = b0 := by
          obtain ⟨b3, j1, _, _, j4⟩ := headB_lk bx (restR lv vals) σ id b0 hb
          rw [m1] at j1; injection j1 with j1
          rw [j1, j4 hid]
        rw [n4 hpbf, hb1]
      have hs' : SameA (memN x.dsts) a a2 := hsame.trans hs
      obtain ⟨vals', ⟨hi', hlt⟩, hrh'⟩ := rep_head hr hr2 hrel (hs'.mono (subN_get k1)) hq
      exact ⟨_, hlt, vals', rfl, hi', hrh', hs'⟩
    | _ => exact ⟨ρ', σ', hq, hr2, hgh.trans (hpb hg), hsame.trans hs⟩
  | .cut lv bx wr pb x, pro, Q, ρ, σ, a, w, hr, h => by
    unfold vc at h
    obtain ⟨hok, J, h0, hall⟩ := cond_get h
    unfold headOk at hok
    rw [Bool.and_eq_true, Bool.and_eq_true, Bool.and_eq_true] at hok
    obtain ⟨⟨⟨k1, k2⟩, k3⟩, k4⟩ := hok
    have hpb : ∀ {σ1 σ2 : List LB}, GrowsP pb σ1 σ2 → GrowsP pro σ1 σ2 := fun hg id b hb => by
      obtain ⟨b', g1, g2, g3, g4⟩ := hg id b hb
      refine ⟨b', g1, g2, g3, fun hp => g4 ?_⟩
      cases hm : memN pb id
      · rfl
      · rw [subN_get k2 id hm] at hp; cases hp
    refine wp_mono (vc_sound hE x pb _ ρ σ a w hr h0) fun e a2 w2 ho => ?_
    obtain ⟨ρ', σ', hq, hr2, hg, hs⟩ := ho
    cases e with
    | normal =>
      have hrel : HeadRel (idsB bx) σ σ' := fun id b0 hb => by
        obtain ⟨b2, n1, n2, n3, n4⟩ := hg id b0 hb
        refine ⟨b2, n1, n2, n3, fun hid => n4 ?_⟩
        cases hm : memN pb id
        · rfl
        · have hb' := lkB_mem hb
          have := okB_get k4 b0 hb'.1 (by rw [hb'.2]; exact hm)
          rw [hb'.2, hid] at this; cases this
      obtain ⟨vals, hi, hrh⟩ := rep_head hr hr2 hrel (hs.mono (subN_get k1)) hq
      have hv := allA_get _ J [] vals w2 _ hall hi w2 hi
      rw [List.nil_append] at hv
      refine ⟨_, _, hv, hrh, fun id b hb => ?_, hs⟩
      obtain ⟨b', m1, m2, m3, m4⟩ := headB_lk bx (restR lv vals) σ id b hb
      refine ⟨b', m1, m2, m3, fun hp => m4 ?_⟩
      cases hm2 : memN (idsB bx) id
      · rfl
      · rw [subN_get k3 id hm2] at hp; cases hp
    | _ => exact ⟨ρ', σ', hq, hr2, hpb hg, hs⟩
  | .exit id, pro, Q, ρ, σ, a, w, hr, h => wp_exit ⟨ρ, σ, h, hr, .refl _ _, .refl _ _⟩
  | .ret, pro, Q, ρ, σ, a, w, hr, h => wp_ret ⟨ρ, σ, h, hr, .refl _ _, .refl _ _⟩
/-- The results. -/
def vRes (E : Env) (σ : List LB) (w : World) (ρ : SFr) : List ResultVar → List Value → (List Value → Prop) → Prop
  | [], acc, K => K acc
  | .tmp t :: r, acc, K => withV (lk ρ t) fun v => vRes E σ w ρ r (acc ++ [v]) K
  | .cell t T :: r, acc, K => qop E (.load T (.tmp t)) ρ σ w fun s _ => match s with
    | .v v => vRes E σ w ρ r (acc ++ [v]) K
    | _ => False
def tupV : List Value → Value
  | [v] => v
  | l => .tuple l.toArray
def resQ (E : Env) (rs : List ResultVar) (K : Value → World → Prop) : VQ
  | .normal, ρ, σ, w => vRes E σ w ρ rs [] fun vs => K (tupV vs) w
  | .ret, ρ, σ, w => vRes E σ w ρ rs [] fun vs => K (tupV vs) w
  | _, _, _, _ => False
def argR : List Value → Nat → SFr
  | [], _ => []
  | v :: r, k => (k, some (.v v)) :: argR r (k + 1)
theorem lk_argR {t : Nat} {s : SV} : ∀ {args : List Value} {k : Nat}, lk (argR args k) t = some s → ∃ j v, t = k + j ∧ args[j]? = some v ∧ s = .v v
  | v :: r, k, h => by
    unfold argR at h
    rw [lk_cons] at h
    by_cases hk : k = t
    · rw [if_pos hk] at h
      injection h with h
      exact ⟨0, v, hk.symm, rfl, h.symm⟩
    · rw [if_neg hk] at h
      obtain ⟨j, u, h1, h2, h3⟩ := lk_argR h
      exact ⟨j + 1, u, by omega, by simpa using h2, h3⟩
theorem load_ptr {T : TypeId} {v x : Value} {w w' : World} (h : (Instr.loadAt T v).run P w = .ok x w') : (do loadVar T (← asAddr v) : Sem Value).run P w = .ok x w' := by
  unfold Instr.loadAt at h
  cases v with
  | pointer a =>
    cases a with
    | some a => exact h
    | none => cases h
  | _ => cases h
theorem vRes_get (hE : EOk P E) {n : Nat} {ρ : SFr} {σ : List LB} {a : Act} {w : World} (hr : Rep n ρ σ a w) : ∀ {rs : List ResultVar} {acc : List Value} {K : List Value → Prop}, vRes E σ w ρ rs acc K →
    ∃ vs, K (acc ++ vs) ∧ (rs.mapM fun (r : ResultVar) => match r with
      | .tmp t => (pure (a.tmps.getD t undef) : Sem Value)
      | .cell p T => do loadVar T (← asAddr (a.tmps.getD p undef))).run P w = .ok vs w
  | [], acc, K, h => ⟨[], by rw [List.append_nil]; exact h, by simp⟩
  | .tmp t :: r, acc, K, h => by
    obtain ⟨v, hv, h⟩ := withV_lk (show withV (lk ρ t) _ from h)
    obtain ⟨x, hx1, hx2⟩ := hr.slots t _ hv
    cases hx1
    obtain ⟨vs, h1, h2⟩ := vRes_get hE hr h
    refine ⟨v :: vs, by rw [List.append_assoc] at h1; exact h1, ?_⟩
    have hv2 : a.tmps.getD t undef = v := by simp [Array.getD_eq_getD_getElem?, hx2]
    rw [List.mapM_cons]
    simp only [Sem.run_bind, hv2, Sem.run_pure, Result.andThen_ok]
    rw [h2]
    rfl
  | .cell t T :: r, acc, K, h => by
    obtain ⟨s, f, x, hk, hden, hf, hrun, _⟩ := qop_sound (P := P) (o := { dst := none, op := .load T (.tmp t), type := 0, pos := "", after := #[], guard := none }) hE hr (show qop E (.load T (.tmp t)) ρ σ w _ from h)
    cases s with
    | box _ _ => exact hk.elim
    | v v =>
      cases hden
      obtain ⟨vs, h1, h2⟩ := vRes_get hE hr (show vRes E σ w ρ r (acc ++ [x]) K from hk)
      refine ⟨x :: vs, by rw [List.append_assoc] at h1; exact h1, ?_⟩
      have hl : (Instr.loadAt T (a.tmps.getD t undef)).run P w = .ok x w := by
        have := hrun w hf
        simp only [execOp, Sem.run_bind, Act.eval] at this
        cases hq : (Instr.loadAt T (a.tmps.getD t undef)).run P w with
        | ok y w' => rw [hq] at this; simp only [Result.andThen_ok, Sem.run_pure] at this; injection this with h1 h2; injection h1 with h1; rw [h1, h2]
        | halt _ _ => rw [hq] at this; cases this
      have := load_ptr hl
      rw [List.mapM_cons]
      simp only [Sem.run_bind] at this ⊢
      rw [this]
      simp only [Result.andThen_ok]
      rw [h2]
      rfl
/-- The function: its condition is enough. -/
theorem calls_of_vc (hE : EOk P E) {f : FuncId} {fn : Func} {c : Code} (hf : P.funcs[f]? = some fn) (hb : fn.body = some c) (ac : AC) (hc : ac.erase = c) (nt : Nat) (hnt : fn.ntmps = nt) (rs : List ResultVar) (hrs : fn.results.toList = rs) (pro : List Nat)
    (args : List Value) (hn : Nat.ble args.length nt = true) (w : World) (K : Value → World → Prop) (h : vc P E nt ac pro (resQ E rs K) (argR args 0) [] w) : Calls P f args.toArray w fun e w' => ∃ v, e = .returned v ∧ K v w' := by
  have hn := Nat.le_of_ble_eq_true hn
  subst hnt; subst hrs; subst hc
  refine calls_of_wp hf hb ?_
  have hr : Rep fn.ntmps (argR args 0) [] { tmps := args.toArray ++ Array.replicate (fn.ntmps - args.toArray.size) undef, defers := [] } w := by
    refine ⟨by simp; omega, rfl, fun t s hl => ?_, (fun b hb => by cases hb), List.nodup_nil, List.nodup_nil⟩
    obtain ⟨j, v, h1, h2, rfl⟩ := lk_argR hl
    refine ⟨v, rfl, ?_⟩
    have hj : j < args.length := (List.getElem?_eq_some_iff.1 h2).1
    rw [h1, Nat.zero_add, Array.getElem?_append_left (by simpa using hj)]
    simpa using h2
  refine wp_mono (vc_sound hE ac pro _ _ _ _ w hr h) fun e a' w' ho => ?_
  obtain ⟨ρ', σ', hq, hr2, _, _⟩ := ho
  have fin : (vRes E σ' w' ρ' fn.results.toList [] fun vs => K (tupV vs) w') → a'.defers = [] ∧ ∃ v, (results fn a'.tmps).run P w' = .ok v w' ∧ ∃ v', Ending.returned v = .returned v' ∧ K v' w' := fun hq => by
    obtain ⟨vs, h1, h2⟩ := vRes_get hE hr2 hq
    rw [List.nil_append] at h1
    refine ⟨hr2.defs, tupV vs, ?_, tupV vs, rfl, h1⟩
    have e : (results fn a'.tmps).run P w' = (((fn.results.toList.mapM fun (r : ResultVar) => match r with
      | .tmp t => (pure (a'.tmps.getD t undef) : Sem Value)
      | .cell p T => do loadVar T (← asAddr (a'.tmps.getD p undef))).run P w').andThen fun a w' => Result.ok a.toArray w').andThen fun a w' => .ok (if h : a.size = 1 then a[0] else .tuple a) w' := by
      unfold results
      rw [Sem.run_bind, Array.mapM_eq_mapM_toList, Sem.run_map]
      rfl
    rw [e, h2]
    simp only [Result.andThen_ok]
    congr 1
    cases vs with
    | nil => rfl
    | cons v r => cases r <;> rfl
  cases e with
  | normal => exact fin hq
  | ret => exact fin hq
  | _ => exact hq.elim
end Go.Proofs.Ytamlgnhnmilbdaa
end
section
/- Notes on code: which loops and cuts carry what, and how a drawn region goes in phases; the code itself is taken from where it stands. No program in sight. -/
namespace Go.Proofs.Ytamlgnhnmilbdaa
open Go.RowKit
variable {P : Program} {E : Env}
structure HeadN where
  lv : LSl
  bx : LBx
  wr : List Nat
  pb : List Nat
structure DrawN where
  B : List Nat
  L : List Nat
  Qs : List Nat
/-- Keys: a drawn region's number; of a loop, the number of the first region in it; of a cut, that of the first region in what it goes round, and which kind of node that is (0: a region, 1: a branch, 2: a block). -/
structure Notes where
  draws : List (Nat × DrawN)
  loops : List (Nat × HeadN)
  cuts : List ((Nat × Nat) × HeadN)
def lkD : List (Nat × DrawN) → Nat → Option DrawN
  | [], _ => none
  | p :: r, n => cond (Nat.beq p.1 n) (some p.2) (lkD r n)
def lkH : List (Nat × HeadN) → Nat → Option HeadN
  | [], _ => none
  | p :: r, n => cond (Nat.beq p.1 n) (some p.2) (lkH r n)
def lkC : List ((Nat × Nat) × HeadN) → Nat → Nat → Option HeadN
  | [], _, _ => none
  | p :: r, k, n => cond (Nat.beq p.1.1 k) (cond (Nat.beq p.1.2 n) (some p.2) (lkC r k n)) (lkC r k n)
def firstR : Code → Option Nat
  | .region id _ _ => some id
  | .seq a b => match firstR a with
    | some n => some n
    | none => firstR b
  | .cond _ a b => match firstR a with
    | some n => some n
    | none => firstR b
  | .block _ a => firstR a
  | .loop a => firstR a
  | _ => none
def putCut (N : Notes) (k : Nat) (n : Option Nat) (a : AC) : AC := match n with
  | some n => match lkC N.cuts k n with
    | some h => .cut h.lv h.bx h.wr h.pb a
    | none => a
  | none => a
def mkAC (N : Notes) : Code → AC
  | .skip => .skip
  | .region id ops d => putCut N 0 (some id) (cond d (match lkD N.draws id with | some n => .regD id ops n.B n.L n.Qs | none => .skip) (.reg id ops))
  | .seq a b => .seq (mkAC N a) (mkAC N b)
  | .cond c a b => putCut N 1 (match firstR a with | some n => some n | none => firstR b) (.cond c (mkAC N a) (mkAC N b))
  | .block id a => putCut N 2 (firstR a) (.block id (mkAC N a))
  | .loop a => match firstR a with
    | some n => match lkH N.loops n with
      | some h => .loop h.lv h.bx h.wr h.pb (mkAC N a)
      | none => .skip
    | none => .skip
  | .exit id => .exit id
  | .ret => .ret
  | _ => .skip
def okC (N : Notes) : Code → Bool
  | .skip => true
  | .region id _ d => cond d (match lkD N.draws id with | some _ => true | none => false) true
  | .seq a b => okC N a && okC N b
  | .cond _ a b => okC N a && okC N b
  | .block _ a => okC N a
  | .loop a => match firstR a with
    | some n => match lkH N.loops n with
      | some _ => okC N a
      | none => false
    | none => false
  | .exit _ => true
  | .ret => true
  | _ => false
theorem erase_cut (N : Notes) (k : Nat) (n : Option Nat) (a : AC) : (putCut N k n a).erase = a.erase := by
  unfold putCut
  split
  · split <;> rfl
  · rfl
theorem erase_mk (N : Notes) : ∀ (c : Code), okC N c = true → (mkAC N c).erase = c
  | .skip, _ => rfl
  | .region id ops d, h => by
    unfold mkAC
    rw [erase_cut]
    cases d
    · rfl
    · unfold okC at h
      simp only [cond_true] at h ⊢
      split at h
      · rfl
      · cases h
  | .seq a b, h => by
    unfold okC at h
    rw [Bool.and_eq_true] at h
    unfold mkAC AC.erase
    rw [erase_mk N a h.1, erase_mk N b h.2]
  | .cond c a b, h => by
    unfold okC at h
    rw [Bool.and_eq_true] at h
    unfold mkAC
    rw [erase_cut]
    unfold AC.erase
    rw [erase_mk N a h.1, erase_mk N b h.2]
  | .block id a, h => by
    unfold okC at h
    unfold mkAC
    rw [erase_cut]
    unfold AC.erase
    rw [erase_mk N a h]
  | .loop a, h => by
    unfold okC at h
    unfold mkAC
    split at h
    · split at h
      · unfold AC.erase
        rw [erase_mk N a h]
      · cases h
    · cases h
  | .exit _, _ => rfl
  | .ret, _ => rfl
  | .rangeFunc .., h => by cases h
  | .scope .., h => by cases h
  | .label .., h => by cases h
  | .goto .., h => by cases h
  | .refuse .., h => by cases h
/-- The condition of a function, off its own text. -/
def fvc (P : Program) (E : Env) (fn : Func) (N : Notes) (pro : List Nat) (args : List Value) (w : World) (K : Value → World → Prop) : Prop :=
  match fn.body with
  | some c => cond (okC N c) (cond (Nat.ble args.length fn.ntmps) (vc P E fn.ntmps (mkAC N c) pro (resQ E fn.results.toList K) (argR args 0) [] w) False) False
  | none => False
theorem calls_of_fvc (hE : EOk P E) {f : FuncId} {fn : Func} (hf : P.funcs[f]? = some fn) (N : Notes) (pro : List Nat) (args : List Value) (w : World) (K : Value → World → Prop) (h : fvc P E fn N pro args w K) : Calls P f args.toArray w fun e w' => ∃ v, e = .returned v ∧ K v w' := by
  unfold fvc at h
  split at h
  · rename_i c hb
    obtain ⟨hok, h⟩ := cond_get h
    obtain ⟨hn, h⟩ := cond_get h
    exact calls_of_vc hE hf hb (mkAC N c) (erase_mk N c hok) fn.ntmps rfl fn.results.toList rfl pro args hn w K h
  · exact h.elim
theorem use_vc {A B : Prop} (h : A) (e : A = B) : B := e ▸ h
theorem tyok {t : TypeId} {i : TI} (h1 : (P.underlying t).map tkOf = some i.k) (h2 : (P.info? t).map (fun x => (x.size, x.zero, x.bytes)) = some (i.size, some i.zero, i.bytes)) : TyOk P t i := ⟨h1, h2⟩
theorem fnok {f : FuncId} {fn : Func} (hf : P.funcs[f]? = some fn) (h1 : (fn.name == "runtime.NumGoroutine") = false) (h2 : fn.body.isNone = false) : FnOk P f := fun args w => by
  unfold callFunc
  simp only [Sem.run_bind]
  show (Sem.run P _ w) = _
  simp [hf, h1, h2]
end Go.Proofs.Ytamlgnhnmilbdaa
end
section
/- Conditions of functions, printed by a program of this claim's own (vcgen.py) out of the loaded code; each is proved to be enough. -/
set_option maxRecDepth 100000
namespace Go.Proofs.Ytamlgnhnmilbdaa
open Go.RowKit
namespace GCredB
def env : Env := ⟨[(3, ⟨.int .i64, 1, .int .i64 0, 8, [.int .i64]⟩), (4, ⟨.bool, 1, .bool false, 1, [.bool]⟩), (5, ⟨.int .u8, 1, .int .u8 0, 1, [.int .u8]⟩), (9, ⟨.str, 1, .string ByteArray.empty, 16, [.str]⟩), (23, ⟨.int .u64, 1, .int .u64 0, 8, [.int .u64]⟩), (31, ⟨.slice 115, 1, .slice none 0 0, 24, [.slice]⟩), (33, ⟨.struct [(0, 3), (1, 3), (2, 3), (3, 3), (4, 31)], 5, .agg #[.int .i64 0, .int .i64 0, .int .i64 0, .int .i64 0, .slice none 0 0], 56, [.int .i64, .int .i64, .int .i64, .int .i64, .slice]⟩), (38, ⟨.slice 55, 1, .slice none 0 0, 24, [.slice]⟩), (42, ⟨.slice 5, 1, .slice none 0 0, 24, [.slice]⟩), (48, ⟨.slice 53, 1, .slice none 0 0, 24, [.slice]⟩), (50, ⟨.struct [(0, 3), (1, 3), (2, 48)], 3, .agg #[.int .i64 0, .int .i64 0, .slice none 0 0], 40, [.int .i64, .int .i64, .slice]⟩), (51, ⟨.slice 161, 1, .slice none 0 0, 24, [.slice]⟩), (53, ⟨.struct [(0, 3), (1, 3), (2, 3), (3, 3), (4, 51)], 5, .agg #[.int .i64 0, .int .i64 0, .int .i64 0, .int .i64 0, .slice none 0 0], 56, [.int .i64, .int .i64, .int .i64, .int .i64, .slice]⟩), (55, ⟨.struct [(0, 3), (1, 53), (6, 3)], 7, .agg #[.int .i64 0, .int .i64 0, .int .i64 0, .int .i64 0, .int .i64 0, .slice none 0 0, .int .i64 0], 72, [.int .i64, .int .i64, .int .i64, .int .i64, .int .i64, .slice, .int .i64]⟩), (103, ⟨.slice 33, 1, .slice none 0 0, 24, [.slice]⟩), (105, ⟨.struct [(0, 3), (1, 3), (2, 103)], 3, .agg #[.int .i64 0, .int .i64 0, .slice none 0 0], 40, [.int .i64, .int .i64, .slice]⟩), (115, ⟨.struct [(0, 3), (1, 3), (2, 3), (3, 4)], 4, .agg #[.int .i64 0, .int .i64 0, .int .i64 0, .bool false], 32, [.int .i64, .int .i64, .int .i64, .bool]⟩), (129, ⟨.slice 165, 1, .slice none 0 0, 24, [.slice]⟩), (161, ⟨.struct [(0, 3), (1, 3), (2, 3), (3, 4)], 4, .agg #[.int .i64 0, .int .i64 0, .int .i64 0, .bool false], 32, [.int .i64, .int .i64, .int .i64, .bool]⟩), (165, ⟨.ptr, 1, .pointer none, 8, [.ptr]⟩)], [(11, [.lf (.ptr), .lf (.int .i64)]), (12, [.lf (.bool)]), (14, [.lf (.int .i64)]), (20, [.lf (.slice), .lf (.int .i64)]), (24, [.lf (.bool)]), (25, [.lf (.bool)]), (38, [.lf (.ptr), .lf (.int .i64)]), (40, [.lf (.str)]), (45, [.lf (.bool)]), (73, [.lf (.ptr)]), (74, [.lf (.int .i64)]), (85, [.agg [.int .i64, .int .i64, .int .i64, .int .i64, .slice]]), (86, [.lf (.int .i64)]), (90, [.lf (.str)]), (91, [.lf (.str)]), (96, [.lf (.bool)])], []⟩
theorem ty3 : TyOk Try.prog 3 ⟨.int .i64, 1, .int .i64 0, 8, [.int .i64]⟩ := tyok (by kernel_rfl) (by kernel_rfl)
theorem ty4 : TyOk Try.prog 4 ⟨.bool, 1, .bool false, 1, [.bool]⟩ := tyok (by kernel_rfl) (by kernel_rfl)
theorem ty5 : TyOk Try.prog 5 ⟨.int .u8, 1, .int .u8 0, 1, [.int .u8]⟩ := tyok (by kernel_rfl) (by kernel_rfl)
theorem ty9 : TyOk Try.prog 9 ⟨.str, 1, .string ByteArray.empty, 16, [.str]⟩ := tyok (by kernel_rfl) (by kernel_rfl)
theorem ty23 : TyOk Try.prog 23 ⟨.int .u64, 1, .int .u64 0, 8, [.int .u64]⟩ := tyok (by kernel_rfl) (by kernel_rfl)
theorem ty31 : TyOk Try.prog 31 ⟨.slice 115, 1, .slice none 0 0, 24, [.slice]⟩ := tyok (by kernel_rfl) (by kernel_rfl)
theorem ty33 : TyOk Try.prog 33 ⟨.struct [(0, 3), (1, 3), (2, 3), (3, 3), (4, 31)], 5, .agg #[.int .i64 0, .int .i64 0, .int .i64 0, .int .i64 0, .slice none 0 0], 56, [.int .i64, .int .i64, .int .i64, .int .i64, .slice]⟩ := tyok (by kernel_rfl) (by kernel_rfl)
theorem ty38 : TyOk Try.prog 38 ⟨.slice 55, 1, .slice none 0 0, 24, [.slice]⟩ := tyok (by kernel_rfl) (by kernel_rfl)
theorem ty42 : TyOk Try.prog 42 ⟨.slice 5, 1, .slice none 0 0, 24, [.slice]⟩ := tyok (by kernel_rfl) (by kernel_rfl)
theorem ty48 : TyOk Try.prog 48 ⟨.slice 53, 1, .slice none 0 0, 24, [.slice]⟩ := tyok (by kernel_rfl) (by kernel_rfl)
theorem ty50 : TyOk Try.prog 50 ⟨.struct [(0, 3), (1, 3), (2, 48)], 3, .agg #[.int .i64 0, .int .i64 0, .slice none 0 0], 40, [.int .i64, .int .i64, .slice]⟩ := tyok (by kernel_rfl) (by kernel_rfl)
theorem ty51 : TyOk Try.prog 51 ⟨.slice 161, 1, .slice none 0 0, 24, [.slice]⟩ := tyok (by kernel_rfl) (by kernel_rfl)
theorem ty53 : TyOk Try.prog 53 ⟨.struct [(0, 3), (1, 3), (2, 3), (3, 3), (4, 51)], 5, .agg #[.int .i64 0, .int .i64 0, .int .i64 0, .int .i64 0, .slice none 0 0], 56, [.int .i64, .int .i64, .int .i64, .int .i64, .slice]⟩ := tyok (by kernel_rfl) (by kernel_rfl)
theorem ty55 : TyOk Try.prog 55 ⟨.struct [(0, 3), (1, 53), (6, 3)], 7, .agg #[.int .i64 0, .int .i64 0, .int .i64 0, .int .i64 0, .int .i64 0, .slice none 0 0, .int .i64 0], 72, [.int .i64, .int .i64, .int .i64, .int .i64, .int .i64, .slice, .int .i64]⟩ := tyok (by kernel_rfl) (by kernel_rfl)
theorem ty103 : TyOk Try.prog 103 ⟨.slice 33, 1, .slice none 0 0, 24, [.slice]⟩ := tyok (by kernel_rfl) (by kernel_rfl)
theorem ty105 : TyOk Try.prog 105 ⟨.struct [(0, 3), (1, 3), (2, 103)], 3, .agg #[.int .i64 0, .int .i64 0, .slice none 0 0], 40, [.int .i64, .int .i64, .slice]⟩ := tyok (by kernel_rfl) (by kernel_rfl)
theorem ty115 : TyOk Try.prog 115 ⟨.struct [(0, 3), (1, 3), (2, 3), (3, 4)], 4, .agg #[.int .i64 0, .int .i64 0, .int .i64 0, .bool false], 32, [.int .i64, .int .i64, .int .i64, .bool]⟩ := tyok (by kernel_rfl) (by kernel_rfl)
theorem ty129 : TyOk Try.prog 129 ⟨.slice 165, 1, .slice none 0 0, 24, [.slice]⟩ := tyok (by kernel_rfl) (by kernel_rfl)
theorem ty161 : TyOk Try.prog 161 ⟨.struct [(0, 3), (1, 3), (2, 3), (3, 4)], 4, .agg #[.int .i64 0, .int .i64 0, .int .i64 0, .bool false], 32, [.int .i64, .int .i64, .int .i64, .bool]⟩ := tyok (by kernel_rfl) (by kernel_rfl)
theorem ty165 : TyOk Try.prog 165 ⟨.ptr, 1, .pointer none, 8, [.ptr]⟩ := tyok (by kernel_rfl) (by kernel_rfl)
theorem fn11 : FnOk Try.prog 11 := fnok Try.func11 (by kernel_rfl) (by kernel_rfl)
theorem fn12 : FnOk Try.prog 12 := fnok Try.func12 (by kernel_rfl) (by kernel_rfl)
theorem fn14 : FnOk Try.prog 14 := fnok Try.func14 (by kernel_rfl) (by kernel_rfl)
theorem fn20 : FnOk Try.prog 20 := fnok Try.func20 (by kernel_rfl) (by kernel_rfl)
theorem fn24 : FnOk Try.prog 24 := fnok Try.func24 (by kernel_rfl) (by kernel_rfl)
theorem fn25 : FnOk Try.prog 25 := fnok Try.func25 (by kernel_rfl) (by kernel_rfl)
theorem fn38 : FnOk Try.prog 38 := fnok Try.func38 (by kernel_rfl) (by kernel_rfl)
theorem fn40 : FnOk Try.prog 40 := fnok Try.func40 (by kernel_rfl) (by kernel_rfl)
theorem fn45 : FnOk Try.prog 45 := fnok Try.func45 (by kernel_rfl) (by kernel_rfl)
theorem fn73 : FnOk Try.prog 73 := fnok Try.func73 (by kernel_rfl) (by kernel_rfl)
theorem fn74 : FnOk Try.prog 74 := fnok Try.func74 (by kernel_rfl) (by kernel_rfl)
theorem fn85 : FnOk Try.prog 85 := fnok Try.func85 (by kernel_rfl) (by kernel_rfl)
theorem fn86 : FnOk Try.prog 86 := fnok Try.func86 (by kernel_rfl) (by kernel_rfl)
theorem fn90 : FnOk Try.prog 90 := fnok Try.func90 (by kernel_rfl) (by kernel_rfl)
theorem fn91 : FnOk Try.prog 91 := fnok Try.func91 (by kernel_rfl) (by kernel_rfl)
theorem fn96 : FnOk Try.prog 96 := fnok Try.func96 (by kernel_rfl) (by kernel_rfl)
theorem envOk : EOk Try.prog env := ⟨(by simp only [env, List.forall_mem_cons, List.not_mem_nil, false_implies, implies_true, and_true]; exact ⟨ty3, ty4, ty5, ty9, ty23, ty31, ty33, ty38, ty42, ty48, ty50, ty51, ty53, ty55, ty103, ty105, ty115, ty129, ty161, ty165⟩), (by simp only [env, List.forall_mem_cons, List.not_mem_nil, false_implies, implies_true, and_true]; exact ⟨fn11, fn12, fn14, fn20, fn24, fn25, fn38, fn40, fn45, fn73, fn74, fn85, fn86, fn90, fn91, fn96⟩), by kernel_rfl, (fun _ h => by cases h)⟩
/-- purser/credit.session -/
def session_vc (p0 : Option Addr) (w : World) (K : Value → World → Prop) : Prop :=
  newO w (.cells #[.int .i64 0, .int .i64 0, .int .i64 0, .int .i64 0, .slice none 0 0] 33) fun g w_2 =>
  newO w_2 (.cells #[.int .i64 0, .int .i64 0, .int .i64 0, .int .i64 0, .slice none 0 0] 33) fun g_2 w_3 =>
  newO w_3 (.cells #[.pointer (some ⟨g_2, 0, none⟩), .pointer (some ⟨g_2, 1, none⟩), .pointer (some ⟨g_2, 2, none⟩), .pointer (some ⟨g_2, 3, none⟩)] 165) fun g_3 w_4 =>
  ∃ (I : Int → World → Prop) (μ : Int → World → Nat),
  I 0 w_4 ∧
  ∀ (x15 : Int) (w_5 : World), I x15 w_5 →
  br (decide (x15 < ((4 : Nat) : Int))) (
    (0 : Int) ≤ x15 ∧ x15 < (((4 : Nat) : Int) : Int) ∧
    ∃ (p18 : Option Addr), w_5.cell? ⟨g_3, 0 + x15.toNat * 1, none⟩ = some (.pointer p18) ∧
    Calls Try.prog 74 #[.pointer p0, .int .i64 4611686018427387904] w_5 fun e w_6 => KeepG [g] w_5 w_6 ∧
    ∃ (x21 : Int),
    e = .returned (.int .i64 x21) ∧
    withP p18 fun g22 o22 =>
    stO [g] w_6 g22 o22 [.int .i64 x21] fun w_7 =>
    I (IntKind.i64.wrap (x15 + 1)) w_7 ∧ μ (IntKind.i64.wrap (x15 + 1)) w_7 < μ x15 w_5
  ) (
    Calls Try.prog 74 #[.pointer p0, .int .i64 4] w_5 fun e_2 w_8 => KeepG [g] w_5 w_8 ∧
    ∃ (x25 : Int),
    e_2 = .returned (.int .i64 x25) ∧
    ∃ (I_2 : Int → World → Prop) (μ_2 : Int → World → Nat),
    I_2 0 w_8 ∧
    ∀ (x26 : Int) (w_9 : World), I_2 x26 w_9 →
    br (decide (x26 < x25)) (
      newO w_9 (.cells #[.int .i64 0, .int .i64 0, .int .i64 0, .bool false] 115) fun g_4 w_10 =>
      newO w_10 (.cells #[.pointer (some ⟨g_4, 0, none⟩), .pointer (some ⟨g_4, 1, none⟩), .pointer (some ⟨g_4, 2, none⟩)] 165) fun g_5 w_11 =>
      ∃ (I_3 : Int → World → Prop) (μ_3 : Int → World → Nat),
      I_3 0 w_11 ∧
      ∀ (x33 : Int) (w_12 : World), I_3 x33 w_12 →
      br (decide (x33 < ((3 : Nat) : Int))) (
        (0 : Int) ≤ x33 ∧ x33 < (((3 : Nat) : Int) : Int) ∧
        ∃ (p36 : Option Addr), w_12.cell? ⟨g_5, 0 + x33.toNat * 1, none⟩ = some (.pointer p36) ∧
        Calls Try.prog 74 #[.pointer p0, .int .i64 4611686018427387904] w_12 fun e_3 w_13 => KeepG [g] w_12 w_13 ∧
        ∃ (x39 : Int),
        e_3 = .returned (.int .i64 x39) ∧
        withP p36 fun g40 o40 =>
        stO [g] w_13 g40 o40 [.int .i64 x39] fun w_14 =>
        I_3 (IntKind.i64.wrap (x33 + 1)) w_14 ∧ μ_3 (IntKind.i64.wrap (x33 + 1)) w_14 < μ_3 x33 w_12
      ) (
        Calls Try.prog 96 #[.pointer p0] w_12 fun e_4 w_15 => KeepG [g] w_12 w_15 ∧
        ∃ (b43 : Bool),
        e_4 = .returned (.bool b43) ∧
        stO [g] w_15 g_4 3 [.bool b43] fun w_16 =>
        ∃ (a46 : Option Addr) (n46 : Nat) (c46 : Nat), w_16.cell? ⟨g_2, 4, none⟩ = some (.slice a46 n46 c46) ∧
        ∃ (x47_0 : Int) (x47_1 : Int) (x47_2 : Int) (b47_3 : Bool),
        cellsAt w_16 g_4 0 [.int .i64 x47_0, .int .i64 x47_1, .int .i64 x47_2, .bool b47_3] ∧
        newO w_16 (.cells #[.int .i64 x47_0, .int .i64 x47_1, .int .i64 x47_2, .bool b47_3] 115) fun g_6 w_17 =>
        appO Try.prog [g] w_17 115 4 32 31 a46 n46 c46 (.slice (some ⟨g_6, 0, none⟩) 1 1) fun m49 a49 c49 w_18 =>
        stO [g] w_18 g_2 4 [.slice a49 (n46 + m49) c49] fun w_19 =>
        I_2 (IntKind.i64.wrap (x26 + 1)) w_19 ∧ μ_2 (IntKind.i64.wrap (x26 + 1)) w_19 < μ_2 x26 w_9
      )
    ) (
      ∃ (x52_0 : Int) (x52_1 : Int) (x52_2 : Int) (x52_3 : Int) (a52_4 : Option Addr) (n52_4 : Nat) (c52_4 : Nat),
      cellsAt w_9 g_2 0 [.int .i64 x52_0, .int .i64 x52_1, .int .i64 x52_2, .int .i64 x52_3, .slice a52_4 n52_4 c52_4] ∧
      ∀ w_20 : World, BoxSt g w_9 w_20 →
      K (.agg #[.int .i64 x52_0, .int .i64 x52_1, .int .i64 x52_2, .int .i64 x52_3, .slice a52_4 n52_4 c52_4]) w_20
    )
  )
def session_notes : Notes := ⟨[], [(3, ⟨[(15, .lf (.int .i64))], [], [16, 17, 18, 5, 19, 20, 21, 22, 23, 15], []⟩), (8, ⟨[(26, .lf (.int .i64))], [], [27, 6, 28, 29, 30, 31, 32, 33, 34, 35, 36, 8, 37, 38, 39, 40, 41, 42, 43, 44, 45, 46, 47, 48, 49, 50, 51, 26], []⟩), (11, ⟨[(33, .lf (.int .i64))], [], [34, 35, 36, 8, 37, 38, 39, 40, 41, 33], []⟩)], []⟩
theorem session_calls (p0 : Option Addr) (w : World) (K : Value → World → Prop) (h : session_vc p0 w K) : Calls Try.prog 85 #[.pointer p0] w fun e w' => ∃ v, e = .returned v ∧ K v w' :=
  calls_of_fvc envOk Try.func85 session_notes [2] [.pointer p0] w K (use_vc h (by as_aux_lemma => kernel_rfl))
/-- purser/credit.Read -/
def cread_vc (a0 : Option Addr) (n0 : Nat) (c0 : Nat) (w : World) (K : Value → World → Prop) : Prop :=
  Calls Try.prog 73 #[.slice a0 n0 c0] w fun e w_2 => KeepG [] w w_2 ∧
  ∃ (p10 : Option Addr),
  e = .returned (.pointer p10) ∧
  Calls Try.prog 74 #[.pointer p10, .int .i64 4611686018427387904] w_2 fun e_2 w_3 => KeepG [] w_2 w_3 ∧
  ∃ (x12 : Int),
  e_2 = .returned (.int .i64 x12) ∧
  newO w_3 (.cells #[.int .i64 x12, .int .i64 0, .slice none 0 0] 105) fun g w_4 =>
  Calls Try.prog 74 #[.pointer p10, .int .i64 4611686018427387904] w_4 fun e_3 w_5 => KeepG [] w_4 w_5 ∧
  ∃ (x16 : Int),
  e_3 = .returned (.int .i64 x16) ∧
  ∃ (x20 : Int), w_5.cell? ⟨g, 0, none⟩ = some (.int .i64 x20) ∧
  Calls Try.prog 45 #[.int .i64 x20, .int .i64 1, .int .i64 16] w_5 fun e_4 w_6 => KeepG [] w_5 w_6 ∧
  ∃ (b21 : Bool),
  e_4 = .returned (.bool b21) ∧
  Calls Try.prog 74 #[.pointer p10, .int .i64 16] w_6 fun e_5 w_7 => KeepG [] w_6 w_7 ∧
  ∃ (x23 : Int),
  e_5 = .returned (.int .i64 x23) ∧
  ∃ (I : Bool → Int → World → Prop) (μ : Bool → Int → World → Nat),
  I b21 0 w_7 ∧
  ∀ (b7 : Bool) (x24 : Int) (w_8 : World), I b7 x24 w_8 →
  br (decide (x24 < x23)) (
    Calls Try.prog 85 #[.pointer p10] w_8 fun e_6 w_9 => KeepG [] w_8 w_9 ∧
    ∃ (x27_0 : Int) (x27_1 : Int) (x27_2 : Int) (x27_3 : Int) (a27_4 : Option Addr) (n27_4 : Nat) (c27_4 : Nat),
    e_6 = .returned (.agg #[.int .i64 x27_0, .int .i64 x27_1, .int .i64 x27_2, .int .i64 x27_3, .slice a27_4 n27_4 c27_4]) ∧
    newO w_9 (.cells #[.int .i64 0, .int .i64 0, .int .i64 0, .int .i64 0, .slice none 0 0] 33) fun g_2 w_10 =>
    ∀ w_11 : World, BoxSt g_2 w_10 w_11 →
    br b7 (
      Calls Try.prog 14 #[.pointer (some ⟨g, 0, none⟩), .agg #[.int .i64 x27_0, .int .i64 x27_1, .int .i64 x27_2, .int .i64 x27_3, .slice a27_4 n27_4 c27_4]] w_11 fun e_7 w_12 => KeepG [g_2] w_11 w_12 ∧
      ∃ (x32 : Int),
      e_7 = .returned (.int .i64 x32) ∧
      br (decide (x32 = 0)) (
        I (decide (x27_0 ≤ x16)) (IntKind.i64.wrap (x24 + 1)) w_12 ∧ μ (decide (x27_0 ≤ x16)) (IntKind.i64.wrap (x24 + 1)) w_12 < μ b7 x24 w_8
      ) (
        I false (IntKind.i64.wrap (x24 + 1)) w_12 ∧ μ false (IntKind.i64.wrap (x24 + 1)) w_12 < μ b7 x24 w_8
      )
    ) (
      I false (IntKind.i64.wrap (x24 + 1)) w_11 ∧ μ false (IntKind.i64.wrap (x24 + 1)) w_11 < μ b7 x24 w_8
    )
  ) (
    stO [] w_8 g 1 [.int .i64 x16] fun w_13 =>
    br (!b7) (
      K (.tuple #[.pointer none, .int .i64 2]) w_13
    ) (
      Calls Try.prog 86 #[.pointer p10] w_13 fun e_8 w_14 => KeepG [] w_13 w_14 ∧
      ∃ (x50 : Int),
      e_8 = .returned (.int .i64 x50) ∧
      br (decide (x50 ≠ 0)) (
        K (.tuple #[.pointer none, .int .i64 2]) w_14
      ) (
        K (.tuple #[.pointer (some ⟨g, 0, none⟩), .int .i64 0]) w_14
      )
    )
  )
def cread_notes : Notes := ⟨[], [(6, ⟨[(7, .lf (.bool)), (24, .lf (.int .i64))], [], [25, 26, 27, 8, 28, 29, 30, 31, 32, 33, 34, 35, 36, 37, 38, 39, 40, 7, 41, 24], [8]⟩)], []⟩
theorem cread_calls (a0 : Option Addr) (n0 : Nat) (c0 : Nat) (w : World) (K : Value → World → Prop) (h : cread_vc a0 n0 c0 w K) : Calls Try.prog 38 #[.slice a0 n0 c0] w fun e w' => ∃ v, e = .returned v ∧ K v w' :=
  calls_of_fvc envOk Try.func38 cread_notes [8] [.slice a0 n0 c0] w K (use_vc h (by as_aux_lemma => kernel_rfl))
/-- (*purser/purserref17.Table).Write -/
def rwrite17_vc (p0 : Option Addr) (w : World) (K : Value → World → Prop) : Prop :=
  drewO w fun w_2 =>
  withP p0 fun g9 o9 =>
  ∃ (x11 : Int), w_2.cell? ⟨g9, o9, none⟩ = some (.int .i64 x11) ∧
  withP p0 fun g14 o14 =>
  ∃ (x16 : Int), w_2.cell? ⟨g14, o14 + 1, none⟩ = some (.int .i64 x16) ∧
  withP p0 fun g20 o20 =>
  ∃ (a22 : Option Addr) (n22 : Nat) (c22 : Nat), w_2.cell? ⟨g20, o20 + 2, none⟩ = some (.slice a22 n22 c22) ∧
  Calls Try.prog 90 #[.int .i64 x11] w_2 fun e w_3 => KeepG [] w_2 w_3 ∧
  ∃ (s12 : ByteArray),
  e = .returned (.string s12) ∧
  w_3.cell? ⟨g14, o14 + 1, none⟩ = some (.int .i64 x16) ∧
  w_3.cell? ⟨g20, o20 + 2, none⟩ = some (.slice a22 n22 c22) ∧
  Calls Try.prog 90 #[.int .i64 x16] w_3 fun e_2 w_4 => KeepG [] w_3 w_4 ∧
  ∃ (s17 : ByteArray),
  e_2 = .returned (.string s17) ∧
  w_4.cell? ⟨g20, o20 + 2, none⟩ = some (.slice a22 n22 c22) ∧
  s12.size + s17.size ≤ 9223372036854775807 ∧
  Calls Try.prog 90 #[.int .i64 ((n22 : Nat) : Int)] w_4 fun e_3 w_5 => KeepG [] w_4 w_5 ∧
  ∃ (s24 : ByteArray),
  e_3 = .returned (.string s24) ∧
  (s12 ++ s17).size + s24.size ≤ 9223372036854775807 ∧
  ∃ (I : ByteArray → Int → World → Prop) (μ : ByteArray → Int → World → Nat),
  I ((s12 ++ s17) ++ s24) 0 w_5 ∧
  ∀ (s3 : ByteArray) (x4 : Int) (w_6 : World), I s3 x4 w_6 →
  withP p0 fun g28 o28 =>
  ∃ (a30 : Option Addr) (n30 : Nat) (c30 : Nat), w_6.cell? ⟨g28, o28 + 2, none⟩ = some (.slice a30 n30 c30) ∧
  br (decide (x4 < ((n30 : Nat) : Int))) (
    withP p0 fun g36 o36 =>
    ∃ (a38 : Option Addr) (n38 : Nat) (c38 : Nat), w_6.cell? ⟨g36, o36 + 2, none⟩ = some (.slice a38 n38 c38) ∧
    withP a38 fun g40 o40 =>
    (0 : Int) ≤ x4 ∧ x4 < (((n38 : Nat) : Int) : Int) ∧
    ∃ (x41_0 : Int) (x41_1 : Int) (x41_2 : Int) (x41_3 : Int) (a41_4 : Option Addr) (n41_4 : Nat) (c41_4 : Nat),
    cellsAt w_6 g40 (o40 + x4.toNat * 5) [.int .i64 x41_0, .int .i64 x41_1, .int .i64 x41_2, .int .i64 x41_3, .slice a41_4 n41_4 c41_4] ∧
    newO w_6 (.cells #[.int .i64 0, .int .i64 0, .int .i64 0, .int .i64 0, .slice none 0 0] 53) fun g w_7 =>
    ∀ w_8 : World, BoxSt g w_7 w_8 →
    drewO w_8 fun w_9 =>
    Calls Try.prog 90 #[.int .i64 x41_0] w_9 fun e_4 w_10 => KeepG [g] w_9 w_10 ∧
    ∃ (s45 : ByteArray),
    e_4 = .returned (.string s45) ∧
    s3.size + s45.size ≤ 9223372036854775807 ∧
    Calls Try.prog 90 #[.int .i64 x41_1] w_10 fun e_5 w_11 => KeepG [g] w_10 w_11 ∧
    ∃ (s49 : ByteArray),
    e_5 = .returned (.string s49) ∧
    (s3 ++ s45).size + s49.size ≤ 9223372036854775807 ∧
    Calls Try.prog 90 #[.int .i64 x41_2] w_11 fun e_6 w_12 => KeepG [g] w_11 w_12 ∧
    ∃ (s53 : ByteArray),
    e_6 = .returned (.string s53) ∧
    ((s3 ++ s45) ++ s49).size + s53.size ≤ 9223372036854775807 ∧
    Calls Try.prog 90 #[.int .i64 x41_3] w_12 fun e_7 w_13 => KeepG [g] w_12 w_13 ∧
    ∃ (s57 : ByteArray),
    e_7 = .returned (.string s57) ∧
    (((s3 ++ s45) ++ s49) ++ s53).size + s57.size ≤ 9223372036854775807 ∧
    Calls Try.prog 90 #[.int .i64 ((n41_4 : Nat) : Int)] w_13 fun e_8 w_14 => KeepG [g] w_13 w_14 ∧
    ∃ (s62 : ByteArray),
    e_8 = .returned (.string s62) ∧
    ((((s3 ++ s45) ++ s49) ++ s53) ++ s57).size + s62.size ≤ 9223372036854775807 ∧
    ∃ (I_2 : ByteArray → Int → World → Prop) (μ_2 : ByteArray → Int → World → Nat),
    I_2 (((((s3 ++ s45) ++ s49) ++ s53) ++ s57) ++ s62) 0 w_14 ∧
    ∀ (s3_2 : ByteArray) (x6 : Int) (w_15 : World), I_2 s3_2 x6 w_15 →
    br (decide (x6 < ((n41_4 : Nat) : Int))) (
      withP a41_4 fun g74 o74 =>
      (0 : Int) ≤ x6 ∧ x6 < (((n41_4 : Nat) : Int) : Int) ∧
      ∃ (x75_0 : Int) (x75_1 : Int) (x75_2 : Int) (b75_3 : Bool),
      cellsAt w_15 g74 (o74 + x6.toNat * 4) [.int .i64 x75_0, .int .i64 x75_1, .int .i64 x75_2, .bool b75_3] ∧
      newO w_15 (.cells #[.int .i64 0, .int .i64 0, .int .i64 0, .bool false] 161) fun g_2 w_16 =>
      ∀ w_17 : World, BoxSt g_2 w_16 w_17 →
      drewO w_17 fun w_18 =>
      Calls Try.prog 90 #[.int .i64 x75_0] w_18 fun e_9 w_19 => KeepG [g_2, g] w_18 w_19 ∧
      ∃ (s79 : ByteArray),
      e_9 = .returned (.string s79) ∧
      s3_2.size + s79.size ≤ 9223372036854775807 ∧
      Calls Try.prog 90 #[.int .i64 x75_1] w_19 fun e_10 w_20 => KeepG [g_2, g] w_19 w_20 ∧
      ∃ (s83 : ByteArray),
      e_10 = .returned (.string s83) ∧
      (s3_2 ++ s79).size + s83.size ≤ 9223372036854775807 ∧
      Calls Try.prog 90 #[.int .i64 x75_2] w_20 fun e_11 w_21 => KeepG [g_2, g] w_20 w_21 ∧
      ∃ (s87 : ByteArray),
      e_11 = .returned (.string s87) ∧
      ((s3_2 ++ s79) ++ s83).size + s87.size ≤ 9223372036854775807 ∧
      Calls Try.prog 91 #[.bool b75_3] w_21 fun e_12 w_22 => KeepG [g_2, g] w_21 w_22 ∧
      ∃ (s91 : ByteArray),
      e_12 = .returned (.string s91) ∧
      (((s3_2 ++ s79) ++ s83) ++ s87).size + s91.size ≤ 9223372036854775807 ∧
      I_2 ((((s3_2 ++ s79) ++ s83) ++ s87) ++ s91) (IntKind.i64.wrap (x6 + 1)) w_22 ∧ μ_2 ((((s3_2 ++ s79) ++ s83) ++ s87) ++ s91) (IntKind.i64.wrap (x6 + 1)) w_22 < μ_2 s3_2 x6 w_15
    ) (
      I s3_2 (IntKind.i64.wrap (x4 + 1)) w_15 ∧ μ s3_2 (IntKind.i64.wrap (x4 + 1)) w_15 < μ s3 x4 w_6
    )
  ) (
    K (.string s3) w_6
  )
def rwrite17_notes : Notes := ⟨[(1, ⟨[0, 1, 3, 7, 15, 0, 32, 96, 224, 511, 1023, 0, 2048, 6144, 14336, 30720, 64511, 131071, 262143], [4, 9, 16], [0, 1, 2, 3, 5, 6, 7, 8, 10, 11, 12, 13, 14, 15, 17, 18]⟩), (6, ⟨[0, 0, 2, 6, 15, 0, 32, 110, 255, 0, 512, 1774, 4095, 0, 8192, 28398, 65535, 0, 131072, 393216, 978670, 2097151, 4194303], [3, 7, 11, 15, 20], [0, 1, 2, 4, 5, 6, 8, 9, 10, 12, 13, 14, 16, 17, 18, 19, 21, 22]⟩), (11, ⟨[0, 0, 2, 6, 15, 0, 32, 110, 255, 0, 512, 1774, 4095, 0, 8192, 28398, 65535, 131071], [3, 7, 11, 15], [0, 1, 2, 4, 5, 6, 8, 9, 10, 12, 13, 14, 16, 17]⟩)], [(3, ⟨[(3, .lf (.str)), (4, .lf (.int .i64))], [], [26, 27, 28, 29, 30, 31, 32, 35, 36, 37, 38, 39, 40, 41, 5, 42, 43, 44, 45, 46, 47, 48, 49, 50, 51, 52, 53, 54, 55, 56, 57, 58, 59, 60, 61, 62, 63, 3, 6, 64, 65, 66, 67, 68, 71, 72, 73, 74, 75, 7, 76, 77, 78, 79, 80, 81, 82, 83, 84, 85, 86, 87, 88, 89, 90, 91, 92, 69, 70, 33, 34, 4], [5, 7]⟩), (8, ⟨[(3, .lf (.str)), (6, .lf (.int .i64))], [], [64, 65, 66, 67, 68, 71, 72, 73, 74, 75, 7, 76, 77, 78, 79, 80, 81, 82, 83, 84, 85, 86, 87, 88, 89, 90, 91, 92, 3, 69, 70, 6], [7]⟩)], []⟩
theorem rwrite17_calls (p0 : Option Addr) (w : World) (K : Value → World → Prop) (h : rwrite17_vc p0 w K) : Calls Try.prog 40 #[.pointer p0] w fun e w' => ∃ v, e = .returned v ∧ K v w' :=
  calls_of_fvc envOk Try.func40 rwrite17_notes [5, 7] [.pointer p0] w K (use_vc h (by as_aux_lemma => kernel_rfl))
/-- purser/purserlaw17.CreditBack -/
def cback_vc (x0 : Int) (a1 : Option Addr) (n1 : Nat) (c1 : Nat) (a2 : Option Addr) (n2 : Nat) (c2 : Nat) (w : World) (K : Value → World → Prop) : Prop :=
  (16 : Int) ≠ 0 ∧
  Calls Try.prog 11 #[.int .i64 (IntKind.i64.wrap (1 + (IntKind.i64.wrap (Int.tmod (IntKind.u64.wrap x0) 16))))] w fun e w_2 => KeepG [] w w_2 ∧
  ∃ (p23_0 : Option Addr) (x23_1 : Int),
  e = .returned (.tuple #[.pointer p23_0, .int .i64 x23_1]) ∧
  newO w_2 (.cells #[.int .i64 (IntKind.i64.wrap (1 + (IntKind.i64.wrap (Int.tmod (IntKind.u64.wrap x0) 16)))), .int .i64 0, .slice none 0 0] 50) fun g w_3 =>
  Calls Try.prog 12 #[] w_3 fun e_2 w_4 => KeepG [] w_3 w_4 ∧
  ∃ (b29 : Bool),
  e_2 = .returned (.bool b29) ∧
  br (!b29) (
    K (.bool false) w_4
  ) (
    br (decide (x23_1 ≠ 0)) (
      K (.bool false) w_4
    ) (
      ∃ (I : Int → World → Prop) (μ : Int → World → Nat),
      I 0 w_4 ∧
      ∀ (x10 : Int) (w_5 : World), I x10 w_5 →
      ∃ (J : Bool → World → Prop), (
        br (decide (x10 < ((n1 : Nat) : Int))) (
          J (decide (x10 < 40)) w_5
        ) (
          J false w_5
        )
      ) ∧
      ∀ (b42 : Bool) (w_6 : World), J b42 w_6 →
      br b42 (
        withP a1 fun g47 o47 =>
        (0 : Int) ≤ x10 ∧ x10 < (((n1 : Nat) : Int) : Int) ∧
        ∃ (x48_0 : Int) (x48_1 : Int) (x48_2 : Int) (x48_3 : Int) (x48_4 : Int) (a48_5 : Option Addr) (n48_5 : Nat) (c48_5 : Nat) (x48_6 : Int),
        cellsAt w_6 g47 (o47 + x10.toNat * 7) [.int .i64 x48_0, .int .i64 x48_1, .int .i64 x48_2, .int .i64 x48_3, .int .i64 x48_4, .slice a48_5 n48_5 c48_5, .int .i64 x48_6] ∧
        Calls Try.prog 24 #[.agg #[.int .i64 x48_0, .int .i64 x48_1, .int .i64 x48_2, .int .i64 x48_3, .int .i64 x48_4, .slice a48_5 n48_5 c48_5, .int .i64 x48_6], .pointer p23_0, .pointer (some ⟨g, 0, none⟩)] w_6 fun e_3 w_7 => KeepG [] w_6 w_7 ∧
        ∃ (b51 : Bool),
        e_3 = .returned (.bool b51) ∧
        br (!b51) (
          K (.bool false) w_7
        ) (
          I (IntKind.i64.wrap (x10 + 1)) w_7 ∧ μ (IntKind.i64.wrap (x10 + 1)) w_7 < μ x10 w_5
        )
      ) (
        Calls Try.prog 20 #[.pointer p23_0] w_6 fun e_4 w_8 => KeepG [] w_6 w_8 ∧
        ∃ (a55_0 : Option Addr) (n55_0 : Nat) (c55_0 : Nat) (x55_1 : Int),
        e_4 = .returned (.tuple #[.slice a55_0 n55_0 c55_0, .int .i64 x55_1]) ∧
        Calls Try.prog 38 #[.slice a55_0 n55_0 c55_0] w_8 fun e_5 w_9 => KeepG [] w_8 w_9 ∧
        ∃ (p60_0 : Option Addr) (x60_1 : Int),
        e_5 = .returned (.tuple #[.pointer p60_0, .int .i64 x60_1]) ∧
        drewO w_9 fun w_10 =>
        br (decide (x55_1 ≠ 0)) (
          K (.bool false) w_10
        ) (
          br (decide (x60_1 ≠ 0)) (
            K (.bool false) w_10
          ) (
            ∃ bs71 : List UInt8, bs71.length = n55_0 ∧ RowAt w_10 a55_0 (bs71.map bV) ∧
            Calls Try.prog 40 #[.pointer (some ⟨g, 0, none⟩)] w_10 fun e_6 w_12 => KeepG [] w_10 w_12 ∧
            ∃ (s73 : ByteArray),
            e_6 = .returned (.string s73) ∧
            RowAt w_12 a55_0 (bs71.map bV) ∧
            br (decide ((strOf bs71) ≠ s73)) (
              K (.bool false) w_12
            ) (
              Calls Try.prog 25 #[.pointer p60_0, .pointer (some ⟨g, 0, none⟩)] w_12 fun e_7 w_13 => KeepG [] w_12 w_13 ∧
              ∃ (b79 : Bool),
              e_7 = .returned (.bool b79) ∧
              br (!b79) (
                K (.bool false) w_13
              ) (
                ∃ (I_2 : Int → World → Prop) (μ_2 : Int → World → Nat),
                I_2 0 w_13 ∧
                ∀ (x15 : Int) (w_14 : World), I_2 x15 w_14 →
                ∃ (J_2 : Bool → World → Prop), (
                  br (decide (x15 < ((n2 : Nat) : Int))) (
                    J_2 (decide (x15 < 20)) w_14
                  ) (
                    J_2 false w_14
                  )
                ) ∧
                ∀ (b89 : Bool) (w_15 : World), J_2 b89 w_15 →
                br b89 (
                  withP a2 fun g94 o94 =>
                  (0 : Int) ≤ x15 ∧ x15 < (((n2 : Nat) : Int) : Int) ∧
                  ∃ (x95_0 : Int) (x95_1 : Int) (x95_2 : Int) (x95_3 : Int) (x95_4 : Int) (a95_5 : Option Addr) (n95_5 : Nat) (c95_5 : Nat) (x95_6 : Int),
                  cellsAt w_15 g94 (o94 + x15.toNat * 7) [.int .i64 x95_0, .int .i64 x95_1, .int .i64 x95_2, .int .i64 x95_3, .int .i64 x95_4, .slice a95_5 n95_5 c95_5, .int .i64 x95_6] ∧
                  Calls Try.prog 24 #[.agg #[.int .i64 x95_0, .int .i64 x95_1, .int .i64 x95_2, .int .i64 x95_3, .int .i64 x95_4, .slice a95_5 n95_5 c95_5, .int .i64 x95_6], .pointer p60_0, .pointer (some ⟨g, 0, none⟩)] w_15 fun e_8 w_16 => KeepG [] w_15 w_16 ∧
                  ∃ (b98 : Bool),
                  e_8 = .returned (.bool b98) ∧
                  br (!b98) (
                    K (.bool false) w_16
                  ) (
                    I_2 (IntKind.i64.wrap (x15 + 1)) w_16 ∧ μ_2 (IntKind.i64.wrap (x15 + 1)) w_16 < μ_2 x15 w_14
                  )
                ) (
                  Calls Try.prog 25 #[.pointer p60_0, .pointer (some ⟨g, 0, none⟩)] w_15 fun e_9 w_17 => KeepG [] w_15 w_17 ∧
                  ∃ (b102 : Bool),
                  e_9 = .returned (.bool b102) ∧
                  K (.bool b102) w_17
                )
              )
            )
          )
        )
      )
    )
  )
def cback_notes : Notes := ⟨[(13, ⟨[0, 1, 3, 7, 15, 31, 63, 127, 255, 127, 639, 2047, 4095, 8191, 16383, 16383, 65535, 131071, 262143], [10, 16], [0, 1, 2, 3, 4, 5, 6, 7, 8, 9, 11, 12, 13, 14, 15, 17, 18]⟩)], [(7, ⟨[(10, .lf (.int .i64))], [], [35, 36, 37, 38, 39, 40, 41, 42, 45, 46, 47, 48, 49, 50, 51, 52, 6, 43, 44, 10], []⟩), (16, ⟨[(15, .lf (.int .i64))], [], [82, 83, 84, 85, 86, 87, 88, 89, 92, 93, 94, 95, 96, 97, 98, 99, 6, 90, 91, 15], []⟩)], [((0, 7), ⟨[(42, .lf (.bool))], [], [35, 36, 37, 38, 39, 40, 41, 42], []⟩), ((0, 16), ⟨[(89, .lf (.bool))], [], [82, 83, 84, 85, 86, 87, 88, 89], []⟩)]⟩
theorem cback_calls (x0 : Int) (a1 : Option Addr) (n1 : Nat) (c1 : Nat) (a2 : Option Addr) (n2 : Nat) (c2 : Nat) (w : World) (K : Value → World → Prop) (h : cback_vc x0 a1 n1 c1 a2 n2 c2 w K) : Calls Try.prog 8 #[.int .i64 x0, .slice a1 n1 c1, .slice a2 n2 c2] w fun e w' => ∃ v, e = .returned v ∧ K v w' :=
  calls_of_fvc envOk Try.func8 cback_notes [] [.int .i64 x0, .slice a1 n1 c1, .slice a2 n2 c2] w K (use_vc h (by as_aux_lemma => kernel_rfl))
end GCredB
end Go.Proofs.Ytamlgnhnmilbdaa
end
section
/- The bytes of numbers: the plain law. No program in sight. -/
namespace Go.Proofs.Ytamlgnhnmilbdaa
open Go.RowKit
/-- The groups of a number without a sign. -/
def grp (u : Nat) : List UInt8 := if u < 128 then [UInt8.ofNat u] else UInt8.ofNat (u % 128 + 128) :: grp (u / 128)
termination_by u
decreasing_by omega
theorem grp_lt {u : Nat} (h : u < 128) : grp u = [UInt8.ofNat u] := by rw [grp, if_pos h]
theorem grp_ge {u : Nat} (h : 128 ≤ u) : grp u = UInt8.ofNat (u % 128 + 128) :: grp (u / 128) := by rw [grp, if_neg (by omega)]
theorem grp_len (n : Nat) : ∀ u, u < 128 ^ (n + 1) → (grp u).length ≤ n + 1 := by
  induction n with
  | zero => intro u h; rw [grp_lt (by simpa using h)]; simp
  | succ n ih =>
    intro u h
    by_cases h1 : u < 128
    · rw [grp_lt h1]; simp
    · rw [grp_ge (by omega), List.length_cons]
      have := ih (u / 128) (by rw [Nat.div_lt_iff_lt_mul (by omega), ← Nat.pow_succ]; exact h)
      omega
theorem grp_len64 {u : Nat} (h : u < 18446744073709551616) : (grp u).length ≤ 10 := grp_len 9 u (by omega)
theorem grp_pos (u : Nat) : 0 < (grp u).length := by
  by_cases h : u < 128
  · rw [grp_lt h]; simp
  · rw [grp_ge (by omega)]; simp
/-- An int as a number without a sign: zigzag. -/
def zig (z : Int) : Nat := if 0 ≤ z then (2 * z).toNat else (2 * (-z) - 1).toNat
theorem zig_lt {z : Int} (h1 : -9223372036854775808 ≤ z) (h2 : z ≤ 9223372036854775807) : zig z < 18446744073709551616 := by unfold zig; split <;> omega
def uintB (z : Int) : List UInt8 := if z < 0 then [] else grp z.toNat
def intB (z : Int) : List UInt8 := grp (zig z)
def flagB (b : Bool) : List UInt8 := [if b then 1 else 0]
def textB (bs : List UInt8) : List UInt8 := grp bs.length ++ bs
end Go.Proofs.Ytamlgnhnmilbdaa
end
section
/- The writer of the codec, walked. -/
namespace Go.Proofs.Ytamlgnhnmilbdaa
open Go.RowKit
theorem Try.infoB : (Try.prog.info? 5).map (fun i => (i.zero, i.size, i.bytes)) = some (some (.int .u8 0), 1, 1) := by kernel_rfl
theorem wpList_appb {ops : Array Oper} {rest : List Oper} {o : Oper} {a : Act} {w : World} {Q : Exit → Act → World → Prop} (hgd : o.guard = none) (s xo : Operand)
    (hop : o.op = Op.call { callee := Callee.builtin Builtin.append, args := #[s, xo], argTypes := #[42, 42] })
    {base n : Nat} {v : Value} {xs : List Value} (hv : a.eval s = v) (ho : Own w base 5 1 v n xs) (x : Value) (hx : a.eval xo = x) (m : Nat) (news : List Value) (hs : Src Try.prog 1 42 x m news w)
    (hb : n + m ≤ 140737488355328) (hbase : base ≤ w.heap.size)
    (hK : ∀ v' w', Own w' base 5 1 v' (n + m) (xs ++ news) → w.grownBy w' v.ownBlock → (v'.ownBlock = v.ownBlock ∨ ∃ g, v'.ownBlock = some g ∧ w.heap.size ≤ g) → wpList Try.prog ops Q rest (a.put o.dst v') w') :
    wpList Try.prog ops Q (o :: rest) a w := by
  obtain ⟨i0, hi, hz0, hz1, hz2⟩ := info_parts Try.infoB
  exact wpList_app hgd s xo 42 42 hop i0 _ 1 Try.underlying42 hi hz0 hz1 hz2 rfl hv ho x hx m news hs (by unfold maxLen; omega) (by omega) hbase hK
theorem Src.builtB {W : World} (b : UInt8) : Src Try.prog 1 42 (.slice (some ⟨W.heap.size, 0, none⟩) 1 1) 1 [bV b] (W.alloc (.cells #[bV b] 5)) :=
  Src.ofRow Try.underlying42 (some ⟨W.heap.size, 0, none⟩) 1 [bV b] (RowAt.ofWhole (vs := [bV b]) (al_new rfl)) (by intro u hu; rw [List.mem_singleton] at hu; subst hu; rfl)
/-- A writer. -/
structure WAt (w : World) (L : List Nat) (g : Nat) (bs : List UInt8) (bad : Bool) : Prop where
  ex : ∃ v, Bk w g #[v, .bool bad] 112 ∧ Own w 0 5 1 v bs.length (bs.map bV) ∧ ∀ k, v.ownBlock = some k → k ∈ L
  mem : g ∈ L
  under : Under L w.heap.size
theorem WAt.keep {w w' : World} {L : List Nat} {g : Nat} {bs : List UInt8} {bad : Bool} (h : WAt w L g bs bad) (hk : ∀ k ∈ L, w'.heap[k]? = w.heap[k]?) (hs : w.heap.size ≤ w'.heap.size) : WAt w' L g bs bad := by
  obtain ⟨⟨v, h1, h2, h3⟩, h4, h5⟩ := h
  exact ⟨⟨v, h1.keep (hk g h4), h2.keep fun k hv => hk k (h3 k hv), h3⟩, h4, h5.mono hs⟩
theorem WAt.fr {w w' : World} {L M : List Nat} {g : Nat} {bs : List UInt8} {bad : Bool} (h : WAt w L g bs bad) (hf : Fr M w w') (ha : Apart L M) : WAt w' L g bs bad := h.keep (hf.keep ha h.under) hf.size
theorem WAt.make {w : World} {g : Nat} {v : Value} {bs : List UInt8} {bad : Bool} (h1 : Bk w g #[v, .bool bad] 112) (h2 : Own w 0 5 1 v bs.length (bs.map bV)) : WAt w (g :: v.ownBlock.toList) g bs bad :=
  ⟨⟨v, h1, h2, fun k hk => by simp [hk]⟩, by simp, fun k hk => by
    rcases List.mem_cons.1 hk with rfl | hk
    · exact h1.lt
    · exact (h2.lt k (by simpa using hk)).2⟩
theorem own_far {w : World} {g : Nat} {v : Value} {cs : Array Value} {n : Nat} {xs : List Value} {t : TypeId} (h1 : Bk w g cs t) (h2 : Own w 0 5 1 v n xs) (hne : t ≠ 5) : v.ownBlock ≠ some g := by
  intro h
  rcases h2.2 with ⟨rfl, _⟩ | ⟨g', off, cap, cur, rfl, hb, hg, _⟩
  · cases h
  · simp [Value.ownBlock] at h
    subst h
    unfold Bk at h1
    rw [h1] at hg
    injection hg with hg
    injection hg with h3 h4 h5
    exact hne h4
theorem u8_of (u : Nat) : IntKind.u8.wrap (u : Int) = ((u % 256 : Nat) : Int) := by rw [IntKind.wrap_u8]; omega
theorem bV_nat (n : Nat) (h : n < 256) : bV (UInt8.ofNat n) = .int .u8 (n : Int) := by
  unfold bV
  rw [show (UInt8.ofNat n).toNat = n % 256 from rfl, Nat.mod_eq_of_lt h]
theorem or128B : ((List.range 256).all fun x => bits BinOp.or IntKind.u8 (x : Int) 128 == ((x % 128 + 128 : Nat) : Int)) = true := by kernel_rfl
theorem or128 (x : Nat) : bits BinOp.or IntKind.u8 ((x : Int) % 256) 128 = ((x % 128 + 128 : Nat) : Int) := by
  have h := List.all_eq_true.1 or128B (x % 256) (List.mem_range.2 (by omega))
  have h2 := eq_of_beq h
  rw [show ((x % 256 : Nat) : Int) = (x : Int) % 256 by omega, show x % 256 % 128 = x % 128 by omega] at h2
  exact h2
/-- One append to a writer, and the store of the slice. -/
theorem w_step {wa w1 : World} {g n m : Nat} {v v1 : Value} {bad : Bool} {xs zs : List Value} (hB : Bk wa g #[v, .bool bad] 112) (hO : Own wa 0 5 1 v n xs) (hg : wa.grownBy w1 v.ownBlock) (ho1 : Own w1 0 5 1 v1 m zs) :
    Bk w1 g #[v, .bool bad] 112 ∧ Bk (w1.setCell ⟨g, 0, none⟩ v1) g #[v1, .bool bad] 112 ∧ Own (w1.setCell ⟨g, 0, none⟩ v1) 0 5 1 v1 m zs := by
  have hne : v.ownBlock ≠ some g := own_far hB hO (by decide)
  have b1 : Bk w1 g #[v, .bool bad] 112 := hB.keep (hg.block g hB.lt (fun e => hne e.symm))
  refine ⟨b1, b1.setCell 0 v1, ho1.keep fun k hk => Below.heap_setCell _ _ _ _ fun e => ?_⟩
  have e2 : k = g := e
  subst e2
  exact own_far b1 ho1 (by decide) hk
theorem own_gr {L : List Nat} {v v1 : Value} {n m : Nat} (hK : ∀ k, v.ownBlock = some k → k ∈ L ∨ n ≤ k) (hn1 : v1.ownBlock = v.ownBlock ∨ ∃ g, v1.ownBlock = some g ∧ m ≤ g) (hnm : n ≤ m) : ∀ k, v1.ownBlock = some k → k ∈ L ∨ n ≤ k := by
  intro k hk
  rcases hn1 with h | ⟨g, h, hg⟩
  · exact hK k (h ▸ hk)
  · rw [h] at hk; injection hk with hk; omega
theorem gr_make {L : List Nat} {v : Value} {n g : Nat} (hg : g ∈ L) (hK : ∀ k, v.ownBlock = some k → k ∈ L ∨ n ≤ k) : Gr L (g :: v.ownBlock.toList) n := by
  intro k hk
  rcases List.mem_cons.1 hk with rfl | hk
  · exact .inl hg
  · exact hK k (by simpa using hk)
set_option maxRecDepth 100000 in
set_option maxHeartbeats 2000000 in
theorem wput_any (g u : Nat) (hu : u < 18446744073709551616) (bs : List UInt8) (bad : Bool) (L : List Nat) (w : World) (h : WAt w L g bs bad) (hl : bs.length ≤ 100000000) :
    Calls Try.prog 103 #[.pointer (some ⟨g, 0, none⟩), .int .u64 u] w fun e w' => e = .returned (.tuple #[]) ∧ ∃ L', WAt w' L' g (bs ++ grp u) bad ∧ Fr L w w' ∧ Gr L L' w.heap.size := by
  obtain ⟨⟨v, h1, h2, h3⟩, h4, h5⟩ := h
  have H1 := Bx.mk h1; have H2 := Bx.mk h2; have H3 := Bx.mk h3; have H4 := Bx.mk h4; have HL := Bx.mk hl; have HU := Bx.mk hu
  have H10 := Bx.mk (grp_len64 hu)
  clear h1 h2 h3 h4 h5 hl hu
  go_enter Try.func103, Try.ntmps103
  go_wp2_with fail
  go_loopw [1,4,5,6,7,8,9,10,11,12,13,14,15,16,17,18,19] (fun t1 _ _ _ _ _ _ _ _ _ _ _ _ _ _ _ _ wr => ∃ (x : Nat) (v : Value) (ys : List UInt8), t1 = .int .u64 x ∧ x ≤ u ∧ Bx (ys ++ grp x = bs ++ grp u) ∧ Bk wr g #[v, .bool bad] 112 ∧ Own wr 0 5 1 v ys.length (ys.map bV) ∧ Bx (∀ k, v.ownBlock = some k → k ∈ L ∨ w.heap.size ≤ k) ∧ Fr L w wr) (fun t1 _ _ _ _ _ _ _ _ _ _ _ _ _ _ _ _ _ => (intOf t1).toNat)
  case atStart => exact ⟨u, v, bs, rfl, Nat.le_refl _, ⟨rfl⟩, H1.out, H2.out, ⟨fun k hk => .inl (H3.out k hk)⟩, Fr.refl _ _⟩
  case round =>
    obtain ⟨x, v, ys, rfl, hxu, hE, hB, hO, hK, hF⟩ := hrel
    have HB := Bx.mk hB; have HO := Bx.mk hO; have HF := Bx.mk hF
    have hlen : ys.length ≤ 100000010 := by
      have := congrArg List.length hE.out; rw [List.length_append, List.length_append] at this; have := HL.out; have := H10.out; omega
    have HLen := Bx.mk hlen
    have hXU := Bx.mk hxu
    have c0 : wr.cell? ⟨g, 0, none⟩ = some v := by rw [hB.cell]; rfl
    clear hB hO hF hlen hxu
    by_cases hge : (128 : Int) ≤ (x : Int)
    · have hG := grp_ge (u := x) (by omega)
      obtain ⟨y, hy⟩ : ∃ y, y = x % 128 + 128 := ⟨_, rfl⟩
      have f2 : bits BinOp.or IntKind.u8 ((x : Int) % 256) 128 = (y : Int) := by rw [or128, hy]
      have f3 : (x : Int) / 128 = ((x / 128 : Nat) : Int) := by omega
      have f4 : IntKind.u64.wrap ((x / 128 : Nat) : Int) = ((x / 128 : Nat) : Int) := by rw [IntKind.wrap_u64]; have := hXU.out; have := HU.out; omega
      rw [← hy] at hG
      have hyb := bV_nat y (by omega)
      have HY := Bx.mk hyb; have HG := Bx.mk hG
      have hdec : x / 128 < x := by omega
      have hdec2 : x / 128 ≤ u := by have := hXU.out; omega
      have HD := Bx.mk hdec; have HD2 := Bx.mk hdec2
      clear hy hyb hG hdec hdec2
      generalize x / 128 = x2 at *
      go_wp2_with (refine wpList_appb rfl (.tmp 10) (.tmp 14) rfl rfl (HO.out.alloc _) _ rfl 1 [bV (UInt8.ofNat y)] (by rw [← HY.out]; exact Src.builtB (UInt8.ofNat y)) (by have := HLen.out; omega) (by omega) ?_)
      intro v1 w1 ho1 hg1 hn1
      obtain ⟨a1, cp1, rfl⟩ := ho1.isSlice
      obtain ⟨b1, b2, b3⟩ := w_step (HB.out.alloc _) (HO.out.alloc _) hg1 ho1
      have hK2 := own_gr hK.out hn1 (show w.heap.size ≤ wr.heap.size + 1 by have := HF.out.size; omega)
      have hF2 := ((HF.out.alloc (.cells #[.int .u8 (y : Int)] 5)).grown hg1 hK.out).setCell (p := ⟨g, 0, none⟩) (.inl H4.out) (.slice a1 (ys.length + 1) cp1)
      have c1 : w1.frozen? ⟨g, 0, none⟩ = false := b1.frozen 0
      have c2 : w1.cell? ⟨g, 0, none⟩ = some v := by rw [b1.cell]; rfl
      have B2 := Bx.mk b2; have B3 := Bx.mk b3; have K2 := Bx.mk hK2; have F2 := Bx.mk hF2
      clear b1 b2 b3 hK2 hF2 ho1 hg1 hn1
      go_wp2
      go_roundw
      case rel => exact ⟨x2, _, ys ++ [UInt8.ofNat y], rfl, HD2.out, ⟨by rw [← hE.out, HG.out, List.append_assoc]; rfl⟩, B2.out, by rw [List.length_append, List.map_append]; exact B3.out, K2, F2.out⟩
      case measure => have := HD.out; simp [intOf]; omega
    · have hG := grp_lt (u := x) (by omega)
      have hyb := bV_nat x (by omega)
      have HY := Bx.mk hyb; have HG := Bx.mk hG
      have f1 : (x : Int) % 256 = (x : Int) := by omega
      clear hyb hG
      go_wp2_with (refine wpList_appb rfl (.tmp 24) (.tmp 27) rfl rfl (HO.out.alloc _) _ rfl 1 [bV (UInt8.ofNat x)] (by rw [← HY.out]; exact Src.builtB (UInt8.ofNat x)) (by have := HLen.out; omega) (by omega) ?_)
      intro v1 w1 ho1 hg1 hn1
      obtain ⟨a1, cp1, rfl⟩ := ho1.isSlice
      obtain ⟨b1, b2, b3⟩ := w_step (HB.out.alloc _) (HO.out.alloc _) hg1 ho1
      have hK2 := own_gr hK.out hn1 (show w.heap.size ≤ wr.heap.size + 1 by have := HF.out.size; omega)
      have hF2 := ((HF.out.alloc (.cells #[.int .u8 (x : Int)] 5)).grown hg1 hK.out).setCell (p := ⟨g, 0, none⟩) (.inl H4.out) (.slice a1 (ys.length + 1) cp1)
      have c1 : w1.frozen? ⟨g, 0, none⟩ = false := b1.frozen 0
      have c2 : w1.cell? ⟨g, 0, none⟩ = some v := by rw [b1.cell]; rfl
      have B2 := Bx.mk b2; have B3 := Bx.mk b3; have K2 := Bx.mk hK2; have F2 := Bx.mk hF2
      clear b1 b2 b3 hK2 hF2 ho1 hg1 hn1
      go_wp2
      go_end0
      refine ⟨rfl, _, ?_, F2.out, gr_make H4.out K2.out⟩
      rw [← hE.out, HG.out]
      exact WAt.make B2.out (by rw [List.length_append, List.map_append]; exact B3.out)
end Go.Proofs.Ytamlgnhnmilbdaa
end
section
/- The rest of the codec's writer, walked. -/
namespace Go.Proofs.Ytamlgnhnmilbdaa
open Go.RowKit
def W1 (w : World) (L : List Nat) (g : Nat) (bs : List UInt8) (bad : Bool) (e : Ending) (w' : World) : Prop :=
  e = .returned (.tuple #[]) ∧ ∃ L', WAt w' L' g bs bad ∧ Fr L w w' ∧ Gr L L' w.heap.size
theorem WAt.setBad {w : World} {L : List Nat} {g : Nat} {bs : List UInt8} {bad : Bool} (h : WAt w L g bs bad) : WAt (w.setCell ⟨g, 1, none⟩ (.bool true)) L g bs true := by
  obtain ⟨⟨v, h1, h2, h3⟩, h4, h5⟩ := h
  refine ⟨⟨v, h1.setCell 1 (.bool true), h2.keep fun k hk => Below.heap_setCell _ _ _ _ fun e => ?_, h3⟩, h4, by simpa [Under] using h5⟩
  have e2 : k = g := e
  subst e2
  exact own_far h1 h2 (by decide) hk
set_option maxRecDepth 100000 in
set_option maxHeartbeats 2000000 in
theorem wUint_neg (g : Nat) (z : Int) (hz : z < 0) (bs : List UInt8) (bad : Bool) (L : List Nat) (w : World) (h : WAt w L g bs bad) :
    Calls Try.prog 50 #[.pointer (some ⟨g, 0, none⟩), .int .i64 z] w (W1 w L g bs true) := by
  have HW := Bx.mk h
  obtain ⟨⟨v, h1, h2, h3⟩, h4, h5⟩ := h
  have H4 := Bx.mk h4
  have c1 : w.frozen? ⟨g, 1, none⟩ = false := h1.frozen 1
  have c2 : w.cell? ⟨g, 1, none⟩ = some (.bool bad) := by rw [h1.cell]; rfl
  clear h1 h2 h3 h4 h5
  go_enter Try.func50, Try.ntmps50
  go_wp2
  go_end0
  exact ⟨rfl, L, HW.out.setBad, (Fr.refl _ _).setCell (p := ⟨g, 1, none⟩) (.inl H4.out) _, Gr.refl _ _⟩
set_option maxRecDepth 100000 in
set_option maxHeartbeats 2000000 in
theorem wUint_pos (g n : Nat) (hn : n < 9223372036854775808) (bs : List UInt8) (bad : Bool) (L : List Nat) (w : World) (h : WAt w L g bs bad) (hl : bs.length ≤ 100000000) :
    Calls Try.prog 50 #[.pointer (some ⟨g, 0, none⟩), .int .i64 n] w (W1 w L g (bs ++ grp n) bad) := by
  have HC := fun w h => Bx.mk (wput_any g n (by omega) bs bad L w h hl)
  have HW := Bx.mk h
  have f1 : IntKind.u64.wrap (n : Int) = (n : Int) := by rw [IntKind.wrap_u64]; omega
  have f2 : ¬ (n : Int) < 0 := by omega
  clear h hl hn
  go_enter Try.func50, Try.ntmps50
  go_wp2_with fail
  refine (HC _ HW.out).out.mono ?_
  rintro e w' ⟨rfl, hw'⟩
  go_wp2
  go_end0
  exact ⟨rfl, hw'⟩
theorem wUint_nil (z : Int) (w : World) : Calls Try.prog 50 #[.pointer none, .int .i64 z] w fun e w' => e = .returned (.tuple #[]) ∧ w' = w := by
  go_enter Try.func50, Try.ntmps50
  go_wp2
  go_end0
  exact ⟨rfl, rfl⟩
theorem wUint_any (g : Nat) (z : Int) (hz : z ≤ 9223372036854775807) (bs : List UInt8) (bad : Bool) (L : List Nat) (w : World) (h : WAt w L g bs bad) (hl : bs.length ≤ 100000000) :
    Calls Try.prog 50 #[.pointer (some ⟨g, 0, none⟩), .int .i64 z] w (W1 w L g (bs ++ uintB z) (bad || decide (z < 0))) := by
  by_cases h0 : z < 0
  · rw [show uintB z = [] by unfold uintB; rw [if_pos h0], List.append_nil, decide_eq_true h0, Bool.or_true]
    exact wUint_neg g z h0 bs bad L w h
  · obtain ⟨n, rfl⟩ := Int.eq_ofNat_of_zero_le (show 0 ≤ z by omega)
    rw [show uintB (n : Int) = grp n by unfold uintB; rw [if_neg h0]; rfl, decide_eq_false h0, Bool.or_false]
    exact wUint_pos g n (by omega) bs bad L w h hl
theorem zig_xor_pos (n : Nat) (h : n < 9223372036854775808) : zig (n : Int) = 2 * n := by unfold zig; rw [if_pos (by omega)]; omega
theorem xor_zero (a : Nat) (h : a < 18446744073709551616) : bits BinOp.xor IntKind.u64 (a : Int) 0 = (a : Int) := by
  have := bits_xor_u64_nat a 0 h (by omega)
  simpa using this
theorem nat_xor_ones (a : Nat) (h : a < 2 ^ 64) : a ^^^ (2 ^ 64 - 1) = 2 ^ 64 - 1 - a := by
  apply Nat.eq_of_testBit_eq
  intro i
  rw [Nat.testBit_xor, Nat.testBit_two_pow_sub_one, show 2 ^ 64 - 1 - a = 2 ^ 64 - (a + 1) by omega, Nat.testBit_two_pow_sub_succ h]
  by_cases hi : i < 64
  · simp [hi]
  · simp [hi]
    exact Nat.testBit_lt_two_pow (Nat.lt_of_lt_of_le h (Nat.pow_le_pow_right (by omega) (by omega)))
theorem xor_ones (a : Nat) (h : a < 18446744073709551616) : bits BinOp.xor IntKind.u64 (a : Int) 18446744073709551615 = ((18446744073709551615 - a : Nat) : Int) := by
  have h1 := bits_xor_u64_nat a 18446744073709551615 h (by omega)
  have h2 := nat_xor_ones a h
  rw [show (2 : Nat) ^ 64 - 1 = 18446744073709551615 from rfl] at h2
  rw [h2] at h1
  exact h1
set_option maxRecDepth 100000 in
set_option maxHeartbeats 2000000 in
theorem wInt_pos (g n : Nat) (hn : n < 9223372036854775808) (bs : List UInt8) (bad : Bool) (L : List Nat) (w : World) (h : WAt w L g bs bad) (hl : bs.length ≤ 100000000) :
    Calls Try.prog 108 #[.pointer (some ⟨g, 0, none⟩), .int .i64 n] w (W1 w L g (bs ++ intB n) bad) := by
  unfold intB
  rw [zig_xor_pos n hn]
  obtain ⟨m, hm⟩ : ∃ m, m = 2 * n := ⟨_, rfl⟩
  rw [← hm]
  have HC := fun w h => Bx.mk (wput_any g m (by omega) bs bad L w h hl)
  have HW := Bx.mk h
  have f1 : IntKind.u64.wrap (n : Int) = (n : Int) := by rw [IntKind.wrap_u64]; omega
  have f2 : IntKind.u64.wrap ((n : Int) * 2) = (m : Int) := by rw [IntKind.wrap_u64]; omega
  have f3 : (n : Int) / 9223372036854775808 = 0 := by omega
  have f4 := xor_zero m (by omega)
  clear h hl hn hm
  go_enter Try.func108, Try.ntmps108
  go_wp2_with fail
  refine (HC _ HW.out).out.mono ?_
  rintro e w' ⟨rfl, hw'⟩
  go_wp2
  go_end0
  exact ⟨rfl, hw'⟩
set_option maxRecDepth 100000 in
set_option maxHeartbeats 2000000 in
theorem wInt_neg (g : Nat) (z : Int) (h1 : z < 0) (h2 : -9223372036854775808 ≤ z) (bs : List UInt8) (bad : Bool) (L : List Nat) (w : World) (h : WAt w L g bs bad) (hl : bs.length ≤ 100000000) :
    Calls Try.prog 108 #[.pointer (some ⟨g, 0, none⟩), .int .i64 z] w (W1 w L g (bs ++ intB z) bad) := by
  unfold intB
  obtain ⟨m, hm⟩ : ∃ m : Nat, (m : Int) = 18446744073709551616 + z := ⟨(18446744073709551616 + z).toNat, by omega⟩
  obtain ⟨k, hk⟩ : ∃ k : Nat, k = 2 * m % 18446744073709551616 := ⟨_, rfl⟩
  have hz : zig z = 18446744073709551615 - k := by unfold zig; rw [if_neg (by omega)]; omega
  rw [hz]
  have HC := fun w h => Bx.mk (wput_any g (18446744073709551615 - k) (by omega) bs bad L w h hl)
  have HW := Bx.mk h
  have f1 : IntKind.u64.wrap z = (m : Int) := by rw [IntKind.wrap_u64]; omega
  have f2 : IntKind.u64.wrap ((m : Int) * 2) = (k : Int) := by rw [IntKind.wrap_u64]; omega
  have f3 : z / 9223372036854775808 = -1 := by omega
  have f5 : IntKind.u64.wrap (-1) = 18446744073709551615 := by rw [IntKind.wrap_u64]; rfl
  have f4 := xor_ones k (by omega)
  clear h hl hz hm hk
  generalize 18446744073709551615 - k = r at *
  go_enter Try.func108, Try.ntmps108
  go_wp2_with fail
  refine (HC _ HW.out).out.mono ?_
  rintro e w' ⟨rfl, hw'⟩
  go_wp2
  go_end0
  exact ⟨rfl, hw'⟩
theorem wInt_any (g : Nat) (z : Int) (h1 : -9223372036854775808 ≤ z) (h2 : z ≤ 9223372036854775807) (bs : List UInt8) (bad : Bool) (L : List Nat) (w : World) (h : WAt w L g bs bad) (hl : bs.length ≤ 100000000) :
    Calls Try.prog 108 #[.pointer (some ⟨g, 0, none⟩), .int .i64 z] w (W1 w L g (bs ++ intB z) bad) := by
  by_cases h0 : z < 0
  · exact wInt_neg g z h0 h1 bs bad L w h hl
  · obtain ⟨n, rfl⟩ := Int.eq_ofNat_of_zero_le (show 0 ≤ z by omega)
    exact wInt_pos g n (by omega) bs bad L w h hl
set_option maxRecDepth 100000 in
set_option maxHeartbeats 2000000 in
theorem wFlag_any (g : Nat) (b : Bool) (bs : List UInt8) (bad : Bool) (L : List Nat) (w : World) (h : WAt w L g bs bad) (hl : bs.length ≤ 100000000) :
    Calls Try.prog 51 #[.pointer (some ⟨g, 0, none⟩), .bool b] w (W1 w L g (bs ++ flagB b) bad) := by
  obtain ⟨⟨v, h1, h2, h3⟩, h4, h5⟩ := h
  have H1 := Bx.mk h1; have H2 := Bx.mk h2; have H3 := Bx.mk h3; have H4 := Bx.mk h4; have HL := Bx.mk hl
  have c0 : w.cell? ⟨g, 0, none⟩ = some v := by rw [h1.cell]; rfl
  clear h1 h2 h3 h4 h5 hl
  cases b with
  | true =>
    have HS : ∀ W : World, Src Try.prog 1 42 (.slice (some ⟨W.heap.size, 0, none⟩) 1 1) 1 [bV 1] (W.alloc (.cells #[.int .u8 1] 5)) := fun W => Src.builtB 1
    go_enter Try.func51, Try.ntmps51
    go_wp2_with (refine wpList_appb rfl (.tmp 22) (.tmp 23) rfl rfl (H2.out.alloc _) _ rfl 1 [bV 1] (HS _) (by have := HL.out; omega) (by omega) ?_)
    intro v1 w1 ho1 hg1 hn1
    obtain ⟨a1, cp1, rfl⟩ := ho1.isSlice
    obtain ⟨b1, b2, b3⟩ := w_step (H1.out.alloc _) (H2.out.alloc _) hg1 ho1
    have hK2 := own_gr (fun k hk => Or.inl (H3.out k hk)) hn1 (show w.heap.size ≤ w.heap.size + 1 by omega)
    have hF2 := (((Fr.refl L w).alloc (.cells #[.int .u8 1] 5)).grown hg1 (fun k hk => Or.inl (H3.out k hk))).setCell (p := ⟨g, 0, none⟩) (.inl H4.out) (.slice a1 (bs.length + 1) cp1)
    have e1 : w1.frozen? ⟨g, 0, none⟩ = false := b1.frozen 0
    have e2 : w1.cell? ⟨g, 0, none⟩ = some v := by rw [b1.cell]; rfl
    have B2 := Bx.mk b2; have B3 := Bx.mk b3; have K2 := Bx.mk hK2; have F2 := Bx.mk hF2
    clear b1 b2 b3 hK2 hF2 ho1 hg1 hn1
    go_wp2
    go_end0
    exact ⟨rfl, _, WAt.make B2.out (by rw [List.length_append, List.map_append]; exact B3.out), F2.out, gr_make H4.out K2.out⟩
  | false =>
    have HS : ∀ W : World, Src Try.prog 1 42 (.slice (some ⟨W.heap.size, 0, none⟩) 1 1) 1 [bV 0] (W.alloc (.cells #[.int .u8 0] 5)) := fun W => Src.builtB 0
    go_enter Try.func51, Try.ntmps51
    go_wp2_with (refine wpList_appb rfl (.tmp 8) (.tmp 9) rfl rfl (H2.out.alloc _) _ rfl 1 [bV 0] (HS _) (by have := HL.out; omega) (by omega) ?_)
    intro v1 w1 ho1 hg1 hn1
    obtain ⟨a1, cp1, rfl⟩ := ho1.isSlice
    obtain ⟨b1, b2, b3⟩ := w_step (H1.out.alloc _) (H2.out.alloc _) hg1 ho1
    have hK2 := own_gr (fun k hk => Or.inl (H3.out k hk)) hn1 (show w.heap.size ≤ w.heap.size + 1 by omega)
    have hF2 := (((Fr.refl L w).alloc (.cells #[.int .u8 0] 5)).grown hg1 (fun k hk => Or.inl (H3.out k hk))).setCell (p := ⟨g, 0, none⟩) (.inl H4.out) (.slice a1 (bs.length + 1) cp1)
    have e1 : w1.frozen? ⟨g, 0, none⟩ = false := b1.frozen 0
    have e2 : w1.cell? ⟨g, 0, none⟩ = some v := by rw [b1.cell]; rfl
    have B2 := Bx.mk b2; have B3 := Bx.mk b3; have K2 := Bx.mk hK2; have F2 := Bx.mk hF2
    clear b1 b2 b3 hK2 hF2 ho1 hg1 hn1
    go_wp2
    go_end0
    exact ⟨rfl, _, WAt.make B2.out (by rw [List.length_append, List.map_append]; exact B3.out), F2.out, gr_make H4.out K2.out⟩
/-- The bytes of a slice, in blocks of M. -/
def In (w : World) (M : List Nat) (a : Option Addr) (bs : List UInt8) : Prop := RowAt w a (bs.map bV) ∧ ∀ ad, a = some ad → bs ≠ [] → ad.block ∈ M
theorem In.keep {w w' : World} {M : List Nat} {a : Option Addr} {bs : List UInt8} (h : In w M a bs) (hk : ∀ k ∈ M, w'.heap[k]? = w.heap[k]?) : In w' M a bs := by
  refine ⟨?_, h.2⟩
  rcases h.1 with h1 | ⟨b, off, rfl, h1⟩
  · exact .inl h1
  · by_cases hb : bs = []
    · exact .inl (by rw [hb]; rfl)
    · refine .inr ⟨b, off, rfl, fun i v hv => ?_⟩
      rw [← h1 i v hv]
      exact World.cell?_of_block (a := ⟨b, off + i, none⟩) (hk b (h.2 _ rfl hb))
theorem In.nil (w : World) (M : List Nat) : In w M none [] := ⟨.inl rfl, fun _ h => by cases h⟩
theorem In.src {w : World} {M : List Nat} {a : Option Addr} {bs : List UInt8} (h : In w M a bs) (c : Nat) : Src Try.prog 1 42 (.slice a bs.length c) bs.length (bs.map bV) w := by
  have := Src.ofRow (P := Try.prog) (tx := 42) (w := w) Try.underlying42 a c (bs.map bV) h.1 one_bV
  rwa [List.length_map] at this
set_option maxRecDepth 100000 in
set_option maxHeartbeats 2000000 in
theorem wText_any (g : Nat) (a : Option Addr) (c : Nat) (ts : List UInt8) (M : List Nat) (bs : List UInt8) (bad : Bool) (L : List Nat) (w : World) (h : WAt w L g bs bad) (ht : In w M a ts) (hM : Under M w.heap.size) (hap : Apart M L) (hl : bs.length ≤ 10000000) (htl : ts.length ≤ 10000000) :
    Calls Try.prog 95 #[.pointer (some ⟨g, 0, none⟩), .slice a ts.length c] w (W1 w L g (bs ++ textB ts) bad) := by
  have f1 : IntKind.u64.wrap (ts.length : Int) = (ts.length : Int) := by rw [IntKind.wrap_u64]; omega
  have HC := fun w h => Bx.mk (wput_any g ts.length (by omega) bs bad L w h (by omega))
  have HW := Bx.mk h; have HT := Bx.mk ht; have HM := Bx.mk hM; have HAP := Bx.mk hap; have HL := Bx.mk hl; have HTL := Bx.mk htl
  have H10 := Bx.mk (grp_len64 (u := ts.length) (by omega))
  clear h ht hM hap hl htl
  go_enter Try.func95, Try.ntmps95
  go_wp2_with fail
  refine (HC _ HW.out).out.mono ?_
  rintro e w' ⟨rfl, L1, hW1, hF1, hG1⟩
  have HT1 := Bx.mk (HT.out.keep (hF1.keep HAP.out HM.out))
  have HF1 := Bx.mk hF1; have HG1 := Bx.mk hG1
  obtain ⟨⟨v, h1, h2, h3⟩, h4, h5⟩ := hW1
  have H1 := Bx.mk h1; have H2 := Bx.mk h2; have H3 := Bx.mk h3; have H4 := Bx.mk h4; have H5 := Bx.mk h5
  have c0 : w'.cell? ⟨g, 0, none⟩ = some v := by rw [h1.cell]; rfl
  clear h1 h2 h3 h4 h5 hF1 hG1 HC
  go_wp2_with (refine wpList_appb rfl (.tmp 15) (.tmp 16) rfl rfl H2.out _ rfl ts.length (ts.map bV) (HT1.out.src c) (by have := HL.out; have := HTL.out; have := H10.out; simp only [List.length_append]; omega) (by omega) ?_)
  intro v1 w1 ho1 hg1 hn1
  obtain ⟨a1, cp1, rfl⟩ := ho1.isSlice
  obtain ⟨b1, b2, b3⟩ := w_step H1.out H2.out hg1 ho1
  have hK2 := own_gr (fun k hk => Or.inl (H3.out k hk)) hn1 (Nat.le_refl w'.heap.size)
  have hF2 := ((Fr.refl L1 w').grown hg1 (fun k hk => Or.inl (H3.out k hk))).setCell (p := ⟨g, 0, none⟩) (.inl H4.out) (.slice a1 (bs.length + (grp ts.length).length + ts.length) cp1)
  have e1 : w1.frozen? ⟨g, 0, none⟩ = false := b1.frozen 0
  have e2 : w1.cell? ⟨g, 0, none⟩ = some v := by rw [b1.cell]; rfl
  have B2 := Bx.mk b2; have B3 := Bx.mk b3; have K2 := Bx.mk hK2; have F2 := Bx.mk hF2
  clear b1 b2 b3 hK2 hF2 ho1 hg1 hn1
  go_wp2
  go_end0
  refine ⟨rfl, _, ?_, HF1.out.trans F2.out HG1.out, HG1.out.trans (gr_make H4.out K2.out) HF1.out.size⟩
  unfold textB
  rw [← List.append_assoc]
  exact WAt.make B2.out (by rw [List.length_append, List.length_append, List.map_append (l₂ := ts), List.map_append]; have := B3.out; rw [List.append_assoc]; exact this)
theorem In.ofOwn {w : World} {b : Nat} {a : Option Addr} {c : Nat} {xs : List UInt8} (h : Own w b 5 1 (.slice a xs.length c) xs.length (xs.map bV)) : In w (Value.ownBlock (.slice a xs.length c)).toList a xs := by
  refine ⟨h.row, fun ad had hne => ?_⟩
  rcases h.2 with ⟨he, h0⟩ | ⟨g, off, cap, cur, he, _⟩
  · exact absurd (List.eq_nil_of_length_eq_zero h0) hne
  · injection he with h1 h2 h3
    subst h1
    injection had with had
    subst had
    simp [Value.ownBlock]
end Go.Proofs.Ytamlgnhnmilbdaa
end
section
/- bytes.Clone, Bytes; the reference's bytes of numbers, walked. -/
namespace Go.Proofs.Ytamlgnhnmilbdaa
open Go.RowKit
set_option maxRecDepth 100000 in
set_option maxHeartbeats 2000000 in
theorem bClone_any (a : Option Addr) (c : Nat) (bs : List UInt8) (w : World) (h : RowAt w a (bs.map bV)) (hl : bs.length ≤ 100000000) :
    Calls Try.prog 104 #[.slice a bs.length c] w fun e w' => ∃ v, e = .returned v ∧ Own w' w.heap.size 5 1 v bs.length (bs.map bV) ∧ Below w.heap.size w w' := by
  have H := Bx.mk h; have HL := Bx.mk hl
  clear h hl
  cases a with
  | none =>
    have hb : bs = [] := by
      rcases H.out with h | ⟨b, off, h, _⟩
      · simpa using h
      · cases h
    subst hb
    have hnil := fun w => Lib.run_eql_slice_nil (P := Try.prog) w 42 5 none 0 c 0 0 Try.underlying42
    show Calls Try.prog 104 #[.slice none 0 c] w _
    go_enter Try.func104, Try.ntmps104
    go_wp2
    go_ret
    exact ⟨_, rfl, Own.nil _ _ _ _, Below.refl _ _⟩
  | some ad =>
    have hnil := fun w => Lib.run_eql_slice_nil (P := Try.prog) w 42 5 (some ad) bs.length c 0 0 Try.underlying42
    have hnn : (some ad).isNone = false := rfl
    go_enter Try.func104, Try.ntmps104
    go_wp2_with (refine wpList_appb rfl (.tmp 5) (.tmp 6) rfl rfl (Own.fresh0 (w := w) (Nat.le_refl _)) _ rfl bs.length (bs.map bV) ?hs ?hb ?hbase ?_)
    case hs =>
      have := Src.ofRow (P := Try.prog) (tx := 42) Try.underlying42 (some ad) c (bs.map bV) (H.out.alloc (.cells #[] 5)) one_bV
      rwa [List.length_map] at this
    case hb => have := HL.out; omega
    case hbase => simp
    intro v1 w1 ho1 hg1 hn1
    obtain ⟨a1, cp1, rfl⟩ := ho1.isSlice
    have hb := (Below_one (w := w) (.cells #[] 5)).grown hg1 (by simp) (fun g hg => by have h3 : w.heap.size = g := Option.some.inj hg; omega)
    have HB := Bx.mk hb; have HO := Bx.mk ho1
    clear hb ho1 hg1 hn1
    go_wp2
    go_ret
    exact ⟨_, rfl, HO.out, HB.out⟩
/-- What 'Bytes' tells of a writer. -/
def wErr (bad : Bool) : Int := if bad then 1 else 0
set_option maxRecDepth 100000 in
set_option maxHeartbeats 2000000 in
theorem wBytes_any (g : Nat) (bs : List UInt8) (bad : Bool) (L : List Nat) (w : World) (h : WAt w L g bs bad) (hl : bs.length ≤ 100000000) :
    Calls Try.prog 52 #[.pointer (some ⟨g, 0, none⟩)] w fun e w' => ∃ v, e = .returned (.tuple #[v, .int .i64 (wErr bad)]) ∧ Own w' w.heap.size 5 1 v bs.length (bs.map bV) ∧ Below w.heap.size w w' := by
  obtain ⟨⟨v, h1, h2, h3⟩, h4, h5⟩ := h
  obtain ⟨a, c, rfl⟩ := h2.isSlice
  have HR := Bx.mk h2.row
  have c0 : w.cell? ⟨g, 0, none⟩ = some (.slice a bs.length c) := by rw [h1.cell]; rfl
  have c1 : w.cell? ⟨g, 1, none⟩ = some (.bool bad) := by rw [h1.cell]; rfl
  have HL := Bx.mk hl
  clear h1 h2 h3 h4 h5 hl
  cases bad with
  | true =>
    go_enter Try.func52, Try.ntmps52
    go_wp2_with fail
    refine (bClone_any a c bs w HR.out HL.out).mono ?_
    rintro e w' ⟨v, rfl, ho, hb⟩
    have HO := Bx.mk ho; have HB := Bx.mk hb
    clear ho hb
    go_wp2
    go_ret2
    exact ⟨_, rfl, HO.out, HB.out⟩
  | false =>
    go_enter Try.func52, Try.ntmps52
    go_wp2_with fail
    refine (bClone_any a c bs w HR.out HL.out).mono ?_
    rintro e w' ⟨v, rfl, ho, hb⟩
    have HO := Bx.mk ho; have HB := Bx.mk hb
    clear ho hb
    go_wp2
    go_ret2
    exact ⟨_, rfl, HO.out, HB.out⟩
theorem wBytes_nil (w : World) : Calls Try.prog 52 #[.pointer none] w fun e w' => e = .returned (.tuple #[.slice none 0 0, .int .i64 1]) ∧ w' = w := by
  go_enter Try.func52, Try.ntmps52
  go_wp2
  go_ret2
  exact ⟨rfl, rfl⟩
theorem wText_nil (v : Value) (n c : Nat) (hv : v = .slice none n c) (w : World) : Calls Try.prog 95 #[.pointer none, v] w fun e w' => e = .returned (.tuple #[]) ∧ w' = w := by
  subst hv
  go_enter Try.func95, Try.ntmps95
  go_wp2
  go_end0
  exact ⟨rfl, rfl⟩
theorem strOf_app (a b : List UInt8) : strOf a ++ strOf b = strOf (a ++ b) := by
  apply ByteArray.ext
  rw [ByteArray.data_append]
  simp [strOf]
theorem add_str {P : Program} (W : World) (xs ys : List UInt8) (h : xs.length + ys.length ≤ 9000000000000000000) : (Op.stringOp .add (strOf xs) (strOf ys)).run P W = .ok (.string (strOf (xs ++ ys))) W := by
  rw [run_string_add_sum W _ _ (by rw [strOf_size, strOf_size]; omega), strOf_app]
set_option maxRecDepth 100000 in
set_option maxHeartbeats 2000000 in
theorem fOne_any (n : Nat) (h : n < 256) (w : World) : Calls Try.prog 132 #[.int .i64 n] w fun e w' => e = .returned (.string (strOf [UInt8.ofNat n])) ∧ Below w.heap.size w w' := by
  have hb := bV_nat n h
  have hc : ∀ w : World, (convert 42 9 (.slice (some ⟨w.heap.size, 0, none⟩) 1 1)).run Try.prog (w.alloc (.cells #[.int .u8 (n : Int)] 5)) = .ok (.string (strOf [UInt8.ofNat n])) (w.alloc (.cells #[.int .u8 (n : Int)] 5)) := fun w => by
    rw [← hb]
    exact conv_str 42 9 Try.underlying42 Try.underlying5 Try.underlying9 _ (some ⟨w.heap.size, 0, none⟩) 1 [UInt8.ofNat n] (RowAt.ofWhole (vs := [bV (UInt8.ofNat n)]) (al_new rfl))
  clear hb
  go_enter Try.func132, Try.ntmps132
  go_wp2
  go_ret
  exact ⟨rfl, Below_one _⟩
set_option maxRecDepth 100000 in
set_option maxHeartbeats 2000000 in
theorem fgroups_any (u : Nat) (hu : u < 18446744073709551616) (w : World) : Calls Try.prog 121 #[.int .u64 u] w fun e w' => e = .returned (.string (strOf (grp u))) ∧ Below w.heap.size w w' := by
  have HU := Bx.mk hu
  have H10 := Bx.mk (grp_len64 hu)
  clear hu
  go_enter Try.func121, Try.ntmps121
  go_wp2_with fail
  go_loopw [0,3,4,5,6,7,8,9,10,11,12,13,14] (fun t0 t3 _ _ _ _ _ _ _ _ _ _ _ wr => ∃ (x : Nat) (ys : List UInt8), t0 = .int .u64 x ∧ t3 = .string (strOf ys) ∧ x ≤ u ∧ Bx (ys ++ grp x = grp u) ∧ Bx (Below w.heap.size w wr)) (fun t0 _ _ _ _ _ _ _ _ _ _ _ _ _ => (intOf t0).toNat)
  case atStart => exact ⟨u, [], rfl, rfl, Nat.le_refl _, ⟨rfl⟩, ⟨Below.refl _ _⟩⟩
  case round =>
    obtain ⟨x, ys, rfl, rfl, hxu, hE, hB⟩ := hrel
    have hXU := Bx.mk hxu
    have hlen : ys.length ≤ 10 := by
      have := congrArg List.length hE.out; rw [List.length_append] at this; have := H10.out; omega
    have HLen := Bx.mk hlen
    clear hlen hxu
    by_cases hge : (127 : Int) < (x : Int)
    · have hG := grp_ge (u := x) (by omega)
      obtain ⟨y, hy⟩ : ∃ y, y = x % 128 + 128 := ⟨_, rfl⟩
      have f1 : (x : Int) % 128 + 128 = (y : Int) := by omega
      have f3 : (x : Int) / 128 = ((x / 128 : Nat) : Int) := by omega
      rw [← hy] at hG
      have HC := fun w => Bx.mk (fOne_any y (by omega) w)
      have HG := Bx.mk hG
      have hdec : x / 128 < x := by omega
      have hdec2 : x / 128 ≤ u := by have := hXU.out; omega
      have HD := Bx.mk hdec; have HD2 := Bx.mk hdec2
      clear hy hG hdec hdec2
      generalize x / 128 = x2 at *
      have f5 : wrap64 ((x : Int) % 128) = (x : Int) % 128 := by unfold wrap64; omega
      have f6 : IntKind.u64.wrap (x2 : Int) = (x2 : Int) := by rw [IntKind.wrap_u64]; have := HD2.out; have := HU.out; omega
      go_wp2_with fail
      refine (HC _).out.mono ?_
      rintro e w' ⟨rfl, hb⟩
      have HB2 := Bx.mk (hB.out.trans (hb.mono hB.out.size))
      clear hb
      have hap := fun W => add_str (P := Try.prog) W ys [UInt8.ofNat y] (by have := HLen.out; simp; omega)
      go_wp2
      go_roundw
      case rel => exact ⟨x2, ys ++ [UInt8.ofNat y], rfl, rfl, HD2.out, ⟨by rw [← hE.out, HG.out, List.append_assoc]; rfl⟩, HB2⟩
      case measure => have := HD.out; simp [intOf]; omega
    · have hG := grp_lt (u := x) (by omega)
      have HC := fun w => Bx.mk (fOne_any x (by omega) w)
      have HG := Bx.mk hG
      have f5 : wrap64 (x : Int) = (x : Int) := by unfold wrap64; omega
      clear hG
      go_wp2_with fail
      refine (HC _).out.mono ?_
      rintro e w' ⟨rfl, hb⟩
      have HB2 := Bx.mk (hB.out.trans (hb.mono hB.out.size))
      clear hb
      have hap := fun W => add_str (P := Try.prog) W ys [UInt8.ofNat x] (by have := HLen.out; simp; omega)
      go_wp2
      go_ret
      exact ⟨by rw [← hE.out, HG.out]; rfl, HB2.out⟩
theorem fUint_any (z : Int) (h2 : z ≤ 9223372036854775807) (w : World) : Calls Try.prog 90 #[.int .i64 z] w fun e w' => e = .returned (.string (strOf (uintB z))) ∧ Below w.heap.size w w' := by
  by_cases h0 : z < 0
  · rw [show uintB z = [] by unfold uintB; rw [if_pos h0]]
    clear h2
    go_enter Try.func90, Try.ntmps90
    go_wp2
    go_ret
    exact ⟨rfl, Below.refl _ _⟩
  · obtain ⟨n, rfl⟩ := Int.eq_ofNat_of_zero_le (show 0 ≤ z by omega)
    rw [show uintB (n : Int) = grp n by unfold uintB; rw [if_neg h0]; rfl]
    have f1 : IntKind.u64.wrap (n : Int) = (n : Int) := by rw [IntKind.wrap_u64]; omega
    have HC := fun w => Bx.mk (fgroups_any n (by omega) w)
    clear h2
    go_enter Try.func90, Try.ntmps90
    go_wp2_with fail
    refine (HC _).out.mono ?_
    rintro e w' ⟨rfl, hb⟩
    have HB := Bx.mk hb; clear hb
    go_wp2
    go_ret
    exact ⟨rfl, HB.out⟩
theorem fInt_any (z : Int) (h1 : -9223372036854775808 ≤ z) (h2 : z ≤ 9223372036854775807) (w : World) : Calls Try.prog 110 #[.int .i64 z] w fun e w' => e = .returned (.string (strOf (intB z))) ∧ Below w.heap.size w w' := by
  unfold intB
  have hz := zig_lt h1 h2
  obtain ⟨m, hm⟩ : ∃ m, m = zig z := ⟨_, rfl⟩
  rw [← hm]
  have HC := fun w => Bx.mk (fgroups_any m (by omega) w)
  by_cases h0 : 0 ≤ z
  · have hm2 : (m : Int) = 2 * z := by rw [hm]; unfold zig; rw [if_pos h0]; omega
    have f1 : IntKind.u64.wrap z = z := by rw [IntKind.wrap_u64]; omega
    have f2 : IntKind.u64.wrap (2 * z) = (m : Int) := by rw [IntKind.wrap_u64]; omega
    clear hm hm2 h1 h2 hz
    go_enter Try.func110, Try.ntmps110
    go_wp2_with fail
    refine (HC _).out.mono ?_
    rintro e w' ⟨rfl, hb⟩
    have HB := Bx.mk hb; clear hb
    go_wp2
    go_ret
    exact ⟨rfl, HB.out⟩
  · have hm2 : (m : Int) = 2 * (-z) - 1 := by rw [hm]; unfold zig; rw [if_neg h0]; omega
    obtain ⟨k, hk⟩ : ∃ k : Int, k = 18446744073709551616 + z := ⟨_, rfl⟩
    obtain ⟨j, hj⟩ : ∃ j : Int, j = -z := ⟨_, rfl⟩
    have f1 : IntKind.u64.wrap z = k := by rw [IntKind.wrap_u64]; omega
    have f3 : IntKind.u64.wrap (-k) = j := by rw [IntKind.wrap_u64]; omega
    obtain ⟨q, hq⟩ : ∃ q : Int, q = 2 * j % 18446744073709551616 := ⟨_, rfl⟩
    have f4 : IntKind.u64.wrap (2 * j) = q := by rw [IntKind.wrap_u64]; omega
    have f5 : IntKind.u64.wrap (q - 1) = (m : Int) := by rw [IntKind.wrap_u64]; omega
    clear hm hm2 h1 h2 hz hk hj hq
    go_enter Try.func110, Try.ntmps110
    go_wp2_with fail
    refine (HC _).out.mono ?_
    rintro e w' ⟨rfl, hb⟩
    have HB := Bx.mk hb; clear hb
    go_wp2
    go_ret
    exact ⟨rfl, HB.out⟩
theorem fFlag_any (b : Bool) (w : World) : Calls Try.prog 91 #[.bool b] w fun e w' => e = .returned (.string (strOf (flagB b))) ∧ w' = w := by
  cases b with
  | true =>
    go_enter Try.func91, Try.ntmps91
    go_wp2
    go_ret
    exact ⟨rfl, rfl⟩
  | false =>
    go_enter Try.func91, Try.ntmps91
    go_wp2
    go_ret
    exact ⟨rfl, rfl⟩
theorem fText_any (bs : List UInt8) (hl : bs.length ≤ 100000000) (w : World) : Calls Try.prog 71 #[.string (strOf bs)] w fun e w' => e = .returned (.string (strOf (textB bs))) ∧ Below w.heap.size w w' := by
  have hs := strOf_size bs
  have HC := fun w => Bx.mk (fUint_any bs.length (by omega) w)
  have hu : uintB (bs.length : Int) = grp bs.length := by unfold uintB; rw [if_neg (by omega)]; rfl
  rw [hu] at HC
  have hap := fun W => add_str (P := Try.prog) W (grp bs.length) bs (by have := grp_len64 (u := bs.length) (by omega); omega)
  clear hu hl
  go_enter Try.func71, Try.ntmps71
  go_wp2_with fail
  refine (HC _).out.mono ?_
  rintro e w' ⟨rfl, hb⟩
  have HB := Bx.mk hb; clear hb
  go_wp2
  go_ret
  exact ⟨rfl, HB.out⟩
end Go.Proofs.Ytamlgnhnmilbdaa
end
section
/- Numbers read from bytes: the plain law. No program in sight. -/
namespace Go.Proofs.Ytamlgnhnmilbdaa
open Go.RowKit
/-- The next number: it, how many bytes it has, and what is wrong (3: it ends too soon; 2: not in form). -/
def tk (most : Nat) : Nat → Nat → List UInt8 → Nat × Nat × Int
  | _, _, [] => (0, 0, 3)
  | i, u, x :: r => if i = most ∨ (x.toNat = 0 ∧ 0 < i) ∨ (i = 9 ∧ 1 < x.toNat) then (0, 0, 2) else
    if 128 ≤ x.toNat then tk most (i + 1) (u + x.toNat % 128 * 128 ^ i) r else (u + x.toNat % 128 * 128 ^ i, i + 1, 0)
theorem tk_nil (most i u : Nat) : tk most i u [] = (0, 0, 3) := rfl
theorem tk_bad {most i u : Nat} {x : UInt8} {r : List UInt8} (h : i = most ∨ (x.toNat = 0 ∧ 0 < i) ∨ (i = 9 ∧ 1 < x.toNat)) : tk most i u (x :: r) = (0, 0, 2) := by unfold tk; rw [if_pos h]
theorem tk_more {most i u : Nat} {x : UInt8} {r : List UInt8} (h : ¬ (i = most ∨ (x.toNat = 0 ∧ 0 < i) ∨ (i = 9 ∧ 1 < x.toNat))) (h2 : 128 ≤ x.toNat) : tk most i u (x :: r) = tk most (i + 1) (u + x.toNat % 128 * 128 ^ i) r := by
  rw [tk, if_neg h, if_pos h2]
theorem tk_last {most i u : Nat} {x : UInt8} {r : List UInt8} (h : ¬ (i = most ∨ (x.toNat = 0 ∧ 0 < i) ∨ (i = 9 ∧ 1 < x.toNat))) (h2 : ¬ 128 ≤ x.toNat) : tk most i u (x :: r) = (u + x.toNat % 128 * 128 ^ i, i + 1, 0) := by
  rw [tk, if_neg h, if_neg h2]
theorem u8_eq {x : UInt8} {n : Nat} (h : x.toNat = n) (hn : n < 256) : UInt8.ofNat n = x := by
  subst h; simp
/-- What is read has just its bytes. -/
theorem tk_enc (most : Nat) : ∀ (bs : List UInt8) (i a u n : Nat), tk most i a bs = (u, n, 0) → ∃ v, u = a + v * 128 ^ i ∧ (0 < i → v ≠ 0) ∧ i < n ∧ n ≤ i + bs.length ∧ bs.take (n - i) = grp v := by
  intro bs
  induction bs with
  | nil => intro i a u n h; rw [tk_nil] at h; injection h with _ h; injection h with _ h; cases h
  | cons x r ih =>
    intro i a u n h
    by_cases hb : i = most ∨ (x.toNat = 0 ∧ 0 < i) ∨ (i = 9 ∧ 1 < x.toNat)
    · rw [tk_bad hb] at h; injection h with _ h; injection h with _ h; cases h
    · by_cases h2 : 128 ≤ x.toNat
      · rw [tk_more hb h2] at h
        obtain ⟨v, h3, h4, h5, h6, h7⟩ := ih _ _ _ _ h
        have hx := x.toNat_lt
        have hv := h4 (by omega)
        refine ⟨x.toNat % 128 + 128 * v, ?_, fun _ => by omega, by omega, by simp; omega, ?_⟩
        · rw [h3, Nat.pow_succ, Nat.add_mul, Nat.add_assoc, Nat.mul_comm (128 ^ i) 128, ← Nat.mul_assoc, Nat.mul_comm v 128]
        · rw [grp_ge (by omega), show n - i = (n - (i + 1)) + 1 by omega, List.take_succ_cons, h7]
          congr 1
          · exact (u8_eq (n := (x.toNat % 128 + 128 * v) % 128 + 128) (by omega) (by omega)).symm
          · congr 1; omega
      · rw [tk_last hb h2] at h
        injection h with h3 h
        injection h with h4 _
        have hx := x.toNat_lt
        refine ⟨x.toNat, by rw [← h3, Nat.mod_eq_of_lt (by omega)], fun h => by omega, by omega, by simp; omega, ?_⟩
        rw [grp_lt (by omega), show n - i = 1 by omega]
        simp
theorem tk_enc0 {most u n : Nat} {bs : List UInt8} (h : tk most 0 0 bs = (u, n, 0)) : 0 < n ∧ n ≤ bs.length ∧ bs.take n = grp u := by
  obtain ⟨v, h1, _, h3, h4, h5⟩ := tk_enc most bs 0 0 u n h
  simp at h1 h4 h5
  subst h1
  exact ⟨h3, h4, h5⟩
/-- What is written is read again. -/
theorem tk_dec (most : Nat) (rest : List UInt8) : ∀ (m v i a : Nat), v ≤ m → v * 128 ^ i < 18446744073709551616 → i ≤ 9 → i + (grp v).length ≤ most → (0 < i → v ≠ 0) →
    tk most i a (grp v ++ rest) = (a + v * 128 ^ i, i + (grp v).length, 0) := by
  intro m
  induction m with
  | zero =>
    intro v i a hv hb hi hm h0
    obtain rfl : v = 0 := by omega
    have hi0 : i = 0 := by
      rcases Nat.eq_zero_or_pos i with h | h
      · exact h
      · exact absurd rfl (h0 h)
    subst hi0
    rw [grp_lt (by omega)] at hm ⊢
    simp at hm
    show tk most 0 a (UInt8.ofNat 0 :: rest) = _
    rw [tk_last (by simp; omega) (by simp)]
    simp
  | succ m ih =>
    intro v i a hv hb hi hm h0
    have h9 : i = 9 → v ≤ 1 := by
      intro h; subst h; omega
    by_cases hlt : v < 128
    · rw [grp_lt hlt] at hm ⊢
      simp at hm
      show tk most i a (UInt8.ofNat v :: rest) = _
      have hx : (UInt8.ofNat v).toNat = v := by show v % 256 = v; omega
      rw [tk_last (by rw [hx]; omega) (by rw [hx]; omega), hx, Nat.mod_eq_of_lt hlt]
      rfl
    · rw [grp_ge (by omega)] at hm ⊢
      rw [List.length_cons] at hm ⊢
      show tk most i a (UInt8.ofNat (v % 128 + 128) :: (grp (v / 128) ++ rest)) = _
      have hx : (UInt8.ofNat (v % 128 + 128)).toNat = v % 128 + 128 := by show (v % 128 + 128) % 256 = _; omega
      have hp := grp_pos (v / 128)
      have hdiv : v / 128 * 128 ^ (i + 1) ≤ v * 128 ^ i := by
        rw [Nat.pow_succ, Nat.mul_comm (128 ^ i) 128, ← Nat.mul_assoc]
        exact Nat.mul_le_mul_right _ (by omega)
      rw [tk_more (by rw [hx]; omega) (by rw [hx]; omega), hx, ih (v / 128) (i + 1) _ (by omega) (by omega) (by omega) (by omega) (by omega)]
      have e : v = 128 * (v / 128) + v % 128 := by omega
      refine Prod.ext ?_ (Prod.ext (by simp; omega) rfl)
      show a + (v % 128 + 128) % 128 * 128 ^ i + v / 128 * 128 ^ (i + 1) = a + v * 128 ^ i
      rw [show (v % 128 + 128) % 128 = v % 128 by omega]
      conv => rhs; rw [e]
      rw [Nat.pow_succ, Nat.add_mul, Nat.mul_comm (128 ^ i) 128, ← Nat.mul_assoc, Nat.mul_comm (v / 128) 128]
      omega
theorem tk_dec0 {most v : Nat} (rest : List UInt8) (hv : v < 18446744073709551616) (hm : (grp v).length ≤ most) : tk most 0 0 (grp v ++ rest) = (v, (grp v).length, 0) := by
  have := tk_dec most rest v v 0 0 (Nat.le_refl _) (by simpa using hv) (by omega) (by omega) (by omega)
  simpa using this
/-- A number without a sign as an int: zigzag, back. -/
def zag (u : Nat) : Int := if u % 2 = 1 then -((u / 2 : Nat) : Int) - 1 else ((u / 2 : Nat) : Int)
theorem zig_zag (u : Nat) : zig (zag u) = u := by unfold zig zag; split <;> (split <;> omega)
theorem zag_zig (z : Int) : zag (zig z) = z := by unfold zag zig; split <;> (split <;> omega)
theorem zag_range {u : Nat} (h : u < 18446744073709551616) : -9223372036854775808 ≤ zag u ∧ zag u ≤ 9223372036854775807 := by unfold zag; split <;> omega
end Go.Proofs.Ytamlgnhnmilbdaa
end
section
/- The reader of the codec, walked. -/
namespace Go.Proofs.Ytamlgnhnmilbdaa
open Go.RowKit
/-- A reader. -/
structure RdAt (w : World) (L : List Nat) (g : Nat) (bs : List UInt8) (e : Int) : Prop where
  ex : ∃ a c, Bk w g #[.slice a bs.length c, .int .i64 e] 182 ∧ In w L a bs ∧ bs.length ≤ c
  mem : g ∈ L
  under : Under L w.heap.size
theorem RdAt.keep {w w' : World} {L : List Nat} {g : Nat} {bs : List UInt8} {e : Int} (h : RdAt w L g bs e) (hk : ∀ k ∈ L, w'.heap[k]? = w.heap[k]?) (hs : w.heap.size ≤ w'.heap.size) : RdAt w' L g bs e := by
  obtain ⟨⟨a, c, h1, h2, h3⟩, h4, h5⟩ := h
  exact ⟨⟨a, c, h1.keep (hk g h4), h2.keep hk, h3⟩, h4, h5.mono hs⟩
theorem RdAt.fr {w w' : World} {L M : List Nat} {g : Nat} {bs : List UInt8} {e : Int} (h : RdAt w L g bs e) (hf : Fr M w w') (ha : Apart L M) : RdAt w' L g bs e := h.keep (hf.keep ha h.under) hf.size
theorem RdAt.below {w w' : World} {L : List Nat} {g : Nat} {bs : List UInt8} {e : Int} (h : RdAt w L g bs e) (hb : Below w.heap.size w w') : RdAt w' L g bs e := h.keep (fun k hk => hb.block k (h.under k hk)) hb.size
/-- The bytes are not in the reader's own block. -/
theorem in_other {w : World} {L : List Nat} {a : Option Addr} {bs : List UInt8} {g i : Nat} {cs : Array Value} {v : Value} (hb : Bk w g cs 182) (h : In w L a bs) : In (w.setCell ⟨g, i, none⟩ v) L a bs ∨ ∃ (j : Nat) (x : UInt8), cs[j]? = some (bV x) := by
  rcases h.1 with h1 | ⟨b, off, rfl, h1⟩
  · left; exact ⟨.inl h1, h.2⟩
  · by_cases hg : b = g
    · subst hg
      cases bs with
      | nil => left; exact ⟨.inl rfl, h.2⟩
      | cons x r =>
        right
        have := h1 0 (bV x) rfl
        rw [hb.cell] at this
        exact ⟨_, _, this⟩
    · left
      refine ⟨.inr ⟨b, off, rfl, fun j u hj => ?_⟩, h.2⟩
      rw [← h1 j u hj]
      exact World.cell?_of_block (a := ⟨b, off + j, none⟩) (Below.heap_setCell _ _ _ _ hg)
theorem in_set {w : World} {L : List Nat} {a a0 : Option Addr} {bs : List UInt8} {n0 c0 g i : Nat} {e : Int} {v : Value} (hb : Bk w g #[.slice a0 n0 c0, .int .i64 e] 182) (h : In w L a bs) : In (w.setCell ⟨g, i, none⟩ v) L a bs := by
  rcases in_other (i := i) (v := v) hb h with h | ⟨j, x, hj⟩
  · exact h
  · match j with
    | 0 => cases hj
    | 1 => cases hj
    | j + 2 => simp at hj
theorem RdAt.setErr {w : World} {L : List Nat} {g : Nat} {bs : List UInt8} {e : Int} (h : RdAt w L g bs e) (e' : Int) : RdAt (w.setCell ⟨g, 1, none⟩ (.int .i64 e')) L g bs e' := by
  obtain ⟨⟨a, c, h1, h2, h3⟩, h4, h5⟩ := h
  exact ⟨⟨a, c, h1.setCell 1 (.int .i64 e'), in_set h1 h2, h3⟩, h4, by simpa [Under] using h5⟩
theorem RdAt.setBytes {w : World} {L : List Nat} {g : Nat} {bs bs2 : List UInt8} {e : Int} (h : RdAt w L g bs e) {a2 : Option Addr} {c2 : Nat} (h2 : In w L a2 bs2) (hc : bs2.length ≤ c2) : RdAt (w.setCell ⟨g, 0, none⟩ (.slice a2 bs2.length c2)) L g bs2 e := by
  obtain ⟨⟨a, c, h1, _, h3⟩, h4, h5⟩ := h
  exact ⟨⟨a2, c2, h1.setCell 0 (.slice a2 bs2.length c2), in_set h1 h2, hc⟩, h4, by simpa [Under] using h5⟩
/-- 'b[n:]'. -/
theorem slice_from {w : World} {L : List Nat} {a : Option Addr} {bs : List UInt8} {c n : Nat} (hn : n ≤ bs.length) (hc : bs.length ≤ c) (h : In w L a bs) :
    ∃ a' c', (∀ W : World, (Instr.slice 42 (.slice a bs.length c) (some (.int .i64 (n : Int))) none none).run Try.prog W = .ok (.slice a' (bs.drop n).length c') W) ∧ In w L a' (bs.drop n) ∧ (bs.drop n).length ≤ c' := by
  have hsz : ∀ W : World, (sizeOf 5).run Try.prog W = .ok 1 W := fun W => by kernel_rfl
  refine ⟨if c = n then a else a.map (·.add (n * 1)), c - n, fun W => ?_, ?_, by simp; omega⟩
  · have h1 : (0 : Int) ≤ (n : Int) ∧ (n : Int) ≤ (bs.length : Int) := by omega
    have h2 : ¬ bs.length < n := by omega
    simp [Instr.slice, run_underlying Try.underlying42, Instr.sliceBounds, Instr.sliceBound, asIntOf, h1, h2, hsz]
  · by_cases hcn : c = n
    · rw [if_pos hcn]
      have : bs.drop n = [] := List.drop_eq_nil_of_le (by omega)
      rw [this]
      exact ⟨.inl rfl, fun _ _ h => absurd rfl h⟩
    · rw [if_neg hcn]
      rcases h.1 with h1 | ⟨b, off, rfl, h1⟩
      · have h2 : bs = [] := by simpa using h1
        subst h2
        exact ⟨.inl (by simp), fun _ _ h => absurd (by simp) h⟩
      · refine ⟨?_, fun ad had hne => ?_⟩
        · have := RowAt.drop (w := w) (b := b) (off := off) (vs := bs.map bV) (.inr ⟨b, off, rfl, h1⟩) n
          rw [List.map_drop] 
          simpa [Addr.add_lit] using this
        · simp [Addr.add_lit] at had
          subst had
          exact h.2 ⟨b, off, none⟩ rfl (fun h0 => hne (by rw [h0]; simp))
set_option maxRecDepth 100000 in
set_option maxHeartbeats 2000000 in
theorem cRead_any (a : Option Addr) (c : Nat) (bs : List UInt8) (w : World) (h : RowAt w a (bs.map bV)) (hl : bs.length ≤ 100000000) :
    Calls Try.prog 73 #[.slice a bs.length c] w fun e w' => ∃ g L, e = .returned (.pointer (some ⟨g, 0, none⟩)) ∧ RdAt w' L g bs 0 ∧ From w.heap.size L ∧ Below w.heap.size w w' := by
  have HC := Bx.mk (bClone_any a c bs w h hl)
  clear h hl
  go_enter Try.func73, Try.ntmps73
  go_wp2_with fail
  refine HC.out.mono ?_
  rintro e w1 ⟨v, rfl, ho, hb⟩
  obtain ⟨a1, c1, rfl⟩ := ho.isSlice
  have HO := Bx.mk ho; have HB := Bx.mk hb
  clear ho hb
  go_wp2
  go_ret
  refine ⟨w1.heap.size, w1.heap.size :: (Value.ownBlock (.slice a1 bs.length c1)).toList, rfl, ⟨⟨a1, c1, Bk.new rfl, ?_, HO.out.cap.1⟩, by simp, ?_⟩, ?_, HB.out.alloc HB.out.size _⟩
  · have h1 := In.ofOwn (HO.out.alloc (.cells #[.slice a1 bs.length c1, .int .i64 0] 182))
    exact ⟨h1.1, fun ad had hne => by simp only [List.mem_cons]; exact .inr (h1.2 ad had hne)⟩
  · intro k hk
    rcases List.mem_cons.1 hk with rfl | hk
    · simp
    · have := (HO.out.lt k (by simpa using hk)).2; simp; omega
  · intro k hk
    rcases List.mem_cons.1 hk with rfl | hk
    · exact HB.out.size
    · exact (HO.out.lt k (by simpa using hk)).1
theorem rdead0 {w : World} {L : List Nat} {g : Nat} {bs : List UInt8} (h : RdAt w L g bs 0) : Calls Try.prog 113 #[.pointer (some ⟨g, 0, none⟩)] w fun e w' => e = .returned (.bool false) ∧ w' = w := by
  obtain ⟨⟨a, c, h1, _, _⟩, _, _⟩ := h
  have c1 : w.cell? ⟨g, 1, none⟩ = some (.int .i64 0) := by rw [h1.cell]; rfl
  clear h1
  go_enter Try.func113, Try.ntmps113
  go_wp2
  go_ret
  exact ⟨rfl, rfl⟩
theorem rdead1 {w : World} {L : List Nat} {g : Nat} {bs : List UInt8} {e : Int} (h : RdAt w L g bs e) (he : e ≠ 0) : Calls Try.prog 113 #[.pointer (some ⟨g, 0, none⟩)] w fun r w' => r = .returned (.bool true) ∧ w' = w := by
  obtain ⟨⟨a, c, h1, _, _⟩, _, _⟩ := h
  have c1 : w.cell? ⟨g, 1, none⟩ = some (.int .i64 e) := by rw [h1.cell]; rfl
  have he2 : (e != 0) = true := by simpa using he
  clear h1 he
  go_enter Try.func113, Try.ntmps113
  go_wp2
  go_ret
  exact ⟨rfl, rfl⟩
theorem and127B : ((List.range 256).all fun x => bits BinOp.andNot IntKind.u8 (x : Int) 128 == ((x % 128 : Nat) : Int)) = true := by kernel_rfl
theorem and127 (x : UInt8) : bits BinOp.andNot IntKind.u8 (x.toNat : Int) 128 = ((x.toNat % 128 : Nat) : Int) :=
  eq_of_beq (List.all_eq_true.1 and127B x.toNat (List.mem_range.2 x.toNat_lt))
theorem or_next {u y i : Nat} (hu : u < 128 ^ i) (hs : u + y * 128 ^ i < 18446744073709551616) : bits BinOp.or IntKind.u64 (u : Int) ((y * 128 ^ i : Nat) : Int) = ((u + y * 128 ^ i : Nat) : Int) := by
  have hy : y * 128 ^ i < 18446744073709551616 := by omega
  have e : (128 : Nat) ^ i = 2 ^ (7 * i) := by rw [Nat.pow_mul]
  rw [u64_or_nat _ _ (by omega) hy, Nat.or_comm, nat_join (7 * i) _ _ (by rw [e]; exact Nat.mul_mod_left _ _) (by rw [← e]; exact hu), Nat.add_comm]
set_option maxRecDepth 100000 in
set_option maxHeartbeats 4000000 in
theorem rtake_any (g : Nat) (most : Nat) (hm0 : 0 < most) (hm : most ≤ 10) (bs : List UInt8) (L : List Nat) (w : World) (h : RdAt w L g bs 0) (hl : bs.length ≤ 100000000) (u0 n0 : Nat) (e0 : Int) (hr : tk most 0 0 bs = (u0, n0, e0)) :
    Calls Try.prog 114 #[.pointer (some ⟨g, 0, none⟩), .int .i64 most] w fun e w' => (e0 = 0 ∧ e = .returned (.tuple #[.int .u64 u0, .int .i64 n0]) ∧ w' = w) ∨ (e0 ≠ 0 ∧ e = .returned (.tuple #[.int .u64 0, .int .i64 0]) ∧ w' = w.setCell ⟨g, 1, none⟩ (.int .i64 e0)) := by
  obtain ⟨⟨a, c, h1, h2, h3⟩, h4, h5⟩ := h
  have HI := Bx.mk h2; have HR := Bx.mk hr; have HM := Bx.mk hm; have HL := Bx.mk hl
  have c0 : w.cell? ⟨g, 0, none⟩ = some (.slice a bs.length c) := by rw [h1.cell]; rfl
  have c1 : w.cell? ⟨g, 1, none⟩ = some (.int .i64 0) := by rw [h1.cell]; rfl
  have c2 : w.frozen? ⟨g, 1, none⟩ = false := h1.frozen 1
  have M0 := Bx.mk hm0
  have hmb : ((0 : Int) == (most : Int)) = false := by simp; omega
  clear h1 h2 h3 h4 h5 hr hm hl hm0
  go_enter Try.func114, Try.ntmps114
  go_wp2
  refine wp_scope_jumps 0 (fun a' w' => w' = w ∧ ∃ (i u : Nat) (x8 x9 x10 x11 x12 x13 x14 x15 x16 x17 x18 x19 x20 x21 x22 x23 x24 x25 x26 x27 x28 x29 x30 x31 x32 x33 x34 x35 x36 x37 x38 x39 x40 x41 x42 x43 x44 x45 x46 x47 x48 x49 x50 x51 x52 x53 x54 x55 x56 x57 x58 x59 x60 x61 : Value), a' = { tmps := #[.pointer (some ⟨g, 0, none⟩), .int .i64 most, undef, undef, .int .u64 0, .int .i64 0, .int .u64 u, .int .i64 i, x8, x9, x10, x11, x12, x13, x14, x15, x16, x17, x18, x19, x20, x21, x22, x23, x24, x25, x26, x27, x28, x29, x30, x31, x32, x33, x34, x35, x36, x37, x38, x39, x40, x41, x42, x43, x44, x45, x46, x47, x48, x49, x50, x51, x52, x53, x54, x55, x56, x57, x58, x59, x60, x61], defers := [] } ∧ Bx (tk most i u (bs.drop i) = (u0, n0, e0) ∧ u < 128 ^ i ∧ i ≤ 9 ∧ i ≤ bs.length)) (fun a' _ => 10 - (intOf (a'.tmps.getD 7 undef)).toNat) rfl ?first ?pass
  case first =>
    go_wp2
    go_step3
    by_cases hb0 : bs.length = 0
    · have h0 : bs = [] := List.eq_nil_of_length_eq_zero hb0
      have HE := Bx.mk (show ((0, 0, 3) : Nat × Nat × Int) = (u0, n0, e0) by rw [← HR.out, h0]; rfl)
      have hl0 : ((0 : Int) == (bs.length : Int)) = true := by rw [hb0]; rfl
      clear HR HI h0 hb0
      go_wp2
      dsimp only [Exit.jump]
      go_ret2
      have h := HE.out
      injection h with h1 h2
      injection h2 with h2 h3
      subst h1; subst h2; subst h3
      exact .inr ⟨by decide, rfl, rfl⟩
    · obtain ⟨b, off, rfl, hc⟩ := RowAt.byte HI.out.1 (k := 0) (by omega)
      rw [Nat.add_zero] at hc
      have hd : bs = bs[0] :: bs.drop 1 := by rw [← List.drop_eq_getElem_cons (by omega)]; rfl
      have HD := Bx.mk hd
      have hn0 : ((0 : Int) == (bs.length : Int)) = false := by simp; omega
      have l0 : (0 : Int) < (bs.length : Int) := by omega
      have hx : bs[0].toNat < 256 := bs[0].toNat_lt
      obtain ⟨y, hy⟩ : ∃ y, y = bs[0].toNat % 128 := ⟨_, rfl⟩
      have ha := and127 bs[0]
      rw [← hy] at ha
      have hor : bits BinOp.or IntKind.u64 0 (y : Int) = (y : Int) := by
        have := u64_or_nat 0 y (by omega) (by omega)
        simpa using this
      have hyw : IntKind.u64.wrap (y : Int) = (y : Int) := by rw [IntKind.wrap_u64]; omega
      generalize bs[0] = x at *
      clear hd
      have HX := Bx.mk hx; have HY := Bx.mk hy; have HY2 := Bx.mk (show y < 128 by omega)
      by_cases h2 : (128 : Int) ≤ (x.toNat : Int)
      · have ht : tk most 1 y (bs.drop 1) = (u0, n0, e0) := by
          have h := HR.out
          rw [HD.out, tk_more (by have := M0.out; omega) (by omega), ← hy] at h
          simpa using h
        have HT := Bx.mk ht
        have HL1 := Bx.mk (show 1 ≤ bs.length by omega)
        have hxb : ((x.toNat : Int) == 0) = false := by simp; omega
        clear ht HR hy hx
        go_wp2
        go_step3
        refine ⟨rfl, rfl, ?_⟩
        refine ⟨1, y, ?_⟩
        repeat apply Exists.intro
        exact ⟨rfl, ⟨HT.out, by have := HY2.out; simpa using this, by omega, HL1.out⟩⟩
      · have ht : (y, 1, (0 : Int)) = (u0, n0, e0) := by
          have h := HR.out
          rw [HD.out, tk_last (by have := M0.out; omega) (by omega), ← hy] at h
          simpa using h
        injection ht with h1 h3
        injection h3 with h3 h4
        subst h1; subst h3; subst h4
        by_cases hx0 : x.toNat = 0
        · have hy0 : y = 0 := by omega
          subst hy0
          rw [hx0] at hc ha
          have ha0 : bits BinOp.andNot IntKind.u8 0 128 = 0 := ha
          have hor0 : bits BinOp.or IntKind.u64 0 0 = 0 := hor
          clear HR hy hx ha hor h2 hx0
          go_wp2
          dsimp only [Exit.jump]
          go_ret2
          exact .inl ⟨rfl, rfl, rfl⟩
        · have hxb : ((x.toNat : Int) == 0) = false := by simpa using hx0
          clear HR hy hx hx0
          go_wp2
          dsimp only [Exit.jump]
          go_ret2
          exact .inl ⟨rfl, rfl, rfl⟩
  case pass =>
    rintro a' w' ⟨hw, i, u, hx⟩
    subst hw
    obtain ⟨x8, hx⟩ := hx
    obtain ⟨x9, hx⟩ := hx
    obtain ⟨x10, hx⟩ := hx
    obtain ⟨x11, hx⟩ := hx
    obtain ⟨x12, hx⟩ := hx
    obtain ⟨x13, hx⟩ := hx
    obtain ⟨x14, hx⟩ := hx
    obtain ⟨x15, hx⟩ := hx
    obtain ⟨x16, hx⟩ := hx
    obtain ⟨x17, hx⟩ := hx
    obtain ⟨x18, hx⟩ := hx
    obtain ⟨x19, hx⟩ := hx
    obtain ⟨x20, hx⟩ := hx
    obtain ⟨x21, hx⟩ := hx
    obtain ⟨x22, hx⟩ := hx
    obtain ⟨x23, hx⟩ := hx
    obtain ⟨x24, hx⟩ := hx
    obtain ⟨x25, hx⟩ := hx
    obtain ⟨x26, hx⟩ := hx
    obtain ⟨x27, hx⟩ := hx
    obtain ⟨x28, hx⟩ := hx
    obtain ⟨x29, hx⟩ := hx
    obtain ⟨x30, hx⟩ := hx
    obtain ⟨x31, hx⟩ := hx
    obtain ⟨x32, hx⟩ := hx
    obtain ⟨x33, hx⟩ := hx
    obtain ⟨x34, hx⟩ := hx
    obtain ⟨x35, hx⟩ := hx
    obtain ⟨x36, hx⟩ := hx
    obtain ⟨x37, hx⟩ := hx
    obtain ⟨x38, hx⟩ := hx
    obtain ⟨x39, hx⟩ := hx
    obtain ⟨x40, hx⟩ := hx
    obtain ⟨x41, hx⟩ := hx
    obtain ⟨x42, hx⟩ := hx
    obtain ⟨x43, hx⟩ := hx
    obtain ⟨x44, hx⟩ := hx
    obtain ⟨x45, hx⟩ := hx
    obtain ⟨x46, hx⟩ := hx
    obtain ⟨x47, hx⟩ := hx
    obtain ⟨x48, hx⟩ := hx
    obtain ⟨x49, hx⟩ := hx
    obtain ⟨x50, hx⟩ := hx
    obtain ⟨x51, hx⟩ := hx
    obtain ⟨x52, hx⟩ := hx
    obtain ⟨x53, hx⟩ := hx
    obtain ⟨x54, hx⟩ := hx
    obtain ⟨x55, hx⟩ := hx
    obtain ⟨x56, hx⟩ := hx
    obtain ⟨x57, hx⟩ := hx
    obtain ⟨x58, hx⟩ := hx
    obtain ⟨x59, hx⟩ := hx
    obtain ⟨x60, hx⟩ := hx
    obtain ⟨x61, hx⟩ := hx
    obtain ⟨ha, hJ⟩ := hx
    subst ha
    obtain ⟨hr, hu, hi9, hil⟩ := hJ.out
    clear hJ HR hmb
    have HR := Bx.mk hr; have HU := Bx.mk hu
    clear hr hu
    by_cases hb0 : i = bs.length
    · have HE := Bx.mk (show ((0, 0, 3) : Nat × Nat × Int) = (u0, n0, e0) by rw [← HR.out, hb0, List.drop_length]; rfl)
      have hl0 : ((i : Int) == (bs.length : Int)) = true := by rw [hb0]; simp
      clear HR HI hb0
      go_wp2
      dsimp only [Exit.jump]
      go_ret2
      have h := HE.out
      injection h with h1 h2
      injection h2 with h2 h3
      subst h1; subst h2; subst h3
      exact .inr ⟨by decide, rfl, rfl⟩
    · have hlt : i < bs.length := by omega
      obtain ⟨b, off, rfl, hc⟩ := RowAt.byte HI.out.1 (k := i) hlt
      have HD := Bx.mk (List.drop_eq_getElem_cons hlt)
      have hn0 : ((i : Int) == (bs.length : Int)) = false := by simp; omega
      have l0 : (i : Int) < (bs.length : Int) := by omega
      have i0 : (0 : Int) ≤ (i : Int) := by omega
      have hx : bs[i].toNat < 256 := bs[i].toNat_lt
      have ha := and127 bs[i]
      generalize bs[i] = x at *
      obtain ⟨z, hz⟩ : ∃ z, z = x.toNat := ⟨_, rfl⟩
      rw [← hz] at hc ha hx
      have HZ := Bx.mk hz
      clear hz
      obtain ⟨bad, hbad⟩ : ∃ bad, bad = decide (i = most ∨ (z = 0 ∧ 0 < i) ∨ (i = 9 ∧ 1 < z)) := ⟨_, rfl⟩
      have HBD := Bx.mk hbad
      go_upto_region 7 with fail
      go_cut [44] (fun t44 wx => t44 = .bool bad ∧ w' = wx)
      case first =>
        clear HR HD HU ha
        by_cases h1 : i = most
        · have h1b : ((i : Int) == (most : Int)) = true := by simp; omega
          rw [decide_eq_true (.inl h1)] at hbad
          clear h1 HBD
          go_wp2
          go_meet
          case rel => exact ⟨by rw [hbad], rfl⟩
        · have h1b : ((i : Int) == (most : Int)) = false := by simp; omega
          by_cases h2 : z = 0
          · subst h2
            by_cases h3 : (0 : Int) < (i : Int)
            · rw [decide_eq_true (.inr (.inl ⟨rfl, by omega⟩))] at hbad
              clear h1 HBD
              go_wp2
              go_meet
              case rel => exact ⟨by rw [hbad], rfl⟩
            · rw [decide_eq_false (by omega)] at hbad
              obtain rfl : i = 0 := by omega
              clear h1 HBD h3 h1b
              have h1c : ((0 : Int) == (most : Int)) = false := by have := M0.out; simp; omega
              go_wp2
              go_meet
              case rel => exact ⟨by rw [hbad], rfl⟩
          · have h2b : ((z : Int) == 0) = false := by simp; omega
            by_cases h4 : i = 9
            · have h4b : ((i : Int) == 9) = true := by simp; omega
              by_cases h5 : (1 : Int) < (z : Int)
              · rw [decide_eq_true (.inr (.inr ⟨h4, by omega⟩))] at hbad
                clear h1 HBD h2 h4
                go_wp2
                go_meet
                case rel => exact ⟨by rw [hbad], rfl⟩
              · rw [decide_eq_false (by omega)] at hbad
                clear h1 HBD h2 h4
                go_wp2
                go_meet
                case rel => exact ⟨by rw [hbad], rfl⟩
            · have h4b : ((i : Int) == 9) = false := by simp; omega
              rw [decide_eq_false (by omega)] at hbad
              clear h1 HBD h2 h4
              go_wp2
              go_meet
              case rel => exact ⟨by rw [hbad], rfl⟩
      case rest =>
        obtain ⟨rfl, rfl⟩ := hcut
        clear hbad
        cases bad with
        | true =>
          have hb := of_decide_eq_true HBD.out.symm
          have hE : ((0, 0, 2) : Nat × Nat × Int) = (u0, n0, e0) := by rw [← HR.out, HD.out, tk_bad (by rw [← HZ.out]; exact hb)]
          injection hE with h1 h2
          injection h2 with h2 h3
          subst h1; subst h2; subst h3
          clear HR HD HU HI hb ha
          go_wp2
          dsimp only [Exit.jump]
          go_ret2
          exact .inr ⟨by decide, rfl, rfl⟩
        | false =>
          have hb := of_decide_eq_false HBD.out.symm
          obtain ⟨y, hy⟩ : ∃ y, y = z % 128 := ⟨_, rfl⟩
          rw [← hy] at ha
          obtain ⟨p, hp⟩ : ∃ p, p = y * 128 ^ i := ⟨_, rfl⟩
          have hpow : 128 ^ i ≤ 128 ^ 9 := Nat.pow_le_pow_right (by omega) hi9
          have hpb : u + p < 18446744073709551616 := by
            by_cases h9 : i = 9
            · subst h9
              have h1 : y ≤ 1 := by omega
              have h2 : y * 128 ^ 9 ≤ 1 * 128 ^ 9 := Nat.mul_le_mul_right _ h1
              have := HU.out
              omega
            · have h3 : 128 ^ i ≤ 128 ^ 8 := Nat.pow_le_pow_right (by omega) (by omega)
              have h2 : y * 128 ^ i ≤ 127 * 128 ^ i := Nat.mul_le_mul_right _ (by omega)
              have := HU.out
              omega
          have hpi : IntKind.u64.wrap (IntKind.u64.wrap (y : Int) * 2 ^ (7 * i)) = (p : Int) := by
            have e : ((y : Int) * 2 ^ (7 * i)) = (p : Int) := by
              have e2 : ((2 : Int) ^ (7 * i)) = ((128 ^ i : Nat) : Int) := by
                rw [show (128 : Nat) = 2 ^ 7 from rfl, ← Nat.pow_mul]; exact (Int.natCast_pow 2 (7 * i)).symm
              rw [hp, e2, ← Int.natCast_mul]
            rw [show IntKind.u64.wrap (y : Int) = (y : Int) by rw [IntKind.wrap_u64]; omega, e, IntKind.wrap_u64]; omega
          have hor : bits BinOp.or IntKind.u64 (u : Int) (p : Int) = ((u + p : Nat) : Int) := by
            rw [hp]; exact or_next HU.out (by rw [← hp]; exact hpb)
          obtain ⟨q, hq⟩ : ∃ q, q = u + p := ⟨_, rfl⟩
          rw [← hq] at hor
          have HB2 := Bx.mk hb; have HY := Bx.mk hy; have HP := Bx.mk hp; have HQ := Bx.mk hq
          have s0 : (0 : Int) ≤ 7 * (i : Int) := by omega
          clear hb hy hp hq hpow hpb
          by_cases hmore : (128 : Int) ≤ (z : Int)
          · have hne9 : i ≠ 9 := fun h => by have := HB2.out; omega
            have ht : tk most (i + 1) q (bs.drop (i + 1)) = (u0, n0, e0) := by
              have h := HR.out
              rw [HD.out, tk_more (by rw [← HZ.out]; exact HB2.out) (by rw [← HZ.out]; omega), ← HZ.out, ← HY.out, ← HP.out, ← HQ.out] at h
              exact h
            have hq2 : q < 128 ^ (i + 1) := by
              have h2 : y * 128 ^ i ≤ 127 * 128 ^ i := Nat.mul_le_mul_right _ (by have := HY.out; omega)
              have h3 := HU.out
              rw [HQ.out, HP.out, Nat.pow_succ]; omega
            have HT := Bx.mk ht; have HQ2 := Bx.mk hq2
            clear ht hq2
            go_wp2
            go_step3
            rw [show ((i : Int) + 1) = ((i + 1 : Nat) : Int) by omega]
            refine ⟨rfl, ⟨rfl, ?_⟩, by simp [intOf]; omega⟩
            refine ⟨i + 1, q, ?_⟩
            repeat apply Exists.intro
            exact ⟨rfl, ⟨HT.out, HQ2.out, by omega, by omega⟩⟩
          · have ht : (q, i + 1, (0 : Int)) = (u0, n0, e0) := by
              have h := HR.out
              rw [HD.out, tk_last (by rw [← HZ.out]; exact HB2.out) (by rw [← HZ.out]; omega), ← HZ.out, ← HY.out, ← HP.out, ← HQ.out] at h
              exact h
            injection ht with h1 h3
            injection h3 with h3 h4
            subst h1; subst h3; subst h4
            go_wp2
            dsimp only [Exit.jump]
            go_ret2
            exact .inl ⟨rfl, rfl, rfl⟩
end Go.Proofs.Ytamlgnhnmilbdaa
end
