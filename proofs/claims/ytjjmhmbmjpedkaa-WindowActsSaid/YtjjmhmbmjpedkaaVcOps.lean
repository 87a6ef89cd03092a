/- Abstract frames: slots that hold values, or stand for a local box (a struct variable); what an operation that only reads yields there. No program in sight. -/
import Derived.Test.YtjjmhmbmjpedkaaVcTree
import Derived.Test.YtjjmhmbmjpedkaaLibHeap
namespace Go.Proofs.Ytjjmhmbmjpedkaa
open Go.RowKit
inductive SV where
  | v (x : Value)
  | box (id off : Nat)
abbrev SFr := List (Nat × Option SV)
def lk : SFr → Nat → Option SV
  | [], _ => none
  | p :: r, n => cond (Nat.beq p.1 n) p.2 (lk r n)
/-- A local box: its number, its block, its type, its cells. -/
structure LB where
  id : Nat
  g : Nat
  T : TypeId
  cs : List Value
def lkB : List LB → Nat → Option LB
  | [], _ => none
  | b :: r, n => cond (Nat.beq b.id n) (some b) (lkB r n)
def gsOf : List LB → List Nat
  | [] => []
  | b :: r => b.g :: gsOf r
inductive TK where
  | int (k : IntKind)
  | bool
  | str
  | ptr
  | slice (e : TypeId)
  | arr (n : Nat) (e : TypeId)
  | struct (fs : List (Nat × TypeId))
  | func
  | other
def tkOf : TypeDesc → TK
  | .bool => .bool
  | .int k => .int k
  | .string => .str
  | .pointer _ => .ptr
  | .slice e => .slice e
  | .array n e => .arr n e
  | .struct fs => .struct (fs.toList.map fun f => (f.offset, f.type))
  | .func .. => .func
  | _ => .other
/-- What one cell holds. -/
inductive Lf where
  | int (k : IntKind)
  | bool
  | str
  | slice
  | ptr
  | any
inductive Sh1 where
  | lf (l : Lf)
  | agg (ls : List Lf)
structure TI where
  k : TK
  size : Nat
  zero : Value
  bytes : Nat
  lv : List Lf
structure Env where
  tys : List (Nat × TI)
  fns : List (Nat × List Sh1)
def lkT : List (Nat × TI) → Nat → Option TI
  | [], _ => none
  | p :: r, n => cond (Nat.beq p.1 n) (some p.2) (lkT r n)
def lkF : List (Nat × List Sh1) → Nat → Option (List Sh1)
  | [], _ => none
  | p :: r, n => cond (Nat.beq p.1 n) (some p.2) (lkF r n)
def TyOk (P : Program) (t : TypeId) (i : TI) : Prop := (P.underlying t).map tkOf = some i.k ∧ (P.info? t).map (fun x => (x.size, x.zero, x.bytes)) = some (i.size, some i.zero, i.bytes)
def FnOk (P : Program) (f : FuncId) : Prop := ∀ args w, (callFunc f args).run P w = .ok (.enter f args) w
structure EOk (P : Program) (E : Env) : Prop where
  tys : ∀ p ∈ E.tys, TyOk P p.1 p.2
  fns : ∀ p ∈ E.fns, FnOk P p.1
  mixed : P.follows .mixedOrders = true
theorem lkT_mem : ∀ {l : List (Nat × TI)} {n : Nat} {i : TI}, lkT l n = some i → (n, i) ∈ l
  | p :: r, n, i, h => by
    unfold lkT at h
    cases hb : Nat.beq p.1 n
    · rw [hb] at h; exact List.mem_cons_of_mem _ (lkT_mem h)
    · rw [hb] at h
      have := Nat.eq_of_beq_eq_true hb
      injection h with h
      subst h; subst this
      exact List.mem_cons_self ..
theorem lkF_mem : ∀ {l : List (Nat × List Sh1)} {n : Nat} {i : List Sh1}, lkF l n = some i → (n, i) ∈ l
  | p :: r, n, i, h => by
    unfold lkF at h
    cases hb : Nat.beq p.1 n
    · rw [hb] at h; exact List.mem_cons_of_mem _ (lkF_mem h)
    · rw [hb] at h
      have := Nat.eq_of_beq_eq_true hb
      injection h with h
      subst h; subst this
      exact List.mem_cons_self ..
theorem lkB_mem : ∀ {l : List LB} {n : Nat} {b : LB}, lkB l n = some b → b ∈ l ∧ b.id = n
  | p :: r, n, i, h => by
    unfold lkB at h
    cases hb : Nat.beq p.id n
    · rw [hb] at h; exact ⟨List.mem_cons_of_mem _ (lkB_mem h).1, (lkB_mem h).2⟩
    · rw [hb] at h
      have := Nat.eq_of_beq_eq_true hb
      injection h with h
      subst h
      exact ⟨List.mem_cons_self .., this⟩
/-! How the conditions are spelled. -/
def br (b : Bool) (A B : Prop) : Prop := match b with | true => A | false => B
theorem br_split {b : Bool} {A B : Prop} : br b A B ↔ (b = true → A) ∧ (b = false → B) := by cases b <;> simp [br]
theorem br_true {b : Bool} {A B : Prop} (h : b = true) : br b A B = A := by rw [h]; rfl
theorem br_false {b : Bool} {A B : Prop} (h : b = false) : br b A B = B := by rw [h]; rfl
theorem br_dec {p : Prop} [Decidable p] {A B : Prop} (h1 : p → A) (h2 : ¬ p → B) : br (decide p) A B := by
  by_cases h : p
  · rw [br_true (decide_eq_true h)]; exact h1 h
  · rw [br_false (decide_eq_false h)]; exact h2 h
def withS (s : Option SV) (K : SV → Prop) : Prop := match s with | some x => K x | none => False
def withV (s : Option SV) (K : Value → Prop) : Prop := match s with | some (.v x) => K x | _ => False
def withP (p : Option Addr) (K : Nat → Nat → Prop) : Prop := match p with | some ⟨b, off, none⟩ => K b off | _ => False
@[simp] theorem withP_some (b off : Nat) (K : Nat → Nat → Prop) : withP (some ⟨b, off, none⟩) K = K b off := rfl
theorem withP_mk {p : Option Addr} {K : Nat → Nat → Prop} (b off : Nat) (h : p = some ⟨b, off, none⟩) (hk : K b off) : withP p K := by subst h; exact hk
theorem withP_get {p : Option Addr} {K : Nat → Nat → Prop} (h : withP p K) : ∃ b off, p = some ⟨b, off, none⟩ ∧ K b off := by
  cases p with
  | none => exact h.elim
  | some a =>
    obtain ⟨b, off, s⟩ := a
    cases s with
    | none => exact ⟨b, off, rfl, h⟩
    | some _ => exact h.elim
def exLf : Lf → (Value → Prop) → Prop
  | .int k, K => ∃ x : Int, K (.int k x)
  | .bool, K => ∃ x : Bool, K (.bool x)
  | .str, K => ∃ s : ByteArray, K (.string s)
  | .slice, K => ∃ (a : Option Addr) (n c : Nat), K (.slice a n c)
  | .ptr, K => ∃ a : Option Addr, K (.pointer a)
  | .any, K => ∃ v : Value, K v
def exLs : List Lf → List Value → (List Value → Prop) → Prop
  | [], acc, K => K acc
  | l :: r, acc, K => exLf l fun v => exLs r (acc ++ [v]) K
def ex1 : Sh1 → (Value → Prop) → Prop
  | .lf l, K => exLf l K
  | .agg ls, K => exLs ls [] fun vs => K (.agg vs.toArray)
def exTs : List Sh1 → List Value → (List Value → Prop) → Prop
  | [], acc, K => K acc
  | s :: r, acc, K => ex1 s fun v => exTs r (acc ++ [v]) K
def exSh : List Sh1 → (Value → Prop) → Prop
  | [], K => K (.tuple #[])
  | [s], K => ex1 s K
  | l, K => exTs l [] fun vs => K (.tuple vs.toArray)
theorem exLf_get {l : Lf} {K : Value → Prop} (h : exLf l K) : ∃ v, K v := by
  cases l with
  | slice => obtain ⟨a, n, c, h⟩ := h; exact ⟨_, h⟩
  | _ => obtain ⟨x, h⟩ := h; exact ⟨_, h⟩
theorem exLs_get : ∀ {ls : List Lf} {acc : List Value} {K : List Value → Prop}, exLs ls acc K → ∃ vs, vs.length = acc.length + ls.length ∧ K vs
  | [], acc, K, h => ⟨acc, rfl, h⟩
  | l :: r, acc, K, h => by
    obtain ⟨v, h⟩ := exLf_get h
    obtain ⟨vs, h1, h2⟩ := exLs_get h
    exact ⟨vs, by rw [h1]; simp; omega, h2⟩
theorem ex1_get {s : Sh1} {K : Value → Prop} (h : ex1 s K) : ∃ v, K v := by
  cases s with
  | lf l => exact exLf_get h
  | agg ls => obtain ⟨vs, _, h⟩ := exLs_get h; exact ⟨_, h⟩
theorem exTs_get : ∀ {ss : List Sh1} {acc : List Value} {K : List Value → Prop}, exTs ss acc K → ∃ vs, K vs
  | [], acc, K, h => ⟨acc, h⟩
  | s :: r, acc, K, h => by obtain ⟨v, h⟩ := ex1_get h; exact exTs_get h
theorem exSh_get {ss : List Sh1} {K : Value → Prop} (h : exSh ss K) : ∃ v, K v := by
  unfold exSh at h
  split at h
  · exact ⟨_, h⟩
  · exact ex1_get h
  · obtain ⟨vs, h⟩ := exTs_get h; exact ⟨_, h⟩
def cellsAt (w : World) (b : Nat) : Nat → List Value → Prop
  | _, [] => True
  | off, v :: r => w.cell? ⟨b, off, none⟩ = some v ∧ cellsAt w b (off + 1) r
theorem cellsAt_get {w : World} {b : Nat} : ∀ {vs : List Value} {off : Nat}, cellsAt w b off vs → ∀ j v, vs[j]? = some v → w.cell? ⟨b, off + j, none⟩ = some v
  | [], off, _, j, v, h => by cases h
  | x :: r, off, h, j, v, hv => by
    cases j with
    | zero => cases hv; exact h.1
    | succ j =>
      have := cellsAt_get h.2 j v (by simpa using hv)
      rw [show off + (j + 1) = off + 1 + j by omega]; exact this
theorem cellsAt_of {w : World} {b : Nat} : ∀ {vs : List Value} {off : Nat}, (∀ j v, vs[j]? = some v → w.cell? ⟨b, off + j, none⟩ = some v) → cellsAt w b off vs
  | [], off, _ => trivial
  | x :: r, off, h => ⟨h 0 x rfl, cellsAt_of fun j v hv => by
      have := h (j + 1) v (by simpa using hv)
      rw [show off + (j + 1) = off + 1 + j by omega] at this; exact this⟩
def nth : List Value → Nat → Option Value
  | [], _ => none
  | x :: r, n => cond (Nat.beq n 0) (some x) (nth r (n - 1))
theorem nth_eq : ∀ (l : List Value) (n : Nat), nth l n = l[n]?
  | [], n => by simp [nth]
  | x :: r, 0 => by simp [nth]
  | x :: r, n + 1 => by
    have : Nat.beq (n + 1) 0 = false := by simp [Nat.beq]
    simp only [nth, this, cond_false, Nat.add_sub_cancel, nth_eq r n, List.getElem?_cons_succ]
def nthF : List (Nat × TypeId) → Nat → Option (Nat × TypeId)
  | [], _ => none
  | x :: r, n => cond (Nat.beq n 0) (some x) (nthF r (n - 1))
theorem nthF_eq : ∀ (l : List (Nat × TypeId)) (n : Nat), nthF l n = l[n]?
  | [], n => by simp [nthF]
  | x :: r, 0 => by simp [nthF]
  | x :: r, n + 1 => by
    have : Nat.beq (n + 1) 0 = false := by simp [Nat.beq]
    simp only [nthF, this, cond_false, Nat.add_sub_cancel, nthF_eq r n, List.getElem?_cons_succ]
def cutL (l : List Value) (off n : Nat) : List Value := (l.drop off).take n
/-- What must be so in a world for an operation to yield there what it yields here. -/
inductive SFact where
  | tt
  | box (b : LB)
  | mem (p : World → Prop)
def LB.at (b : LB) (w : World) : Prop := w.heap[b.g]? = some (.cells b.cs.toArray b.T (0, 0))
def SFact.holds : SFact → World → Prop
  | .tt, _ => True
  | .box b, w => b.at w
  | .mem p, w => p w
def ev (ρ : SFr) : Operand → Option SV
  | .tmp t => lk ρ t
  | .const v => some (.v v)
  | .global g => some (.v (.pointer (some ⟨g, 0, none⟩)))
  | .func f => some (.v (.func (.func f) #[] #[]))
def den (σ : List LB) : SV → Option Value
  | .v x => some x
  | .box id off => (lkB σ id).map fun b => .pointer (some ⟨b.g, off, none⟩)
structure Rep (n : Nat) (ρ : SFr) (σ : List LB) (a : Act) (w : World) : Prop where
  size : a.tmps.size = n
  defs : a.defers = []
  slots : ∀ t s, lk ρ t = some s → ∃ x, den σ s = some x ∧ a.tmps[t]? = some x
  boxes : ∀ b ∈ σ, b.at w
  nodup : (σ.map (·.g)).Nodup
  ids : (σ.map (·.id)).Nodup
theorem Rep.ev {n : Nat} {ρ : SFr} {σ : List LB} {a : Act} {w : World} (h : Rep n ρ σ a w) {o : Operand} {s : SV} (he : ev ρ o = some s) : ∃ x, den σ s = some x ∧ a.eval o = x := by
  cases o with
  | tmp t =>
    obtain ⟨x, h1, h2⟩ := h.slots t s he
    exact ⟨x, h1, by simp [Act.eval, Array.getD_eq_getD_getElem?, h2]⟩
  | const v => cases he; exact ⟨v, rfl, rfl⟩
  | global g => cases he; exact ⟨_, rfl, rfl⟩
  | func f => cases he; exact ⟨_, rfl, rfl⟩
theorem Rep.evV {n : Nat} {ρ : SFr} {σ : List LB} {a : Act} {w : World} (h : Rep n ρ σ a w) {o : Operand} {K : Value → Prop} (he : withV (Proofs.Ytjjmhmbmjpedkaa.ev ρ o) K) : K (a.eval o) := by
  unfold withV at he
  split at he
  · rename_i x hx
    obtain ⟨y, h1, h2⟩ := h.ev hx
    cases h1
    rw [h2]; exact he
  · exact he.elim
theorem Rep.evP {n : Nat} {ρ : SFr} {σ : List LB} {a : Act} {w : World} (h : Rep n ρ σ a w) {o : Operand} {id off : Nat} (he : Proofs.Ytjjmhmbmjpedkaa.ev ρ o = some (.box id off)) : ∃ b, lkB σ id = some b ∧ a.eval o = .pointer (some ⟨b.g, off, none⟩) := by
  obtain ⟨x, h1, h2⟩ := h.ev he
  cases hb : lkB σ id with
  | none => simp [den, hb] at h1
  | some b => refine ⟨b, rfl, ?_⟩; simp [den, hb] at h1; rw [h2, h1]
end Go.Proofs.Ytjjmhmbmjpedkaa
