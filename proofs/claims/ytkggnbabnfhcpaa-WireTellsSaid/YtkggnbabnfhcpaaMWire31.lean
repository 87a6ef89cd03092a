import Derived.WalkKit
import Derived.WalkSpells
import Derived.WalkLawsBesides
import Derived.Lib.SlBytesConst
import Derived.Still
import Derived.Deep.RegionHeld3
import Derived.Deep.AppendSrc
import Derived.Lib.SlBytesRow
import Derived.MapKept
import Derived.Maps.RangeRun
import Derived.Laws.StructEq
import Derived.ChangeKeysEq
import Derived.Laws.ComplexArith
set_option linter.unusedVariables false
section
/- Words on memory that the walks share: rows of cells, what is below a block, new blocks. No program in sight. -/
namespace Go.Proofs.Ytkggnbabnfhcpaa
open Go.RowKit
theorem hid {p : Prop} (h : p) : Hid p := h
theorem al_new {w : World} {o : Obj} {k : Nat} (h : k = w.heap.size) : (w.alloc o).heap[k]? = some o := by subst h; exact heap_alloc_new w o
theorem heap_lt {w : World} {k : Nat} {o : Obj} (h : w.heap[k]? = some o) : k < w.heap.size := (Array.getElem?_eq_some_iff.1 h).1
theorem al_old {w : World} {o x : Obj} {k : Nat} (h : w.heap[k]? = some x) : (w.alloc o).heap[k]? = some x := (Below.heap_alloc w o k (heap_lt h)).trans h
theorem Below.kept {B : Nat} {w w' : World} (hb : Below B w w') {k : Nat} {o : Obj} (hk : k < B) (h : w.heap[k]? = some o) : w'.heap[k]? = some o := (hb.block k hk).trans h
theorem Below_one {w : World} (o : Obj) : Below w.heap.size w (w.alloc o) := (Below.refl _ _).alloc (Nat.le_refl _) _
theorem Below_setRow {B : Nat} {a w : World} (h : Below B a w) {g : Nat} (hp : B ≤ g) (cs : Array Value) : Below B a (w.setRow g cs) :=
  h.trans ⟨rfl, rfl, rfl, by simp, fun k hk => by simp [World.setRow, Array.getElem?_modify]; omega⟩
/-- A row of values behind an address; of an empty one nothing is asked. -/
def RowAt (w : World) (a : Option Addr) (vs : List Value) : Prop :=
  vs = [] ∨ ∃ b off, a = some ⟨b, off, none⟩ ∧ ∀ i v, vs[i]? = some v → w.cell? ⟨b, off + i, none⟩ = some v
def bV (x : UInt8) : Value := .int .u8 x.toNat
theorem RowAt.below {w w' : World} {a : Option Addr} {vs : List Value} (h : RowAt w a vs) {B : Nat} (hb : Below B w w') (hB : w.heap.size ≤ B) : RowAt w' a vs := by
  rcases h with h | ⟨b, off, ha, h⟩
  · exact .inl h
  · refine .inr ⟨b, off, ha, fun i v hv => ?_⟩
    have hc := h i v hv
    have hl := block_lt_of_cell hc
    exact (hb.cell (p := ⟨b, off + i, none⟩) (Nat.lt_of_lt_of_le hl hB)).trans hc
/-- One cell of a row of bytes. -/
theorem RowAt.byte {w : World} {a : Option Addr} {bs : List UInt8} (h : RowAt w a (bs.map bV)) {k : Nat} (hk : k < bs.length) : ∃ b off, a = some ⟨b, off, none⟩ ∧ w.cell? ⟨b, off + k, none⟩ = some (.int .u8 (bs[k].toNat : Int)) := by
  rcases h with h | ⟨b, off, ha, h⟩
  · rw [List.map_eq_nil_iff] at h; subst h; simp at hk
  · exact ⟨b, off, ha, h k _ (by rw [List.getElem?_map, List.getElem?_eq_getElem hk]; rfl)⟩
theorem RowAt.ofBlock {w : World} {g off : Nat} {cs : Array Value} {t : TypeId} {fr : Nat × Nat} {vs : List Value} (hg : w.heap[g]? = some (.cells cs t fr)) (h : (cs.toList.drop off).take vs.length = vs) : RowAt w (some ⟨g, off, none⟩) vs := by
  refine .inr ⟨g, off, rfl, fun i v hv => ?_⟩
  rw [cell_of_row _ _ _ _ _ _ hg]
  rw [← h] at hv
  rw [List.getElem?_take] at hv
  split at hv
  · rw [List.getElem?_drop] at hv; rw [← Array.getElem?_toList]; exact hv
  · cases hv
theorem RowAt.ofWhole {w : World} {g : Nat} {vs : List Value} {t : TypeId} {fr : Nat × Nat} (hg : w.heap[g]? = some (.cells vs.toArray t fr)) : RowAt w (some ⟨g, 0, none⟩) vs :=
  .ofBlock hg (by simp)
/-- 'Sum' of parts. -/
def PartsAt (w : World) (a : Option Addr) (ps : List (List UInt8)) : Prop :=
  ∃ vs : List (Option Addr × Nat), RowAt w a ((vs.zip ps).map fun (v, p) => .slice v.1 p.length v.2) ∧ vs.length = ps.length ∧ ∀ v p, (v, p) ∈ vs.zip ps → RowAt w v.1 (p.map bV) ∧ p.length ≤ v.2 ∧ p.length ≤ maxLen
theorem PartsAt.below {w w' : World} {a : Option Addr} {ps : List (List UInt8)} (h : PartsAt w a ps) {B : Nat} (hb : Below B w w') (hB : w.heap.size ≤ B) : PartsAt w' a ps := by
  obtain ⟨vs, h1, h2, h3⟩ := h
  exact ⟨vs, h1.below hb hB, h2, fun v p hm => ⟨(h3 v p hm).1.below hb hB, (h3 v p hm).2⟩⟩
theorem PartsAt.part {w : World} {a : Option Addr} {ps : List (List UInt8)} (h : PartsAt w a ps) {k : Nat} (hk : k < ps.length) :
    ∃ b off v cap, a = some ⟨b, off, none⟩ ∧ w.cell? ⟨b, off + k, none⟩ = some (.slice v ps[k].length cap) ∧ RowAt w v (ps[k].map bV) ∧ ps[k].length ≤ cap ∧ ps[k].length ≤ maxLen := by
  obtain ⟨vs, h1, h2, h3⟩ := h
  have hv : k < vs.length := by omega
  have hz : (vs.zip ps)[k]? = some (vs[k], ps[k]) := by rw [List.getElem?_zip_eq_some]; exact ⟨List.getElem?_eq_getElem hv, List.getElem?_eq_getElem hk⟩
  have hm := List.mem_of_getElem? hz
  rcases h1 with h1 | ⟨b, off, ha, h1⟩
  · rw [List.map_eq_nil_iff] at h1; rw [h1] at hz; simp at hz
  · exact ⟨b, off, vs[k].1, vs[k].2, ha, h1 k _ (by rw [List.getElem?_map, hz]; rfl), (h3 _ _ hm).1, (h3 _ _ hm).2⟩
theorem PartsAt.nil {w : World} {a : Option Addr} : PartsAt w a [] := ⟨[], .inl rfl, rfl, fun _ _ h => by cases h⟩
/-- Parts in a row that lies in one block. -/
theorem PartsAt.ofWhole {w : World} {g : Nat} {t : TypeId} {fr : Nat × Nat} (vs : List (Option Addr × Nat)) (ps : List (List UInt8)) (hg : w.heap[g]? = some (.cells ((vs.zip ps).map fun (v, p) => Value.slice v.1 p.length v.2).toArray t fr))
    (hl : vs.length = ps.length) (h : ∀ v p, (v, p) ∈ vs.zip ps → RowAt w v.1 (p.map bV) ∧ p.length ≤ v.2 ∧ p.length ≤ maxLen) : PartsAt w (some ⟨g, 0, none⟩) ps := ⟨vs, .ofWhole hg, hl, h⟩
theorem conv_const {P : Program} (t e : TypeId) (ht : P.underlying t = some (.slice e)) (he : P.underlying e = some (.int .u8)) (w : World) (C : Array Value) (n c g : Nat) (hg : g = w.heap.size) :
    (convert t t (.slice (some ⟨g, 0, none⟩) n c)).run P (w.alloc (.cells C e)) = .ok (.slice (some ⟨g, 0, none⟩) n c) (w.alloc (.cells C e (C.size, C.size + 1))) := by
  subst hg; exact Lib.run_convert_bytes_const w t e C n c ht he
/-- 'min(len(b), n)', as the walk spells it. -/
theorem min_take (bs : List UInt8) (n : Nat) : min (bs.length : Int) (n : Int) = ((bs.take n).length : Int) := by
  rw [List.length_take]; omega
theorem zip1 {α β : Type} {P : α → β → Prop} {a : α} {b : β} (h : P a b) : ∀ v p, (v, p) ∈ [a].zip [b] → P v p := by
  intro v p hm
  simp only [List.zip_cons_cons, List.zip_nil_right, List.mem_cons, Prod.mk.injEq, List.not_mem_nil, or_false] at hm
  obtain ⟨rfl, rfl⟩ := hm
  exact h
theorem zip2 {α β : Type} {P : α → β → Prop} {a a2 : α} {b b2 : β} (h : P a b) (h2 : P a2 b2) : ∀ v p, (v, p) ∈ [a, a2].zip [b, b2] → P v p := by
  intro v p hm
  simp only [List.zip_cons_cons, List.zip_nil_right, List.mem_cons, Prod.mk.injEq, List.not_mem_nil, or_false] at hm
  rcases hm with ⟨rfl, rfl⟩ | ⟨rfl, rfl⟩
  · exact h
  · exact h2
end Go.Proofs.Ytkggnbabnfhcpaa
end
section
/- A region that draws its order: what only reads goes first, in one walk; what is left is forced. No program in sight. -/
namespace Go.Proofs.Ytkggnbabnfhcpaa
open Go.RowKit
variable {P : Program} {ops : Array Oper} {Q : Exit → Act → World → Prop}
/-- Every block that lies in w lies in w' as it is. -/
def Ext (w w' : World) : Prop := ∀ (k : Nat) (o : Obj), w.heap[k]? = some o → w'.heap[k]? = some o
theorem Ext.refl (w : World) : Ext w w := fun _ _ h => h
theorem Ext.trans {a b c : World} (h : Ext a b) (k : Ext b c) : Ext a c := fun i o hi => k i o (h i o hi)
theorem Ext.alloc {a b : World} (h : Ext a b) (o : Obj) : Ext a (b.alloc o) := fun i x hi => al_old (h i x hi)
theorem Ext.drew {a b : World} (h : Ext a b) : Ext a b.drew := h
theorem Ext.drew' {a b : World} (h : Ext a b) : Ext a.drew b := h
theorem Ext.below {a b : World} {B : Nat} (h : Below B a b) (hB : a.heap.size ≤ B) : Ext a b := fun _ _ hi => Below.kept h (Nat.lt_of_lt_of_le (heap_lt hi) hB) hi
theorem Ext.grown {a b : World} (h : a.grownBy b none) : Ext a b := fun i _ hi => (h.block i (heap_lt hi) (by simp)).trans hi
theorem Ext.cell {w w' : World} (h : Ext w w') {a : Addr} {v : Value} (hc : w.cell? a = some v) : w'.cell? a = some v := by
  unfold World.cell? at *
  rcases hx : w.heap[a.block]? with _ | o
  · rw [hx] at hc; cases hc
  · rw [hx] at hc; rw [h _ _ hx]; exact hc
theorem Ext.row {w w' : World} (h : Ext w w') {a : Option Addr} {vs : List Value} (hr : RowAt w a vs) : RowAt w' a vs := by
  rcases hr with hr | ⟨b, off, ha, hr⟩
  · exact .inl hr
  · exact .inr ⟨b, off, ha, fun i v hv => h.cell (hr i v hv)⟩

/-- One operation behind the other, each with one value in every world that S lets in. -/
def Seq (P : Program) (ops : Array Oper) (S : World → Prop) : List Nat → Act → Act → Prop
  | [], a, a' => a' = a
  | i :: r, a, a' => ∃ o v, ops[i]? = some o ∧ (∀ wx, S wx → YieldsAt P ops wx o v a) ∧ Seq P ops S r (a.put o.dst v) a'
/-- The forced part whose operations may run ahead of reads: each leaves S; then the rest. -/
def wpTA (P : Program) (ops : Array Oper) (Q : Exit → Act → World → Prop) (S : World → Prop) (tf : List Nat) : List Nat → Act → World → Prop
  | [], a, w => wpOps P ops Q tf a w
  | i :: r, a, w => wpOp P ops Q i (fun a1 w1 => S w1 ∧ wpTA P ops Q S tf r a1 w1) a w
def depOf (o : Oper) (i : Nat) : Bool := o.after.toList.any fun e => Region.binds .any e && e.on == i
/-- B tells, of each operation, what must lie ahead of it. -/
def certOk (ops : Array Oper) (B : List Nat) : Bool :=
  (List.range ops.size).all fun j => (List.range ops.size).all fun i => !(B.getD j 0).testBit i ||
    ((ops[j]?).map fun o => o.after.toList.any fun e => Region.binds .any e && (e.on == i || (B.getD e.on 0).testBit i)).getD false
def apartOk (ops : Array Oper) (i : Nat) : Bool :=
  (List.range ops.size).all fun j => match ops[i]?, ops[j]? with
    | some oi, some oj => i == j || depOf oj i || depOf oi j || (oi.apart ops oj && oj.apart ops oi)
    | _, _ => true
def backOk (ops : Array Oper) : Bool := (List.range ops.size).all fun i => ((ops[i]?).map fun o => o.after.all fun e => !Region.binds .any e || decide (e.on < i)).getD true
def inE (ops : Array Oper) (E : List Nat) (i : Nat) : Bool := ((ops[i]?).map fun o => o.after.all fun e => !Region.binds .any e || E.contains e.on).getD true
structure Early (ops : Array Oper) (B E TA TF : List Nat) : Prop where
  sel : Region.noSelect ops = true
  all : ∀ i, i < ops.size → i ∈ E ∨ i ∈ TA ∨ i ∈ TF
  lt : ∀ i, i ∈ E ∨ i ∈ TA ∨ i ∈ TF → i < ops.size
  nodup : (E ++ (TA ++ TF)).Nodup
  back : backOk ops = true
  cert : certOk ops B = true
  closed : ∀ i, i ∈ E → inE ops E i = true
  apart : ∀ i, i ∈ E → apartOk ops i = true
  sorted : E.Pairwise (· < ·)
  tf : ∀ t, t ∈ TF → ∀ i, i ∈ E → (B.getD t 0).testBit i = true
  chain : (TA ++ TF).Pairwise fun s t => (B.getD t 0).testBit s = true
def earlyB (ops : Array Oper) (B E TA TF : List Nat) : Bool :=
  Region.noSelect ops && ((List.range ops.size).all fun i => E.contains i || (TA.contains i || TF.contains i)) && ((E ++ (TA ++ TF)).all fun i => decide (i < ops.size)) &&
  decide (E ++ (TA ++ TF)).Nodup && backOk ops && certOk ops B && (E.all fun i => inE ops E i) && (E.all fun i => apartOk ops i) && decide (E.Pairwise (· < ·)) &&
  (TF.all fun t => E.all fun i => (B.getD t 0).testBit i) && decide ((TA ++ TF).Pairwise fun s t => (B.getD t 0).testBit s = true)
theorem earlyB_spec {B E TA TF : List Nat} (h : earlyB ops B E TA TF = true) : Early ops B E TA TF := by
  simp only [earlyB, Bool.and_eq_true, List.all_eq_true, List.mem_range, Bool.or_eq_true, List.contains_iff_mem, decide_eq_true_eq, List.mem_append] at h
  obtain ⟨⟨⟨⟨⟨⟨⟨⟨⟨⟨h1, h2⟩, h3⟩, h4⟩, h5⟩, h6⟩, h7⟩, h8⟩, h9⟩, h10⟩, h11⟩ := h
  exact ⟨h1, h2, h3, h4, h5, h6, h7, h8, h9, h10, h11⟩
/-- What is listed has all that it waits for listed. -/
def Closed (ops : Array Oper) (listed : Array Bool) : Prop := ∀ j o, ops[j]? = some o → listed.getD j false = true → ∀ e ∈ o.after, Region.binds .any e = true → listed.getD e.on false = true
theorem listed_before {B : List Nat} (hc : certOk ops B = true) (hb : backOk ops = true) {listed : Array Bool} (hcl : Closed ops listed) :
    ∀ (n j i : Nat) (o : Oper), j < n → ops[j]? = some o → i < ops.size → (B.getD j 0).testBit i = true → (∀ e ∈ o.after, Region.binds .any e = true → listed.getD e.on false = true) → listed.getD i false = true := by
  intro n
  induction n with
  | zero => intro j i o h; omega
  | succ n ih =>
    intro j i o hj ho hi hB hall
    have hjs : j < ops.size := (Array.getElem?_eq_some_iff.1 ho).1
    have h1 := hc
    simp only [certOk, List.all_eq_true, List.mem_range] at h1
    have h2 := h1 j hjs i hi
    rw [hB, ho] at h2
    simp only [Bool.not_true, Bool.false_or, Option.map_some, Option.getD_some, List.any_eq_true, Array.mem_toList_iff, Bool.and_eq_true, Bool.or_eq_true, beq_iff_eq] at h2
    obtain ⟨e, he, hbd, h3⟩ := h2
    have hle := hall e he hbd
    rcases h3 with h3 | h3
    · rw [← h3]; exact hle
    · have h4 := hb
      simp only [backOk, List.all_eq_true, List.mem_range] at h4
      have h5 := h4 j hjs
      rw [ho] at h5
      simp only [Option.map_some, Option.getD_some, Array.all_eq_true_iff_forall_mem, Bool.or_eq_true, Bool.not_eq_true', decide_eq_true_eq] at h5
      have h6 : e.on < j := (h5 e he).resolve_left (by simp [hbd])
      obtain ⟨o', ho'⟩ : ∃ o', ops[e.on]? = some o' := ⟨_, Array.getElem?_eq_getElem (by omega)⟩
      exact ih e.on i o' (by omega) ho' hi h3 (hcl e.on o' ho' hle)
theorem closed_set {listed : Array Bool} (hcl : Closed ops listed) {i : Nat} (hr : i ∈ Region.ready .any ops listed) : Closed ops (listed.setIfInBounds i true) := by
  intro j o ho hj e he hb
  obtain ⟨_, oi, hoi, hall⟩ := mem_ready.1 hr
  by_cases hji : i = j
  · subst hji
    rw [ho] at hoi; cases hoi
    exact getD_set_true (hall e he hb)
  · rw [getD_set_ne false hji] at hj
    exact getD_set_true (hcl j o ho hj e he hb)

theorem sel_of (h : Region.noSelect ops = true) {i : Nat} {o : Oper} (ho : ops[i]? = some o) : ∀ cs b, o.op ≠ .select cs b := fun cs b => Region.noSelect_spec h i o cs b ho
theorem apart_of {i j : Nat} {oi oj : Oper} (h : apartOk ops i = true) (hi : ops[i]? = some oi) (hj : ops[j]? = some oj) (hne : i ≠ j) (h1 : depOf oj i = false) (h2 : depOf oi j = false) : oi.apart ops oj = true ∧ oj.apart ops oi = true := by
  have hjs : j < ops.size := (Array.getElem?_eq_some_iff.1 hj).1
  simp only [apartOk, List.all_eq_true, List.mem_range] at h
  have h3 := h j hjs
  rw [hi, hj] at h3
  simpa [hne, h1, h2] using h3
theorem depOf_false {o : Oper} {i : Nat} (h : ∀ e ∈ o.after, Region.binds .any e = true → e.on ≠ i) : depOf o i = false := by
  unfold depOf
  rw [List.any_eq_false]
  intro e he
  simp only [Bool.and_eq_true, beq_iff_eq, not_and]
  exact h e (Array.mem_toList_iff.1 he)
variable {S : World → Prop}
theorem Seq.keepExec {o : Oper} (hs : ∀ cs b, o.op ≠ .select cs b) : ∀ (er : List Nat) (a a' : Act), Seq P ops S er a a' → (∀ x ∈ er, ∀ ox, ops[x]? = some ox → ox.apart ops o = true) →
    execOp a'.eval o = execOp a.eval o ∧ Region.wanted o (yielded ops a'.tmps) = Region.wanted o (yielded ops a.tmps)
  | [], a, a', h, _ => by rw [show a' = a from h]; exact ⟨rfl, rfl⟩
  | x :: r, a, a', h, hap => by
    obtain ⟨ox, v, hox, _, hn⟩ := h
    obtain ⟨h1, h2⟩ := keepExec hs r _ _ hn (fun y hy => hap y (List.mem_cons_of_mem _ hy))
    obtain ⟨k1, _, _⟩ := Oper.apart_spec (hap x (by simp) ox hox)
    exact ⟨h1.trans (execOp_put o hs a ox.dst v k1), h2.trans (wanted_put o a ox.dst v k1)⟩
theorem Seq.putBoth (hsel : Region.noSelect ops = true) {o : Oper} (u : Value) : ∀ (er : List Nat) (a a' : Act), Seq P ops S er a a' → (∀ x ∈ er, ∀ ox, ops[x]? = some ox → ox.apart ops o = true) →
    Seq P ops S er (a.put o.dst u) (a'.put o.dst u)
  | [], a, a', h, _ => by rw [show a' = a from h]; rfl
  | x :: r, a, a', h, hap => by
    obtain ⟨ox, v, hox, hy, hn⟩ := h
    obtain ⟨_, k2, k3⟩ := Oper.apart_spec (hap x (by simp) ox hox)
    refine ⟨ox, v, hox, fun wx hS => (hy wx hS).of_same (execOp_put ox (sel_of hsel hox) a o.dst u k3) (wanted_put ox a o.dst u k3), ?_⟩
    rw [← Act.put_comm a v u k2]
    exact putBoth hsel u r _ _ hn (fun y hy => hap y (List.mem_cons_of_mem _ hy))
theorem Seq.defersBoth (hsel : Region.noSelect ops = true) (d : Deferred) : ∀ (er : List Nat) (a a' : Act), Seq P ops S er a a' → Seq P ops S er { a with defers := d :: a.defers } { a' with defers := d :: a'.defers }
  | [], a, a', h => by rw [show a' = a from h]; rfl
  | x :: r, a, a', h => by
    obtain ⟨ox, v, hox, hy, hn⟩ := h
    refine ⟨ox, v, hox, fun wx hS => (hy wx hS).of_same rfl rfl, ?_⟩
    have := defersBoth hsel d r _ _ hn
    rw [← Act.put_defers]
    exact this
/-- An operation that waits for none of those ahead of it goes first. -/
theorem Seq.front (hsel : Region.noSelect ops = true) {i : Nat} {oi : Oper} (hi : ops[i]? = some oi) : ∀ (pre post : List Nat) (a a' : Act), Seq P ops S (pre ++ i :: post) a a' → (∀ x ∈ pre, ∀ ox, ops[x]? = some ox → ox.apart ops oi = true) →
    ∃ v, (∀ wx, S wx → YieldsAt P ops wx oi v a) ∧ Seq P ops S (pre ++ post) (a.put oi.dst v) a'
  | [], post, a, a', h, _ => by
    obtain ⟨o, v, ho, hy, hn⟩ := h
    rw [hi] at ho; cases ho
    exact ⟨v, hy, hn⟩
  | x :: r, post, a, a', h, hap => by
    obtain ⟨ox, v, hox, hy, hn⟩ := h
    obtain ⟨u, hy2, hn2⟩ := front hsel hi r post _ _ hn (fun y hy => hap y (List.mem_cons_of_mem _ hy))
    obtain ⟨k1, k2, k3⟩ := Oper.apart_spec (hap x (by simp) ox hox)
    refine ⟨u, fun wx hS => (hy2 wx hS).of_same (execOp_put oi (sel_of hsel hi) a ox.dst v k1).symm (wanted_put oi a ox.dst v k1).symm, ox, v, hox, fun wx hS => (hy wx hS).of_same (execOp_put ox (sel_of hsel hox) a oi.dst u k3) (wanted_put ox a oi.dst u k3), ?_⟩
    rw [← Act.put_comm a v u k2]
    exact hn2
theorem YieldsAt.wpOp' {i : Nat} {o : Oper} {v : Value} {a : Act} {w : World} (hi : ops[i]? = some o) (hy : YieldsAt P ops w o v a) {K : Act → World → Prop} (h : K (a.put o.dst v) w) : wpOp P ops Q i K a w := by
  have := YieldsAt.stOp (K := fun a => K a w) hi hy h
  exact wpOp_of_stOp (fun _ h => h) this
/-- The forced operation, run ahead of reads that are still to come. -/
theorem wpOp_ahead (hsel : Region.noSelect ops = true) (hQ : ∀ c a w, ¬ Q (.panic c) a w) {t : Nat} {ot : Oper} (ht : ops[t]? = some ot) {er : List Nat} {a a' : Act} {w : World} {K : Act → World → Prop}
    (hseq : Seq P ops S er a a') (hap : ∀ x ∈ er, ∀ ox, ops[x]? = some ox → ox.apart ops ot = true) (h : wpOp P ops Q t K a' w) :
    wpOp P ops Q t (fun a1 w1 => ∃ a1', Seq P ops S er a1 a1' ∧ K a1' w1) a w := by
  obtain ⟨e1, e2⟩ := hseq.keepExec (sel_of hsel ht) er a a' hap
  have put := fun u => Seq.putBoth (o := ot) hsel u er a a' hseq hap
  unfold wpOp at *
  simp only [ht] at *
  rw [e2] at h
  split
  · rename_i hw
    simp only [hw, if_true] at h
    rcases h with h | ⟨hasks, hlets⟩
    case inr => exact .inr ⟨by unfold Oper.asks at *; rw [e1] at hasks; exact hasks, hlets⟩
    refine .inl ?_
    unfold Oper.wp at *
    rw [e1] at h
    generalize (execOp a.eval ot).run P w = r at *
    cases r with
    | ok n w' =>
      cases n <;> simp only [Oper.upon] at h ⊢
      case value u => exact ⟨_, put u, h⟩
      case skip => exact ⟨_, put _, h⟩
      case defer d => exact ⟨_, Seq.putBoth (o := ot) hsel _ er _ _ (Seq.defersBoth hsel d er a a' hseq) hap, h⟩
      case enter f args =>
        refine Calls.mono h fun e w'' he => ?_
        cases e with
        | returned u => exact ⟨_, put u, he⟩
        | panicked c => exact (hQ _ _ _ he).elim
        | outgrown => exact he
      case row row args => exact Rows.mono h fun u w'' he => ⟨_, put u, he⟩
    | halt x w' =>
      cases x <;> simp only [Oper.upon] at h ⊢
      case panic u => exact (hQ _ _ _ h).elim
  · rename_i hw
    simp only [hw] at h
    exact ⟨_, put _, h⟩

/-- What is left to do: the reads 'er', then 'tr'. -/
structure Left (ops : Array Oper) (listed : Array Bool) (u : List Nat) : Prop where
  closed : Closed ops listed
  size : listed.size = ops.size
  left : ∀ i, i < ops.size → (listed.getD i true = false ↔ i ∈ u)
theorem Left.listed {listed : Array Bool} {u : List Nat} (h : Left ops listed u) {i : Nat} (hi : i < ops.size) : listed.getD i false = true ↔ i ∉ u := by
  have h1 := h.left i hi
  have hs : i < listed.size := by rw [h.size]; exact hi
  have e1 : listed.getD i false = listed[i] := by simp [hs]
  have e2 : listed.getD i true = listed[i] := by simp [hs]
  rw [e2] at h1
  rw [e1, ← h1]
  cases listed[i] <;> simp
theorem Left.ready {listed : Array Bool} {u : List Nat} (h : Left ops listed u) {i : Nat} (hr : i ∈ Region.ready .any ops listed) : i ∈ u ∧ i < ops.size ∧ ∃ o, ops[i]? = some o ∧ ∀ e ∈ o.after, Region.binds .any e = true → listed.getD e.on false = true := by
  obtain ⟨h0, o, ho, hall⟩ := mem_ready.1 hr
  have hi : i < ops.size := (Array.getElem?_eq_some_iff.1 ho).1
  exact ⟨(h.left i hi).1 h0, hi, o, ho, hall⟩
theorem Left.done {listed : Array Bool} (h : Left ops listed []) : Region.ready .any ops listed = [] := by
  cases hr : Region.ready .any ops listed with
  | nil => rfl
  | cons x l => have := (h.ready (i := x) (by rw [hr]; simp)).1; cases this
theorem Left.next {listed : Array Bool} {u : List Nat} (h : Left ops listed u) (hb : backOk ops = true) : ∀ (n i : Nat), i < n → i < ops.size → i ∈ u → Region.ready .any ops listed ≠ [] := by
  intro n
  induction n with
  | zero => intro i hi; omega
  | succ n ih =>
    intro i hin hi hu
    obtain ⟨o, ho⟩ : ∃ o, ops[i]? = some o := ⟨_, Array.getElem?_eq_getElem hi⟩
    by_cases hall : ∀ e ∈ o.after, Region.binds .any e = true → listed.getD e.on false = true
    · intro h0
      have : i ∈ Region.ready .any ops listed := mem_ready.2 ⟨(h.left i hi).2 hu, o, ho, hall⟩
      rw [h0] at this; cases this
    · simp only [Classical.not_forall] at hall
      obtain ⟨e, he, hbd, hn⟩ := hall
      have h4 := hb
      simp only [backOk, List.all_eq_true, List.mem_range] at h4
      have h5 := h4 i hi
      rw [ho] at h5
      simp only [Option.map_some, Option.getD_some, Array.all_eq_true_iff_forall_mem, Bool.or_eq_true, Bool.not_eq_true', decide_eq_true_eq] at h5
      have h6 : e.on < i := (h5 e he).resolve_left (by simp [hbd])
      refine ih e.on (by omega) (by omega) ?_
      have := h.listed (i := e.on) (by omega)
      exact Classical.not_not.1 fun hc => hn (this.2 hc)
theorem Left.set {listed : Array Bool} {u v : List Nat} {i : Nat} (h : Left ops listed u) (hr : i ∈ Region.ready .any ops listed) (huv : ∀ j, j ∈ v ↔ j ∈ u ∧ j ≠ i) : Left ops (listed.setIfInBounds i true) v := by
  refine ⟨closed_set h.closed hr, by simp [h.size], fun j hj => ?_⟩
  rw [huv]
  obtain ⟨_, hi, _⟩ := h.ready hr
  by_cases hji : i = j
  · subst hji
    have : i < listed.size := by rw [h.size]; exact hi
    simp [this]
  · rw [getD_set_ne true hji, h.left j hj]
    exact ⟨fun x => ⟨x, fun e => hji e.symm⟩, fun x => x.1⟩
theorem wpAny_forced {B : List Nat} (hcert : certOk ops B = true) (hb : backOk ops = true) : ∀ (tf : List Nat) (listed : Array Bool) (a : Act) (w : World), Left ops listed tf → tf.Nodup → (∀ i ∈ tf, i < ops.size) →
    tf.Pairwise (fun s t => (B.getD t 0).testBit s = true) → wpOps P ops Q tf a w → wpAny P .any ops Q tf.length listed a w
  | [], listed, a, w, hl, _, _, _, h => ⟨hl.done, h⟩
  | t :: r, listed, a, w, hl, hnd, hlt, hch, h => by
    refine ⟨fun h0 => absurd h0 (hl.next hb (t + 1) t (by omega) (hlt t (by simp)) (by simp)), fun i hi => ?_⟩
    obtain ⟨hu, his, o, ho, hall⟩ := hl.ready hi
    have hit : i = t := by
      rcases List.mem_cons.1 hu with h1 | h1
      · exact h1
      · have hB := (List.pairwise_cons.1 hch).1 i h1
        have h2 := listed_before hcert hb hl.closed (i + 1) i t o (by omega) ho (hlt t (by simp)) hB hall
        exact absurd (by simp) ((hl.listed (hlt t (by simp))).1 h2)
    subst hit
    rw [wpOps_cons] at h
    have hnr := (List.nodup_cons.1 hnd).1
    exact wpOp_mono (fun a' w' h' => wpAny_forced hcert hb r _ a' w' (hl.set hi fun j => by
      rw [List.mem_cons]
      exact ⟨fun x => ⟨.inr x, fun e => hnr (e ▸ x)⟩, fun x => x.1.resolve_left x.2⟩) (List.nodup_cons.1 hnd).2 (fun j hj => hlt j (List.mem_cons_of_mem _ hj)) (List.pairwise_cons.1 hch).2 h') h
theorem wpAny_early {B E TA TF : List Nat} (chk : Early ops B E TA TF) (hQ : ∀ c a w, ¬ Q (.panic c) a w) : ∀ (n : Nat) (er ta : List Nat) (listed : Array Bool) (a a' : Act) (w : World), er.length + ta.length = n → Left ops listed (er ++ (ta ++ TF)) →
    (er ++ (ta ++ TF)).Nodup → (∀ i ∈ er, i ∈ E) → (∀ i ∈ ta, i ∈ TA) → er.Pairwise (· < ·) → (ta ++ TF).Pairwise (fun s t => (B.getD t 0).testBit s = true) → S w →
    Seq P ops S er a a' → wpTA P ops Q S TF ta a' w → wpAny P .any ops Q (n + TF.length) listed a w := by
  intro n
  induction n with
  | zero =>
    intro er ta listed a a' w hn hl hnd _ _ _ hch _ hseq h
    have h1 : er = [] := List.eq_nil_of_length_eq_zero (by omega)
    have h2 : ta = [] := List.eq_nil_of_length_eq_zero (by omega)
    subst h1; subst h2
    rw [show a' = a from hseq] at h
    rw [Nat.zero_add]
    exact wpAny_forced chk.cert chk.back TF listed a w hl hnd (fun i hi => chk.lt i (.inr (.inr hi))) hch h
  | succ n ih =>
    intro er ta listed a a' w hn hl hnd hE hA hso hch hS hseq h
    have hlt : ∀ i ∈ er ++ (ta ++ TF), i < ops.size := fun i hi => by
      rw [List.mem_append, List.mem_append] at hi
      exact chk.lt i (hi.imp (hE i) (Or.imp_left (hA i)))
    rw [Nat.succ_add]
    refine ⟨fun h0 => ?_, fun i hi => ?_⟩
    · exfalso
      obtain ⟨i, hi⟩ : ∃ i, i ∈ er ++ (ta ++ TF) := by
        cases er with
        | cons x l => exact ⟨x, by simp⟩
        | nil => cases ta with
          | cons x l => exact ⟨x, by simp⟩
          | nil => simp at hn
      exact hl.next chk.back (i + 1) i (by omega) (hlt i hi) hi h0
    · obtain ⟨hu, his, oi, hoi, hall⟩ := hl.ready hi
      have notdep : ∀ x, x ∈ er ++ (ta ++ TF) → depOf oi x = false := fun x hx => depOf_false fun e he hbd hex => by
        have h1 := hall e he hbd
        rw [hex] at h1
        exact (hl.listed (hlt x hx)).1 h1 hx
      have before : ∀ x, x ∈ er ++ (ta ++ TF) → (B.getD i 0).testBit x = true → False := fun x hx hB =>
        (hl.listed (hlt x hx)).1 (listed_before chk.cert chk.back hl.closed (i + 1) i x oi (by omega) hoi (hlt x hx) hB hall) hx
      have nodep : ∀ x ox, ops[x]? = some ox → x ≤ i → depOf ox i = false := fun x ox hox hxi => depOf_false fun e he hbd hex => by
        have hxs : x < ops.size := (Array.getElem?_eq_some_iff.1 hox).1
        have h4 := chk.back
        simp only [backOk, List.all_eq_true, List.mem_range] at h4
        have h5 := h4 x hxs
        rw [hox] at h5
        simp only [Option.map_some, Option.getD_some, Array.all_eq_true_iff_forall_mem, Bool.or_eq_true, Bool.not_eq_true', decide_eq_true_eq] at h5
        have h6 : e.on < x := (h5 e he).resolve_left (by simp [hbd])
        omega
      rw [List.mem_append, List.mem_append] at hu
      rcases hu with hu | hu | hu
      · obtain ⟨pre, post, rfl⟩ := List.append_of_mem hu
        have hap : ∀ x ∈ pre, ∀ ox, ops[x]? = some ox → ox.apart ops oi = true := fun x hx ox hox => by
          have hxi : x < i := (List.pairwise_append.1 hso).2.2 x hx i (by simp)
          have hxm : x ∈ (pre ++ i :: post) ++ (ta ++ TF) := by simp [hx]
          exact (apart_of (chk.apart i (hE i hu)) hoi hox (by omega) (nodep x ox hox (by omega)) (notdep x hxm)).2
        obtain ⟨v, hy, hs2⟩ := Seq.front chk.sel hoi pre post a a' hseq hap
        have hnd2 : i ∉ pre ++ post ∧ i ∉ ta ++ TF := by
          rw [List.append_assoc, List.cons_append] at hnd
          have h1 := List.nodup_append.1 hnd
          have h2 := List.nodup_cons.1 h1.2.1
          exact ⟨fun hm => by
            rcases List.mem_append.1 hm with hm | hm
            · exact h1.2.2 i hm i (by simp) rfl
            · exact h2.1 (by simp [hm]), fun hm => h2.1 (by rw [List.mem_append]; exact .inr hm)⟩
        refine YieldsAt.wpOp' hoi (hy w hS) (ih (pre ++ post) ta _ _ a' w ?_ (hl.set hi fun j => ?_) ?_ (fun j hj => hE j ?_) hA ?_ hch hS hs2 h)
        · simp only [List.length_append, List.length_cons] at hn ⊢; omega
        · simp only [List.mem_append, List.mem_cons] at hnd2 ⊢
          constructor
          · intro x
            exact ⟨by rcases x with (x | x) | x <;> simp [x], fun e => by subst e; rcases x with x | x; exact hnd2.1 x; exact hnd2.2 x⟩
          · rintro ⟨(x | x | x) | x, hne⟩
            · exact .inl (.inl x)
            · exact absurd x hne
            · exact .inl (.inr x)
            · exact .inr x
        · have hsub : (pre ++ post ++ (ta ++ TF)).Sublist (pre ++ i :: post ++ (ta ++ TF)) := by
            refine List.Sublist.append_right ?_ _
            exact List.Sublist.append_left (List.sublist_cons_self i post) pre
          exact hnd.sublist hsub
        · rw [List.mem_append] at hj; simp only [List.mem_append, List.mem_cons]; exact hj.imp id .inr
        · exact hso.sublist (List.Sublist.append_left (List.sublist_cons_self i post) pre)
      · cases ta with
        | nil => cases hu
        | cons t r =>
          have hit : i = t := by
            rcases List.mem_cons.1 hu with h1 | h1
            · exact h1
            · exact (before t (by simp) ((List.pairwise_cons.1 hch).1 i (by simp [h1]))).elim
          subst hit
          have hap : ∀ x ∈ er, ∀ ox, ops[x]? = some ox → ox.apart ops oi = true := fun x hx ox hox => by
            have hxm : x ∈ er ++ (i :: r ++ TF) := by simp [hx]
            have hine : i ∉ er := fun hm => (List.nodup_append.1 hnd).2.2 i hm i (by simp) rfl
            have hxd : depOf ox i = false := depOf_false fun e he hbd hex => by
              have h1 := chk.closed x (hE x hx)
              unfold inE at h1
              rw [hox] at h1
              simp only [Option.map_some, Option.getD_some, Array.all_eq_true_iff_forall_mem, Bool.or_eq_true, Bool.not_eq_true', List.contains_iff_mem] at h1
              have h2 := (h1 e he).resolve_left (by simp [hbd])
              rw [hex] at h2
              have h3 := chk.nodup
              exact (List.nodup_append.1 h3).2.2 i h2 i (by rw [List.mem_append]; exact .inl (hA i (by simp))) rfl
            exact (apart_of (chk.apart x (hE x hx)) hox hoi (fun e => hine (e ▸ hx)) (notdep x hxm) hxd).1
          have h2 := wpOp_ahead chk.sel hQ hoi hseq hap h
          refine wpOp_mono (fun a1 w1 => ?_) h2
          rintro ⟨a1', hs1, hS1, h1⟩
          have hnd1 := List.nodup_append.1 hnd
          refine ih er r _ a1 a1' w1 (by simp only [List.length_cons] at hn; omega) (hl.set hi fun j => ?_) ?_ hE (fun j hj => hA j (by simp [hj])) hso (List.pairwise_cons.1 hch).2 hS1 hs1 h1
          · have hine : i ∉ er := fun hm => hnd1.2.2 i hm i (by simp) rfl
            have hint : i ∉ r ++ TF := (List.nodup_cons.1 hnd1.2.1).1
            simp only [List.mem_append, List.mem_cons, List.cons_append] at hint ⊢
            constructor
            · intro x
              exact ⟨by rcases x with x | x | x <;> simp [x], fun e => by subst e; rcases x with x | x; exact hine x; exact hint x⟩
            · rintro ⟨x | x | x, hne⟩
              · exact .inl x
              · exact absurd x hne
              · exact .inr x
          · exact hnd.sublist (List.Sublist.append_left (List.sublist_cons_self i _) er)
      · exfalso
        cases er with
        | cons x l => exact before x (by simp) (chk.tf i hu x (hE x (by simp)))
        | nil => cases ta with
          | nil => simp at hn
          | cons t r => exact before t (by simp) ((List.pairwise_append.1 hch).2.2 t (by simp) i hu)

/-! How it is walked. -/
def seI (P : Program) (ops : Array Oper) (wx : World) (Q : Act → Prop) : List Nat → Act → Prop
  | [], a => Q a
  | i :: r, a => stOp P ops wx i (seI P ops wx Q r) a
theorem seI_step {wx : World} {Q : Act → Prop} {i : Nat} {r : List Nat} {a : Act} {o : Oper} (ho : ops[i]? = some o)
    (h : ∀ K : Act → Prop, (∀ a, seI P ops wx Q r a → K a) → if Region.wanted o (yielded ops a.tmps) then o.still P a wx K else K (a.put o.dst undef)) : seI P ops wx Q (i :: r) a := by
  show stOp P ops wx i (seI P ops wx Q r) a
  unfold stOp
  rw [ho]
  exact h _ fun _ h => h
theorem seI_nil {wx : World} {Q : Act → Prop} {a : Act} (h : Q a) : seI P ops wx Q [] a := h
def dstsOf (ops : Array Oper) (E : List Nat) : List Nat := E.map fun i => ((ops[i]?).bind (·.dst)).getD 0
def dstB (ops : Array Oper) (E : List Nat) : Bool := (E.all fun i => ((ops[i]?).bind (·.dst)).isSome) && decide (dstsOf ops E).Nodup
theorem seI_keeps {wx : World} {a' : Act} (d : Nat) : ∀ (l : List Nat) (a : Act), d ∉ dstsOf ops l → (∀ i ∈ l, ((ops[i]?).bind (·.dst)).isSome = true) → seI P ops wx (· = a') l a → a'.tmps[d]? = a.tmps[d]?
  | [], a, _, _, h => by rw [← (show a = a' from h)]
  | i :: r, a, hd, hs, h => by
    have hsi := hs i (by simp)
    cases ho : ops[i]? with
    | none => rw [ho] at hsi; cases hsi
    | some o =>
      rw [ho] at hsi
      obtain ⟨v, hy, hK⟩ := yieldsAt_of_stOp ho (show stOp P ops wx i (seI P ops wx (· = a') r) a from h)
      cases hdst : o.dst with
      | none => simp [hdst] at hsi
      | some t =>
        have hne : t ≠ d := fun e => hd (by simp [dstsOf, ho, hdst, e])
        rw [seI_keeps d r _ (fun hm => hd (by simp only [dstsOf, List.map_cons, List.mem_cons] at hm ⊢; exact .inr hm)) (fun j hj => hs j (by simp [hj])) hK, hdst]
        simp [Act.put, Array.getElem?_setIfInBounds_ne hne]
theorem seq_of_seI {S : World → Prop} {a' : Act} (h0 : ∃ wx, S wx) : ∀ (l : List Nat) (a : Act), (dstsOf ops l).Nodup → (∀ i ∈ l, ((ops[i]?).bind (·.dst)).isSome = true) → (∀ d ∈ dstsOf ops l, d < a.tmps.size) →
    (∀ wx, S wx → seI P ops wx (· = a') l a) → Seq P ops S l a a'
  | [], a, _, _, _, h => by obtain ⟨wx, hS⟩ := h0; exact (h wx hS).symm
  | i :: r, a, hnd, hs, hb, h => by
    have hsi := hs i (by simp)
    cases ho : ops[i]? with
    | none => rw [ho] at hsi; cases hsi
    | some o =>
      rw [ho] at hsi
      cases hdst : o.dst with
      | none => simp [hdst] at hsi
      | some t =>
        have ht : ((ops[i]?).bind (·.dst)).getD 0 = t := by rw [ho]; simp [hdst]
        have hts : t < a.tmps.size := hb t (by simp [dstsOf, ho, hdst])
        have htn : t ∉ dstsOf ops r := by
          simp only [dstsOf, List.map_cons, ht] at hnd
          exact (List.nodup_cons.1 hnd).1
        have key : ∀ wx, S wx → ∃ v, YieldsAt P ops wx o v a ∧ seI P ops wx (· = a') r (a.put o.dst v) ∧ a'.tmps[t]? = some v := fun wx hS => by
          obtain ⟨v, hy, hK⟩ := yieldsAt_of_stOp ho (show stOp P ops wx i (seI P ops wx (· = a') r) a from h wx hS)
          refine ⟨v, hy, hK, ?_⟩
          rw [seI_keeps t r _ htn (fun j hj => hs j (by simp [hj])) hK, hdst]
          simp [Act.put, hts]
        obtain ⟨wx0, hS0⟩ := h0
        obtain ⟨v0, _, _, hv0⟩ := key wx0 hS0
        have key2 : ∀ wx, S wx → YieldsAt P ops wx o v0 a ∧ seI P ops wx (· = a') r (a.put o.dst v0) := fun wx hS => by
          obtain ⟨v, hy, hK, hv⟩ := key wx hS
          rw [hv0] at hv; cases hv
          exact ⟨hy, hK⟩
        refine ⟨o, v0, ho, fun wx hS => (key2 wx hS).1, seq_of_seI ⟨wx0, hS0⟩ r _ ?_ (fun j hj => hs j (by simp [hj])) (fun d hd => ?_) fun wx hS => (key2 wx hS).2⟩
        · simp only [dstsOf, List.map_cons] at hnd
          exact (List.nodup_cons.1 hnd).2
        · have := hb d (by simp only [dstsOf, List.map_cons, List.mem_cons] at hd ⊢; exact .inr hd)
          rw [hdst]; simpa [Act.put] using this
inductive Picks (ops : Array Oper) : List Nat → List Oper → Prop
  | nil : Picks ops [] []
  | cons {i : Nat} {r : List Nat} {o : Oper} {l : List Oper} (ho : ops[i]? = some o) (h : Picks ops r l) : Picks ops (i :: r) (o :: l)
theorem wpOps_of_list {tf : List Nat} {l : List Oper} (hp : Picks ops tf l) : ∀ {a : Act} {w : World}, wpList P ops Q l a w → wpOps P ops Q tf a w := by
  induction hp with
  | nil => intro a w h; exact h
  | cons ho hp ih =>
    intro a w h
    rw [wpOps_cons]
    unfold wpOp
    rw [ho]
    unfold wpList at h
    simp only at *
    split
    · rename_i hw
      rw [if_pos hw] at h
      exact h.imp (Oper.wp_mono fun a w => ih) id
    · rename_i hw
      rw [if_neg hw] at h
      exact ih h
theorem Oper.wp_then {o : Oper} {a : Act} {w : World} {K : Act → World → Prop} {n : Act → World → Prop} (h : o.wp P a w K (Exit.then n Q)) : o.wp P a w K Q := by
  unfold Oper.wp at *
  generalize (execOp a.eval o).run P w = r at *
  cases r with
  | ok x w' => cases x <;> simp only [Oper.upon] at h ⊢ <;> first | exact h | exact Calls.mono h (fun e w'' he => by cases e <;> exact he)
  | halt x w' => cases x <;> simp only [Oper.upon] at h ⊢ <;> exact h
theorem wpTA_cons {S : World → Prop} {tf r : List Nat} {i : Nat} {o : Oper} {a : Act} {w : World} (ho : ops[i]? = some o)
    (h : wpList P ops (Exit.then (fun a1 w1 => S w1 ∧ wpTA P ops Q S tf r a1 w1) Q) [o] a w) : wpTA P ops Q S tf (i :: r) a w := by
  show wpOp P ops Q i _ a w
  unfold wpOp
  rw [ho]
  unfold wpList at h
  simp only
  split
  · rename_i hw
    rw [if_pos hw] at h
    exact h.imp (fun h => Oper.wp_mono (fun a w h => h) (Oper.wp_then h)) id
  · rename_i hw
    rw [if_neg hw] at h
    exact h
theorem wpTA_nil {S : World → Prop} {tf : List Nat} {l : List Oper} {a : Act} {w : World} (hp : Picks ops tf l) (h : wpList P ops Q l a w) : wpTA P ops Q S tf [] a w := wpOps_of_list hp h
/-- A REGION THAT DRAWS ITS ORDER: E: what yields the same in every world that S lets in; TA: forced operations that may run ahead of some of E (each leaves S); TF: forced, behind all of E. -/
theorem wp_region_early {id : Nat} {l : List Oper} {a : Act} {w : World} (E TA TF : List Nat) (S : World → Prop) (hm : P.follows .mixedOrders = true)
    (hB : earlyB l.toArray (Region.before l.toArray).toList E TA TF = true) (hd : dstB l.toArray E = true) (hb : ((dstsOf l.toArray E).all fun d => decide (d < a.tmps.size)) = true) (hS : S w.drew)
    (h : ∃ a', (∀ wx, S wx → seI P l.toArray wx (· = a') E a) ∧ wpTA P l.toArray (NoPanic Q) S TF TA a' w.drew) : (Code.region id l.toArray true).wp P Q a w := by
  obtain ⟨a', hE, hT⟩ := h
  refine wp_region_noPanic (wp_region_any hm ?_)
  have chk := earlyB_spec hB
  simp only [dstB, Bool.and_eq_true, List.all_eq_true, decide_eq_true_eq] at hd
  have hseq := seq_of_seI (P := P) ⟨_, hS⟩ E a hd.2 hd.1 (fun d h => by simpa using List.all_eq_true.1 hb d h) hE
  have hlen : E.length + TA.length + TF.length = l.toArray.size := by
    have h1 : (E ++ (TA ++ TF)).Perm (List.range l.toArray.size) := by
      rw [List.perm_ext_iff_of_nodup chk.nodup List.nodup_range]
      intro i
      simp only [List.mem_append, List.mem_range]
      exact ⟨chk.lt i, chk.all i⟩
    have h2 := h1.length_eq
    simp only [List.length_append, List.length_range] at h2
    omega
  have h := wpAny_early (Q := NoPanic Q) chk (fun _ _ _ h => h) (E.length + TA.length) E TA (Array.replicate l.toArray.size false) a a' w.drew rfl
    ⟨fun j o _ hj => (by rw [Array.getD_eq_getD_getElem?, Array.getElem?_replicate] at hj; split at hj <;> cases hj), by simp, fun i hi => ⟨fun _ => by rw [List.mem_append, List.mem_append]; exact chk.all i hi, fun _ => by rw [Array.getD_eq_getD_getElem?, Array.getElem?_replicate, if_pos hi]; rfl⟩⟩
    chk.nodup (fun _ h => h) (fun _ h => h) chk.sorted chk.chain hS hseq hT
  rw [hlen] at h
  exact h
end Go.Proofs.Ytkggnbabnfhcpaa
end
section
/- A region that draws its order, in phases: what only reads goes as early as it can, each with the fact that it rests on; what acts is a forced chain. No program in sight. -/
namespace Go.Proofs.Ytkggnbabnfhcpaa
open Go.RowKit
/-- An operation that only reads, and what a world must show for it to yield what it yields. -/
abbrev QF := Nat × (World → Prop)
variable {P : Program} {ops : Array Oper} {Q : Exit → Act → World → Prop}
def SeqF (P : Program) (ops : Array Oper) : List QF → Act → Act → Prop
  | [], a, a' => a' = a
  | (i, f) :: r, a, a' => ∃ o v, ops[i]? = some o ∧ (∀ wx, f wx → YieldsAt P ops wx o v a) ∧ SeqF P ops r (a.put o.dst v) a'
theorem SeqF.app : ∀ {l m : List QF} {a b c : Act}, SeqF P ops l a b → SeqF P ops m b c → SeqF P ops (l ++ m) a c
  | [], m, a, b, c, h, k => by rw [show b = a from h] at k; exact k
  | (i, f) :: r, m, a, b, c, h, k => by
    obtain ⟨o, v, ho, hy, hn⟩ := h
    exact ⟨o, v, ho, hy, hn.app k⟩
theorem SeqF.keepExec {o : Oper} (hs : ∀ cs b, o.op ≠ .select cs b) : ∀ (er : List QF) (a a' : Act), SeqF P ops er a a' → (∀ x ∈ er, ∀ ox, ops[x.1]? = some ox → ox.apart ops o = true) →
    execOp a'.eval o = execOp a.eval o ∧ Region.wanted o (yielded ops a'.tmps) = Region.wanted o (yielded ops a.tmps)
  | [], a, a', h, _ => by rw [show a' = a from h]; exact ⟨rfl, rfl⟩
  | x :: r, a, a', h, hap => by
    obtain ⟨ox, v, hox, _, hn⟩ := h
    obtain ⟨h1, h2⟩ := keepExec hs r _ _ hn (fun y hy => hap y (List.mem_cons_of_mem _ hy))
    obtain ⟨k1, _, _⟩ := Oper.apart_spec (hap x (by simp) ox hox)
    exact ⟨h1.trans (execOp_put o hs a ox.dst v k1), h2.trans (wanted_put o a ox.dst v k1)⟩
theorem SeqF.putBoth (hsel : Region.noSelect ops = true) {o : Oper} (u : Value) : ∀ (er : List QF) (a a' : Act), SeqF P ops er a a' → (∀ x ∈ er, ∀ ox, ops[x.1]? = some ox → ox.apart ops o = true) →
    SeqF P ops er (a.put o.dst u) (a'.put o.dst u)
  | [], a, a', h, _ => by rw [show a' = a from h]; rfl
  | x :: r, a, a', h, hap => by
    obtain ⟨ox, v, hox, hy, hn⟩ := h
    obtain ⟨_, k2, k3⟩ := Oper.apart_spec (hap x (by simp) ox hox)
    refine ⟨ox, v, hox, fun wx hS => (hy wx hS).of_same (execOp_put ox (sel_of hsel hox) a o.dst u k3) (wanted_put ox a o.dst u k3), ?_⟩
    rw [← Act.put_comm a v u k2]
    exact putBoth hsel u r _ _ hn (fun y hy => hap y (List.mem_cons_of_mem _ hy))
theorem SeqF.defersBoth (hsel : Region.noSelect ops = true) (d : Deferred) : ∀ (er : List QF) (a a' : Act), SeqF P ops er a a' → SeqF P ops er { a with defers := d :: a.defers } { a' with defers := d :: a'.defers }
  | [], a, a', h => by rw [show a' = a from h]; rfl
  | x :: r, a, a', h => by
    obtain ⟨ox, v, hox, hy, hn⟩ := h
    refine ⟨ox, v, hox, fun wx hS => (hy wx hS).of_same rfl rfl, ?_⟩
    have := defersBoth hsel d r _ _ hn
    rw [← Act.put_defers]
    exact this
theorem SeqF.front (hsel : Region.noSelect ops = true) {i : QF} {oi : Oper} (hi : ops[i.1]? = some oi) : ∀ (pre post : List QF) (a a' : Act), SeqF P ops (pre ++ i :: post) a a' → (∀ x ∈ pre, ∀ ox, ops[x.1]? = some ox → ox.apart ops oi = true) →
    ∃ v, (∀ wx, i.2 wx → YieldsAt P ops wx oi v a) ∧ SeqF P ops (pre ++ post) (a.put oi.dst v) a'
  | [], post, a, a', h, _ => by
    obtain ⟨o, v, ho, hy, hn⟩ := h
    rw [hi] at ho; cases ho
    exact ⟨v, hy, hn⟩
  | x :: r, post, a, a', h, hap => by
    obtain ⟨ox, v, hox, hy, hn⟩ := h
    obtain ⟨u, hy2, hn2⟩ := front hsel hi r post _ _ hn (fun y hy => hap y (List.mem_cons_of_mem _ hy))
    obtain ⟨k1, k2, k3⟩ := Oper.apart_spec (hap x (by simp) ox hox)
    refine ⟨u, fun wx hS => (hy2 wx hS).of_same (execOp_put oi (sel_of hsel hi) a ox.dst v k1).symm (wanted_put oi a ox.dst v k1).symm, ox, v, hox, fun wx hS => (hy wx hS).of_same (execOp_put ox (sel_of hsel hox) a oi.dst u k3) (wanted_put ox a oi.dst u k3), ?_⟩
    rw [← Act.put_comm a v u k2]
    exact hn2
theorem wpOp_aheadF (hsel : Region.noSelect ops = true) (hQ : ∀ c a w, ¬ Q (.panic c) a w) {t : Nat} {ot : Oper} (ht : ops[t]? = some ot) {er : List QF} {a a' : Act} {w : World} {K : Act → World → Prop}
    (hseq : SeqF P ops er a a') (hap : ∀ x ∈ er, ∀ ox, ops[x.1]? = some ox → ox.apart ops ot = true) (h : wpOp P ops Q t K a' w) :
    wpOp P ops Q t (fun a1 w1 => ∃ a1', SeqF P ops er a1 a1' ∧ K a1' w1) a w := by
  obtain ⟨e1, e2⟩ := hseq.keepExec (sel_of hsel ht) er a a' hap
  have put := fun u => SeqF.putBoth (o := ot) hsel u er a a' hseq hap
  unfold wpOp at *
  simp only [ht] at *
  rw [e2] at h
  split
  · rename_i hw
    simp only [hw, if_true] at h
    rcases h with h | ⟨hasks, hlets⟩
    case inr => exact .inr ⟨by unfold Oper.asks at *; rw [e1] at hasks; exact hasks, hlets⟩
    refine .inl ?_
    unfold Oper.wp at *
    rw [e1] at h
    generalize (execOp a.eval ot).run P w = r at *
    cases r with
    | ok n w' =>
      cases n <;> simp only [Oper.upon] at h ⊢
      case value u => exact ⟨_, put u, h⟩
      case skip => exact ⟨_, put _, h⟩
      case defer d => exact ⟨_, SeqF.putBoth (o := ot) hsel _ er _ _ (SeqF.defersBoth hsel d er a a' hseq) hap, h⟩
      case enter f args =>
        refine Calls.mono h fun e w'' he => ?_
        cases e with
        | returned u => exact ⟨_, put u, he⟩
        | panicked c => exact (hQ _ _ _ he).elim
        | outgrown => exact he
      case row row args => exact Rows.mono h fun u w'' he => ⟨_, put u, he⟩
    | halt x w' =>
      cases x <;> simp only [Oper.upon] at h ⊢
      case panic u => exact (hQ _ _ _ h).elim
  · rename_i hw
    simp only [hw] at h
    exact ⟨_, put _, h⟩
/-- The phases: an operation that acts, and the reads that wait for it. -/
abbrev Phs := List (Nat × List Nat)
def flatPh : Phs → List Nat
  | [] => []
  | (l, E) :: r => l :: (E ++ flatPh r)
def keepP (B : List Nat) (l : Nat) (pend : List QF) : List QF := pend.filter fun p => !(B.getD l 0).testBit p.1
def wpPh (P : Program) (ops : Array Oper) (Q : Exit → Act → World → Prop) (B : List Nat) : Phs → List QF → Act → World → Prop
  | [], _, a, w => Q .normal a w
  | (l, E) :: r, pend, a, w => wpOp P ops Q l (fun a1 w1 => ∃ (F : List QF) (a2 : Act), F.map (·.1) = E ∧ SeqF P ops F a1 a2 ∧ (∀ p ∈ keepP B l pend ++ F, p.2 w1) ∧ wpPh P ops Q B r (keepP B l pend ++ F) a2 w1) a w
def noDep (ops : Array Oper) (x y : Nat) : Bool := ((ops[x]?).map fun o => !depOf o y).getD true
/-- What waits for the acting operations ahead of it. -/
def phDeps (B : List Nat) : Phs → Bool
  | [] => true
  | (l, E) :: r => (E.all fun q => (B.getD q 0).testBit l) && (r.all fun p => (B.getD p.1 0).testBit l && p.2.all fun q => (B.getD q 0).testBit p.1 && (B.getD q 0).testBit l) && phDeps B r
structure PhOk (ops : Array Oper) (B : List Nat) (E0 : List Nat) (ph : Phs) : Prop where
  sel : Region.noSelect ops = true
  all : ∀ i, i < ops.size → i ∈ E0 ++ flatPh ph
  lt : ∀ i, i ∈ E0 ++ flatPh ph → i < ops.size
  nodup : (E0 ++ flatPh ph).Nodup
  back : backOk ops = true
  cert : certOk ops B = true
  topo : (E0 ++ flatPh ph).Pairwise fun x y => noDep ops x y = true
  deps : phDeps B ph = true
  apart0 : ∀ i, i ∈ E0 → apartOk ops i = true
  apart : ∀ p, p ∈ ph → ∀ i, i ∈ p.2 → apartOk ops i = true
def phB (ops : Array Oper) (B : List Nat) (E0 : List Nat) (ph : Phs) : Bool :=
  Region.noSelect ops && ((List.range ops.size).all fun i => (E0 ++ flatPh ph).contains i) && ((E0 ++ flatPh ph).all fun i => decide (i < ops.size)) &&
  decide (E0 ++ flatPh ph).Nodup && backOk ops && certOk ops B && decide ((E0 ++ flatPh ph).Pairwise fun x y => noDep ops x y = true) && phDeps B ph && (E0.all fun i => apartOk ops i) && (ph.all fun p => p.2.all fun i => apartOk ops i)
theorem phB_spec {B E0 : List Nat} {ph : Phs} (h : phB ops B E0 ph = true) : PhOk ops B E0 ph := by
  simp only [phB, Bool.and_eq_true, List.all_eq_true, List.mem_range, List.contains_iff_mem, decide_eq_true_eq] at h
  obtain ⟨⟨⟨⟨⟨⟨⟨⟨⟨h1, h2⟩, h3⟩, h4⟩, h5⟩, h6⟩, h7⟩, h8⟩, h9⟩, h10⟩ := h
  exact ⟨h1, h2, h3, h4, h5, h6, h7, h8, h9, h10⟩
theorem phDeps_head {B : List Nat} {l : Nat} {E : List Nat} {r : Phs} (h : phDeps B ((l, E) :: r) = true) : (∀ i ∈ E ++ flatPh r, (B.getD i 0).testBit l = true) ∧ phDeps B r = true := by
  simp only [phDeps, Bool.and_eq_true, List.all_eq_true] at h
  obtain ⟨⟨h1, h2⟩, h3⟩ := h
  refine ⟨fun i hi => ?_, h3⟩
  rcases List.mem_append.1 hi with hi | hi
  · exact h1 i hi
  · have key : ∀ (r : Phs), (∀ p ∈ r, (B.getD p.1 0).testBit l = true ∧ ∀ q ∈ p.2, (B.getD q 0).testBit p.1 = true ∧ (B.getD q 0).testBit l = true) → ∀ i ∈ flatPh r, (B.getD i 0).testBit l = true := by
      intro r
      induction r with
      | nil => intro _ i hi; cases hi
      | cons x r ih =>
        obtain ⟨m, F⟩ := x
        intro h i hi
        rcases List.mem_cons.1 hi with rfl | hi
        · exact (h _ (List.mem_cons_self ..)).1
        · rcases List.mem_append.1 hi with hi | hi
          · exact ((h _ (List.mem_cons_self ..)).2 i hi).2
          · exact ih (fun p hp => h p (List.mem_cons_of_mem _ hp)) i hi
    exact key r h2 i hi
theorem noDep_spec {x y : Nat} {o : Oper} (h : noDep ops x y = true) (ho : ops[x]? = some o) : depOf o y = false := by
  unfold noDep at h
  rw [ho] at h
  simpa using h
theorem wpAny_ph {B : List Nat} (hsel : Region.noSelect ops = true) (hback : backOk ops = true) (hcert : certOk ops B = true) (hQ : ∀ c a w, ¬ Q (.panic c) a w) : ∀ (n : Nat) (er pend : List QF) (ph : Phs) (listed : Array Bool) (a a' : Act) (w : World),
    (er.map (·.1) ++ flatPh ph).length = n → Left ops listed (er.map (·.1) ++ flatPh ph) → (er.map (·.1) ++ flatPh ph).Nodup → (∀ i ∈ er.map (·.1) ++ flatPh ph, i < ops.size) → (er.map (·.1) ++ flatPh ph).Pairwise (fun x y => noDep ops x y = true) →
    phDeps B ph = true → (∀ p ∈ er, apartOk ops p.1 = true) → (∀ p ∈ ph, ∀ i ∈ p.2, apartOk ops i = true) → (∀ p ∈ er, p ∈ pend) → (∀ p ∈ er, p.2 w) → SeqF P ops er a a' → wpPh P ops Q B ph pend a' w → wpAny P .any ops Q n listed a w := by
  intro n
  induction n with
  | zero =>
    intro er pend ph listed a a' w hn hl _ _ _ _ _ _ _ _ hseq h
    have h0 : er.map (·.1) ++ flatPh ph = [] := List.eq_nil_of_length_eq_zero hn
    obtain ⟨h1, h2⟩ := List.append_eq_nil_iff.1 h0
    have h1 : er = [] := List.map_eq_nil_iff.1 h1
    subst h1
    rw [show a' = a from hseq] at h
    cases ph with
    | nil => rw [h0] at hl; exact ⟨hl.done, h⟩
    | cons x r => obtain ⟨l, E⟩ := x; cases h2
  | succ n ih =>
    intro er pend ph listed a a' w hn hl hnd hlt htop hdep hap hapE hsub hf hseq h
    refine ⟨fun h0 => ?_, fun i hi => ?_⟩
    · exfalso
      obtain ⟨i, hi⟩ : ∃ i, i ∈ er.map (·.1) ++ flatPh ph := by
        cases hh : er.map (·.1) ++ flatPh ph with
        | nil => rw [hh] at hn; cases hn
        | cons x l => exact ⟨x, by simp⟩
      exact hl.next hback (i + 1) i (by omega) (hlt i hi) hi h0
    · obtain ⟨hu, his, oi, hoi, hall⟩ := hl.ready hi
      have notdep : ∀ x, x ∈ er.map (·.1) ++ flatPh ph → depOf oi x = false := fun x hx => depOf_false fun e he hbd hex => by
        have h1 := hall e he hbd
        rw [hex] at h1
        exact (hl.listed (hlt x hx)).1 h1 hx
      have before : ∀ x, x ∈ er.map (·.1) ++ flatPh ph → (B.getD i 0).testBit x = true → False := fun x hx hB =>
        (hl.listed (hlt x hx)).1 (listed_before hcert hback hl.closed (i + 1) i x oi (by omega) hoi (hlt x hx) hB hall) hx
      rw [List.mem_append] at hu
      rcases hu with hu | hu
      · obtain ⟨p, hp, rfl⟩ := List.mem_map.1 hu
        obtain ⟨pre, post, rfl⟩ := List.append_of_mem hp
        have hap1 : ∀ x ∈ pre, ∀ ox, ops[x.1]? = some ox → ox.apart ops oi = true := fun x hx ox hox => by
          have hxm : x.1 ∈ (pre ++ p :: post).map (·.1) ++ flatPh ph := by
            rw [List.mem_append]; exact .inl (List.mem_map.2 ⟨x, by simp [hx], rfl⟩)
          have hne : p.1 ≠ x.1 := fun e => by
            rw [List.map_append, List.map_cons, List.append_assoc] at hnd
            exact (List.nodup_append.1 hnd).2.2 x.1 (List.mem_map.2 ⟨x, hx, rfl⟩) p.1 (by simp) e.symm
          have htx : noDep ops x.1 p.1 = true := by
            rw [List.map_append, List.map_cons, List.append_assoc] at htop
            exact (List.pairwise_append.1 htop).2.2 x.1 (List.mem_map.2 ⟨x, hx, rfl⟩) p.1 (by simp)
          exact (apart_of (hap p hp) hoi hox hne (noDep_spec htx hox) (notdep x.1 hxm)).2
        obtain ⟨v, hy, hs2⟩ := SeqF.front hsel hoi pre post a a' hseq hap1
        have hsl : ((pre ++ post).map (·.1) ++ flatPh ph).Sublist ((pre ++ p :: post).map (·.1) ++ flatPh ph) :=
          (((List.sublist_cons_self p post).append_left pre).map _).append_right _
        have hnd2 : p.1 ∉ (pre ++ post).map (·.1) ++ flatPh ph := by
          have hper : ((pre ++ p :: post).map (·.1) ++ flatPh ph).Perm (p.1 :: ((pre ++ post).map (·.1) ++ flatPh ph)) := by
            have := (List.perm_middle (a := p) (l₁ := pre) (l₂ := post)).map (·.1)
            exact this.append_right _
          exact (List.nodup_cons.1 (hper.nodup_iff.1 hnd)).1
        refine YieldsAt.wpOp' hoi (hy w (hf p hp)) (ih (pre ++ post) pend ph _ _ a' w ?_ (hl.set hi fun j => ?_) (hnd.sublist hsl) (fun j hj => hlt j (hsl.subset hj)) (htop.sublist hsl) hdep (fun q hq => hap q ?_) hapE (fun q hq => hsub q ?_) (fun q hq => hf q ?_) hs2 h)
        · simp only [List.length_append, List.length_map, List.length_cons] at hn ⊢; omega
        · constructor
          · intro hj
            exact ⟨hsl.subset hj, fun e => hnd2 (e ▸ hj)⟩
          · rintro ⟨hj, hne⟩
            simp only [List.map_append, List.map_cons, List.mem_append, List.mem_cons] at hj ⊢
            rcases hj with (hj | hj | hj) | hj
            · exact .inl (.inl hj)
            · exact absurd hj hne
            · exact .inl (.inr hj)
            · exact .inr hj
        all_goals
          rw [List.mem_append] at hq
          simp only [List.mem_append, List.mem_cons]
          exact hq.imp id .inr
      · cases ph with
        | nil => cases hu
        | cons x r =>
          obtain ⟨l, E⟩ := x
          obtain ⟨hd1, hd2⟩ := phDeps_head hdep
          have hil : i = l := by
            rcases List.mem_cons.1 hu with h1 | h1
            · exact h1
            · exact (before l (by simp [flatPh]) (hd1 i h1)).elim
          subst hil
          have hap1 : ∀ x ∈ er, ∀ ox, ops[x.1]? = some ox → ox.apart ops oi = true := fun x hx ox hox => by
            have hxm : x.1 ∈ er.map (·.1) := List.mem_map.2 ⟨x, hx, rfl⟩
            have hne : x.1 ≠ i := fun e => (List.nodup_append.1 hnd).2.2 x.1 hxm i (by simp [flatPh]) e
            have htx : noDep ops x.1 i = true := (List.pairwise_append.1 htop).2.2 x.1 hxm i (by simp [flatPh])
            exact (apart_of (hap x hx) hox hoi hne (notdep x.1 (by rw [List.mem_append]; exact .inl hxm)) (noDep_spec htx hox)).1
          have hker : ∀ x ∈ er, x ∈ keepP B i pend := fun x hx => by
            refine List.mem_filter.2 ⟨hsub x hx, ?_⟩
            cases hb : (B.getD i 0).testBit x.1
            · rfl
            · exact (before x.1 (by rw [List.mem_append]; exact .inl (List.mem_map.2 ⟨x, hx, rfl⟩)) hb).elim
          have h2 := wpOp_aheadF hsel hQ hoi hseq hap1 h
          refine wpOp_mono (fun a1 w1 => ?_) h2
          rintro ⟨a1', hs1, F, a2, hF, hs2, hf2, h1⟩
          have heq : (er ++ F).map (·.1) ++ flatPh r = er.map (·.1) ++ (E ++ flatPh r) := by rw [List.map_append, hF, List.append_assoc]
          have hsl : (er.map (·.1) ++ (E ++ flatPh r)).Sublist (er.map (·.1) ++ flatPh ((i, E) :: r)) := (List.sublist_cons_self i _).append_left _
          refine ih (er ++ F) (keepP B i pend ++ F) r _ a1 a2 w1 ?_ ?_ ?_ ?_ ?_ hd2 ?_ (fun p hp => hapE p (List.mem_cons_of_mem _ hp)) ?_ ?_ (hs1.app hs2) h1
          · rw [heq]; simp only [flatPh, List.length_append, List.length_cons] at hn ⊢; omega
          · rw [heq]
            refine hl.set hi fun j => ?_
            have hin : i ∉ er.map (·.1) ++ (E ++ flatPh r) := by
              have hper : (er.map (·.1) ++ flatPh ((i, E) :: r)).Perm (i :: (er.map (·.1) ++ (E ++ flatPh r))) := List.perm_middle
              exact (List.nodup_cons.1 (hper.nodup_iff.1 hnd)).1
            constructor
            · intro hj
              exact ⟨hsl.subset hj, fun e => hin (e ▸ hj)⟩
            · rintro ⟨hj, hne⟩
              simp only [flatPh, List.mem_append, List.mem_cons] at hj ⊢
              rcases hj with hj | hj | hj
              · exact .inl hj
              · exact absurd hj hne
              · exact .inr hj
          · rw [heq]; exact hnd.sublist hsl
          · rw [heq]; exact fun j hj => hlt j (hsl.subset hj)
          · rw [heq]; exact htop.sublist hsl
          · intro p hp
            rcases List.mem_append.1 hp with hp | hp
            · exact hap p hp
            · exact hapE (i, E) (by simp) p.1 (hF ▸ List.mem_map.2 ⟨p, hp, rfl⟩)
          · intro p hp
            rcases List.mem_append.1 hp with hp | hp
            · exact List.mem_append_left _ (hker p hp)
            · exact List.mem_append_right _ hp
          · intro p hp
            rcases List.mem_append.1 hp with hp | hp
            · exact hf2 p (List.mem_append_left _ (hker p hp))
            · exact hf2 p (List.mem_append_right _ hp)
/-- A region that draws its order, in phases. -/
theorem wp_region_ph {id : Nat} {ops : Array Oper} {a : Act} {w : World} (E0 : List Nat) (ph : Phs) (hm : P.follows .mixedOrders = true) (hB : phB ops (Region.before ops).toList E0 ph = true)
    (h : ∃ (F : List QF) (a' : Act), F.map (·.1) = E0 ∧ SeqF P ops F a a' ∧ (∀ p ∈ F, p.2 w.drew) ∧ wpPh P ops (NoPanic Q) (Region.before ops).toList ph F a' w.drew) : (Code.region id ops true).wp P Q a w := by
  obtain ⟨F, a', hF, hs, hf, h⟩ := h
  refine wp_region_noPanic (wp_region_any hm ?_)
  have chk := phB_spec hB
  have hlen : (F.map (·.1) ++ flatPh ph).length = ops.size := by
    have h1 : (E0 ++ flatPh ph).Perm (List.range ops.size) := by
      rw [List.perm_ext_iff_of_nodup chk.nodup List.nodup_range]
      intro i
      simp only [List.mem_range]
      exact ⟨chk.lt i, chk.all i⟩
    rw [hF, h1.length_eq, List.length_range]
  rw [← hF] at chk
  have := wpAny_ph (Q := NoPanic Q) chk.sel chk.back chk.cert (fun _ _ _ h => h) ops.size F F ph (Array.replicate ops.size false) a a' w.drew hlen
    ⟨fun j o _ hj => (by rw [Array.getD_eq_getD_getElem?, Array.getElem?_replicate] at hj; split at hj <;> cases hj), by simp, fun i hi => ⟨fun _ => chk.all i hi, fun _ => by rw [Array.getD_eq_getD_getElem?, Array.getElem?_replicate, if_pos hi]; rfl⟩⟩
    chk.nodup chk.lt chk.topo chk.deps (fun p hp => chk.apart0 p.1 (List.mem_map.2 ⟨p, hp, rfl⟩)) chk.apart (fun _ h => h) hf hs h
  exact this
end Go.Proofs.Ytkggnbabnfhcpaa
end
section
/- A region that draws its order, as a tree: what acts goes in every order that is open; what only reads goes as early as it can, with the fact that it rests on. No program in sight. -/
namespace Go.Proofs.Ytkggnbabnfhcpaa
open Go.RowKit
variable {P : Program} {ops : Array Oper} {Q : Exit → Act → World → Prop}
def bit (B : List Nat) (x y : Nat) : Bool := (B.getD x 0).testBit y
/-- What acts and waits for nothing that acts. -/
def readyL (B L : List Nat) : List Nat := L.filter fun l => L.all fun m => Nat.beq m l || !bit B l m
/-- What reads and waits for nothing that acts; the rest. -/
def newQ (B L Qs : List Nat) : List Nat := Qs.filter fun q => L.all fun m => !bit B q m
def restQ (B L Qs : List Nat) : List Nat := Qs.filter fun q => !(L.all fun m => !bit B q m)
def wpTr (P : Program) (ops : Array Oper) (Q : Exit → Act → World → Prop) (B : List Nat) : Nat → List Nat → List Nat → List QF → Act → World → Prop
  | 0, _, _, _, a, w => Q .normal a w
  | n + 1, L, Qs, pend, a, w => ∀ l ∈ readyL B L, wpOp P ops Q l (fun a1 w1 => ∃ (F : List QF) (a2 : Act), F.map (·.1) = newQ B (L.erase l) Qs ∧ SeqF P ops F a1 a2 ∧ (∀ p ∈ keepP B l pend ++ F, p.2 w1) ∧ wpTr P ops Q B n (L.erase l) (restQ B (L.erase l) Qs) (keepP B l pend ++ F) a2 w1) a w
def depB (ops : Array Oper) (B : List Nat) : Bool := (List.range ops.size).all fun x => (List.range ops.size).all fun y => !(((ops[x]?).map fun o => depOf o y).getD false) || bit B x y
def transB (B : List Nat) (n : Nat) : Bool := (List.range n).all fun x => (List.range n).all fun y => !bit B x y || (List.range n).all fun z => !bit B y z || bit B x z
structure TrOk (ops : Array Oper) (B L Qs : List Nat) : Prop where
  sel : Region.noSelect ops = true
  all : ∀ i, i < ops.size → i ∈ L ++ Qs
  lt : ∀ i, i ∈ L ++ Qs → i < ops.size
  nodup : (L ++ Qs).Nodup
  back : backOk ops = true
  cert : certOk ops B = true
  dep : depB ops B = true
  trans : transB B ops.size = true
  sorted : Qs.Pairwise (· < ·)
  apart : ∀ i, i ∈ Qs → apartOk ops i = true
def trB (ops : Array Oper) (B L Qs : List Nat) : Bool :=
  Region.noSelect ops && ((List.range ops.size).all fun i => (L ++ Qs).contains i) && ((L ++ Qs).all fun i => decide (i < ops.size)) && decide (L ++ Qs).Nodup && backOk ops && certOk ops B && depB ops B && transB B ops.size && decide (Qs.Pairwise (· < ·)) && Qs.all fun i => apartOk ops i
theorem trB_spec {B L Qs : List Nat} (h : trB ops B L Qs = true) : TrOk ops B L Qs := by
  simp only [trB, Bool.and_eq_true, List.all_eq_true, List.mem_range, List.contains_iff_mem, decide_eq_true_eq] at h
  obtain ⟨⟨⟨⟨⟨⟨⟨⟨⟨h1, h2⟩, h3⟩, h4⟩, h5⟩, h6⟩, h7⟩, h8⟩, h9⟩, h10⟩ := h
  exact ⟨h1, h2, h3, h4, h5, h6, h7, h8, h9, h10⟩
theorem depB_get {B : List Nat} (h : depB ops B = true) {x y : Nat} {o : Oper} (ho : ops[x]? = some o) (hy : y < ops.size) (hb : bit B x y = false) : depOf o y = false := by
  have hx : x < ops.size := (Array.getElem?_eq_some_iff.1 ho).1
  unfold depB at h
  rw [List.all_eq_true] at h
  have h := h x (List.mem_range.2 hx)
  rw [List.all_eq_true] at h
  have h := h y (List.mem_range.2 hy)
  rw [ho, hb] at h
  simpa using h
theorem transB_get {B : List Nat} {n x y z : Nat} (h : transB B n = true) (hx : x < n) (hy : y < n) (hz : z < n) (h1 : bit B x y = true) (h2 : bit B y z = true) : bit B x z = true := by
  simp only [transB, List.all_eq_true, List.mem_range, Bool.or_eq_true, Bool.not_eq_true'] at h
  have h := (h x hx y hy).resolve_left (by simp [h1])
  exact (h z hz).resolve_left (by simp [h2])
theorem enabled_iff {B L : List Nat} {q : Nat} : (L.all fun m => !bit B q m) = true ↔ ∀ m ∈ L, bit B q m = false := by simp [List.all_eq_true]
theorem mem_newQ {B L Qs : List Nat} {q : Nat} : q ∈ newQ B L Qs ↔ q ∈ Qs ∧ ∀ m ∈ L, bit B q m = false := by unfold newQ; rw [List.mem_filter, enabled_iff]
theorem mem_restQ {B L Qs : List Nat} {q : Nat} : q ∈ restQ B L Qs ↔ q ∈ Qs ∧ ∃ m ∈ L, bit B q m = true := by
  unfold restQ; rw [List.mem_filter]; simp
theorem mem_readyL {B L : List Nat} {l : Nat} : l ∈ readyL B L ↔ l ∈ L ∧ ∀ m ∈ L, m ≠ l → bit B l m = false := by
  unfold readyL
  rw [List.mem_filter]
  simp only [List.all_eq_true, Bool.or_eq_true, Bool.not_eq_true']
  constructor
  · rintro ⟨h1, h2⟩
    exact ⟨h1, fun m hm hne => (h2 m hm).resolve_left fun e => hne (Nat.eq_of_beq_eq_true e)⟩
  · rintro ⟨h1, h2⟩
    refine ⟨h1, fun m hm => ?_⟩
    by_cases he : m = l
    · subst he; exact .inl (Nat.beq_refl m)
    · exact .inr (h2 m hm he)
theorem split_perm {B L Qs : List Nat} : (newQ B L Qs ++ restQ B L Qs).Perm Qs := List.filter_append_perm _ _
theorem wpAny_tr {B : List Nat} (hsel : Region.noSelect ops = true) (hback : backOk ops = true) (hcert : certOk ops B = true) (hdep : depB ops B = true) (htr : transB B ops.size = true) (hQ : ∀ c a w, ¬ Q (.panic c) a w) : ∀ (n k : Nat) (er pend : List QF) (L Qs : List Nat) (listed : Array Bool) (a a' : Act) (w : World),
    er.length + L.length + Qs.length = n → L.length = k → Left ops listed (er.map (·.1) ++ (L ++ Qs)) → (er.map (·.1) ++ (L ++ Qs)).Nodup → (∀ i ∈ er.map (·.1) ++ (L ++ Qs), i < ops.size) →
    (er.map (·.1)).Pairwise (fun x y => noDep ops x y = true) → (∀ x ∈ er, ∀ m ∈ L, bit B x.1 m = false) → (∀ q ∈ Qs, ∃ m ∈ L, bit B q m = true) → Qs.Pairwise (· < ·) → (∀ p ∈ er, apartOk ops p.1 = true) → (∀ q ∈ Qs, apartOk ops q = true) →
    (∀ p ∈ er, p ∈ pend) → (∀ p ∈ er, p.2 w) → SeqF P ops er a a' → wpTr P ops Q B k L Qs pend a' w → wpAny P .any ops Q n listed a w := by
  intro n
  induction n with
  | zero =>
    intro k er pend L Qs listed a a' w hn hk hl _ _ _ _ _ _ _ _ _ _ hseq h
    have h1 : er = [] := List.eq_nil_of_length_eq_zero (by omega)
    have h2 : L = [] := List.eq_nil_of_length_eq_zero (by omega)
    have h3 : Qs = [] := List.eq_nil_of_length_eq_zero (by omega)
    subst h1; subst h2; subst h3
    have hk : k = 0 := by simpa using hk.symm
    subst hk
    rw [show a' = a from hseq] at h
    exact ⟨hl.done, h⟩
  | succ n ih =>
    intro k er pend L Qs listed a a' w hn hk hl hnd hlt htop hen hblk hsrt hap hapQ hsub hf hseq h
    refine ⟨fun h0 => ?_, fun i hi => ?_⟩
    · exfalso
      obtain ⟨i, hi⟩ : ∃ i, i ∈ er.map (·.1) ++ (L ++ Qs) := by
        cases hh : er.map (·.1) ++ (L ++ Qs) with
        | nil =>
          have := congrArg List.length hh
          simp only [List.length_append, List.length_map, List.length_nil] at this
          omega
        | cons x l => exact ⟨x, by simp⟩
      exact hl.next hback (i + 1) i (by omega) (hlt i hi) hi h0
    · obtain ⟨hu, his, oi, hoi, hall⟩ := hl.ready hi
      have notdep : ∀ x, x ∈ er.map (·.1) ++ (L ++ Qs) → depOf oi x = false := fun x hx => depOf_false fun e he hbd hex => by
        have h1 := hall e he hbd
        rw [hex] at h1
        exact (hl.listed (hlt x hx)).1 h1 hx
      have before : ∀ x, x ∈ er.map (·.1) ++ (L ++ Qs) → bit B i x = true → False := fun x hx hB =>
        (hl.listed (hlt x hx)).1 (listed_before hcert hback hl.closed (i + 1) i x oi (by omega) hoi (hlt x hx) hB hall) hx
      rw [List.mem_append] at hu
      rcases hu with hu | hu
      · obtain ⟨p, hp, rfl⟩ := List.mem_map.1 hu
        obtain ⟨pre, post, rfl⟩ := List.append_of_mem hp
        have hap1 : ∀ x ∈ pre, ∀ ox, ops[x.1]? = some ox → ox.apart ops oi = true := fun x hx ox hox => by
          have hxm : x.1 ∈ (pre ++ p :: post).map (·.1) ++ (L ++ Qs) := by
            rw [List.mem_append]; exact .inl (List.mem_map.2 ⟨x, by simp [hx], rfl⟩)
          have hne : p.1 ≠ x.1 := fun e => by
            rw [List.map_append, List.map_cons, List.append_assoc] at hnd
            exact (List.nodup_append.1 hnd).2.2 x.1 (List.mem_map.2 ⟨x, hx, rfl⟩) p.1 (by simp) e.symm
          have htx : noDep ops x.1 p.1 = true := by
            rw [List.map_append, List.map_cons] at htop
            exact (List.pairwise_append.1 htop).2.2 x.1 (List.mem_map.2 ⟨x, hx, rfl⟩) p.1 (by simp)
          exact (apart_of (hap p hp) hoi hox hne (noDep_spec htx hox) (notdep x.1 hxm)).2
        obtain ⟨v, hy, hs2⟩ := SeqF.front hsel hoi pre post a a' hseq hap1
        have hsl : (pre ++ post).Sublist (pre ++ p :: post) := (List.sublist_cons_self p post).append_left pre
        have hsl2 : ((pre ++ post).map (·.1) ++ (L ++ Qs)).Sublist ((pre ++ p :: post).map (·.1) ++ (L ++ Qs)) := (hsl.map _).append_right _
        have hnd2 : p.1 ∉ (pre ++ post).map (·.1) ++ (L ++ Qs) := by
          have hper : ((pre ++ p :: post).map (·.1) ++ (L ++ Qs)).Perm (p.1 :: ((pre ++ post).map (·.1) ++ (L ++ Qs))) := by
            have := (List.perm_middle (a := p) (l₁ := pre) (l₂ := post)).map (·.1)
            exact this.append_right _
          exact (List.nodup_cons.1 (hper.nodup_iff.1 hnd)).1
        refine YieldsAt.wpOp' hoi (hy w (hf p hp)) (ih k (pre ++ post) pend L Qs _ _ a' w ?_ hk (hl.set hi fun j => ?_) (hnd.sublist hsl2) (fun j hj => hlt j (hsl2.subset hj)) (htop.sublist (hsl.map _)) (fun x hx => hen x (hsl.subset hx)) hblk hsrt (fun q hq => hap q (hsl.subset hq)) hapQ (fun q hq => hsub q (hsl.subset hq)) (fun q hq => hf q (hsl.subset hq)) hs2 h)
        · simp only [List.length_append, List.length_cons] at hn ⊢; omega
        · constructor
          · intro hj
            exact ⟨hsl2.subset hj, fun e => hnd2 (e ▸ hj)⟩
          · rintro ⟨hj, hne⟩
            simp only [List.map_append, List.map_cons, List.mem_append, List.mem_cons] at hj ⊢
            rcases hj with (hj | hj | hj) | hj
            · exact .inl (.inl hj)
            · exact absurd hj hne
            · exact .inl (.inr hj)
            · exact .inr hj
      · rcases List.mem_append.1 hu with hu | hu
        · obtain ⟨k, rfl⟩ : ∃ m, k = m + 1 := ⟨k - 1, by have := List.length_pos_of_mem hu; omega⟩
          have hrd : i ∈ readyL B L := mem_readyL.2 ⟨hu, fun m hm hne => by
            cases hb : bit B i m
            · rfl
            · exact (before m (by simp [hm]) hb).elim⟩
          have h := h i hrd
          have hxl : ∀ x ∈ er, x.1 ≠ i := fun x hx e => (List.nodup_append.1 hnd).2.2 x.1 (List.mem_map.2 ⟨x, hx, rfl⟩) i (by simp [hu]) e
          have hap1 : ∀ x ∈ er, ∀ ox, ops[x.1]? = some ox → ox.apart ops oi = true := fun x hx ox hox => by
            have hxm : x.1 ∈ er.map (·.1) := List.mem_map.2 ⟨x, hx, rfl⟩
            exact (apart_of (hap x hx) hox hoi (hxl x hx) (notdep x.1 (by rw [List.mem_append]; exact .inl hxm)) (depB_get hdep hox his (hen x hx i hu))).1
          have hker : ∀ x ∈ er, x ∈ keepP B i pend := fun x hx => by
            refine List.mem_filter.2 ⟨hsub x hx, ?_⟩
            cases hb : (B.getD i 0).testBit x.1
            · rfl
            · exact (before x.1 (by rw [List.mem_append]; exact .inl (List.mem_map.2 ⟨x, hx, rfl⟩)) hb).elim
          have h2 := wpOp_aheadF hsel hQ hoi hseq hap1 h
          refine wpOp_mono (fun a1 w1 => ?_) h2
          rintro ⟨a1', hs1, F, a2, hF, hs2, hf2, h1⟩
          have hndL : L.Nodup := (List.nodup_append.1 (List.nodup_append.1 hnd).2.1).1
          have hndQ : Qs.Nodup := (List.nodup_append.1 (List.nodup_append.1 hnd).2.1).2.1
          have hper : ((er ++ F).map (·.1) ++ (L.erase i ++ restQ B (L.erase i) Qs)).Perm (er.map (·.1) ++ (L.erase i ++ Qs)) := by
            rw [List.map_append, hF, List.append_assoc]
            refine List.Perm.append_left _ ?_
            have hsp := split_perm (B := B) (L := L.erase i) (Qs := Qs)
            have h1 : (newQ B (L.erase i) Qs ++ (L.erase i ++ restQ B (L.erase i) Qs)).Perm (L.erase i ++ (newQ B (L.erase i) Qs ++ restQ B (L.erase i) Qs)) := by
              rw [← List.append_assoc, ← List.append_assoc]
              exact List.Perm.append_right _ List.perm_append_comm
            exact h1.trans (List.Perm.append_left _ hsp)
          have hsl : (er.map (·.1) ++ (L.erase i ++ Qs)).Sublist (er.map (·.1) ++ (L ++ Qs)) := ((List.erase_sublist).append_right _).append_left _
          have hin : i ∉ er.map (·.1) ++ (L.erase i ++ Qs) := by
            have hp2 : (er.map (·.1) ++ (L ++ Qs)).Perm (i :: (er.map (·.1) ++ (L.erase i ++ Qs))) := by
              have h1 : L.Perm (i :: L.erase i) := List.perm_cons_erase hu
              exact (List.Perm.append_left _ (List.Perm.append_right _ h1)).trans List.perm_middle
            exact (List.nodup_cons.1 (hp2.nodup_iff.1 hnd)).1
          have hmem : ∀ j, j ∈ (er ++ F).map (·.1) ++ (L.erase i ++ restQ B (L.erase i) Qs) → j ∈ er.map (·.1) ++ (L ++ Qs) := fun j hj => hsl.subset (hper.mem_iff.1 hj)
          have hFQ : ∀ p ∈ F, p.1 ∈ Qs ∧ ∀ m ∈ L.erase i, bit B p.1 m = false := fun p hp => mem_newQ.1 (hF ▸ List.mem_map.2 ⟨p, hp, rfl⟩)
          refine ih k (er ++ F) (keepP B i pend ++ F) (L.erase i) (restQ B (L.erase i) Qs) _ a1 a2 w1 ?_ ?_ ?_ ?_ (fun j hj => hlt j (hmem j hj)) ?_ ?_ (fun q hq => (mem_restQ.1 hq).2) (hsrt.sublist List.filter_sublist) ?_ (fun q hq => hapQ q (mem_restQ.1 hq).1) ?_ ?_ (hs1.app hs2) h1
          · have := hper.length_eq
            simp only [List.length_append, List.length_map] at this ⊢
            have h3 := List.length_erase_of_mem hu
            have h4 := List.length_pos_of_mem hu
            omega
          · rw [List.length_erase_of_mem hu]; omega
          · refine hl.set hi fun j => ?_
            rw [hper.mem_iff]
            constructor
            · intro hj
              exact ⟨hsl.subset hj, fun e => hin (e ▸ hj)⟩
            · rintro ⟨hj, hne⟩
              simp only [List.mem_append] at hj ⊢
              rcases hj with hj | hj | hj
              · exact .inl hj
              · exact .inr (.inl ((List.mem_erase_of_ne hne).2 hj))
              · exact .inr (.inr hj)
          · exact hper.nodup_iff.2 (hnd.sublist hsl)
          · rw [List.map_append, List.pairwise_append]
            refine ⟨htop, ?_, fun x hx y hy => ?_⟩
            · rw [hF]
              refine (hsrt.sublist (List.filter_sublist (p := fun q => (L.erase i).all fun m => !bit B q m))).imp fun {x y} hxy => ?_
              unfold noDep
              cases hox : ops[x]? with
              | none => rfl
              | some ox =>
                have hxs : x < ops.size := (Array.getElem?_eq_some_iff.1 hox).1
                have : depOf ox y = false := depOf_false fun e he hbd hex => by
                  have h4 := hback
                  simp only [backOk, List.all_eq_true, List.mem_range] at h4
                  have h5 := h4 x hxs
                  rw [hox] at h5
                  simp only [Option.map_some, Option.getD_some, Array.all_eq_true_iff_forall_mem, Bool.or_eq_true, Bool.not_eq_true', decide_eq_true_eq] at h5
                  have h6 : e.on < x := (h5 e he).resolve_left (by simp [hbd])
                  omega
                simp [this]
            · obtain ⟨p, hp, rfl⟩ := List.mem_map.1 hx
              obtain ⟨q, hq, rfl⟩ := List.mem_map.1 hy
              have hqQ := (hFQ q hq).1
              obtain ⟨m, hm, hbm⟩ := hblk q.1 hqQ
              have hqs := hlt q.1 (by simp [hqQ])
              have hms := hlt m (by simp [hm])
              have hps := hlt p.1 (by rw [List.mem_append]; exact .inl hx)
              unfold noDep
              cases hox : ops[p.1]? with
              | none => rfl
              | some ox =>
                have : depOf ox q.1 = false := by
                  refine depB_get hdep hox hqs ?_
                  cases hb : bit B p.1 q.1
                  · rfl
                  · have := transB_get htr hps hqs hms hb hbm
                    rw [hen p hp m hm] at this; cases this
                simp [this]
          · intro x hx m hm
            rcases List.mem_append.1 hx with hx | hx
            · exact hen x hx m (List.mem_of_mem_erase hm)
            · exact (hFQ x hx).2 m hm
          · intro p hp
            rcases List.mem_append.1 hp with hp | hp
            · exact hap p hp
            · exact hapQ p.1 (hFQ p hp).1
          · intro p hp
            rcases List.mem_append.1 hp with hp | hp
            · exact List.mem_append_left _ (hker p hp)
            · exact List.mem_append_right _ hp
          · intro p hp
            rcases List.mem_append.1 hp with hp | hp
            · exact hf2 p (List.mem_append_left _ (hker p hp))
            · exact hf2 p (List.mem_append_right _ hp)
        · obtain ⟨m, hm, hb⟩ := hblk i hu
          exact (before m (by simp [hm]) hb).elim
/-- A region that draws its order. -/
theorem wp_region_tr {id : Nat} {ops : Array Oper} {a : Act} {w : World} (B L Qs : List Nat) (hm : P.follows .mixedOrders = true) (hB : trB ops B L Qs = true)
    (h : ∃ (F : List QF) (a' : Act), F.map (·.1) = newQ B L Qs ∧ SeqF P ops F a a' ∧ (∀ p ∈ F, p.2 w.drew) ∧ wpTr P ops (NoPanic Q) B L.length L (restQ B L Qs) F a' w.drew) : (Code.region id ops true).wp P Q a w := by
  obtain ⟨F, a', hF, hs, hf, h⟩ := h
  refine wp_region_noPanic (wp_region_any hm ?_)
  have chk := trB_spec hB
  have hper : (F.map (·.1) ++ (L ++ restQ B L Qs)).Perm (L ++ Qs) := by
    rw [hF]
    have h1 : (newQ B L Qs ++ (L ++ restQ B L Qs)).Perm (L ++ (newQ B L Qs ++ restQ B L Qs)) := by
      rw [← List.append_assoc, ← List.append_assoc]
      exact List.Perm.append_right _ List.perm_append_comm
    exact h1.trans (List.Perm.append_left _ split_perm)
  have hlen : F.length + L.length + (restQ B L Qs).length = ops.size := by
    have h1 : (L ++ Qs).Perm (List.range ops.size) := by
      rw [List.perm_ext_iff_of_nodup chk.nodup List.nodup_range]
      intro i
      simp only [List.mem_range]
      exact ⟨chk.lt i, chk.all i⟩
    have h2 := (hper.trans h1).length_eq
    simp only [List.length_append, List.length_map, List.length_range] at h2
    omega
  have hFQ : ∀ p ∈ F, p.1 ∈ Qs ∧ ∀ m ∈ L, bit B p.1 m = false := fun p hp => mem_newQ.1 (hF ▸ List.mem_map.2 ⟨p, hp, rfl⟩)
  refine wpAny_tr (Q := NoPanic Q) chk.sel chk.back chk.cert chk.dep chk.trans (fun _ _ _ h => h) ops.size L.length F F L (restQ B L Qs) (Array.replicate ops.size false) a a' w.drew hlen rfl
    ⟨fun j o _ hj => (by rw [Array.getD_eq_getD_getElem?, Array.getElem?_replicate] at hj; split at hj <;> cases hj), by simp, fun i hi => ⟨fun _ => hper.mem_iff.2 (chk.all i hi), fun _ => by rw [Array.getD_eq_getD_getElem?, Array.getElem?_replicate, if_pos hi]; rfl⟩⟩
    (hper.nodup_iff.2 chk.nodup) (fun j hj => chk.lt j (hper.mem_iff.1 hj)) ?_ (fun x hx => (hFQ x hx).2) (fun q hq => (mem_restQ.1 hq).2) (chk.sorted.sublist List.filter_sublist) (fun p hp => chk.apart p.1 (hFQ p hp).1) (fun q hq => chk.apart q (mem_restQ.1 hq).1) (fun _ h => h) hf hs h
  rw [hF]
  refine (chk.sorted.sublist (List.filter_sublist (p := fun q => L.all fun m => !bit B q m))).imp fun {x y} hxy => ?_
  unfold noDep
  cases hox : ops[x]? with
  | none => rfl
  | some ox =>
    have hxs : x < ops.size := (Array.getElem?_eq_some_iff.1 hox).1
    have : depOf ox y = false := depOf_false fun e he hbd hex => by
      have h4 := chk.back
      simp only [backOk, List.all_eq_true, List.mem_range] at h4
      have h5 := h4 x hxs
      rw [hox] at h5
      simp only [Option.map_some, Option.getD_some, Array.all_eq_true_iff_forall_mem, Bool.or_eq_true, Bool.not_eq_true', decide_eq_true_eq] at h5
      have h6 : e.on < x := (h5 e he).resolve_left (by simp [hbd])
      omega
    simp [this]
end Go.Proofs.Ytkggnbabnfhcpaa
end
section
/- Slices that are appended to: what a value owns, and 'append' onto it, from whatever source. No program in sight. -/
namespace Go.Proofs.Ytkggnbabnfhcpaa
open Go.RowKit
/-- v is a slice of n elements of type e (size cells each) whose cells are xs, in a block of its own from base on; or nil. -/
def Own (w : World) (base : Nat) (e : TypeId) (size : Nat) (v : Value) (n : Nat) (xs : List Value) : Prop :=
  xs.length = n * size ∧
  ((v = .slice none 0 0 ∧ n = 0) ∨
   ∃ g off cap cur, v = .slice (some ⟨g, off, none⟩) n cap ∧ base ≤ g ∧ w.heap[g]? = some (.cells cur e (0, 0)) ∧ n ≤ cap ∧ cap ≤ maxLen ∧ off + cap * size ≤ cur.size ∧ (cur.toList.drop off).take (n * size) = xs)
variable {P : Program} {w : World} {base : Nat} {e : TypeId} {size : Nat} {v : Value} {n : Nat} {xs : List Value}
theorem Own.nil (w : World) (base : Nat) (e : TypeId) (size : Nat) : Own w base e size (.slice none 0 0) 0 [] := ⟨by simp, .inl ⟨rfl, rfl⟩⟩
theorem Own.isSlice (h : Own w base e size v n xs) : ∃ a cap, v = .slice a n cap := by
  rcases h.2 with ⟨rfl, rfl⟩ | ⟨g, off, cap, cur, rfl, _⟩
  · exact ⟨_, _, rfl⟩
  · exact ⟨_, _, rfl⟩
theorem Own.lt (h : Own w base e size v n xs) : ∀ k, v.ownBlock = some k → base ≤ k ∧ k < w.heap.size := by
  intro k hk
  rcases h.2 with ⟨rfl, _⟩ | ⟨g, off, cap, cur, rfl, hb, hg, _⟩
  · simp [Value.ownBlock] at hk
  · simp [Value.ownBlock] at hk
    subst hk
    exact ⟨hb, heap_lt hg⟩
theorem Own.keep {w' : World} (h : Own w base e size v n xs) (hk : ∀ k, v.ownBlock = some k → w'.heap[k]? = w.heap[k]?) : Own w' base e size v n xs := by
  refine ⟨h.1, ?_⟩
  rcases h.2 with hn | ⟨g, off, cap, cur, rfl, hb, hg, r⟩
  · exact .inl hn
  · exact .inr ⟨g, off, cap, cur, rfl, hb, (hk g rfl).trans hg, r⟩
theorem Own.kept {w' : World} {row : Option Nat} (h : Own w base e size v n xs) (hg : w.grownBy w' row) (hne : v.ownBlock = none ∨ v.ownBlock ≠ row) : Own w' base e size v n xs :=
  h.keep fun k hk => hg.block k (h.lt k hk).2 (by rw [hk] at hne; simpa using hne)
theorem Own.alloc (h : Own w base e size v n xs) (o : Obj) : Own (w.alloc o) base e size v n xs := h.keep fun k hk => Below.heap_alloc _ _ _ (h.lt k hk).2
theorem Own.below {w' : World} {B : Nat} (h : Own w base e size v n xs) (hb : Below B w w') (hB : w.heap.size ≤ B) : Own w' base e size v n xs := h.keep fun k hk => hb.block k (Nat.lt_of_lt_of_le (h.lt k hk).2 hB)
theorem Own.base_le {b' : Nat} (h : Own w base e size v n xs) (hk : ∀ k, v.ownBlock = some k → b' ≤ k) : Own w b' e size v n xs := by
  refine ⟨h.1, ?_⟩
  rcases h.2 with hn | ⟨g, off, cap, cur, rfl, hb, r⟩
  · exact .inl hn
  · exact .inr ⟨g, off, cap, cur, rfl, hk g rfl, r⟩
theorem Own.row1 (h : Own w base e 1 v n xs) : ∃ a cap, v = .slice a n cap ∧ RowAt w a xs ∧ xs.length = n := by
  have hl := h.1
  rw [Nat.mul_one] at hl
  rcases h.2 with ⟨rfl, rfl⟩ | ⟨g, off, cap, cur, rfl, hb, hg, hn, hm, hs, ht⟩
  · exact ⟨_, _, rfl, .inl (List.eq_nil_of_length_eq_zero hl), hl⟩
  · exact ⟨_, _, rfl, .ofBlock hg (by rw [hl]; rw [Nat.mul_one] at ht; exact ht), hl⟩
/-- The cells of an owned slice, as a source. -/
theorem Own.cells (h : Own w base e size v n xs) : ∀ g off cap, v = .slice (some ⟨g, off, none⟩) n cap → ∀ j u, xs[j]? = some u → w.cell? ⟨g, off + j, none⟩ = some u := by
  intro g off cap hv j u hu
  rcases h.2 with ⟨rfl, _⟩ | ⟨g', off', cap', cur, rfl, hb, hg, hn, hm, hs, ht⟩
  · cases hv
  · injection hv with h1 h2 h3
    injection h1 with h1
    injection h1 with h1 h4
    subst h1; subst h4
    rw [cell_of_row _ _ _ _ _ _ hg, ← Array.getElem?_toList]
    rw [← ht, List.getElem?_take] at hu
    split at hu
    · rw [List.getElem?_drop] at hu; exact hu
    · cases hu
theorem run_app5 (t tx ty : TypeId) (i : TypeInfo) (z : Value) (bytes : Nat) (ht : P.underlying t = some (.slice e)) (hi : P.info? e = some i) (hz : i.zero = some z) (hsize : i.size = size) (hby : i.bytes = bytes) (hzs : z.cells.size = size)
    (ho : Own w base e size v n xs) (x : Value) (m : Nat) (news : List Value) (hs : Src P size tx x m news w) (h63 : n + m ≤ maxLen) (hbytes : (n + m) * bytes ≤ 140737488355328) (hbase : base ≤ w.heap.size) :
    ∃ v' w', (Builtin.append_ #[t, tx] ty #[v, x]).run P w = .ok v' w' ∧ Own w' base e size v' (n + m) (xs ++ news) ∧ w.grownBy w' v.ownBlock ∧ (v'.ownBlock = v.ownBlock ∨ ∃ g, v'.ownBlock = some g ∧ w.heap.size ≤ g) ∧ ∀ a c, v = .slice a n c → n + m ≤ c → v' = .slice a (n + m) c := by
  subst hsize
  subst hby
  have hsmall : ((n + m : Nat) : Int) ≤ 9223372036854775807 := by simp only [maxLen] at h63; omega
  have hlen : (xs ++ news).length = (n + m) * i.size := by rw [List.length_append, ho.1, hs.newsLen, Nat.add_mul]
  have grown : ∀ (old : Nat) (row : Option Nat),
      Own (w.drew.alloc (.cells ((xs ++ news).toArray ++ Builtin.zeroCells z.cells (grownCap w (n + m) old e - (n + m))) e)) base e i.size
        (.slice (some ⟨w.heap.size, 0, none⟩) (n + m) (grownCap w (n + m) old e)) (n + m) (xs ++ news) ∧
      w.grownBy (w.drew.alloc (.cells ((xs ++ news).toArray ++ Builtin.zeroCells z.cells (grownCap w (n + m) old e - (n + m))) e)) row := by
    intro old row
    have hge := grownCap_ge w (n + m) old e
    have hcm : grownCap w (n + m) old e ≤ maxLen := grownCap_le_maxLen w (n + m) old e h63
    refine ⟨⟨hlen, .inr ⟨w.heap.size, 0, _, _, rfl, hbase, Go.heap_alloc_new w.drew _, hge, hcm, ?_, ?_⟩⟩, ⟨rfl, rfl, rfl, by simp, fun k hk _ => Below.heap_alloc w.drew _ k hk⟩⟩
    · simp only [Array.size_append, List.size_toArray, size_zeroCells, hzs, hlen]
      rw [← Nat.add_mul, Nat.zero_add, Nat.add_sub_cancel' hge]
      exact Nat.le_refl _
    · simp only [Array.toList_append, List.drop_zero]
      rw [← hlen]
      exact List.take_left
  rcases ho.2 with ⟨rfl, rfl⟩ | ⟨g, off, cap, cur, rfl, hb, hg, hn, hm, hcs, htk⟩
  · have hx0 : xs = [] := List.eq_nil_of_length_eq_zero (by simpa using ho.1)
    subst hx0
    by_cases hm0 : m = 0
    · subst hm0
      have hnews : news = [] := List.eq_nil_of_length_eq_zero (by simpa using hs.newsLen)
      subst hnews
      refine ⟨.slice none 0 0, w, ?_, Own.nil _ _ _ _, ⟨rfl, rfl, rfl, Nat.le_refl _, fun _ _ _ => rfl⟩, .inl rfl, fun a c h _ => by injection h with h1 h2 h3; subst h1; subst h3; rfl⟩
      rcases hs.kind with ⟨e', hk⟩ | hk <;> simp [Builtin.append_, run_underlying ht, run_underlying hk, sizeOf, typeInfo, hi, hs.len, hs.cells]
    · have hr := run_append_grow_src (P := P) w t tx ty e i z ht hi hz none 0 0 [] (run_firstCells_none w.drew i.size 0 0 0) x m news hs (by omega) hsmall (growslice_fits (by omega) hbytes)
      exact ⟨_, _, hr, (grown 0 none).1, (grown 0 _).2, .inr ⟨_, rfl, Nat.le_refl _⟩, fun a c h h2 => by injection h with h1 h3 h4; omega⟩
  · by_cases hr : n + m ≤ cap
    · have hfit : (off + n * i.size) + news.length ≤ cur.size := by
        rw [hs.newsLen]
        have : (n + m) * i.size ≤ cap * i.size := Nat.mul_le_mul_right _ hr
        rw [Nat.add_mul] at this
        omega
      have hst := run_storeCells_at P g (off + n * i.size) e news 0 cur w hg (by simpa using hfit) hs.one
      simp only [Nat.add_zero] at hst
      refine ⟨.slice (some ⟨g, off, none⟩) (n + m) cap, w.setRow g (cur.toList.take (off + n * i.size) ++ news ++ cur.toList.drop (off + n * i.size + news.length)).toArray, ?_, ⟨hlen, .inr ⟨g, off, cap, _, rfl, hb, setRow_heap _ _ _ _ _ _ hg, hr, hm, ?_, ?_⟩⟩, ⟨rfl, rfl, rfl, by simp, fun k _ hk => ?_⟩, .inl rfl, fun a c h _ => by injection h with h1 h2 h3; subst h1; subst h3; rfl⟩
      · rcases hs.kind with ⟨e', hk⟩ | hk <;> simp [Builtin.append_, run_underlying ht, run_underlying hk, sizeOf, typeInfo, hi, hs.len, hr, hs.cells, Addr.add_lit, hst]
      · simp only [List.size_toArray, List.length_append, List.length_take, List.length_drop, Array.length_toList]
        omega
      · have hl2 : off ≤ cur.size := by omega
        have hx := ho.1
        have hlt : (cur.toList.take (off + n * i.size)).drop off = xs := by
          rw [List.drop_take, Nat.add_sub_cancel_left, htk]
        simp only [List.append_assoc]
        rw [List.drop_append_of_le_length (by simp only [List.length_take, Array.length_toList]; omega), hlt, ← List.append_assoc, ← hlen]
        exact List.take_left
      · simp only [World.setRow, Array.getElem?_modify]
        rw [if_neg (fun h => hk (by simp [Value.ownBlock, h]))]
    · have hlast : xs.length = n * i.size := ho.1
      have hcell : ∀ j u, xs[j]? = some u → w.drew.cell? ((⟨g, off, none⟩ : Addr).add j) = some u := by
        intro j u hu
        rw [Addr.add_lit]
        have := ho.cells g off cap rfl j u hu
        simpa using this
      have hr' := run_append_grow_src (P := P) w t tx ty e i z ht hi hz (some ⟨g, off, none⟩) n cap xs (run_firstCells_some w.drew i.size n ⟨g, off, none⟩ n cap xs hlast hcell) x m news hs (by omega) hsmall (growslice_fits (by omega) hbytes)
      exact ⟨_, _, hr', (grown cap none).1, (grown cap _).2, .inr ⟨_, rfl, Nat.le_refl _⟩, fun a c h h2 => by injection h with h1 h3 h4; omega⟩
theorem run_app (t tx ty : TypeId) (i : TypeInfo) (z : Value) (bytes : Nat) (ht : P.underlying t = some (.slice e)) (hi : P.info? e = some i) (hz : i.zero = some z) (hsize : i.size = size) (hby : i.bytes = bytes) (hzs : z.cells.size = size)
    (ho : Own w base e size v n xs) (x : Value) (m : Nat) (news : List Value) (hs : Src P size tx x m news w) (h63 : n + m ≤ maxLen) (hbytes : (n + m) * bytes ≤ 140737488355328) (hbase : base ≤ w.heap.size) :
    ∃ v' w', (Builtin.append_ #[t, tx] ty #[v, x]).run P w = .ok v' w' ∧ Own w' base e size v' (n + m) (xs ++ news) ∧ w.grownBy w' v.ownBlock ∧ (v'.ownBlock = v.ownBlock ∨ ∃ g, v'.ownBlock = some g ∧ w.heap.size ≤ g) := by
  obtain ⟨v', w', h1, h2, h3, h4, _⟩ := run_app5 (P := P) t tx ty i z bytes ht hi hz hsize hby hzs ho x m news hs h63 hbytes hbase
  exact ⟨v', w', h1, h2, h3, h4⟩
/-- 'append', for the walk. -/
theorem wpList_app {ops : Array Oper} {rest : List Oper} {o : Oper} {a : Act} {Q : Exit → Act → World → Prop} (hgd : o.guard = none) (s xo : Operand) (t tx : TypeId)
    (hop : o.op = Op.call { callee := Callee.builtin Builtin.append, args := #[s, xo], argTypes := #[t, tx] })
    (i : TypeInfo) (z : Value) (bytes : Nat) (ht : P.underlying t = some (.slice e)) (hi : P.info? e = some i) (hz : i.zero = some z) (hsize : i.size = size) (hby : i.bytes = bytes) (hzs : z.cells.size = size)
    (hv : a.eval s = v) (ho : Own w base e size v n xs) (x : Value) (hx : a.eval xo = x) (m : Nat) (news : List Value) (hs : Src P size tx x m news w) (h63 : n + m ≤ maxLen) (hbytes : (n + m) * bytes ≤ 140737488355328) (hbase : base ≤ w.heap.size)
    (hK : ∀ v' w', Own w' base e size v' (n + m) (xs ++ news) → w.grownBy w' v.ownBlock → (v'.ownBlock = v.ownBlock ∨ ∃ g, v'.ownBlock = some g ∧ w.heap.size ≤ g) → wpList P ops Q rest (a.put o.dst v') w') :
    wpList P ops Q (o :: rest) a w := by
  refine wpList_plain hgd fun K hK' => ?_
  obtain ⟨v', w', hrun, r1, r2, r3⟩ := run_app (P := P) t tx o.type i z bytes ht hi hz hsize hby hzs ho x m news hs h63 hbytes hbase
  unfold Oper.wp
  simp [execOp, hop, resolve, invoke, builtin, hv, hx, hrun, Result.andThen]
  exact hK' _ _ (hK v' w' r1 r2 r3)
theorem step_app {ops : Array Oper} {o : Oper} {a : Act} {K : Act → World → Prop} {Q : Exit → Act → World → Prop} {E : Prop} (hgd : o.guard = none) (s xo : Operand) (t tx : TypeId)
    (hop : o.op = Op.call { callee := Callee.builtin Builtin.append, args := #[s, xo], argTypes := #[t, tx] })
    (i : TypeInfo) (z : Value) (bytes : Nat) (ht : P.underlying t = some (.slice e)) (hi : P.info? e = some i) (hz : i.zero = some z) (hsize : i.size = size) (hby : i.bytes = bytes) (hzs : z.cells.size = size)
    (hv : a.eval s = v) (ho : Own w base e size v n xs) (x : Value) (hx : a.eval xo = x) (m : Nat) (news : List Value) (hs : Src P size tx x m news w) (h63 : n + m ≤ maxLen) (hbytes : (n + m) * bytes ≤ 140737488355328) (hbase : base ≤ w.heap.size)
    (hK : ∀ v' w', Own w' base e size v' (n + m) (xs ++ news) → w.grownBy w' v.ownBlock → (v'.ownBlock = v.ownBlock ∨ ∃ g, v'.ownBlock = some g ∧ w.heap.size ≤ g) → K (a.put o.dst v') w') :
    if Region.wanted o (yielded ops a.tmps) = true then Oper.wp P o a w K Q else E := by
  have hw : Region.wanted o (yielded ops a.tmps) = true := by simp [Region.wanted, hgd]
  rw [if_pos hw]
  obtain ⟨v', w', hrun, r1, r2, r3⟩ := run_app (P := P) t tx o.type i z bytes ht hi hz hsize hby hzs ho x m news hs h63 hbytes hbase
  unfold Oper.wp
  simp [execOp, hop, resolve, invoke, builtin, hv, hx, hrun, Result.andThen]
  exact hK v' w' r1 r2 r3
theorem Own.fresh0 (hb : base ≤ w.heap.size) : Own (w.alloc (.cells #[] e)) base e size (.slice (some ⟨w.heap.size, 0, none⟩) 0 0) 0 [] :=
  ⟨by simp, .inr ⟨w.heap.size, 0, 0, #[], rfl, hb, al_new rfl, Nat.le_refl _, by decide, by simp, by simp⟩⟩
theorem Own.drew (h : Own w base e size v n xs) : Own w.drew base e size v n xs := h
theorem RowAt.drew {a : Option Addr} {vs : List Value} (h : RowAt w a vs) : RowAt w.drew a vs := h
theorem RowAt.alloc {a : Option Addr} {vs : List Value} (h : RowAt w a vs) (o : Obj) : RowAt (w.alloc o) a vs := h.below (Below_one o) (Nat.le_refl _)
theorem RowAt.take {a : Option Addr} {vs : List Value} (h : RowAt w a vs) (k : Nat) : RowAt w a (vs.take k) := by
  rcases h with rfl | ⟨b, off, ha, h⟩
  · exact .inl (by simp)
  · exact .inr ⟨b, off, ha, fun i v hv => h i v (by rw [List.getElem?_take] at hv; split at hv <;> simp_all)⟩
theorem RowAt.drop {b off : Nat} {vs : List Value} (h : RowAt w (some ⟨b, off, none⟩) vs) (k : Nat) : RowAt w (some ⟨b, off + k, none⟩) (vs.drop k) := by
  rcases h with rfl | ⟨b', off', ha, h⟩
  · exact .inl (by simp)
  · injection ha with ha
    injection ha with h1 h2
    subst h1; subst h2
    exact .inr ⟨b, off + k, rfl, fun i v hv => by rw [Nat.add_assoc]; exact h (k + i) v (by rw [List.getElem?_drop] at hv; exact hv)⟩
theorem Src.ofRow {tx e' : TypeId} (hk : P.underlying tx = some (.slice e')) (a : Option Addr) (c : Nat) (news : List Value) (hr : RowAt w a news) (h1 : ∀ u ∈ news, u.oneCell' = true) : Src P 1 tx (.slice a news.length c) news.length news w := by
  rcases hr with rfl | ⟨b, off, rfl, h⟩
  · cases a with
    | none => exact Src.ofNil w hk c
    | some a => exact Src.ofSlice w hk a 0 c [] rfl (fun _ _ h => by simp at h) h1
  · exact Src.ofSlice w hk ⟨b, off, none⟩ _ c news (by simp) (fun j u hj => by rw [Addr.add_lit]; exact h j u hj) h1
theorem one_bV {bs : List UInt8} : ∀ u ∈ bs.map bV, u.oneCell' = true := by
  intro u hu
  obtain ⟨x, _, rfl⟩ := List.mem_map.1 hu
  rfl
def strOf (bs : List UInt8) : ByteArray := ⟨bs.toArray⟩
theorem strOf_size (bs : List UInt8) : (strOf bs).size = bs.length := by simp [strOf, ByteArray.size]
theorem strOf_list (bs : List UInt8) : (strOf bs).data.toList = bs := by simp [strOf]
theorem strOf_data (s : ByteArray) : strOf s.data.toList = s := by
  apply ByteArray.ext; simp [strOf]
theorem strOf_inj {a b : List UInt8} (h : strOf a = strOf b) : a = b := by rw [← strOf_list a, h, strOf_list]
/-- 'string(b)'. -/
theorem conv_str (src dst : TypeId) {e : TypeId} (hs : P.underlying src = some (.slice e)) (he : P.underlying e = some (.int .u8)) (hd : P.underlying dst = some .string) (w : World) (a : Option Addr) (c : Nat) (bs : List UInt8) (hr : RowAt w a (bs.map bV)) :
    (convert src dst (.slice a bs.length c)).run P w = .ok (.string (strOf bs)) w := by
  rcases hr with h | ⟨b, off, rfl, h⟩
  · rw [List.map_eq_nil_iff] at h
    subst h
    rw [run_convert_bytes_string w src dst e a _ c hs he hd]
    cases a with
    | none => rfl
    | some a => exact run_bytesToString w a 0 c [] rfl
  · have hc : Lib.Bytes w b off (strOf bs) := fun i hi => h i _ (by
      rw [strOf_size] at hi
      rw [List.getElem?_map, List.getElem?_eq_getElem hi]; rfl)
    have := Lib.run_convert_whole (P := P) w src e dst hs he hd b off (strOf bs) hc c
    rw [strOf_size] at this
    exact this
/-- Rows of unlike element types lie in unlike blocks. -/
theorem Own.ne_of_type {b1 b2 e1 e2 s1 s2 n1 n2 : Nat} {v1 v2 : Value} {x1 x2 : List Value} (h1 : Own w b1 e1 s1 v1 n1 x1) (h2 : Own w b2 e2 s2 v2 n2 x2) (hne : e1 ≠ e2) : v1.ownBlock = none ∨ v1.ownBlock ≠ v2.ownBlock := by
  rcases h1.2 with ⟨rfl, _⟩ | ⟨g, off, cap, cur, rfl, hb, hg, _⟩
  · exact .inl rfl
  · rcases h2.2 with ⟨rfl, _⟩ | ⟨g', off', cap', cur', rfl, hb', hg', _⟩
    · exact .inr (by simp [Value.ownBlock])
    · refine .inr fun he => hne ?_
      have : g = g' := Option.some.inj he
      subst this
      rw [hg] at hg'
      injection hg' with h
      injection h
theorem Own.row {a : Option Addr} {c n : Nat} (h : Own w base e 1 (.slice a n c) n xs) : RowAt w a xs := by
  obtain ⟨a', c', he, hr, _⟩ := h.row1
  injection he with h1 h2 h3
  subst h1
  exact hr
theorem Own.cap {a : Option Addr} {c n : Nat} (h : Own w base e size (.slice a n c) n xs) : n ≤ c ∧ n ≤ maxLen := by
  rcases h.2 with ⟨he, hn⟩ | ⟨g, off, cap, cur, he, hb, hg, h1, h2, _⟩
  · injection he with _ _ h3; subst h3; subst hn; exact ⟨Nat.le_refl _, Nat.zero_le _⟩
  · injection he with _ _ h3; subst h3; exact ⟨h1, Nat.le_trans h1 h2⟩
theorem Own.someAddr {n cap : Nat} {a : Option Addr} (h : Own w base e size (.slice a n cap) n xs) (hn : 0 < n) : ∃ g off, a = some ⟨g, off, none⟩ ∧ base ≤ g ∧ g < w.heap.size := by
  rcases h.2 with ⟨_, h0⟩ | ⟨g, off, cap', cur, he, hb, hg, _⟩
  · omega
  · injection he with h1
    exact ⟨g, off, h1, hb, heap_lt hg⟩
theorem Own.notFrozen {n cap g off : Nat} (h : Own w base e size (.slice (some ⟨g, off, none⟩) n cap) n xs) (j : Nat) : w.frozen? ⟨g, j, none⟩ = false := by
  rcases h.2 with ⟨he, _⟩ | ⟨g', off', cap', cur, he, hb, hg, _⟩
  · cases he
  · injection he with h1
    injection h1 with h1
    injection h1 with h1 h2
    subst h1
    exact frozen_of_row _ _ _ _ _ hg
theorem Own.setCell1 {n cap g off : Nat} (h : Own w base e 1 (.slice (some ⟨g, off, none⟩) n cap) n xs) {i : Nat} (u : Value) : Own (w.setCell ⟨g, off + i, none⟩ u) base e 1 (.slice (some ⟨g, off, none⟩) n cap) n (xs.set i u) := by
  rcases h.2 with ⟨he, _⟩ | ⟨g', off', cap', cur, he, hb, hg, hn, hm, hs, ht⟩
  · cases he
  · injection he with h1 _ h3
    injection h1 with h1
    injection h1 with h1 h2
    subst h1; subst h2; subst h3
    refine ⟨by rw [List.length_set]; exact h.1, .inr ⟨g, off, cap, cur.setIfInBounds (off + i) u, rfl, hb, ?_, hn, hm, by simpa using hs, ?_⟩⟩
    · exact heap_setCell_same _ _ _ _ _ _ hg
    · rw [Array.toList_setIfInBounds, List.drop_set, if_neg (by omega), Nat.add_sub_cancel_left, List.take_set, ht]
end Go.Proofs.Ytkggnbabnfhcpaa
end
section
/- What a call may have written: the blocks of a list, and new ones. No program in sight. -/
namespace Go.Proofs.Ytkggnbabnfhcpaa
open Go.RowKit
theorem hidB {p : Prop} (h : p) : Hid p := h
/-- A fact that the walk does not open. -/
structure Bx (p : Prop) : Prop where
  out : p
/-- Apart from the blocks of L, what was there is as it was. -/
structure Fr (L : List Nat) (w w' : World) : Prop where
  os : w'.os = w.os
  tape : w'.tape = w.tape
  output : w'.output = w.output
  size : w.heap.size ≤ w'.heap.size
  block : ∀ k, k < w.heap.size → k ∉ L → w'.heap[k]? = w.heap[k]?
/-- The blocks of M are those of L, or lie from n on. -/
def Gr (L M : List Nat) (n : Nat) : Prop := ∀ k ∈ M, k ∈ L ∨ n ≤ k
def Apart (L M : List Nat) : Prop := ∀ k ∈ L, k ∉ M
def Under (L : List Nat) (n : Nat) : Prop := ∀ k ∈ L, k < n
def From (b : Nat) (L : List Nat) : Prop := ∀ k ∈ L, b ≤ k
section
variable {L M K : List Nat} {w w1 w2 : World} {n m : Nat}
theorem Gr.refl (L : List Nat) (n : Nat) : Gr L L n := fun _ h => .inl h
theorem Gr.trans (h : Gr L M n) (h2 : Gr M K m) (hn : n ≤ m) : Gr L K n := fun k hk => (h2 k hk).elim (h k) fun h3 => .inr (Nat.le_trans hn h3)
theorem Gr.from {b : Nat} (h : Gr L M n) (hf : From b L) (hb : b ≤ n) : From b M := fun k hk => (h k hk).elim (hf k) fun h3 => Nat.le_trans hb h3
theorem Apart.symm (h : Apart L M) : Apart M L := fun k hk hl => h k hl hk
theorem Apart.gr (h : Apart L K) (hg : Gr L M n) (hu : Under K n) : Apart M K := fun k hk hK => (hg k hk).elim (fun h1 => h k h1 hK) fun h1 => by have := hu k hK; omega
theorem Apart.new (hu : Under K n) (hf : From n M) : Apart K M := fun k hk hm => by have := hu k hk; have := hf k hm; omega
theorem Under.mono (h : Under L n) (hn : n ≤ m) : Under L m := fun k hk => Nat.lt_of_lt_of_le (h k hk) hn
theorem Fr.refl (L : List Nat) (w : World) : Fr L w w := ⟨rfl, rfl, rfl, Nat.le_refl _, fun _ _ _ => rfl⟩
theorem Fr.ofBelow (h : Below w.heap.size w w1) : Fr L w w1 := ⟨h.os, h.tape, h.output, h.size, fun k hk _ => h.block k hk⟩
theorem Fr.below {b : Nat} (h : Fr L w w1) (hf : From b L) (hb : b ≤ w.heap.size) : Below b w w1 :=
  ⟨h.os, h.tape, h.output, h.size, fun k hk => h.block k (by omega) fun hm => by have := hf k hm; omega⟩
theorem Fr.trans (h : Fr L w w1) (h2 : Fr M w1 w2) (hg : Gr L M w.heap.size) : Fr L w w2 :=
  ⟨h2.os.trans h.os, h2.tape.trans h.tape, h2.output.trans h.output, Nat.le_trans h.size h2.size,
    fun k hk hn => (h2.block k (Nat.lt_of_lt_of_le hk h.size) fun hm => (hg k hm).elim hn fun h3 => by omega).trans (h.block k hk hn)⟩
theorem Fr.mono (h : Fr L w w1) (hs : ∀ k ∈ L, k ∈ M ∨ w.heap.size ≤ k) : Fr M w w1 := ⟨h.os, h.tape, h.output, h.size, fun k hk hn => h.block k hk fun hm => (hs k hm).elim hn fun h3 => by omega⟩
theorem Fr.keep (h : Fr L w w1) (ha : Apart M L) (hu : Under M w.heap.size) : ∀ k ∈ M, w1.heap[k]? = w.heap[k]? := fun k hk => h.block k (hu k hk) (ha k hk)
theorem Fr.drew (h : Fr L w w1) : Fr L w w1.drew := ⟨h.os, h.tape, h.output, h.size, h.block⟩
theorem Fr.alloc (h : Fr L w w1) (o : Obj) : Fr L w (w1.alloc o) := ⟨h.os, h.tape, h.output, Nat.le_trans h.size (by simp), fun k hk hn => (Below.heap_alloc _ _ _ (Nat.lt_of_lt_of_le hk h.size)).trans (h.block k hk hn)⟩
theorem Fr.setCell (h : Fr L w w1) {p : Addr} (hp : p.block ∈ L ∨ w.heap.size ≤ p.block) (u : Value) : Fr L w (w1.setCell p u) :=
  ⟨h.os, h.tape, h.output, by simpa using h.size, fun k hk hn => (Below.heap_setCell _ _ _ _ (by rintro rfl; exact hp.elim hn fun h3 => by omega)).trans (h.block k hk hn)⟩
theorem Fr.setRow (h : Fr L w w1) {g : Nat} (hp : g ∈ L ∨ w.heap.size ≤ g) (cs : Array Value) : Fr L w (w1.setRow g cs) :=
  ⟨h.os, h.tape, h.output, by simpa [World.setRow] using h.size, fun k hk hn => (by
    have hne : g ≠ k := by rintro rfl; exact hp.elim hn fun h3 => by omega
    simp only [World.setRow, Array.getElem?_modify]
    rw [if_neg hne]; exact h.block k hk hn)⟩
theorem Fr.grown (h : Fr L w w1) {row : Option Nat} (hg : w1.grownBy w2 row) (hr : ∀ k, row = some k → k ∈ L ∨ w.heap.size ≤ k) : Fr L w w2 := by
  obtain ⟨g1, g2, g3, g4, g5⟩ := hg
  exact ⟨g1.trans h.os, g2.trans h.tape, g3.trans h.output, Nat.le_trans h.size g4, fun k hk hn => (g5 k (Nat.lt_of_lt_of_le hk h.size) (fun hrow => (hr k hrow.symm).elim hn fun h3 => by omega)).trans (h.block k hk hn)⟩
end
/-- A block that holds a row, whole. -/
def Bk (w : World) (g : Nat) (cs : Array Value) (t : TypeId) : Prop := w.heap[g]? = some (.cells cs t (0, 0))
section
variable {w w' : World} {g : Nat} {cs : Array Value} {t : TypeId}
theorem Bk.cell (h : Bk w g cs t) (i : Nat) : w.cell? ⟨g, i, none⟩ = cs[i]? := cell_of_row _ _ _ _ _ _ h
theorem Bk.frozen (h : Bk w g cs t) (i : Nat) : w.frozen? ⟨g, i, none⟩ = false := frozen_of_row _ _ _ _ _ h
theorem Bk.setCell (h : Bk w g cs t) (i : Nat) (v : Value) : Bk (w.setCell ⟨g, i, none⟩ v) g (cs.setIfInBounds i v) t := heap_setCell_same _ _ _ _ _ _ h
theorem Bk.other {k i : Nat} {v : Value} (h : Bk w g cs t) (hne : g ≠ k) : Bk (w.setCell ⟨k, i, none⟩ v) g cs t := (heap_setCell_other _ _ _ _ hne).trans h
theorem Bk.new {k : Nat} (h : k = w.heap.size) : Bk (w.alloc (.cells cs t)) k cs t := al_new h
theorem Bk.alloc (h : Bk w g cs t) (o : Obj) : Bk (w.alloc o) g cs t := al_old h
theorem Bk.lt (h : Bk w g cs t) : g < w.heap.size := heap_lt h
theorem Bk.keep (h : Bk w g cs t) (hk : w'.heap[g]? = w.heap[g]?) : Bk w' g cs t := hk.trans h
theorem Bk.ne {g2 : Nat} {cs2 : Array Value} {t2 : TypeId} (h : Bk w g cs t) (h2 : Bk w g2 cs2 t2) (hne : t ≠ t2) : g ≠ g2 := by
  rintro rfl
  unfold Bk at h h2
  rw [h] at h2
  injection h2 with h2
  injection h2 with h3 h4 h5
  exact hne h4
end
end Go.Proofs.Ytkggnbabnfhcpaa
end
section
/- Maps whose keys are ints: what a block holds, and what the model's map operations do to it. No program in sight. -/
namespace Go.Proofs.Ytkggnbabnfhcpaa
open Go.RowKit Go.MapKept
open Go.ChangeMaps (setBlock)
variable {P : Program}
def kvOf (p : Int × Value) : Value × Value := (.int .i64 p.1, p.2)
/-- A block that holds a map: its entries, in some order. -/
def MapAt (w : World) (b : Nat) (m : List (Int × Value)) : Prop :=
  ∃ es clock, w.heap[b]? = some (.map es clock) ∧ Stamped es clock ∧ es.toList.map (fun e => (e.key, e.val)) = m.map kvOf
def lkM : List (Int × Value) → Int → Option Value
  | [], _ => none
  | p :: r, k => if p.1 = k then some p.2 else lkM r k
def putM : List (Int × Value) → Int → Value → List (Int × Value)
  | [], k, v => [(k, v)]
  | p :: r, k, v => if p.1 = k then (k, v) :: r else p :: putM r k v
def delM : List (Int × Value) → Int → List (Int × Value)
  | [], _ => []
  | p :: r, k => if p.1 = k then r else p :: delM r k
theorem kv_inj {a b : Int} (h : (Value.int .i64 a) = .int .i64 b) : a = b := by injection h
theorem MapAt.nodup {w : World} {b : Nat} {m : List (Int × Value)} (h : MapAt w b m) : (m.map (·.1)).Nodup := by
  obtain ⟨es, clock, _, ⟨_, _, hk⟩, hm⟩ := h
  have : es.toList.map (·.key) = m.map fun p => Value.int .i64 p.1 := by
    have := congrArg (List.map Prod.fst) hm
    simpa [kvOf, Function.comp_def] using this
  rw [this] at hk
  have h2 : (m.map fun p => Value.int .i64 p.1) = (m.map (·.1)).map (Value.int .i64) := by simp
  rw [h2] at hk
  exact (List.pairwise_map.1 hk).imp fun {a b} hab e => hab (by rw [e])
theorem MapAt.lt {w : World} {b : Nat} {m : List (Int × Value)} (h : MapAt w b m) : b < w.heap.size := by
  obtain ⟨es, clock, hb, _⟩ := h
  exact heap_lt hb
theorem MapAt.keep {w w1 : World} {b : Nat} {m : List (Int × Value)} (h : MapAt w b m) (hk : w1.heap[b]? = w.heap[b]?) : MapAt w1 b m := by
  obtain ⟨es, clock, hb, h⟩ := h
  exact ⟨es, clock, hk.trans hb, h⟩
theorem MapAt.below {w w1 : World} {b : Nat} {m : List (Int × Value)} (h : MapAt w b m) (hb : Below w.heap.size w w1) : MapAt w1 b m := h.keep (hb.block b h.lt)
theorem MapAt.fr {w w1 : World} {b : Nat} {m : List (Int × Value)} {L : List Nat} (h : MapAt w b m) (hb : Fr L w w1) (hn : b ∉ L) : MapAt w1 b m := h.keep (hb.block b h.lt hn)
theorem MapAt.new (w : World) : MapAt (w.alloc (.map #[] 0)) w.heap.size [] := ⟨#[], 0, al_new rfl, stamped_empty 0, rfl⟩
/-- A map's block and a row of cells are two. -/
theorem MapAt.ne_cells {w : World} {b g : Nat} {m : List (Int × Value)} {cs : Array Value} {t : TypeId} {fr : Nat × Nat} (h : MapAt w b m) (hg : w.heap[g]? = some (.cells cs t fr)) : g ≠ b := by
  rintro rfl
  obtain ⟨es, clock, hb, _⟩ := h
  rw [hb] at hg
  cases hg
theorem MapAt.unique {w : World} {b : Nat} {m m' : List (Int × Value)} (h : MapAt w b m) (h' : MapAt w b m') : m = m' := by
  obtain ⟨es, clock, hb, _, e⟩ := h
  obtain ⟨es', clock', hb', _, e'⟩ := h'
  rw [hb] at hb'
  injection hb' with hb'
  injection hb' with h1 h2
  subst h1
  have : m.map kvOf = m'.map kvOf := e.symm.trans e'
  exact List.map_inj_right (f := kvOf) (fun a b hab => by
    unfold kvOf at hab
    injection hab with h1 h2
    exact Prod.ext (kv_inj h1) h2) |>.1 this
theorem lkM_mem : ∀ {m : List (Int × Value)} {k : Int} {v : Value}, lkM m k = some v → (k, v) ∈ m
  | p :: r, k, v, h => by
    unfold lkM at h
    split at h
    · rename_i hk
      injection h with h
      subst hk; subst h
      exact List.mem_cons_self ..
    · exact List.mem_cons_of_mem _ (lkM_mem h)
theorem lkM_none : ∀ {m : List (Int × Value)} {k : Int}, lkM m k = none ↔ ∀ v, (k, v) ∉ m
  | [], k => by simp [lkM]
  | p :: r, k => by
    unfold lkM
    split
    · rename_i hk
      subst hk
      simp only [reduceCtorEq, false_iff]
      exact fun h => h p.2 (List.mem_cons_self ..)
    · rename_i hk
      rw [lkM_none (m := r)]
      constructor
      · intro h v hv
        rcases List.mem_cons.1 hv with e | e
        · exact hk (by rw [← e])
        · exact h v e
      · exact fun h v hv => h v (List.mem_cons_of_mem _ hv)
theorem lkM_of_mem : ∀ {m : List (Int × Value)} (_ : (m.map (·.1)).Nodup) {k : Int} {v : Value}, (k, v) ∈ m → lkM m k = some v
  | p :: r, hn, k, v, h => by
    rw [List.map_cons, List.nodup_cons] at hn
    unfold lkM
    rcases List.mem_cons.1 h with e | e
    · rw [← e, if_pos rfl]
    · rw [if_neg fun (hk : p.1 = k) => hn.1 (hk ▸ List.mem_map.2 ⟨_, e, rfl⟩)]
      exact lkM_of_mem hn.2 e
theorem lkM_put : ∀ (m : List (Int × Value)) (k : Int) (v : Value) (j : Int), lkM (putM m k v) j = if k = j then some v else lkM m j
  | [], k, v, j => by simp [putM, lkM]
  | p :: r, k, v, j => by
    unfold putM
    by_cases h : p.1 = k
    · rw [if_pos h]
      subst h
      simp only [lkM]
      split <;> rfl
    · rw [if_neg h]
      simp only [lkM]
      rw [lkM_put r k v j]
      by_cases hj : p.1 = j
      · rw [if_pos hj, if_pos hj, if_neg (by omega)]
      · rw [if_neg hj, if_neg hj]
theorem putM_len (m : List (Int × Value)) (k : Int) (v : Value) : (putM m k v).length ≤ m.length + 1 := by
  induction m with
  | nil => simp [putM]
  | cons p r ih =>
    unfold putM
    split
    · simp
    · simp; omega
theorem delM_sub : ∀ (m : List (Int × Value)) (k : Int), (delM m k).Sublist m
  | [], k => List.Sublist.refl _
  | p :: r, k => by
    unfold delM
    split
    · exact List.sublist_cons_self ..
    · exact (delM_sub r k).cons_cons p
theorem lkM_del : ∀ (m : List (Int × Value)) (_ : (m.map (·.1)).Nodup) (k j : Int), lkM (delM m k) j = if k = j then none else lkM m j
  | [], _, k, j => by simp [delM, lkM]
  | p :: r, hn, k, j => by
    rw [List.map_cons, List.nodup_cons] at hn
    unfold delM
    by_cases h : p.1 = k
    · rw [if_pos h]
      subst h
      simp only [lkM]
      by_cases hj : p.1 = j
      · rw [if_pos hj, ← hj]
        exact lkM_none.2 fun v hv => hn.1 (List.mem_map.2 ⟨_, hv, rfl⟩)
      · rw [if_neg hj, if_neg hj]
    · rw [if_neg h]
      simp only [lkM]
      rw [lkM_del r hn.2 k j]
      by_cases hj : p.1 = j
      · rw [if_pos hj, if_pos hj, if_neg (by omega)]
      · rw [if_neg hj, if_neg hj]
/-! The model's operations. -/
section
variable {w : World} {b : Nat} {m : List (Int × Value)} {t kt et : TypeId}
theorem map_isKey {es : Array MapEntry} (hm : es.toList.map (fun e => (e.key, e.val)) = m.map kvOf) : ∀ x ∈ es.toList, IsKey (.int .i64) x.key := by
  intro x hx
  have : (x.key, x.val) ∈ m.map kvOf := hm ▸ List.mem_map.2 ⟨x, hx, rfl⟩
  obtain ⟨p, _, hp⟩ := List.mem_map.1 this
  have : x.key = .int .i64 p.1 := (congrArg Prod.fst hp).symm
  rw [this]
  rfl
theorem find_none : ∀ {es : List MapEntry} {m : List (Int × Value)} {k : Int}, es.map (fun e => (e.key, e.val)) = m.map kvOf → (∀ x ∈ es, x.key ≠ .int .i64 k) → lkM m k = none
  | [], [], k, _, _ => rfl
  | [], _ :: _, _, h, _ => by cases h
  | _ :: _, [], _, h, _ => by cases h
  | x :: es, p :: m, k, h, hn => by
    injection h with h1 h2
    have : x.key = .int .i64 p.1 := congrArg Prod.fst h1
    unfold lkM
    rw [if_neg fun e => hn x (List.mem_cons_self ..) (by rw [this, e])]
    exact find_none h2 fun y hy => hn y (List.mem_cons_of_mem _ hy)
theorem find_some : ∀ {es : List MapEntry} {m : List (Int × Value)} {k : Int} {j : Nat} {e : MapEntry}, es.map (fun e => (e.key, e.val)) = m.map kvOf → (m.map (·.1)).Nodup → es[j]? = some e → e.key = .int .i64 k → lkM m k = some e.val ∧ m[j]? = some (k, e.val)
  | [], _, k, j, e, _, _, h, _ => by cases h
  | _ :: _, [], _, _, _, h, _, _, _ => by cases h
  | x :: es, p :: m, k, j, e, h, hn, hj, he => by
    injection h with h1 h2
    have e1 : x.key = .int .i64 p.1 := congrArg Prod.fst h1
    have e2 : x.val = p.2 := congrArg Prod.snd h1
    rw [List.map_cons, List.nodup_cons] at hn
    cases j with
    | zero =>
      cases hj
      have hk : p.1 = k := kv_inj (e1.symm.trans he)
      subst hk
      refine ⟨by unfold lkM; rw [if_pos rfl, e2], by rw [e2]; rfl⟩
    | succ j =>
      have hj : es[j]? = some e := by simpa using hj
      obtain ⟨f1, f2⟩ := find_some h2 hn.2 hj he
      refine ⟨?_, by simpa using f2⟩
      unfold lkM
      rw [if_neg fun (hk : p.1 = k) => hn.1 (hk ▸ List.mem_map.2 ⟨_, lkM_mem f1, rfl⟩)]
      exact f1
theorem run_lookupM (hu : P.underlying t = some (.map kt et)) (hk : P.underlying kt = some (.int .i64)) {z : Value} (hz : ∀ w, (zeroValue et).run P w = .ok z w) (h : MapAt w b m) (k : Int) (ok : Bool) :
    (Instr.lookup t (.map (some b)) (.int .i64 k) ok).run P w = .ok (if ok then .tuple #[(lkM m k).getD z, .bool (lkM m k).isSome] else (lkM m k).getD z) w := by
  have hn := h.nodup
  obtain ⟨es, clock, hb, hs, hm⟩ := h
  have hK : IsKey (.int .i64) (.int .i64 k) := rfl
  rcases findNow_spec hK es.toList 0 (map_isKey hm) with ⟨h1, h2⟩ | ⟨j, e, h1, h2, h3⟩
  · have hl := find_none hm h2
    simp only [Instr.lookup, Sem.run_bind, run_underlying hu, MapKept.run_getObj_map hb, MapKept.run_checkKey hk hK, MapKept.run_findKey hk h1, Result.andThen_ok, hz, Sem.run_pure, hl]
    cases ok <;> rfl
  · have hl := (find_some hm hn h2 h3).1
    simp only [Instr.lookup, Sem.run_bind, run_underlying hu, MapKept.run_getObj_map hb, MapKept.run_checkKey hk hK, MapKept.run_findKey hk h1, Result.andThen_ok, Sem.run_pure, hl]
    cases ok <;> rfl
theorem run_lookupM_nil (hu : P.underlying t = some (.map kt et)) (hk : P.underlying kt = some (.int .i64)) {z : Value} (hz : ∀ w, (zeroValue et).run P w = .ok z w) (k : Int) (ok : Bool) :
    (Instr.lookup t (.map none) (.int .i64 k) ok).run P w = .ok (if ok then .tuple #[z, .bool false] else z) w := by
  have hK : IsKey (.int .i64) (.int .i64 k) := rfl
  have h1 : Instr.findNow (.int .i64) (.int .i64 k) [] 0 = some none := rfl
  simp only [Instr.lookup, Sem.run_bind, run_underlying hu, MapKept.run_checkKey hk hK, Sem.run_pure, Result.andThen_ok, MapKept.run_findKey hk h1, hz]
theorem Fr.set {o o' : Obj} (hb : w.heap[b]? = some o) : Fr [b] w { w with heap := w.heap.setIfInBounds b o' } :=
  ⟨rfl, rfl, rfl, by simp, fun k _ hn => by
    rw [List.mem_singleton] at hn
    exact (heap_set hb).2 k hn⟩
theorem modify_map {f : MapEntry → MapEntry} {k : Int} {v : Value} : ∀ {es : List MapEntry} {m : List (Int × Value)} {j : Nat}, es.map (fun e => (e.key, e.val)) = m.map kvOf → (m.map (·.1)).Nodup → m[j]? = some (k, v) → ∀ v', (∀ e, f e = { e with key := .int .i64 k, val := v' }) → (es.modify j f).map (fun e => (e.key, e.val)) = (putM m k v').map kvOf
  | [], [], j, _, _, h, _, _ => by cases h
  | [], _ :: _, _, h, _, _, _, _ => by cases h
  | _ :: _, [], _, h, _, _, _, _ => by cases h
  | x :: es, p :: m, j, h, hn, hj, v', hf => by
    injection h with h1 h2
    rw [List.map_cons, List.nodup_cons] at hn
    cases j with
    | zero =>
      cases hj
      unfold putM
      rw [if_pos rfl]
      simp only [List.modify_zero_cons, List.map_cons, hf, h2]
      rfl
    | succ j =>
      have hj : m[j]? = some (k, v) := by simpa using hj
      unfold putM
      rw [if_neg fun (hk : p.1 = k) => hn.1 (hk ▸ List.mem_map.2 ⟨_, List.mem_of_getElem? hj, rfl⟩)]
      simp only [List.modify_succ_cons, List.map_cons, h1]
      rw [modify_map h2 hn.2 hj v' hf]
theorem push_map {k : Int} {v : Value} : ∀ {m : List (Int × Value)}, lkM m k = none → putM m k v = m ++ [(k, v)]
  | [], _ => rfl
  | p :: r, h => by
    unfold lkM at h
    split at h
    · cases h
    · rename_i hk
      unfold putM
      rw [if_neg hk, push_map h, List.cons_append]
theorem run_updateM (hu : P.underlying t = some (.map kt et)) (hk : P.underlying kt = some (.int .i64)) (h : MapAt w b m) (k : Int) (v : Value) :
    ∃ w1, (Instr.mapUpdate t (.map (some b)) (.int .i64 k) v).run P w = .ok () w1 ∧ MapAt w1 b (putM m k v) ∧ Fr [b] w w1 ∧ w1.heap.size = w.heap.size := by
  have hn := h.nodup
  obtain ⟨es, clock, hb, hs, hm⟩ := h
  have hK : IsKey (.int .i64) (.int .i64 k) := rfl
  rcases findNow_spec hK es.toList 0 (map_isKey hm) with ⟨h1, h2⟩ | ⟨j, e, h1, h2, h3⟩
  · refine ⟨{ w with heap := w.heap.setIfInBounds b (.map (es.push { key := .int .i64 k, val := v, born := clock }) (clock + 1)) }, ?_, ⟨_, _, (heap_set hb).1, stamped_push hs h2, ?_⟩, Fr.set hb, by simp⟩
    · simp only [Instr.mapUpdate, Sem.run_bind, run_underlying hu, MapKept.run_getObj_map hb, MapKept.run_checkKey hk hK, MapKept.run_findKey hk h1, Result.andThen_ok, MapKept.run_setObj_map _ hb]
    · rw [push_map (find_none hm h2)]
      simp [hm, kvOf]
  · have hj : es[j]? = some e := by simpa using h2
    obtain ⟨f1, f2⟩ := find_some hm hn h2 h3
    have hkey : ∀ e', es[j]? = some e' → ({ e' with key := .int .i64 k, val := v } : MapEntry).key = e'.key := fun e' he' => by rw [hj] at he'; cases he'; exact h3.symm
    refine ⟨{ w with heap := w.heap.setIfInBounds b (.map (es.modify j fun e => { e with key := .int .i64 k, val := v }) clock) }, ?_, ⟨_, _, (heap_set hb).1, stamped_modify hs _ _ (fun _ _ => rfl) (fun e' _ he' => hkey e' he'), ?_⟩, Fr.set hb, by simp⟩
    · simp only [Instr.mapUpdate, Sem.run_bind, run_underlying hu, MapKept.run_getObj_map hb, MapKept.run_checkKey hk hK, MapKept.run_findKey hk h1, Result.andThen_ok, Nat.zero_add, hj, Option.map_some, Option.getD_some, h3, MapKept.run_keyThatStays hK, MapKept.run_setObj_map _ hb]
    · rw [Array.toList_modify]
      exact modify_map hm hn f2 v fun e => rfl
theorem erase_map {k : Int} {v : Value} : ∀ {es : List MapEntry} {m : List (Int × Value)} {j : Nat}, es.map (fun e => (e.key, e.val)) = m.map kvOf → (m.map (·.1)).Nodup → m[j]? = some (k, v) → (es.eraseIdx j).map (fun e => (e.key, e.val)) = (delM m k).map kvOf
  | [], [], j, _, _, h => by cases h
  | [], _ :: _, _, h, _, _ => by cases h
  | _ :: _, [], _, h, _, _ => by cases h
  | x :: es, p :: m, j, h, hn, hj => by
    injection h with h1 h2
    rw [List.map_cons, List.nodup_cons] at hn
    cases j with
    | zero =>
      cases hj
      unfold delM
      rw [if_pos rfl]
      simpa using h2
    | succ j =>
      have hj : m[j]? = some (k, v) := by simpa using hj
      unfold delM
      rw [if_neg fun (hk : p.1 = k) => hn.1 (hk ▸ List.mem_map.2 ⟨_, List.mem_of_getElem? hj, rfl⟩)]
      simp only [List.eraseIdx_cons_succ, List.map_cons, h1]
      rw [erase_map h2 hn.2 hj]
theorem del_none {k : Int} : ∀ {m : List (Int × Value)}, lkM m k = none → delM m k = m
  | [], _ => rfl
  | p :: r, h => by
    unfold lkM at h
    split at h
    · cases h
    · rename_i hk
      unfold delM
      rw [if_neg hk, del_none h]
theorem run_deleteM (hu : P.underlying t = some (.map kt et)) (hk : P.underlying kt = some (.int .i64)) (h : MapAt w b m) (k : Int) (ty : TypeId) :
    ∃ w1, (Builtin.delete_ #[t, kt] ty #[.map (some b), .int .i64 k]).run P w = .ok (.tuple #[]) w1 ∧ MapAt w1 b (delM m k) ∧ Fr [b] w w1 ∧ w1.heap.size = w.heap.size := by
  have hn := h.nodup
  obtain ⟨es, clock, hb, hs, hm⟩ := h
  have hK : IsKey (.int .i64) (.int .i64 k) := rfl
  rcases findNow_spec hK es.toList 0 (map_isKey hm) with ⟨h1, h2⟩ | ⟨j, e, h1, h2, h3⟩
  · refine ⟨{ w with heap := w.heap.setIfInBounds b (.map es clock) }, ?_, ⟨es, clock, (heap_set hb).1, hs, ?_⟩, Fr.set hb, by simp⟩
    · simp [Builtin.delete_, run_underlying hu, MapKept.run_getObj_map hb, MapKept.run_checkKey hk hK, MapKept.run_findKey hk h1, MapKept.run_setObj_map _ hb, Result.andThen]
    · rw [del_none (find_none hm h2)]; exact hm
  · obtain ⟨f1, f2⟩ := find_some hm hn h2 h3
    refine ⟨{ w with heap := w.heap.setIfInBounds b (.map (es.eraseIdxIfInBounds j) clock) }, ?_, ⟨_, _, (heap_set hb).1, stamped_erase hs j, ?_⟩, Fr.set hb, by simp⟩
    · simp [Builtin.delete_, run_underlying hu, MapKept.run_getObj_map hb, MapKept.run_checkKey hk hK, MapKept.run_findKey hk h1, MapKept.run_setObj_map _ hb, Result.andThen]
    · have hlt : j < es.size := by have := (List.getElem?_eq_some_iff.1 h2).1; simpa using this
      unfold Array.eraseIdxIfInBounds
      rw [dif_pos hlt, Array.toList_eraseIdx]
      exact erase_map hm hn f2
theorem run_deleteM_nil (hu : P.underlying t = some (.map kt et)) (hk : P.underlying kt = some (.int .i64)) (k : Int) (ty : TypeId) :
    (Builtin.delete_ #[t, kt] ty #[.map none, .int .i64 k]).run P w = .ok (.tuple #[]) w := by
  have hK : IsKey (.int .i64) (.int .i64 k) := rfl
  simp [Builtin.delete_, run_underlying hu, MapKept.run_checkKey hk hK, Result.andThen]
theorem run_clearM (hu : P.underlying t = some (.map kt et)) (h : MapAt w b m) (ty : TypeId) :
    ∃ w1, (Builtin.clear_ #[t] ty #[.map (some b)]).run P w = .ok (.tuple #[]) w1 ∧ MapAt w1 b [] ∧ Fr [b] w w1 ∧ w1.heap.size = w.heap.size := by
  obtain ⟨es, clock, hb, hs, hm⟩ := h
  refine ⟨{ w with heap := w.heap.setIfInBounds b (.map #[] clock) }, ?_, ⟨#[], clock, (heap_set hb).1, stamped_empty clock, rfl⟩, Fr.set hb, by simp⟩
  simp [Builtin.clear_, run_underlying hu, MapKept.run_getObj_map hb, MapKept.run_setObj_map _ hb, Result.andThen]
theorem run_clearM_nil (hu : P.underlying t = some (.map kt et)) (ty : TypeId) : (Builtin.clear_ #[t] ty #[.map none]).run P w = .ok (.tuple #[]) w := by
  simp [Builtin.clear_, run_underlying hu, Result.andThen]
theorem run_lenM (hu : P.underlying t = some (.map kt et)) (h : MapAt w b m) (ty : TypeId) : (Builtin.len_ #[t] ty #[.map (some b)]).run P w = .ok (.int .i64 (m.length : Int)) w := by
  obtain ⟨es, clock, hb, hs, hm⟩ := h
  have : es.size = m.length := by have := congrArg List.length hm; simpa using this
  simp [Builtin.len_, run_underlying hu, MapKept.run_getObj_map hb, Result.andThen, this, goInt]
/-- A loop over a map is under way: these keys have come, one behind the other. -/
def IterAt (w : World) (g b : Nat) (m : List (Int × Value)) (seen : List Int) : Prop :=
  ∃ es clock sb, w.heap[b]? = some (.map es clock) ∧ Stamped es clock ∧ es.toList.map (fun e => (e.key, e.val)) = m.map kvOf ∧ w.heap[g]? = some (.mapIter (some b) clock sb clock) ∧
    ∃ L : List MapEntry, (∀ e ∈ L, e ∈ es.toList) ∧ sb.toList = L.map (·.born) ∧ L.map (·.key) = seen.map (Value.int .i64)
theorem IterAt.map {g : Nat} {seen : List Int} (h : IterAt w g b m seen) : MapAt w b m := by
  obtain ⟨es, clock, sb, hb, hs, hm, _⟩ := h
  exact ⟨es, clock, hb, hs, hm⟩
theorem IterAt.keep {w1 : World} {g : Nat} {seen : List Int} (h : IterAt w g b m seen) (hk : w1.heap[b]? = w.heap[b]?) (hg : w1.heap[g]? = w.heap[g]?) : IterAt w1 g b m seen := by
  obtain ⟨es, clock, sb, hb, hs, hm, hi, he⟩ := h
  exact ⟨es, clock, sb, hk.trans hb, hs, hm, hg.trans hi, he⟩
theorem IterAt.lt {g : Nat} {seen : List Int} (h : IterAt w g b m seen) : g < w.heap.size ∧ b < w.heap.size := by
  obtain ⟨es, clock, sb, hb, hs, hm, hi, he⟩ := h
  exact ⟨heap_lt hi, heap_lt hb⟩
theorem IterAt.below {w1 : World} {g : Nat} {seen : List Int} (h : IterAt w g b m seen) (hb : Below w.heap.size w w1) : IterAt w1 g b m seen := h.keep (hb.block b h.lt.2) (hb.block g h.lt.1)
theorem IterAt.fr {w1 : World} {g : Nat} {seen : List Int} {L : List Nat} (h : IterAt w g b m seen) (hb : Fr L w w1) (h1 : g ∉ L) (h2 : b ∉ L) : IterAt w1 g b m seen := h.keep (hb.block b h.lt.2 h2) (hb.block g h.lt.1 h1)
theorem run_rangeM (hu : P.underlying t = some (.map kt et)) (h : MapAt w b m) :
    ∃ w1, (Instr.range t (.map (some b))).run P w = .ok (.pointer (some ⟨w.heap.size, 0, none⟩)) w1 ∧ IterAt w1 w.heap.size b m [] ∧ Below w.heap.size w w1 ∧ w1.heap.size = w.heap.size + 1 := by
  have hlt := h.lt
  obtain ⟨es, clock, hb, hs, hm⟩ := h
  refine ⟨w.alloc (.mapIter (some b) clock #[] clock), run_range_map w t kt et b es clock hu hb, ⟨es, clock, #[], ?_, hs, hm, al_new rfl, [], by simp, rfl, rfl⟩, Below_one _, by simp⟩
  exact (Below.heap_alloc _ _ _ hlt).trans hb
theorem entry_of {β : Type} {f : MapEntry → β} : ∀ {l : List MapEntry}, (l.map f).Nodup → ∀ {x y : MapEntry}, x ∈ l → y ∈ l → f x = f y → x = y
  | z :: r, hn, x, y, hx, hy, h => by
    rw [List.map_cons, List.nodup_cons] at hn
    rcases List.mem_cons.1 hx with rfl | hx'
    · rcases List.mem_cons.1 hy with rfl | hy'
      · rfl
      · exact absurd (h ▸ List.mem_map.2 ⟨y, hy', rfl⟩) hn.1
    · rcases List.mem_cons.1 hy with rfl | hy'
      · exact absurd (h ▸ List.mem_map.2 ⟨x, hx', rfl⟩) hn.1
      · exact entry_of hn.2 hx' hy' h
theorem drew_heap (w : World) : w.drew.heap = w.heap := rfl
theorem run_nextM {g : Nat} {seen : List Int} (h : IterAt w g b m seen) (ty : TypeId) :
    ((∀ p ∈ m, p.1 ∈ seen) ∧ (Instr.next (.pointer (some ⟨g, 0, none⟩)) false ty).run P w = .ok (.tuple #[.bool false]) w) ∨
    ∃ k v w1, (k, v) ∈ m ∧ k ∉ seen ∧ (Instr.next (.pointer (some ⟨g, 0, none⟩)) false ty).run P w = .ok (.tuple #[.bool true, .int .i64 k, v]) w1 ∧ IterAt w1 g b m (seen ++ [k]) ∧ Fr [g] w w1 ∧ w1.heap.size = w.heap.size := by
  obtain ⟨es, clock, sb, hb, hs, hm, hi, L, hL, hsb, hsk⟩ := h
  have hne : g ≠ b := by rintro rfl; rw [hb] at hi; cases hi
  have he : ∀ e ∈ es.toList, e.born ∈ sb ↔ ∃ k ∈ seen, e.key = .int .i64 k := by
    intro e hme
    rw [← Array.mem_toList_iff, hsb]
    constructor
    · intro h
      obtain ⟨x, hx, hxe⟩ := List.mem_map.1 h
      obtain rfl := entry_of hs.2.1 (hL x hx) hme hxe
      have : x.key ∈ seen.map (Value.int .i64) := hsk ▸ List.mem_map.2 ⟨x, hx, rfl⟩
      obtain ⟨k, h1, h2⟩ := List.mem_map.1 this
      exact ⟨k, h1, h2.symm⟩
    · rintro ⟨k, h1, h2⟩
      have : Value.int .i64 k ∈ L.map (·.key) := hsk ▸ List.mem_map.2 ⟨k, h1, rfl⟩
      obtain ⟨x, hx, hxe⟩ := List.mem_map.1 this
      obtain rfl := entry_of hs.2.2 (hL x hx) hme (hxe.trans h2.symm)
      exact List.mem_map.2 ⟨x, hx, rfl⟩
  rcases run_next_at (P := P) w ty g b clock clock sb es clock hi hb hs.1 (Nat.le_refl _) with ⟨h0, hr⟩ | ⟨e, hel, w1, hw1, hr⟩
  · refine .inl ⟨fun p hp => ?_, hr⟩
    have : kvOf p ∈ es.toList.map (fun e => (e.key, e.val)) := hm ▸ List.mem_map.2 ⟨p, hp, rfl⟩
    obtain ⟨e, hme, hk⟩ := List.mem_map.1 this
    have hk : e.key = .int .i64 p.1 := congrArg Prod.fst hk
    have hsb : e.born ∈ sb := by
      refine Decidable.byContradiction fun hn => ?_
      have : e ∈ (leftOf es sb).toList := by unfold leftOf; simp; exact ⟨by simpa using hme, hn⟩
      have h2 := Array.eq_empty_of_size_eq_zero h0
      rw [h2] at this
      cases this
    obtain ⟨k, hks, hk2⟩ := (he e hme).1 hsb
    rw [kv_inj (hk.symm.trans hk2)]
    exact hks
  · have hme : e ∈ es.toList ∧ e.born ∉ sb := by unfold leftOf at hel; simpa using hel
    have : (e.key, e.val) ∈ m.map kvOf := hm ▸ List.mem_map.2 ⟨e, hme.1, rfl⟩
    obtain ⟨p, hp, hpe⟩ := List.mem_map.1 this
    have hk : e.key = .int .i64 p.1 := (congrArg Prod.fst hpe).symm
    have hv : e.val = p.2 := (congrArg Prod.snd hpe).symm
    have hh : w1.heap = w.heap := by rcases hw1 with rfl | rfl <;> rfl
    have hi1 : w1.heap[g]? = some (.mapIter (some b) clock sb clock) := by rw [hh]; exact hi
    rw [hk, hv] at hr
    refine .inr ⟨p.1, p.2, _, hp, fun hks => hme.2 ((he e hme.1).2 ⟨p.1, hks, hk⟩), hr, ⟨es, clock, sb.push e.born, ?_, hs, hm, ?_, L ++ [e], fun x hx => ?_, by simp [hsb], by simp [hsk, hk]⟩, ?_, by simp [setBlock, hh]⟩
    · show (w1.heap.setIfInBounds g _)[b]? = _
      rw [(heap_set hi1).2 b fun q => hne q.symm, hh]; exact hb
    · exact (heap_set hi1).1
    · rcases List.mem_append.1 hx with hx | hx
      · exact hL x hx
      · rw [List.mem_singleton] at hx; rw [hx]; exact hme.1
    · refine ⟨?_, ?_, ?_, by simp [setBlock, hh], fun q _ hn => ?_⟩
      · rcases hw1 with rfl | rfl <;> rfl
      · rcases hw1 with rfl | rfl <;> rfl
      · rcases hw1 with rfl | rfl <;> rfl
      · rw [List.mem_singleton] at hn
        show (w1.heap.setIfInBounds g _)[q]? = _
        rw [(heap_set hi1).2 q hn, hh]
/-- The entry that came last. -/
def IterLast (w : World) (g : Nat) (k : Int) (v : Value) : Prop := ∃ b m seen, IterAt w g b m (seen ++ [k]) ∧ lkM m k = some v
theorem run_entryM {g : Nat} {k : Int} {v : Value} (h : IterLast w g k v) : (Instr.entry (.pointer (some ⟨g, 0, none⟩))).run P w = .ok (.tuple #[.int .i64 k, v]) w := by
  obtain ⟨b, m, seen, ⟨es, clock, sb, hb, hs, hm, hi, L, hL, hsb, hsk⟩, hl⟩ := h
  rw [List.map_append] at hsk
  obtain ⟨L1, L2, rfl, h1, h2⟩ := List.map_eq_append_iff.1 hsk
  obtain ⟨e, rfl⟩ : ∃ e, L2 = [e] := by
    cases L2 with
    | nil => cases h2
    | cons e r =>
      cases r with
      | nil => exact ⟨e, rfl⟩
      | cons _ _ => injection h2 with _ h3; cases h3
  injection h2 with h3 _
  have h3 : e.key = .int .i64 k := h3
  have hme := hL e (by simp)
  have hsb2 : sb = (L1.map (·.born)).toArray.push e.born := by apply Array.ext'; simp [hsb]
  rw [hsb2] at hi
  have := run_entry_at (P := P) w g b clock _ es clock e hi hb hme hs.2.1
  rw [h3] at this
  have hv : e.val = v := by
    obtain ⟨j, hj⟩ := List.getElem?_of_mem hme
    have hn : (m.map (·.1)).Nodup := MapAt.nodup ⟨es, clock, hb, hs, hm⟩
    have := (find_some hm hn hj h3).1
    rw [hl] at this
    injection this with this
    exact this.symm
  rw [hv] at this
  exact this
/-- What a key has. -/
def MLk (w : World) (mb : Option Nat) (k : Int) (r : Option Value) : Prop := match mb with
  | none => r = none
  | some b => ∃ m, MapAt w b m ∧ lkM m k = r
def mapO (w : World) (mb : Option Nat) (f : List (Int × Value) → List (Int × Value)) (K : World → Prop) : Prop :=
  ∃ b m, mb = some b ∧ MapAt w b m ∧ ∀ w1, MapAt w1 b (f m) → Fr [b] w w1 → w1.heap.size = w.heap.size → K w1
def rngO (w : World) (mb : Option Nat) (K : Nat → World → Prop) : Prop :=
  ∃ b m, mb = some b ∧ MapAt w b m ∧ ∀ g w1, g = w.heap.size → IterAt w1 g b m [] → Below w.heap.size w w1 → w1.heap.size = g + 1 → K g w1
def nxtO (w : World) (g : Nat) (K0 : World → Prop) (K1 : Int → Value → World → Prop) : Prop :=
  ∃ b m seen, IterAt w g b m seen ∧ ((∀ p ∈ m, p.1 ∈ seen) → K0 w) ∧ ∀ k v w1, (k, v) ∈ m → k ∉ seen → IterAt w1 g b m (seen ++ [k]) → Fr [g] w w1 → w1.heap.size = w.heap.size → K1 k v w1
end
end Go.Proofs.Ytkggnbabnfhcpaa
end
section
/- Abstract frames: slots that hold values, or stand for a local box (a struct variable); what an operation that only reads yields there. No program in sight. -/
namespace Go.Proofs.Ytkggnbabnfhcpaa
open Go.RowKit
/-- A slot: a value, a place in a local box, or the iterator of a loop over a map (its block, the element's type). -/
inductive SV where
  | v (x : Value)
  | box (id off : Nat)
  | iter (g : Nat) (et : TypeId)
abbrev SFr := List (Nat × Option SV)
def lk : SFr → Nat → Option SV
  | [], _ => none
  | p :: r, n => cond (Nat.beq p.1 n) p.2 (lk r n)
/-- A local box: its number, its block, its type, its cells. -/
structure LB where
  id : Nat
  g : Nat
  T : TypeId
  cs : List Value
def lkB : List LB → Nat → Option LB
  | [], _ => none
  | b :: r, n => cond (Nat.beq b.id n) (some b) (lkB r n)
def gsOf : List LB → List Nat
  | [] => []
  | b :: r => b.g :: gsOf r
inductive TK where
  | int (k : IntKind)
  | bool
  | str
  | ptr
  | slice (e : TypeId)
  | arr (n : Nat) (e : TypeId)
  | struct (fs : List (Nat × TypeId))
  | func
  | flt (k : FloatKind)
  | map (k e : TypeId)
  | other
def tkOf : TypeDesc → TK
  | .bool => .bool
  | .int k => .int k
  | .string => .str
  | .pointer _ => .ptr
  | .slice e => .slice e
  | .array n e => .arr n e
  | .struct fs => .struct (fs.toList.map fun f => (f.offset, f.type))
  | .func .. => .func
  | .float k => .flt k
  | .map k e => .map k e
  | _ => .other
/-- What one cell holds. -/
inductive Lf where
  | int (k : IntKind)
  | bool
  | str
  | slice
  | ptr
  | flt
  | cpx
  | any
  | map
  | bytes (n : Nat)
inductive Sh1 where
  | lf (l : Lf)
  | agg (ls : List Lf)
structure TI where
  k : TK
  size : Nat
  zero : Value
  bytes : Nat
  lv : List Lf
structure Env where
  tys : List (Nat × TI)
  fns : List (Nat × List Sh1)
  eqs : List Nat
def lkT : List (Nat × TI) → Nat → Option TI
  | [], _ => none
  | p :: r, n => cond (Nat.beq p.1 n) (some p.2) (lkT r n)
def lkF : List (Nat × List Sh1) → Nat → Option (List Sh1)
  | [], _ => none
  | p :: r, n => cond (Nat.beq p.1 n) (some p.2) (lkF r n)
def TyOk (P : Program) (t : TypeId) (i : TI) : Prop := (P.underlying t).map tkOf = some i.k ∧ (P.info? t).map (fun x => (x.size, x.zero, x.bytes)) = some (i.size, some i.zero, i.bytes)
def FnOk (P : Program) (f : FuncId) : Prop := ∀ args w, (callFunc f args).run P w = .ok (.enter f args) w
/-- A type whose values may be compared part by part. -/
def EqTy (P : Program) (t : TypeId) : Prop := P.stoodInHeld t = false ∧ P.eqGuardType P.depth t = false ∧ (match P.underlying t with | some (.struct fs) => fs.toList.all (fun f => f.name != "_") | _ => true) = true
structure EOk (P : Program) (E : Env) : Prop where
  tys : ∀ p ∈ E.tys, TyOk P p.1 p.2
  fns : ∀ p ∈ E.fns, FnOk P p.1
  mixed : P.follows .mixedOrders = true
  eqs : ∀ t ∈ E.eqs, EqTy P t
theorem lkT_mem : ∀ {l : List (Nat × TI)} {n : Nat} {i : TI}, lkT l n = some i → (n, i) ∈ l
  | p :: r, n, i, h => by
    unfold lkT at h
    cases hb : Nat.beq p.1 n
    · rw [hb] at h; exact List.mem_cons_of_mem _ (lkT_mem h)
    · rw [hb] at h
      have := Nat.eq_of_beq_eq_true hb
      injection h with h
      subst h; subst this
      exact List.mem_cons_self ..
theorem lkF_mem : ∀ {l : List (Nat × List Sh1)} {n : Nat} {i : List Sh1}, lkF l n = some i → (n, i) ∈ l
  | p :: r, n, i, h => by
    unfold lkF at h
    cases hb : Nat.beq p.1 n
    · rw [hb] at h; exact List.mem_cons_of_mem _ (lkF_mem h)
    · rw [hb] at h
      have := Nat.eq_of_beq_eq_true hb
      injection h with h
      subst h; subst this
      exact List.mem_cons_self ..
theorem lkB_mem : ∀ {l : List LB} {n : Nat} {b : LB}, lkB l n = some b → b ∈ l ∧ b.id = n
  | p :: r, n, i, h => by
    unfold lkB at h
    cases hb : Nat.beq p.id n
    · rw [hb] at h; exact ⟨List.mem_cons_of_mem _ (lkB_mem h).1, (lkB_mem h).2⟩
    · rw [hb] at h
      have := Nat.eq_of_beq_eq_true hb
      injection h with h
      subst h
      exact ⟨List.mem_cons_self .., this⟩
/-! How the conditions are spelled. -/
def br (b : Bool) (A B : Prop) : Prop := match b with | true => A | false => B
theorem br_split {b : Bool} {A B : Prop} : br b A B ↔ (b = true → A) ∧ (b = false → B) := by cases b <;> simp [br]
theorem br_true {b : Bool} {A B : Prop} (h : b = true) : br b A B = A := by rw [h]; rfl
theorem br_false {b : Bool} {A B : Prop} (h : b = false) : br b A B = B := by rw [h]; rfl
theorem br_dec {p : Prop} [Decidable p] {A B : Prop} (h1 : p → A) (h2 : ¬ p → B) : br (decide p) A B := by
  by_cases h : p
  · rw [br_true (decide_eq_true h)]; exact h1 h
  · rw [br_false (decide_eq_false h)]; exact h2 h
def withS (s : Option SV) (K : SV → Prop) : Prop := match s with | some x => K x | none => False
def withV (s : Option SV) (K : Value → Prop) : Prop := match s with | some (.v x) => K x | _ => False
def withP (p : Option Addr) (K : Nat → Nat → Prop) : Prop := match p with | some ⟨b, off, none⟩ => K b off | _ => False
@[simp] theorem withP_some (b off : Nat) (K : Nat → Nat → Prop) : withP (some ⟨b, off, none⟩) K = K b off := rfl
theorem withP_mk {p : Option Addr} {K : Nat → Nat → Prop} (b off : Nat) (h : p = some ⟨b, off, none⟩) (hk : K b off) : withP p K := by subst h; exact hk
theorem withP_get {p : Option Addr} {K : Nat → Nat → Prop} (h : withP p K) : ∃ b off, p = some ⟨b, off, none⟩ ∧ K b off := by
  cases p with
  | none => exact h.elim
  | some a =>
    obtain ⟨b, off, s⟩ := a
    cases s with
    | none => exact ⟨b, off, rfl, h⟩
    | some _ => exact h.elim
def exLf : Lf → (Value → Prop) → Prop
  | .int k, K => ∃ x : Int, K (.int k x)
  | .bool, K => ∃ x : Bool, K (.bool x)
  | .str, K => ∃ s : ByteArray, K (.string s)
  | .slice, K => ∃ (a : Option Addr) (n c : Nat), K (.slice a n c)
  | .ptr, K => ∃ a : Option Addr, K (.pointer a)
  | .flt, K => ∃ b : Nat, K (.float .f64 b)
  | .cpx, K => ∃ b c : Nat, K (.complex .f64 b c)
  | .any, K => ∃ v : Value, K v
  | .map, K => ∃ b : Option Nat, K (.map b)
  | .bytes n, K => ∃ bs : List UInt8, bs.length = n ∧ K (.agg (bs.map bV).toArray)
/-- How many cells. -/
def Lf.cells : Lf → Nat
  | .bytes n => n
  | _ => 1
def lvSize : List Lf → Nat
  | [] => 0
  | l :: r => l.cells + lvSize r
/-- One leaf's cells. -/
def exLc : Lf → List Value → (List Value → Prop) → Prop
  | .bytes n, acc, K => ∃ bs : List UInt8, bs.length = n ∧ K (acc ++ bs.map bV)
  | .int k, acc, K => ∃ x : Int, K (acc ++ [.int k x])
  | .bool, acc, K => ∃ x : Bool, K (acc ++ [.bool x])
  | .str, acc, K => ∃ s : ByteArray, K (acc ++ [.string s])
  | .slice, acc, K => ∃ (a : Option Addr) (n c : Nat), K (acc ++ [.slice a n c])
  | .ptr, acc, K => ∃ a : Option Addr, K (acc ++ [.pointer a])
  | .flt, acc, K => ∃ b : Nat, K (acc ++ [.float .f64 b])
  | .cpx, acc, K => ∃ b c : Nat, K (acc ++ [.complex .f64 b c])
  | .any, acc, K => ∃ v : Value, K (acc ++ [v])
  | .map, acc, K => ∃ b : Option Nat, K (acc ++ [.map b])
def exLs : List Lf → List Value → (List Value → Prop) → Prop
  | [], acc, K => K acc
  | l :: r, acc, K => exLc l acc fun acc => exLs r acc K
def ex1 : Sh1 → (Value → Prop) → Prop
  | .lf l, K => exLf l K
  | .agg ls, K => exLs ls [] fun vs => K (.agg vs.toArray)
def exTs : List Sh1 → List Value → (List Value → Prop) → Prop
  | [], acc, K => K acc
  | s :: r, acc, K => ex1 s fun v => exTs r (acc ++ [v]) K
def exSh : List Sh1 → (Value → Prop) → Prop
  | [], K => K (.tuple #[])
  | [s], K => ex1 s K
  | l, K => exTs l [] fun vs => K (.tuple vs.toArray)
theorem exLf_get {l : Lf} {K : Value → Prop} (h : exLf l K) : ∃ v, K v := by
  cases l with
  | slice => obtain ⟨a, n, c, h⟩ := h; exact ⟨_, h⟩
  | cpx => obtain ⟨a, n, h⟩ := h; exact ⟨_, h⟩
  | bytes n => obtain ⟨x, _, h⟩ := h; exact ⟨_, h⟩
  | _ => obtain ⟨x, h⟩ := h; exact ⟨_, h⟩
theorem exLc_get {l : Lf} {acc : List Value} {K : List Value → Prop} (h : exLc l acc K) : ∃ vs, vs.length = acc.length + l.cells ∧ K vs := by
  cases l with
  | slice => obtain ⟨a, n, c, h⟩ := h; exact ⟨_, by simp [Lf.cells], h⟩
  | cpx => obtain ⟨a, n, h⟩ := h; exact ⟨_, by simp [Lf.cells], h⟩
  | bytes n => obtain ⟨x, hx, h⟩ := h; exact ⟨_, by simp [Lf.cells, hx], h⟩
  | _ => obtain ⟨x, h⟩ := h; exact ⟨_, by simp [Lf.cells], h⟩
theorem exLs_get : ∀ {ls : List Lf} {acc : List Value} {K : List Value → Prop}, exLs ls acc K → ∃ vs, vs.length = acc.length + lvSize ls ∧ K vs
  | [], acc, K, h => ⟨acc, rfl, h⟩
  | l :: r, acc, K, h => by
    obtain ⟨v, h0, h⟩ := exLc_get h
    obtain ⟨vs, h1, h2⟩ := exLs_get h
    exact ⟨vs, by rw [h1, h0, lvSize]; omega, h2⟩
theorem ex1_get {s : Sh1} {K : Value → Prop} (h : ex1 s K) : ∃ v, K v := by
  cases s with
  | lf l => exact exLf_get h
  | agg ls => obtain ⟨vs, _, h⟩ := exLs_get h; exact ⟨_, h⟩
theorem exTs_get : ∀ {ss : List Sh1} {acc : List Value} {K : List Value → Prop}, exTs ss acc K → ∃ vs, K vs
  | [], acc, K, h => ⟨acc, h⟩
  | s :: r, acc, K, h => by obtain ⟨v, h⟩ := ex1_get h; exact exTs_get h
theorem exSh_get {ss : List Sh1} {K : Value → Prop} (h : exSh ss K) : ∃ v, K v := by
  unfold exSh at h
  split at h
  · exact ⟨_, h⟩
  · exact ex1_get h
  · obtain ⟨vs, h⟩ := exTs_get h; exact ⟨_, h⟩
def cellsAt (w : World) (b : Nat) : Nat → List Value → Prop
  | _, [] => True
  | off, v :: r => w.cell? ⟨b, off, none⟩ = some v ∧ cellsAt w b (off + 1) r
theorem cellsAt_get {w : World} {b : Nat} : ∀ {vs : List Value} {off : Nat}, cellsAt w b off vs → ∀ j v, vs[j]? = some v → w.cell? ⟨b, off + j, none⟩ = some v
  | [], off, _, j, v, h => by cases h
  | x :: r, off, h, j, v, hv => by
    cases j with
    | zero => cases hv; exact h.1
    | succ j =>
      have := cellsAt_get h.2 j v (by simpa using hv)
      rw [show off + (j + 1) = off + 1 + j by omega]; exact this
theorem cellsAt_of {w : World} {b : Nat} : ∀ {vs : List Value} {off : Nat}, (∀ j v, vs[j]? = some v → w.cell? ⟨b, off + j, none⟩ = some v) → cellsAt w b off vs
  | [], off, _ => trivial
  | x :: r, off, h => ⟨h 0 x rfl, cellsAt_of fun j v hv => by
      have := h (j + 1) v (by simpa using hv)
      rw [show off + (j + 1) = off + 1 + j by omega] at this; exact this⟩
def nth : List Value → Nat → Option Value
  | [], _ => none
  | x :: r, n => cond (Nat.beq n 0) (some x) (nth r (n - 1))
theorem nth_eq : ∀ (l : List Value) (n : Nat), nth l n = l[n]?
  | [], n => by simp [nth]
  | x :: r, 0 => by simp [nth]
  | x :: r, n + 1 => by
    have : Nat.beq (n + 1) 0 = false := by simp [Nat.beq]
    simp only [nth, this, cond_false, Nat.add_sub_cancel, nth_eq r n, List.getElem?_cons_succ]
def nthF : List (Nat × TypeId) → Nat → Option (Nat × TypeId)
  | [], _ => none
  | x :: r, n => cond (Nat.beq n 0) (some x) (nthF r (n - 1))
theorem nthF_eq : ∀ (l : List (Nat × TypeId)) (n : Nat), nthF l n = l[n]?
  | [], n => by simp [nthF]
  | x :: r, 0 => by simp [nthF]
  | x :: r, n + 1 => by
    have : Nat.beq (n + 1) 0 = false := by simp [Nat.beq]
    simp only [nthF, this, cond_false, Nat.add_sub_cancel, nthF_eq r n, List.getElem?_cons_succ]
def cutL (l : List Value) (off n : Nat) : List Value := (l.drop off).take n
/-- What must be so in a world for an operation to yield there what it yields here. -/
inductive SFact where
  | tt
  | box (b : LB)
  | mem (p : World → Prop)
def LB.at (b : LB) (w : World) : Prop := w.heap[b.g]? = some (.cells b.cs.toArray b.T (0, 0))
def SFact.holds : SFact → World → Prop
  | .tt, _ => True
  | .box b, w => b.at w
  | .mem p, w => p w
def ev (ρ : SFr) : Operand → Option SV
  | .tmp t => lk ρ t
  | .const v => some (.v v)
  | .global g => some (.v (.pointer (some ⟨g, 0, none⟩)))
  | .func f => some (.v (.func (.func f) #[] #[]))
def den (σ : List LB) : SV → Option Value
  | .v x => some x
  | .box id off => (lkB σ id).map fun b => .pointer (some ⟨b.g, off, none⟩)
  | .iter g _ => some (.pointer (some ⟨g, 0, none⟩))
structure Rep (n : Nat) (ρ : SFr) (σ : List LB) (a : Act) (w : World) : Prop where
  size : a.tmps.size = n
  defs : a.defers = []
  slots : ∀ t s, lk ρ t = some s → ∃ x, den σ s = some x ∧ a.tmps[t]? = some x
  boxes : ∀ b ∈ σ, b.at w
  nodup : (σ.map (·.g)).Nodup
  ids : (σ.map (·.id)).Nodup
theorem Rep.ev {n : Nat} {ρ : SFr} {σ : List LB} {a : Act} {w : World} (h : Rep n ρ σ a w) {o : Operand} {s : SV} (he : ev ρ o = some s) : ∃ x, den σ s = some x ∧ a.eval o = x := by
  cases o with
  | tmp t =>
    obtain ⟨x, h1, h2⟩ := h.slots t s he
    exact ⟨x, h1, by simp [Act.eval, Array.getD_eq_getD_getElem?, h2]⟩
  | const v => cases he; exact ⟨v, rfl, rfl⟩
  | global g => cases he; exact ⟨_, rfl, rfl⟩
  | func f => cases he; exact ⟨_, rfl, rfl⟩
theorem Rep.evV {n : Nat} {ρ : SFr} {σ : List LB} {a : Act} {w : World} (h : Rep n ρ σ a w) {o : Operand} {K : Value → Prop} (he : withV (Proofs.Ytkggnbabnfhcpaa.ev ρ o) K) : K (a.eval o) := by
  unfold withV at he
  split at he
  · rename_i x hx
    obtain ⟨y, h1, h2⟩ := h.ev hx
    cases h1
    rw [h2]; exact he
  · exact he.elim
theorem Rep.evP {n : Nat} {ρ : SFr} {σ : List LB} {a : Act} {w : World} (h : Rep n ρ σ a w) {o : Operand} {id off : Nat} (he : Proofs.Ytkggnbabnfhcpaa.ev ρ o = some (.box id off)) : ∃ b, lkB σ id = some b ∧ a.eval o = .pointer (some ⟨b.g, off, none⟩) := by
  obtain ⟨x, h1, h2⟩ := h.ev he
  cases hb : lkB σ id with
  | none => simp [den, hb] at h1
  | some b => refine ⟨b, rfl, ?_⟩; simp [den, hb] at h1; rw [h2, h1]
end Go.Proofs.Ytkggnbabnfhcpaa
end
section
/- What an operation that only reads yields in an abstract frame, and that it does so in the model. No program in sight. -/
namespace Go.Proofs.Ytkggnbabnfhcpaa
open Go.RowKit
variable {P : Program} {E : Env}
theorem EOk.und (hE : EOk P E) {t : TypeId} {i : TI} (h : lkT E.tys t = some i) : ∃ d, P.underlying t = some d ∧ tkOf d = i.k := by
  have := (hE.tys _ (lkT_mem h)).1
  cases hd : P.underlying t with
  | none => rw [hd] at this; cases this
  | some d => rw [hd] at this; injection this with this; exact ⟨d, rfl, this⟩
theorem EOk.info (hE : EOk P E) {t : TypeId} {i : TI} (h : lkT E.tys t = some i) : ∃ f, P.info? t = some f ∧ f.size = i.size ∧ f.zero = some i.zero ∧ f.bytes = i.bytes := by
  have := (hE.tys _ (lkT_mem h)).2
  cases hd : P.info? t with
  | none => rw [hd] at this; cases this
  | some d => rw [hd] at this; injection this with this; injection this with h1 h2; injection h2 with h2 h3; exact ⟨d, rfl, h1, h2, h3⟩
theorem EOk.sizeOf (hE : EOk P E) {t : TypeId} {i : TI} (h : lkT E.tys t = some i) (w : World) : (Go.sizeOf t).run P w = .ok i.size w := by
  obtain ⟨f, h1, h2, _⟩ := hE.info h
  simp [Go.sizeOf, typeInfo, h1, h2]
theorem EOk.zeroValue (hE : EOk P E) {t : TypeId} {i : TI} (h : lkT E.tys t = some i) (w : World) : (Go.zeroValue t).run P w = .ok i.zero w := by
  obtain ⟨f, h1, _, h2, _⟩ := hE.info h
  simp [Go.zeroValue, typeInfo, h1, h2]
def isAggK : TK → Bool
  | .arr _ _ => true
  | .struct _ => true
  | _ => false
theorem EOk.isAgg (hE : EOk P E) {t : TypeId} {i : TI} (h : lkT E.tys t = some i) (w : World) : (Go.isAgg t).run P w = .ok (isAggK i.k) w := by
  obtain ⟨d, h1, h2⟩ := hE.und h
  unfold Go.isAgg
  rw [Sem.run_bind, run_underlying h1 w, ← h2]
  cases d <;> rfl
theorem tk_slice {d : TypeDesc} {e : TypeId} (h : tkOf d = .slice e) : d = .slice e := by cases d <;> simp [tkOf] at h; rw [h]
theorem tk_arr {d : TypeDesc} {n : Nat} {e : TypeId} (h : tkOf d = .arr n e) : d = .array n e := by cases d <;> simp [tkOf] at h; rw [h.1, h.2]
theorem tk_int {d : TypeDesc} {k : IntKind} (h : tkOf d = .int k) : d = .int k := by cases d <;> simp [tkOf] at h; rw [h]
theorem tk_str {d : TypeDesc} (h : tkOf d = .str) : d = .string := by cases d <;> simp [tkOf] at h; rfl
theorem tk_bool {d : TypeDesc} (h : tkOf d = .bool) : d = .bool := by cases d <;> simp [tkOf] at h; rfl
theorem tk_ptr {d : TypeDesc} (h : tkOf d = .ptr) : ∃ e, d = .pointer e := by cases d <;> simp [tkOf] at h; exact ⟨_, rfl⟩
theorem tk_struct {d : TypeDesc} {fs : List (Nat × TypeId)} (h : tkOf d = .struct fs) : ∃ F, d = .struct F ∧ F.toList.map (fun f => (f.offset, f.type)) = fs := by cases d <;> simp [tkOf] at h; exact ⟨_, rfl, h⟩
theorem EOk.slice (hE : EOk P E) {t e : TypeId} {i : TI} (h : lkT E.tys t = some i) (hk : i.k = .slice e) : P.underlying t = some (.slice e) := by
  obtain ⟨d, h1, h2⟩ := hE.und h; rw [hk] at h2; rw [h1, tk_slice h2]
theorem EOk.arr (hE : EOk P E) {t e : TypeId} {n : Nat} {i : TI} (h : lkT E.tys t = some i) (hk : i.k = .arr n e) : P.underlying t = some (.array n e) := by
  obtain ⟨d, h1, h2⟩ := hE.und h; rw [hk] at h2; rw [h1, tk_arr h2]
theorem EOk.int (hE : EOk P E) {t : TypeId} {k : IntKind} {i : TI} (h : lkT E.tys t = some i) (hk : i.k = .int k) : P.underlying t = some (.int k) := by
  obtain ⟨d, h1, h2⟩ := hE.und h; rw [hk] at h2; rw [h1, tk_int h2]
theorem EOk.str (hE : EOk P E) {t : TypeId} {i : TI} (h : lkT E.tys t = some i) (hk : i.k = .str) : P.underlying t = some .string := by
  obtain ⟨d, h1, h2⟩ := hE.und h; rw [hk] at h2; rw [h1, tk_str h2]
theorem tk_flt {d : TypeDesc} {k : FloatKind} (h : tkOf d = .flt k) : d = .float k := by cases d <;> simp [tkOf] at h; rw [h]
theorem EOk.flt (hE : EOk P E) {t : TypeId} {k : FloatKind} {i : TI} (h : lkT E.tys t = some i) (hk : i.k = .flt k) : P.underlying t = some (.float k) := by
  obtain ⟨d, h1, h2⟩ := hE.und h; rw [hk] at h2; rw [h1, tk_flt h2]
theorem EOk.bool (hE : EOk P E) {t : TypeId} {i : TI} (h : lkT E.tys t = some i) (hk : i.k = .bool) : P.underlying t = some .bool := by
  obtain ⟨d, h1, h2⟩ := hE.und h; rw [hk] at h2; rw [h1, tk_bool h2]
theorem EOk.ptr (hE : EOk P E) {t : TypeId} {i : TI} (h : lkT E.tys t = some i) (hk : i.k = .ptr) : ∃ e, P.underlying t = some (.pointer e) := by
  obtain ⟨d, h1, h2⟩ := hE.und h; rw [hk] at h2; obtain ⟨e, rfl⟩ := tk_ptr h2; exact ⟨e, h1⟩
theorem EOk.struct (hE : EOk P E) {t : TypeId} {fs : List (Nat × TypeId)} {i : TI} (h : lkT E.tys t = some i) (hk : i.k = .struct fs) : ∃ F, P.underlying t = some (.struct F) ∧ F.toList.map (fun f => (f.offset, f.type)) = fs := by
  obtain ⟨d, h1, h2⟩ := hE.und h; rw [hk] at h2; obtain ⟨F, rfl, h3⟩ := tk_struct h2; exact ⟨F, h1, h3⟩
/-! The operators. -/
def bitsV (op : BinOp) (k : IntKind) (x y : Int) : Int :=
  let a := BitVec.ofInt k.bits x
  let b := BitVec.ofInt k.bits y
  match op with
  | .and => k.wrap (a &&& b).toNat
  | .or => k.wrap (a ||| b).toNat
  | .xor => k.wrap (a ^^^ b).toNat
  | _ => k.wrap (a &&& ~~~b).toNat
def qint (op : BinOp) (k : IntKind) (a : Int) (k' : IntKind) (b : Int) (K : Value → Prop) : Prop :=
  match op with
  | .shl => 0 ≤ b ∧ K (.int k (k.wrap (a * 2 ^ (min b.toNat k.bits))))
  | .shr => 0 ≤ b ∧ K (.int k (a.fdiv (2 ^ (min b.toNat k.bits))))
  | .add => cond (decide (k = k')) (K (.int k (k.wrap (a + b)))) False
  | .sub => cond (decide (k = k')) (K (.int k (k.wrap (a - b)))) False
  | .mul => cond (decide (k = k')) (K (.int k (k.wrap (a * b)))) False
  | .quo => cond (decide (k = k')) (b ≠ 0 ∧ K (.int k (k.wrap (a.tdiv b)))) False
  | .rem => cond (decide (k = k')) (b ≠ 0 ∧ K (.int k (a.tmod b))) False
  | .and => cond (decide (k = k')) (K (.int k (bitsV .and k a b))) False
  | .or => cond (decide (k = k')) (K (.int k (bitsV .or k a b))) False
  | .xor => cond (decide (k = k')) (K (.int k (bitsV .xor k a b))) False
  | .andNot => cond (decide (k = k')) (K (.int k (bitsV .andNot k a b))) False
  | .eql => cond (decide (k = k')) (K (.bool (decide (a = b)))) False
  | .neq => cond (decide (k = k')) (K (.bool (decide (a ≠ b)))) False
  | .lss => cond (decide (k = k')) (K (.bool (decide (a < b)))) False
  | .leq => cond (decide (k = k')) (K (.bool (decide (a ≤ b)))) False
  | .gtr => cond (decide (k = k')) (K (.bool (decide (a > b)))) False
  | .geq => cond (decide (k = k')) (K (.bool (decide (a ≥ b)))) False
theorem cond_get {c : Bool} {A : Prop} (h : cond c A False) : c = true ∧ A := by cases c; exact h.elim; exact ⟨rfl, h⟩
theorem int_beq (a b : Int) : (a == b) = decide (a = b) := rfl
theorem bool_beq (a b : Bool) : (a == b) = decide (a = b) := by cases a <;> cases b <;> rfl
theorem qint_sound {op : BinOp} {k k' : IntKind} {a b : Int} {K : Value → Prop} (t : TypeId) (h : qint op k a k' b K) (w : World) : ∃ v, K v ∧ ∀ w, (binOp op t (.int k a) (.int k' b)).run P w = .ok v w := by
  cases op <;> simp only [qint] at h
  case shl => exact ⟨_, h.2, fun w => by simp [binOp, Op.shift, show ¬ b < 0 by omega]⟩
  case shr => exact ⟨_, h.2, fun w => by simp [binOp, Op.shift, show ¬ b < 0 by omega]⟩
  case quo => obtain ⟨hk, h0, h⟩ := cond_get h; exact ⟨_, h, fun w => by simp [binOp, of_decide_eq_true hk, Op.intDiv, h0]⟩
  case rem => obtain ⟨hk, h0, h⟩ := cond_get h; exact ⟨_, h, fun w => by simp [binOp, of_decide_eq_true hk, Op.intDiv, h0]⟩
  case eql => obtain ⟨hk, h⟩ := cond_get h; exact ⟨_, h, fun w => by rw [← int_beq]; simp [binOp, of_decide_eq_true hk, Op.intCmp]⟩
  case neq => obtain ⟨hk, h⟩ := cond_get h; exact ⟨_, h, fun w => by rw [show decide (a ≠ b) = !(a == b) by rw [int_beq]; simp]; simp [binOp, of_decide_eq_true hk, Op.intCmp, bne]⟩
  all_goals first
    | exact h.elim
    | (obtain ⟨hk, h⟩ := cond_get h; exact ⟨_, h, fun w => by simp [binOp, of_decide_eq_true hk, Op.intArith, Op.intCmp, Op.intBits, bitsV]⟩)
def qstr (op : BinOp) (a b : ByteArray) (K : Value → Prop) : Prop :=
  match op with
  | .add => a.size + b.size ≤ 9223372036854775807 ∧ K (.string (a ++ b))
  | .eql => K (.bool (decide (a = b)))
  | .neq => K (.bool (decide (a ≠ b)))
  | .lss => K (.bool (Op.bytesLess a.toList b.toList))
  | .leq => K (.bool (Op.bytesLess a.toList b.toList || decide (a = b)))
  | .gtr => K (.bool (!(Op.bytesLess a.toList b.toList || decide (a = b))))
  | .geq => K (.bool (!Op.bytesLess a.toList b.toList))
  | _ => False
theorem bytes_eq (a b : ByteArray) : (a.toList == b.toList) = decide (a = b) := by
  have ht : ∀ s : ByteArray, s.toList = s.data.toList := fun s => by
    have := ByteArray.toList_mk s.data.toList
    simpa using this
  rw [ht, ht]
  by_cases h : a = b
  · subst h; simp
  · rw [decide_eq_false h, beq_eq_false_iff_ne]
    intro he
    exact h (ByteArray.ext (Array.toList_inj.1 he))
theorem qstr_sound {op : BinOp} {a b : ByteArray} {K : Value → Prop} (t : TypeId) (h : qstr op a b K) : ∃ v, K v ∧ ∀ w, (binOp op t (.string a) (.string b)).run P w = .ok v w := by
  cases op <;> simp only [qstr] at h
  case add =>
    refine ⟨_, h.2, fun w => ?_⟩
    have h1 : ¬ (((a.size + b.size : Nat) : Int) > IntKind.i64.max) := by
      show ¬ (_ > (9223372036854775807 : Int))
      omega
    simp only [binOp, Op.stringOp]
    rw [if_neg h1]
    rfl
  all_goals first
    | exact h.elim
    | exact ⟨_, h, fun w => by simp [binOp, Op.stringOp, bytes_eq]⟩
/-! Structs and arrays, compared part by part. -/
def memE : List Nat → Nat → Bool
  | [], _ => false
  | x :: r, n => cond (Nat.beq x n) true (memE r n)
theorem memE_mem : ∀ {l : List Nat} {n : Nat}, memE l n = true → n ∈ l
  | x :: r, n, h => by
    unfold memE at h
    cases hb : Nat.beq x n
    · rw [hb] at h; exact List.mem_cons_of_mem _ (memE_mem h)
    · have := Nat.eq_of_beq_eq_true hb; subst this; exact List.mem_cons_self ..
def allO {α : Type} (f : α → Option Bool) : List α → Option Bool
  | [] => some true
  | x :: r => match f x, allO f r with
    | some a, some b => some (a && b)
    | _, _ => none
def eqLeaf (k : TK) (xs ys : List Value) : Option Bool :=
  match k, xs, ys with
  | .int k, [.int k1 a], [.int k2 b] => cond (decide (k1 = k)) (cond (decide (k2 = k)) (some (decide (a = b))) none) none
  | .bool, [.bool a], [.bool b] => some (decide (a = b))
  | .str, [.string a], [.string b] => some (decide (a = b))
  | _, _, _ => none
def eqL (E : Env) : Nat → TypeId → List Value → List Value → Option Bool
  | 0, _, _, _ => none
  | d + 1, t, xs, ys => match lkT E.tys t with
    | some i => match i.k with
      | .struct fs => cond (memE E.eqs t) (allO (fun p : Nat × TypeId => match lkT E.tys p.2 with
        | some fi => eqL E d p.2 (cutL xs p.1 fi.size) (cutL ys p.1 fi.size)
        | none => none) fs) none
      | .arr n e => match lkT E.tys e with
        | some ei => allO (fun j => eqL E d e (cutL xs (j * ei.size) ei.size) (cutL ys (j * ei.size) ei.size)) (List.range n)
        | none => none
      | k => eqLeaf k xs ys
    | none => none
def IsV (k : TK) (x : Value) (xs : List Value) : Prop := if isAggK k = true then x = .agg xs.toArray else xs = [x]
def OneV (k : TK) (xs : List Value) : Prop := isAggK k = false → ∃ v, xs = [v]
theorem cut_one {l : List Value} {off n : Nat} {v : Value} (h : cutL l off n = [v]) : l[off]? = some v := by
  unfold cutL at h
  have h0 : ((l.drop off).take n)[0]? = some v := by rw [h]; rfl
  rw [List.getElem?_take] at h0
  split at h0
  · rw [List.getElem?_drop] at h0; simpa using h0
  · cases h0
theorem eq_part (hE : EOk P E) {t : TypeId} {ti : TI} (ht : lkT E.tys t = some ti) (cs : Array Value) (off : Nat) (hl : OneV ti.k (cutL cs.toList off ti.size)) : ∃ x, (∀ w, (part t cs off).run P w = .ok x w) ∧ IsV ti.k x (cutL cs.toList off ti.size) := by
  cases hk : isAggK ti.k
  · obtain ⟨v, hv⟩ := hl hk
    refine ⟨v, fun w => ?_, by unfold IsV; rw [if_neg (by rw [hk]; decide)]; exact hv⟩
    have hc : cs[off]? = some v := by have := cut_one hv; simpa using this
    simp [part, hE.isAgg ht, hk, hc]
  · refine ⟨_, fun w => ?_, by unfold IsV; rw [if_pos hk]⟩
    simp only [part, Sem.run_bind, hE.isAgg ht, hk, Result.andThen_ok, if_true, hE.sizeOf ht, Sem.run_pure]
    congr 2
    apply Array.ext'
    simp [cutL]
def EqIH (P : Program) (E : Env) (d d' : Nat) : Prop := ∀ (t : TypeId) (xs ys : List Value) (r : Bool), eqL E d t xs ys = some r → ∃ i, lkT E.tys t = some i ∧ OneV i.k xs ∧ OneV i.k ys ∧ ∀ x y, IsV i.k x xs → IsV i.k y ys → ∀ w, (Op.equalIn (d' + d) t x y).run P w = .ok r w
theorem eq_fields (hE : EOk P E) {d d' : Nat} (IH : EqIH P E d d') (xs ys : Array Value) (w : World) : ∀ (F : List Field) (r : Bool), F.all (fun f => f.name != "_") = true →
    allO (fun p : Nat × TypeId => match lkT E.tys p.2 with
        | some fi => eqL E d p.2 (cutL xs.toList p.1 fi.size) (cutL ys.toList p.1 fi.size)
        | none => none) (F.map fun f => (f.offset, f.type)) = some r → (Op.eqFields (d' + d) xs ys F).run P w = .ok r w
  | [], r, _, h => by injection h with h; subst h; rfl
  | f :: F, r, hn, h => by
    rw [List.all_cons, Bool.and_eq_true] at hn
    obtain ⟨hn1, hn2⟩ := hn
    have hn1 : f.name ≠ "_" := by simpa using hn1
    rw [List.map_cons, allO] at h
    dsimp only at h
    split at h
    · rename_i a b ha hb
      injection h with h; subst h
      have hr := eq_fields hE IH xs ys w F b hn2 hb
      split at ha
      · rename_i fi hfi
        obtain ⟨i, hi, o1, o2, he⟩ := IH _ _ _ _ ha
        rw [hfi] at hi; injection hi with hi; subst hi
        obtain ⟨x, px, vx⟩ := eq_part hE hfi xs f.offset o1
        obtain ⟨y, py, vy⟩ := eq_part hE hfi ys f.offset o2
        have := he x y vx vy w
        simp only [Op.eqFields, hn1, ne_eq, not_false_eq_true, if_true, Sem.run_bind, px, py, this, Result.andThen_ok]
        cases a
        · simp
        · simpa using hr
      · cases ha
    · cases h
theorem eq_items (hE : EOk P E) {d d' : Nat} (IH : EqIH P E d d') {e : TypeId} {ei : TI} (hei : lkT E.tys e = some ei) (xs ys : Array Value) (w : World) : ∀ (l : List Nat) (r : Bool),
    allO (fun j => eqL E d e (cutL xs.toList (j * ei.size) ei.size) (cutL ys.toList (j * ei.size) ei.size)) l = some r → (Op.eqItems (d' + d) e ei.size xs ys l).run P w = .ok r w
  | [], r, h => by injection h with h; subst h; rfl
  | j :: l, r, h => by
    rw [allO] at h
    split at h
    · rename_i a b ha hb
      injection h with h; subst h
      have hr := eq_items hE IH hei xs ys w l b hb
      obtain ⟨i, hi, o1, o2, he⟩ := IH _ _ _ _ ha
      rw [hei] at hi; injection hi with hi; subst hi
      obtain ⟨x, px, vx⟩ := eq_part hE hei xs (j * ei.size) o1
      obtain ⟨y, py, vy⟩ := eq_part hE hei ys (j * ei.size) o2
      have := he x y vx vy w
      simp only [Op.eqItems, Sem.run_bind, px, py, this, Result.andThen_ok]
      cases a
      · simp
      · simpa using hr
    · cases h
theorem ocond {b : Bool} {x : Option Bool} {r : Bool} (h : cond b x none = some r) : b = true ∧ x = some r := by
  cases b
  · cases h
  · exact ⟨rfl, h⟩
theorem leaf_one {k : TK} {xs ys : List Value} {r : Bool} (h : eqLeaf k xs ys = some r) : (∃ v, xs = [v]) ∧ ∃ v, ys = [v] := by
  unfold eqLeaf at h
  split at h <;> first | exact ⟨⟨_, rfl⟩, ⟨_, rfl⟩⟩ | cases h
theorem eqL_sound (hE : EOk P E) (d' : Nat) : ∀ d, EqIH P E d d'
  | 0 => fun t xs ys r h => by cases h
  | d + 1 => fun t xs ys r h => by
    have IH := eqL_sound hE d' d
    unfold eqL at h
    split at h
    · rename_i i hi
      refine ⟨i, hi, ?_⟩
      split at h
      · rename_i fs hk
        have ha : isAggK i.k = true := by rw [hk]; rfl
        obtain ⟨hm, h⟩ : memE E.eqs t = true ∧ allO _ fs = some r := by
          cases hm : memE E.eqs t
          · rw [hm] at h; cases h
          · rw [hm] at h; exact ⟨rfl, h⟩
        obtain ⟨q1, q2, q3⟩ := hE.eqs t (memE_mem hm)
        obtain ⟨F, hu, hF⟩ := hE.struct hi hk
        refine ⟨(fun h => by rw [ha] at h; cases h), (fun h => by rw [ha] at h; cases h), fun x y vx vy w => ?_⟩
        unfold IsV at vx vy
        rw [if_pos ha] at vx vy
        subst vx; subst vy
        have hfo : P.fieldsOf t = F := by simp [Program.fieldsOf, hu]
        rw [hu] at q3
        rw [show d' + (d + 1) = (d' + d) + 1 from rfl, run_equalIn_struct w (d' + d) t _ _ (by rw [hfo]; exact hu) q1, hfo]
        subst hF
        exact eq_fields hE IH _ _ w F.toList r q3 (by simpa using h)
      · rename_i n e hk
        have ha : isAggK i.k = true := by rw [hk]; rfl
        split at h
        · rename_i ei hei
          refine ⟨(fun h => by rw [ha] at h; cases h), (fun h => by rw [ha] at h; cases h), fun x y vx vy w => ?_⟩
          unfold IsV at vx vy
          rw [if_pos ha] at vx vy
          subst vx; subst vy
          have hu := hE.arr hi hk
          obtain ⟨inf, g1, g2, g3, g4⟩ := hE.info hei
          have hc : P.cellsOf e = ei.size := by simp [Program.cellsOf, g1, g2]
          rw [show d' + (d + 1) = (d' + d) + 1 from rfl, run_equalIn_array w (d' + d) _ _ hu g1, hc]
          exact eq_items hE IH hei _ _ w _ r (by simpa using h)
        · cases h
      · rename_i hk1 hk2
        obtain ⟨o1, o2⟩ := leaf_one h
        refine ⟨fun _ => o1, fun _ => o2, fun x y vx vy w => ?_⟩
        unfold eqLeaf at h
        split at h
        · rename_i k k1 a k2 b hk
          unfold IsV at vx vy
          rw [hk] at vx vy
          simp [isAggK] at vx vy
          subst vx; subst vy
          obtain ⟨h1, h3⟩ := ocond h
          obtain ⟨h2, h4⟩ := ocond h3
          obtain rfl := of_decide_eq_true h1
          obtain rfl := of_decide_eq_true h2
          injection h4 with h5; subst h5
          rw [← int_beq]
          exact run_equalIn_int w (d' + d) t _ _ a b (hE.int hi hk)
        · rename_i a b hk
          unfold IsV at vx vy
          rw [hk] at vx vy
          simp [isAggK] at vx vy
          subst vx; subst vy
          injection h with h; subst h
          rw [← bool_beq]
          exact run_equalIn_bool' w (d' + d) t a b (hE.bool hi hk)
        · rename_i a b hk
          unfold IsV at vx vy
          rw [hk] at vx vy
          simp [isAggK] at vx vy
          subst vx; subst vy
          injection h with h; subst h
          rw [← bytes_eq]
          exact run_equalIn_string w (d' + d) t a b (hE.str hi hk)
        · cases h
    · cases h
/-- Floats and complex numbers: the result's bits are told by the model's own functions. -/
def ordF (a b : Nat) : Option Ordering := FloatKind.f64.format.order a b
def qcpx (op : BinOp) (a b c d : Nat) (K : Value → Prop) : Prop := match op with
  | .add => ∃ re im, cSumBits .add .f64 a b c d = some (re, im) ∧ K (.complex .f64 re im)
  | .mul => ∃ re im, cMulBits a b c d = some (re, im) ∧ K (.complex .f64 re im)
  | .eql => K (.bool ((ordF a c == some .eq) && (ordF b d == some .eq)))
  | .neq => K (.bool !((ordF a c == some .eq) && (ordF b d == some .eq)))
  | _ => False
def qflt (op : BinOp) (a b : Nat) (K : Value → Prop) : Prop := match op with
  | .add => ∃ r, floatBits .add .f64 a b = some r ∧ K (.float .f64 r)
  | .sub => ∃ r, floatBits .sub .f64 a b = some r ∧ K (.float .f64 r)
  | .mul => ∃ r, floatBits .mul .f64 a b = some r ∧ K (.float .f64 r)
  | .lss => K (.bool (ordF a b == some .lt))
  | .leq => K (.bool (ordF a b == some .lt || ordF a b == some .eq))
  | .gtr => K (.bool (ordF a b == some .gt))
  | .geq => K (.bool (ordF a b == some .gt || ordF a b == some .eq))
  | .eql => K (.bool (ordF a b == some .eq))
  | .neq => K (.bool (ordF a b != some .eq))
  | _ => False
theorem qcpx_sound {op : BinOp} {a b c d : Nat} {K : Value → Prop} (t : TypeId) (h : qcpx op a b c d K) : ∃ v, K v ∧ ∀ w, (binOp op t (.complex .f64 a b) (.complex .f64 c d)).run P w = .ok v w := by
  cases op <;> simp only [qcpx] at h <;> first | exact h.elim | skip
  · obtain ⟨re, im, e, k⟩ := h
    exact ⟨_, k, fun w => run_complex_sum w .add (.inl rfl) t .f64 a b c d re im e⟩
  · obtain ⟨re, im, e, k⟩ := h
    exact ⟨_, k, fun w => run_complex_mul w t a b c d re im e⟩
  · exact ⟨_, h, fun w => run_eql_complex w t .f64 a b c d⟩
  · exact ⟨_, h, fun w => run_neq_complex w t .f64 a b c d⟩
theorem qflt_sound {op : BinOp} {a b : Nat} {K : Value → Prop} (t : TypeId) (h : qflt op a b K) : ∃ v, K v ∧ ∀ w, (binOp op t (.float .f64 a) (.float .f64 b)).run P w = .ok v w := by
  cases op <;> simp only [qflt] at h <;> first | exact h.elim | skip
  · obtain ⟨r, e, k⟩ := h; exact ⟨_, k, fun w => run_float_arith w .add t .f64 a b r e⟩
  · obtain ⟨r, e, k⟩ := h; exact ⟨_, k, fun w => run_float_arith w .sub t .f64 a b r e⟩
  · obtain ⟨r, e, k⟩ := h; exact ⟨_, k, fun w => run_float_arith w .mul t .f64 a b r e⟩
  all_goals exact ⟨_, h, fun w => by simp [binOp, Op.floatCmp, ordF]⟩
def qbin (E : Env) (op : BinOp) (t : TypeId) (x y : Value) (K : Value → Prop) : Prop :=
  match x, y with
  | .int k a, .int k' b => qint op k a k' b K
  | .string a, .string b => qstr op a b K
  | .bool a, .bool b => match lkT E.tys t with
    | some i => match i.k, op with
      | .bool, .eql => K (.bool (decide (a = b)))
      | .bool, .neq => K (.bool (decide (a ≠ b)))
      | _, _ => False
    | none => False
  | .slice a _ _, .slice none _ _ => match lkT E.tys t with
    | some i => match i.k, op with
      | .slice _, .eql => K (.bool a.isNone)
      | .slice _, .neq => K (.bool (!a.isNone))
      | _, _ => False
    | none => False
  | .pointer a, .pointer none => match lkT E.tys t with
    | some i => match i.k, op with
      | .ptr, .eql => K (.bool a.isNone)
      | .ptr, .neq => K (.bool (!a.isNone))
      | _, _ => False
    | none => False
  | .agg xs, .agg ys => match lkT E.tys t with
    | some i => cond (isAggK i.k) (cond (memE E.eqs t) (match eqL E 20 t xs.toList ys.toList, op with
      | some r, .eql => K (.bool r)
      | some r, .neq => K (.bool (!r))
      | _, _ => False) False) False
    | none => False
  | .complex .f64 a b, .complex .f64 c d => qcpx op a b c d K
  | .float .f64 a, .float .f64 b => qflt op a b K
  | _, _ => False
theorem run_eq_bool {t : TypeId} (hu : P.underlying t = some .bool) (a b : Bool) (w : World) : (Op.equal t (.bool a) (.bool b)).run P w = .ok (decide (a = b)) w := by
  have : ∀ d, (Op.equalIn (d + 1) t (.bool a) (.bool b)).run P w = .ok (decide (a = b)) w := fun d => by
    unfold Op.equalIn; rw [Sem.run_bind, run_underlying hu, Result.andThen_ok, ← bool_beq]; rfl
  exact this 9999
theorem run_eq_slice {t e : TypeId} (hu : P.underlying t = some (.slice e)) (a : Option Addr) (n c n' c' : Nat) (w : World) : (Op.equal t (.slice a n c) (.slice none n' c')).run P w = .ok a.isNone w := by
  have : ∀ d, (Op.equalIn (d + 1) t (.slice a n c) (.slice none n' c')).run P w = .ok a.isNone w := fun d => by
    unfold Op.equalIn; rw [Sem.run_bind, run_underlying hu, Result.andThen_ok]; cases a <;> rfl
  exact this 9999
theorem run_eq_ptr {t e : TypeId} (hu : P.underlying t = some (.pointer e)) (a : Option Addr) (w : World) : (Op.equal t (.pointer a) (.pointer none)).run P w = .ok a.isNone w := by
  have : ∀ d, (Op.equalIn (d + 1) t (.pointer a) (.pointer none)).run P w = .ok a.isNone w := fun d => by
    unfold Op.equalIn; rw [Sem.run_bind, run_underlying hu, Result.andThen_ok]; cases a <;> rfl
  exact this 9999
theorem qbin_sound (hE : EOk P E) {op : BinOp} {t : TypeId} {x y : Value} {K : Value → Prop} (ox oy : Operand) (h : qbin E op t x y K) : ∃ v, K v ∧ ∀ w, (do eqGuard op t ox oy x y; binOp op t x y : Sem Value).run P w = .ok v w := by
  unfold qbin at h
  split at h
  · rename_i k a k' b
    obtain ⟨v, h1, h2⟩ := qint_sound (P := P) t h default
    refine ⟨v, h1, fun w => ?_⟩
    have : (eqGuard op t ox oy (.int k a) (.int k' b)).run P w = .ok () w := by cases op <;> rfl
    rw [Sem.run_bind, this, Result.andThen_ok]; exact h2 w
  · rename_i a b
    obtain ⟨v, h1, h2⟩ := qstr_sound (P := P) t h
    refine ⟨v, h1, fun w => ?_⟩
    have : (eqGuard op t ox oy (.string a) (.string b)).run P w = .ok () w := by cases op <;> rfl
    rw [Sem.run_bind, this, Result.andThen_ok]; exact h2 w
  · rename_i a b
    split at h
    · rename_i i hi
      split at h
      · rename_i hk
        have hu := hE.bool hi hk
        exact ⟨_, h, fun w => by rw [Sem.run_bind, show (eqGuard .eql t ox oy (.bool a) (.bool b)).run P w = .ok () w from rfl, Result.andThen_ok]; simp [binOp, run_eq_bool hu]⟩
      · rename_i hk
        have hu := hE.bool hi hk
        exact ⟨_, h, fun w => by rw [Sem.run_bind, show (eqGuard .neq t ox oy (.bool a) (.bool b)).run P w = .ok () w from rfl, Result.andThen_ok]; simp [binOp, run_eq_bool hu]⟩
      · exact h.elim
    · exact h.elim
  · rename_i a n c n' c'
    split at h
    · rename_i i hi
      split at h
      · rename_i e hk
        have hu := hE.slice hi hk
        refine ⟨_, h, fun w => ?_⟩
        rw [Sem.run_bind, show (eqGuard .eql t ox oy (.slice a n c) (.slice none n' c')).run P w = .ok () w from rfl, Result.andThen_ok]
        simp [binOp, run_eq_slice hu]
      · rename_i e hk
        have hu := hE.slice hi hk
        refine ⟨_, h, fun w => ?_⟩
        rw [Sem.run_bind, show (eqGuard .neq t ox oy (.slice a n c) (.slice none n' c')).run P w = .ok () w from rfl, Result.andThen_ok]
        simp [binOp, run_eq_slice hu]
      · exact h.elim
    · exact h.elim
  · rename_i a
    split at h
    · rename_i i hi
      split at h
      · rename_i hk
        obtain ⟨e, hu⟩ := hE.ptr hi hk
        refine ⟨_, h, fun w => ?_⟩
        rw [Sem.run_bind, show (eqGuard .eql t ox oy (.pointer a) (.pointer none)).run P w = .ok () w from rfl, Result.andThen_ok]
        simp [binOp, run_eq_ptr hu]
      · rename_i hk
        obtain ⟨e, hu⟩ := hE.ptr hi hk
        refine ⟨_, h, fun w => ?_⟩
        rw [Sem.run_bind, show (eqGuard .neq t ox oy (.pointer a) (.pointer none)).run P w = .ok () w from rfl, Result.andThen_ok]
        simp [binOp, run_eq_ptr hu]
      · exact h.elim
    · exact h.elim
  · rename_i xs ys
    split at h
    · rename_i i hi
      obtain ⟨hg, h⟩ := cond_get h
      obtain ⟨hm, h⟩ := cond_get h
      obtain ⟨q1, q2, q3⟩ := hE.eqs t (memE_mem hm)
      have key : ∀ r, eqL E 20 t xs.toList ys.toList = some r → ∀ w, (Op.equal t (.agg xs) (.agg ys)).run P w = .ok r w := fun r hr w => by
        obtain ⟨i', hi', o1, o2, he⟩ := eqL_sound hE 9980 20 t _ _ r hr
        rw [hi] at hi'; injection hi' with hi'; subst hi'
        exact he _ _ (by unfold IsV; rw [if_pos hg]) (by unfold IsV; rw [if_pos hg]) w
      have guard : ∀ op w, (eqGuard op t ox oy (.agg xs) (.agg ys)).run P w = .ok () w := fun op w => by
        cases op <;> first | rfl | simp [eqGuard, run_program, q2]
      split at h
      · rename_i r hr _ _
        exact ⟨_, h, fun w => by rw [Sem.run_bind, guard, Result.andThen_ok]; simp [binOp, key r hr]⟩
      · rename_i r hr _ _
        exact ⟨_, h, fun w => by rw [Sem.run_bind, guard, Result.andThen_ok]; simp [binOp, key r hr]⟩
      · exact h.elim
    · exact h.elim
  · rename_i a b c d
    obtain ⟨v, h1, h2⟩ := qcpx_sound (P := P) t h
    refine ⟨v, h1, fun w => ?_⟩
    have : (eqGuard op t ox oy (.complex .f64 a b) (.complex .f64 c d)).run P w = .ok () w := by cases op <;> rfl
    rw [Sem.run_bind, this, Result.andThen_ok]; exact h2 w
  · rename_i a b
    obtain ⟨v, h1, h2⟩ := qflt_sound (P := P) t h
    refine ⟨v, h1, fun w => ?_⟩
    have : (eqGuard op t ox oy (.float .f64 a) (.float .f64 b)).run P w = .ok () w := by cases op <;> rfl
    rw [Sem.run_bind, this, Result.andThen_ok]; exact h2 w
  · exact h.elim
end Go.Proofs.Ytkggnbabnfhcpaa
end
section
/- The operations that only read, one by one. No program in sight. -/
namespace Go.Proofs.Ytkggnbabnfhcpaa
open Go.RowKit
variable {P : Program} {E : Env}
def fillL (cs : List Value) (off : Nat) (vs : List Value) : Option (List Value) := cond (Nat.ble (off + vs.length) cs.length) (some (cs.take off ++ vs ++ cs.drop (off + vs.length))) none
def cellsL : Value → List Value
  | .agg cs => cs.toList
  | v => [v]
theorem cellsL_eq (v : Value) : cellsL v = v.cells.toList := by cases v <;> rfl
def placesF (E : Env) : List (Nat × TypeId) → Option (List (Nat × Nat))
  | [] => some []
  | p :: r => match lkT E.tys p.2 with
    | some i => match placesF E r with
      | some l => some ((p.1, i.size) :: l)
      | none => none
    | none => none
def nthP : List (Nat × Nat) → Nat → Option (Nat × Nat)
  | [], _ => none
  | x :: r, n => cond (Nat.beq n 0) (some x) (nthP r (n - 1))
theorem nthP_eq : ∀ (l : List (Nat × Nat)) (n : Nat), nthP l n = l[n]?
  | [], n => by simp [nthP]
  | x :: r, 0 => by simp [nthP]
  | x :: r, n + 1 => by
    have : Nat.beq (n + 1) 0 = false := by simp [Nat.beq]
    simp only [nthP, this, cond_false, Nat.add_sub_cancel, nthP_eq r n, List.getElem?_cons_succ]
/-- What is built: its parts, one behind the other. -/
def buildL (place : Nat → Option (Nat × Nat)) (ρ : SFr) : List Value → List (Nat × Operand) → (List Value → Prop) → Prop
  | cs, [], K => K cs
  | cs, p :: r, K => withV (ev ρ p.2) fun v => match place p.1 with
    | some q => cond (Nat.beq (cellsL v).length q.2) (match fillL cs q.1 (cellsL v) with | some cs' => buildL place ρ cs' r K | none => False) False
    | none => False
def evL (ρ : SFr) : List Operand → List Value → (List Value → Prop) → Prop
  | [], acc, K => K acc
  | x :: r, acc, K => withV (ev ρ x) fun v => evL ρ r (acc ++ [v]) K
theorem evL_get {n : Nat} {ρ : SFr} {σ : List LB} {a : Act} {w : World} (hr : Rep n ρ σ a w) : ∀ {l : List Operand} {acc : List Value} {K : List Value → Prop}, evL ρ l acc K → K (acc ++ l.map a.eval)
  | [], acc, K, h => by simpa [evL] using h
  | x :: r, acc, K, h => by
    have := evL_get hr (hr.evV h)
    simpa using this
def sliceBase (a : Option Addr) (c l s : Nat) : Option Addr := if c = l then a else a.map (·.add (l * s))
def sliceQ (a : Option Addr) (n c s : Nat) : Option Value → Option Value → (Value → Prop) → Prop
  | none, none, K => K (.slice a n c)
  | none, some (.int _ h), K => 0 ≤ h ∧ h ≤ (c : Int) ∧ K (.slice a h.toNat c)
  | some (.int _ l), none, K => 0 ≤ l ∧ l ≤ (n : Int) ∧ K (.slice (sliceBase a c l.toNat s) (n - l.toNat) (c - l.toNat))
  | some (.int _ l), some (.int _ h), K => 0 ≤ l ∧ l ≤ h ∧ h ≤ (c : Int) ∧ K (.slice (sliceBase a c l.toNat s) (h.toNat - l.toNat) (c - l.toNat))
  | _, _, _ => False
def sliceS (b : ByteArray) : Option Value → Option Value → (Value → Prop) → Prop
  | none, none, K => K (.string (b.extract 0 b.size))
  | none, some (.int _ h), K => 0 ≤ h ∧ h ≤ (b.size : Int) ∧ K (.string (b.extract 0 h.toNat))
  | some (.int _ l), none, K => 0 ≤ l ∧ l ≤ (b.size : Int) ∧ K (.string (b.extract l.toNat b.size))
  | some (.int _ l), some (.int _ h), K => 0 ≤ l ∧ l ≤ h ∧ h ≤ (b.size : Int) ∧ K (.string (b.extract l.toNat h.toNat))
  | _, _, _ => False
def evO (ρ : SFr) : Option Operand → (Option Value → Prop) → Prop
  | none, K => K none
  | some x, K => withV (ev ρ x) fun v => K (some v)
theorem evO_get {n : Nat} {ρ : SFr} {σ : List LB} {a : Act} {w : World} (hr : Rep n ρ σ a w) {o : Option Operand} {K : Option Value → Prop} (h : evO ρ o K) : K (o.map a.eval) := by
  cases o with
  | none => exact h
  | some x => exact hr.evV h
def byteAt (s : ByteArray) (z : Int) : Int := ((s.data.toList.getD z.toNat 0).toNat : Int)
def qbuiltin (E : Env) (b : Builtin) (t : Array TypeId) (args : List Value) (K : Value → Prop) : Prop :=
  match b, args with
  | .len, [x] => match t.toList with
    | [t0] => match lkT E.tys t0 with
      | some i => match i.k, x with
        | .slice _, .slice _ n _ => K (.int .i64 (n : Int))
        | .str, .string s => K (.int .i64 (s.size : Int))
        | .arr n _, _ => K (.int .i64 (n : Int))
        | _, _ => False
      | none => False
    | _ => False
  | .cap, [x] => match t.toList with
    | [t0] => match lkT E.tys t0 with
      | some i => match i.k, x with
        | .slice _, .slice _ _ c => K (.int .i64 (c : Int))
        | _, _ => False
      | none => False
    | _ => False
  | .min, [.int k a, .int _ b] => K (.int k (min a b))
  | .min, [.int k a, .int _ b, .int _ c] => K (.int k (min (min a b) c))
  | .max, [.int k a, .int _ b] => K (.int k (max a b))
  | .complex, [.float .f64 a, .float .f64 b] => K (.complex .f64 a b)
  | .real, [.complex k a _] => K (.float k a)
  | .imag, [.complex k _ b] => K (.float k b)
  | _, _ => False
/-- A value of a type, in whatever leaves it has. -/
def exE (i : TI) (K : Value → Prop) : Prop := cond (isAggK i.k) (exLs i.lv [] fun vs => K (.agg vs.toArray)) (match i.lv with | [l] => exLf l K | _ => False)
theorem exE_get {i : TI} {K : Value → Prop} (h : exE i K) : ∃ v, K v := by
  unfold exE at h
  cases hk : isAggK i.k
  · rw [hk] at h
    simp only [cond_false] at h
    split at h
    · exact exLf_get h
    · exact h.elim
  · rw [hk] at h
    obtain ⟨vs, _, h⟩ := exLs_get h
    exact ⟨_, h⟩
def lookQ (w : World) (mb : Option Nat) (k : Int) (i : TI) (ok : Bool) (K : Value → (World → Prop) → Prop) : Prop :=
  exE i fun v => cond ok (∃ ok : Bool, (∃ r, MLk w mb k r ∧ r.getD i.zero = v ∧ r.isSome = ok) ∧ K (.tuple #[v, .bool ok]) fun wx => ∃ r, MLk wx mb k r ∧ r.getD i.zero = v ∧ r.isSome = ok)
    ((∃ r, MLk w mb k r ∧ r.getD i.zero = v) ∧ K v fun wx => ∃ r, MLk wx mb k r ∧ r.getD i.zero = v)
def nilCmp (op : BinOp) (K : SV → SFact → Prop) : Prop := match op with
  | .eql => K (.v (.bool false)) .tt
  | .neq => K (.v (.bool true)) .tt
  | _ => False
def qop (E : Env) (op : Op) (ρ : SFr) (σ : List LB) (w : World) (K : SV → SFact → Prop) : Prop :=
  match op with
  | .move x => withS (ev ρ x) fun s => K s .tt
  | .assign x => withS (ev ρ x) fun s => K s .tt
  | .pick c a b => withV (ev ρ c) fun cv => match cv with
    | .bool t => br t (withS (ev ρ a) fun s => K s .tt) (withS (ev ρ b) fun s => K s .tt)
    | _ => False
  | .build t parts => match lkT E.tys t with
    | some i => match i.k with
      | .struct fs => match placesF E fs with
        | some pl => buildL (nthP pl) ρ (cellsL i.zero) parts.toList fun cs => K (.v (.agg cs.toArray)) .tt
        | none => False
      | .arr _ e => match lkT E.tys e with
        | some ei => buildL (fun i => some (i * ei.size, ei.size)) ρ (cellsL i.zero) parts.toList fun cs => K (.v (.agg cs.toArray)) .tt
        | none => False
      | _ => False
    | none => False
  | .load t x => match lkT E.tys t with
    | some i => match ev ρ x with
      | some (.box id off) => match lkB σ id with
        | some b => cond (isAggK i.k) (cond (Nat.beq (cutL b.cs off i.size).length i.size) (K (.v (.agg (cutL b.cs off i.size).toArray)) (.box b)) False) (match nth b.cs off with | some v => K (.v v) (.box b) | none => False)
        | none => False
      | some (.v (.pointer p)) => withP p fun b off =>
        cond (isAggK i.k) (cond (Nat.beq (lvSize i.lv) i.size) (exLs i.lv [] fun vs => cellsAt w b off vs ∧ K (.v (.agg vs.toArray)) (.mem fun wx => cellsAt wx b off vs)) False)
          (match i.lv with | [l] => exLf l fun v => w.cell? ⟨b, off, none⟩ = some v ∧ K (.v v) (.mem fun wx => wx.cell? ⟨b, off, none⟩ = some v) | _ => False)
      | _ => False
    | none => False
  | .nilCheck x => match ev ρ x with
    | some (.box id off) => K (.box id off) .tt
    | some (.v (.pointer p)) => withP p fun b off => K (.v (.pointer (some ⟨b, off, none⟩))) .tt
    | some (.v (.func (.func f) a c)) => K (.v (.func (.func f) a c)) .tt
    | _ => False
  | .binOp op t x y _ => match ev ρ x, ev ρ y with
    | some (.box _ _), some (.v (.pointer none)) => match lkT E.tys t with
      | some i => match i.k with
        | .ptr => nilCmp op K
        | _ => False
      | none => False
    | some (.v x'), some (.v y') => qbin E op t x' y' fun v => K (.v v) .tt
    | _, _ => False
  | .unOp op _ x => withV (ev ρ x) fun v => match op, v with
    | .not, .bool b => K (.v (.bool (!b))) .tt
    | .neg, .int k n => K (.v (.int k (k.wrap (0 - n)))) .tt
    | .neg, .float k b => K (.v (.float k (Op.negFloat k b))) .tt
    | _, _ => False
  | .convert src dst x => withV (ev ρ x) fun v => match lkT E.tys src, lkT E.tys dst with
    | some s, some d => match s.k, d.k, v with
      | .int _, .int k, .int _ n => K (.v (.int k (k.wrap n))) .tt
      | .str, .str, .string s => K (.v (.string s)) .tt
      | .int _, .flt k, .int _ n => K (.v (.float k (floatOfInt k n))) .tt
      | .flt _, .int k, .float s' b => ∃ z, floatToIntVal s' b k = some z ∧ K (.v (.int k z)) .tt
      | .slice e, .str, .slice a n _ => match lkT E.tys e with
        | some ei => match ei.k with
          | .int .u8 => ∃ bs : List UInt8, bs.length = n ∧ RowAt w a (bs.map bV) ∧ K (.v (.string (strOf bs))) (.mem fun wx => RowAt wx a (bs.map bV))
          | _ => False
        | none => False
      | _, _, _ => False
    | _, _ => False
  | .makeFunc fn first captured => evL ρ first.toList [] fun fs => evL ρ captured.toList [] fun cs => K (.v (.func fn fs.toArray cs.toArray)) .tt
  | .slice t x lo hi none => match lkT E.tys t with
    | some i => evO ρ lo fun l => evO ρ hi fun h => withV (ev ρ x) fun v => match i.k, v with
      | .slice e, .slice a n c => match lkT E.tys e with
        | some ei => sliceQ a n c ei.size l h fun v => K (.v v) .tt
        | none => False
      | .str, .string s => sliceS s l h fun v => K (.v v) .tt
      | .arr n e, .pointer p => match lkT E.tys e with
        | some ei => withP p fun b off => sliceQ (some ⟨b, off, none⟩) n n ei.size l h fun v => K (.v v) .tt
        | none => False
      | _, _ => False
    | none => False
  | .slice t x (some lo) (some hi) (some mx) => match lkT E.tys t with
    | some i => withV (ev ρ lo) fun l => withV (ev ρ hi) fun h => withV (ev ρ mx) fun m => withV (ev ρ x) fun v => match i.k, v, l, h, m with
      | .slice e, .slice a _ c, .int _ l, .int _ h, .int _ m => match lkT E.tys e with
        | some ei => 0 ≤ l ∧ l ≤ h ∧ h ≤ m ∧ m ≤ (c : Int) ∧ K (.v (.slice (sliceBase a m.toNat l.toNat ei.size) (h.toNat - l.toNat) (m.toNat - l.toNat))) .tt
        | none => False
      | _, _, _, _, _ => False
    | none => False
  | .fieldAddr t x f => match lkT E.tys t with
    | some i => match i.k with
      | .struct fs => match nthF fs f with
        | some (o, ft) => match lkT E.tys ft with
          | some fi => cond (Nat.beq fi.size 0) False (match ev ρ x with
            | some (.box id off) => K (.box id (off + o)) .tt
            | some (.v (.pointer p)) => withP p fun b off => K (.v (.pointer (some ⟨b, off + o, none⟩))) .tt
            | _ => False)
          | none => False
        | none => False
      | _ => False
    | none => False
  | .field t x f => match lkT E.tys t with
    | some i => match i.k with
      | .struct fs => match nthF fs f with
        | some (o, ft) => match lkT E.tys ft with
          | some fi => withV (ev ρ x) fun v => match v with
            | .agg cs => cond (isAggK fi.k) (K (.v (.agg (cutL cs.toList o fi.size).toArray)) .tt) (match nth cs.toList o with | some v => K (.v v) .tt | none => False)
            | _ => False
          | none => False
        | none => False
      | _ => False
    | none => False
  | .indexAddr t x ix => match lkT E.tys t with
    | some i => match i.k with
      | .slice e => match lkT E.tys e with
        | some ei => withV (ev ρ x) fun v => withV (ev ρ ix) fun z => match v, z with
          | .slice a n _, .int _ z => withP a fun b off => 0 ≤ z ∧ z < (n : Int) ∧ K (.v (.pointer (some ⟨b, off + z.toNat * ei.size, none⟩))) .tt
          | _, _ => False
        | none => False
      | .arr n e => match lkT E.tys e with
        | some ei => withV (ev ρ ix) fun z => match ev ρ x, z with
          | some (.v (.pointer p)), .int _ z => withP p fun b off => 0 ≤ z ∧ z < (n : Int) ∧ K (.v (.pointer (some ⟨b, off + z.toNat * ei.size, none⟩))) .tt
          | some (.box id off), .int _ (.ofNat k) => cond (Nat.blt k n) (K (.box id (off + k * ei.size)) .tt) False
          | _, _ => False
        | none => False
      | _ => False
    | none => False
  | .index t x ix => match lkT E.tys t with
    | some i => withV (ev ρ x) fun v => withV (ev ρ ix) fun z => match i.k, v, z with
      | .str, .string s, .int _ z => 0 ≤ z ∧ z < (s.size : Int) ∧ K (.v (.int .u8 (byteAt s z))) .tt
      | .arr n e, .agg cs, .int _ z => match lkT E.tys e with
        | some ei => cond (isAggK ei.k) False (cond (Nat.beq ei.size 1) (0 ≤ z ∧ z < (n : Int) ∧ match ei.lv with | [l] => exLf l fun v => cs.toList[z.toNat]? = some v ∧ K (.v v) .tt | _ => False) False)
        | none => False
      | _, _, _ => False
    | none => False
  | .extract x ix => withV (ev ρ x) fun v => match v with
    | .tuple vs => match nth vs.toList ix with
      | some y => K (.v y) .tt
      | none => False
    | _ => False
  | .call c => match c.callee with
    | .builtin b => evL ρ c.args.toList [] fun args => qbuiltin E b c.argTypes args fun v => K (.v v) .tt
    | _ => False
  | .lookup t x ix ok => match lkT E.tys t with
    | some i => match i.k with
      | .map kt et => match lkT E.tys kt, lkT E.tys et with
        | some ki, some ei => match ki.k with
          | .int .i64 => withV (ev ρ x) fun m => withV (ev ρ ix) fun z => match m, z with
            | .map mb, .int .i64 z => lookQ w mb z ei ok fun v f => K (.v v) (.mem f)
            | _, _ => False
          | _ => False
        | _, _ => False
      | _ => False
    | none => False
  | .entry x => match ev ρ x with
    | some (.iter g et) => match lkT E.tys et with
      | some ei => exE ei fun v => ∃ k : Int, IterLast w g k v ∧ K (.v (.tuple #[.int .i64 k, v])) (.mem fun wx => IterLast wx g k v)
      | none => False
    | _ => False
  | .sliceToArrayPointer t x => match lkT E.tys t with
    | some i => match i.k with
      | .arr n e => withV (ev ρ x) fun v => match v with
        | .slice a m _ => withP a fun b off => n ≤ m ∧ K (.v (.pointer (some ⟨b, off, none⟩))) .tt
        | _ => False
      | _ => False
    | none => False
  | _ => False
def Yields (P : Program) (o : Oper) (a : Act) (σ : List LB) (w : World) (K : SV → SFact → Prop) : Prop :=
  ∃ s f x, K s f ∧ den σ s = some x ∧ f.holds w ∧ (∀ wx, f.holds wx → (execOp a.eval o).run P wx = .ok (.value x) wx) ∧ ∀ b, f = .box b → lkB σ b.id = some b
theorem yields_tt {o : Oper} {a : Act} {σ : List LB} {w : World} {K : SV → SFact → Prop} {x : Value} (h : K (.v x) .tt) (hr : ∀ wx, (execOp a.eval o).run P wx = .ok (.value x) wx) : Yields P o a σ w K :=
  ⟨.v x, .tt, x, h, rfl, trivial, fun wx _ => hr wx, fun b hb => by cases hb⟩
theorem withS_get {s : Option SV} {K : SV → Prop} (h : withS s K) : ∃ x, s = some x ∧ K x := by
  cases s with
  | none => exact h.elim
  | some x => exact ⟨x, rfl, h⟩
section
variable {n : Nat} {ρ : SFr} {σ : List LB} {a : Act} {w : World} {o : Oper} {K : SV → SFact → Prop}
theorem q_move (hr : Rep n ρ σ a w) {x : Operand} (ho : o.op = .move x ∨ o.op = .assign x) (h : withS (ev ρ x) fun s => K s .tt) : Yields P o a σ w K := by
  obtain ⟨s, h1, h2⟩ := withS_get h
  obtain ⟨v, h3, h4⟩ := hr.ev h1
  refine ⟨s, .tt, v, h2, h3, trivial, fun wx _ => ?_, fun b hb => by cases hb⟩
  rcases ho with ho | ho <;> simp [execOp, ho, h4]
theorem q_pick (hr : Rep n ρ σ a w) {c x y : Operand} (ho : o.op = .pick c x y) (h : qop E o.op ρ σ w K) : Yields P o a σ w K := by
  rw [ho] at h
  have h := hr.evV (show withV (ev ρ c) _ from h)
  split at h
  · rename_i t ht
    cases t
    · obtain ⟨s, h1, h2⟩ := withS_get (show withS _ _ from h)
      obtain ⟨v, h3, h4⟩ := hr.ev h1
      exact ⟨s, .tt, v, h2, h3, trivial, fun wx _ => by simp [execOp, ho, ht, asBool, h4], fun b hb => by cases hb⟩
    · obtain ⟨s, h1, h2⟩ := withS_get (show withS _ _ from h)
      obtain ⟨v, h3, h4⟩ := hr.ev h1
      exact ⟨s, .tt, v, h2, h3, trivial, fun wx _ => by simp [execOp, ho, ht, asBool, h4], fun b hb => by cases hb⟩
  · exact h.elim
theorem fold_set (vs : List Value) : ∀ (off : Nat) (cs : Array Value), off + vs.length ≤ cs.size →
    (vs.zipIdx 0).foldl (fun (cs : Array Value) (c : Value × Nat) => cs.setIfInBounds (off + c.2) c.1) cs = (cs.toList.take off ++ vs ++ cs.toList.drop (off + vs.length)).toArray := by
  have key : ∀ (vs : List Value) (k off : Nat) (cs : Array Value), off + k + vs.length ≤ cs.size → (vs.zipIdx k).foldl (fun (cs : Array Value) (c : Value × Nat) => cs.setIfInBounds (off + c.2) c.1) cs = (cs.toList.take (off + k) ++ vs ++ cs.toList.drop (off + k + vs.length)).toArray := by
    intro vs
    induction vs with
    | nil => intro k off cs h; simp
    | cons v r ih =>
      intro k off cs h
      simp only [List.length_cons] at h
      rw [List.zipIdx_cons, List.foldl_cons, ih (k + 1) off _ (by simp; omega)]
      congr 1
      have hlt : off + k < cs.toList.length := by simp; omega
      simp only [Array.toList_setIfInBounds]
      rw [List.take_set, List.drop_set_of_lt (by omega)]
      rw [show off + (k + 1) = off + k + 1 by omega, List.take_add_one, List.set_append_right _ _ (by simp; omega)]
      simp only [List.length_take, List.length_cons]
      rw [List.getElem?_eq_getElem hlt]
      simp only [Option.toList_some]
      rw [show off + k - min (off + k) cs.toList.length = 0 by omega]
      simp only [List.set_cons_zero, List.append_assoc, List.singleton_append, show off + k + 1 + r.length = off + k + (r.length + 1) by omega]
  intro off cs h
  have := key vs 0 off cs (by simpa using h)
  simpa using this
theorem fillL_get {cs vs cs' : List Value} {off : Nat} (h : fillL cs off vs = some cs') : off + vs.length ≤ cs.length ∧ cs' = cs.take off ++ vs ++ cs.drop (off + vs.length) := by
  unfold fillL at h
  cases hb : Nat.ble (off + vs.length) cs.length
  · rw [hb] at h; cases h
  · rw [hb] at h; injection h with h; exact ⟨Nat.le_of_ble_eq_true hb, h.symm⟩
theorem fill_step {place : Nat → Option (Nat × Nat)} {cs cs' : List Value} {i off size : Nat} {v : Value} {rest : List (Nat × Value)} (hp : place i = some (off, size)) (hs : Nat.beq (cellsL v).length size = true) (hf : fillL cs off (cellsL v) = some cs') :
    Instr.fill place cs.toArray ((i, v) :: rest) = Instr.fill place cs'.toArray rest := by
  have hs := Nat.eq_of_beq_eq_true hs
  obtain ⟨h1, rfl⟩ := fillL_get hf
  rw [cellsL_eq] at *
  have := fold_set v.cells.toList off cs.toArray (by simpa using h1)
  rw [← Array.toList_zipIdx, Array.foldl_toList] at this
  rw [Instr.fill.eq_2, hp]
  simp only
  rw [if_neg (by simp at h1 hs ⊢; omega), this]
theorem buildL_get (hr : Rep n ρ σ a w) {place : Nat → Option (Nat × Nat)} : ∀ {parts : List (Nat × Operand)} {cs : List Value} {K : List Value → Prop}, buildL place ρ cs parts K →
    ∃ cs', Instr.fill place cs.toArray (parts.map fun p => (p.1, a.eval p.2)) = some cs'.toArray ∧ K cs'
  | [], cs, K, h => ⟨cs, by rw [List.map_nil, Instr.fill.eq_1], h⟩
  | p :: r, cs, K, h => by
    have h := hr.evV (show withV (ev ρ p.2) _ from h)
    split at h
    · rename_i q hq
      obtain ⟨hs, h⟩ := cond_get h
      split at h
      · rename_i cs1 hf
        obtain ⟨cs2, h1, h2⟩ := buildL_get hr h
        exact ⟨cs2, by rw [← h1, List.map_cons]; exact fill_step hq hs hf, h2⟩
      · exact h.elim
    · exact h.elim
theorem placesF_get (hE : EOk P E) : ∀ {F : List Field} {pl : List (Nat × Nat)}, placesF E (F.map fun f => (f.offset, f.type)) = some pl → F.mapM (fun f => (P.info? f.type).map fun i => (f.offset, i.size)) = some pl
  | [], pl, h => by simpa [placesF] using h
  | f :: r, pl, h => by
    simp only [List.map_cons, placesF] at h
    split at h
    · rename_i i hi
      split at h
      · rename_i l hl
        injection h with h
        subst h
        obtain ⟨inf, h1, h2, _⟩ := hE.info hi
        simp [List.mapM_cons, h1, h2, placesF_get hE hl]
      · cases h
    · cases h
theorem q_build (hE : EOk P E) (hr : Rep n ρ σ a w) {t : TypeId} {parts : Array (Nat × Operand)} (ho : o.op = .build t parts) (h : qop E o.op ρ σ w K) : Yields P o a σ w K := by
  rw [ho] at h
  simp only [qop] at h
  split at h
  · rename_i i hi
    obtain ⟨inf, h1, h2, h3, _⟩ := hE.info hi
    split at h
    · rename_i fs hk
      obtain ⟨F, hu, hF⟩ := hE.struct hi hk
      split at h
      · rename_i pl hpl
        obtain ⟨cs, hf, h⟩ := buildL_get hr h
        refine yields_tt h fun wx => ?_
        have := run_build (P := P) wx t (parts.map fun (i, x) => (i, a.eval x)) cs.toArray (by
          unfold Program.built
          rw [h1, hu]
          simp only [h3]
          rw [← hF] at hpl
          rw [placesF_get hE hpl]
          simp only
          rw [cellsL_eq] at hf
          rw [show (fun x => pl.toArray[x]?) = nthP pl from funext fun x => by rw [nthP_eq]; simp]
          simpa using hf)
        simp [execOp, ho, this]
      · exact h.elim
    · rename_i k e hk
      have hu := hE.arr hi hk
      split at h
      · rename_i ei hei
        obtain ⟨inf2, g1, g2, _⟩ := hE.info hei
        obtain ⟨cs, hf, h⟩ := buildL_get hr h
        refine yields_tt h fun wx => ?_
        have := run_build (P := P) wx t (parts.map fun (i, x) => (i, a.eval x)) cs.toArray (by
          unfold Program.built
          rw [h1, hu]
          simp only [h3, g1, g2]
          rw [cellsL_eq] at hf
          simpa using hf)
        simp [execOp, ho, this]
      · exact h.elim
    · exact h.elim
  · exact h.elim
theorem run_load_box {t : TypeId} {i : TI} (hE : EOk P E) (hi : lkT E.tys t = some i) (hk : isAggK i.k = true) {b : LB} {off : Nat} (hl : (cutL b.cs off i.size).length = i.size) {wx : World} (hb : b.at wx) :
    (Instr.loadAt t (.pointer (some ⟨b.g, off, none⟩))).run P wx = .ok (.agg (cutL b.cs off i.size).toArray) wx := by
  have := run_loadCells_list (P := P) wx ⟨b.g, off, none⟩ (cutL b.cs off i.size) fun j v hv => by
    rw [Addr.add_lit, cell_of_row _ _ _ _ _ _ hb]
    unfold cutL at hv
    rw [List.getElem?_take] at hv
    split at hv
    · rw [List.getElem?_drop] at hv; simpa using hv
    · cases hv
  rw [hl] at this
  simp [Instr.loadAt, Instr.sureAddr, loadVar, hE.isAgg hi, hk, hE.sizeOf hi, this]
theorem run_load_cells {t : TypeId} {i : TI} (hE : EOk P E) (hi : lkT E.tys t = some i) (hk : isAggK i.k = true) {b off : Nat} {vs : List Value} (hl : vs.length = i.size) {wx : World} (hc : cellsAt wx b off vs) :
    (Instr.loadAt t (.pointer (some ⟨b, off, none⟩))).run P wx = .ok (.agg vs.toArray) wx := by
  have := run_loadCells_list (P := P) wx ⟨b, off, none⟩ vs fun j v hv => by rw [Addr.add_lit]; exact cellsAt_get hc j v hv
  rw [hl] at this
  simp [Instr.loadAt, Instr.sureAddr, loadVar, hE.isAgg hi, hk, hE.sizeOf hi, this]
theorem run_load_one {t : TypeId} {i : TI} (hE : EOk P E) (hi : lkT E.tys t = some i) (hk : isAggK i.k = false) {ad : Addr} {v : Value} {wx : World} (hc : wx.cell? ad = some v) :
    (Instr.loadAt t (.pointer (some ad))).run P wx = .ok v wx := by
  simp [Instr.loadAt, Instr.sureAddr, loadVar, hE.isAgg hi, hk, hc]
theorem q_load (hE : EOk P E) (hr : Rep n ρ σ a w) {t : TypeId} {x : Operand} (ho : o.op = .load t x) (h : qop E o.op ρ σ w K) : Yields P o a σ w K := by
  rw [ho] at h
  simp only [qop] at h
  split at h
  · rename_i i hi
    split at h
    · rename_i id off hx
      obtain ⟨b, hb, hev⟩ := hr.evP hx
      rw [hb] at h
      simp only at h
      have hat : b.at w := hr.boxes b (lkB_mem hb).1
      have hh : ∀ wx, SFact.holds (.box b) wx → b.at wx := fun wx h => h
      have hw : SFact.holds (.box b) w := hat
      have hself : ∀ b', SFact.box b = .box b' → lkB σ b'.id = some b' := fun b' e => by injection e with e; subst e; rw [(lkB_mem hb).2]; exact hb
      cases hk : isAggK i.k
      · rw [hk] at h
        simp only [cond_false] at h
        split at h
        · rename_i v hv
          refine ⟨_, _, v, h, rfl, hw, fun wx hx => ?_, hself⟩
          have := run_load_one hE hi hk (ad := ⟨b.g, off, none⟩) (v := v) (wx := wx) (by rw [cell_of_row _ _ _ _ _ _ (hh wx hx)]; rw [nth_eq] at hv; simpa using hv)
          simp [execOp, ho, hev, this]
        · exact h.elim
      · rw [hk] at h
        obtain ⟨hl, h⟩ := cond_get h
        refine ⟨_, _, _, h, rfl, hw, fun wx hx => ?_, hself⟩
        have := run_load_box hE hi hk (Nat.eq_of_beq_eq_true hl) (hh wx hx)
        simp [execOp, ho, hev, this]
    · rename_i p hx
      obtain ⟨y, hy, hev⟩ := hr.ev hx
      cases hy
      obtain ⟨b, off, rfl, h⟩ := withP_get h
      cases hk : isAggK i.k
      · rw [hk] at h
        simp only [cond_false] at h
        split at h
        · rename_i l hl
          obtain ⟨v, hc, h⟩ := exLf_get h
          refine ⟨_, _, v, h, rfl, hc, fun wx hx => ?_, fun b hb => by cases hb⟩
          have := run_load_one hE hi hk (show wx.cell? ⟨b, off, none⟩ = some v from hx)
          simp [execOp, ho, hev, this]
        · exact h.elim
      · rw [hk] at h
        obtain ⟨hl, h⟩ := cond_get h
        obtain ⟨vs, hvl, hc, h⟩ := exLs_get h
        refine ⟨_, _, _, h, rfl, hc, fun wx hx => ?_, fun b hb => by cases hb⟩
        have := run_load_cells hE hi hk (vs := vs) (by rw [hvl, ← Nat.eq_of_beq_eq_true hl]; simp) (show cellsAt wx b off vs from hx)
        simp [execOp, ho, hev, this]
    · exact h.elim
  · exact h.elim
end
end Go.Proofs.Ytkggnbabnfhcpaa
end
