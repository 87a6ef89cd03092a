/- A region that draws its order: what only reads goes first, in one walk; what is left is forced. No program in sight. -/
import Derived.Test.YtjjmhmbmjpedkaaLib
import Derived.Still
import Derived.Deep.RegionHeld3
namespace Go.Proofs.Ytjjmhmbmjpedkaa
open Go.RowKit
variable {P : Program} {ops : Array Oper} {Q : Exit → Act → World → Prop}
/-- Every block that lies in w lies in w' as it is. -/
def Ext (w w' : World) : Prop := ∀ (k : Nat) (o : Obj), w.heap[k]? = some o → w'.heap[k]? = some o
theorem Ext.refl (w : World) : Ext w w := fun _ _ h => h
theorem Ext.trans {a b c : World} (h : Ext a b) (k : Ext b c) : Ext a c := fun i o hi => k i o (h i o hi)
theorem Ext.alloc {a b : World} (h : Ext a b) (o : Obj) : Ext a (b.alloc o) := fun i x hi => al_old (h i x hi)
theorem Ext.drew {a b : World} (h : Ext a b) : Ext a b.drew := h
theorem Ext.drew' {a b : World} (h : Ext a b) : Ext a.drew b := h
theorem Ext.below {a b : World} {B : Nat} (h : Below B a b) (hB : a.heap.size ≤ B) : Ext a b := fun _ _ hi => Below.kept h (Nat.lt_of_lt_of_le (heap_lt hi) hB) hi
theorem Ext.grown {a b : World} (h : a.grownBy b none) : Ext a b := fun i _ hi => (h.block i (heap_lt hi) (by simp)).trans hi
theorem Ext.cell {w w' : World} (h : Ext w w') {a : Addr} {v : Value} (hc : w.cell? a = some v) : w'.cell? a = some v := by
  unfold World.cell? at *
  rcases hx : w.heap[a.block]? with _ | o
  · rw [hx] at hc; cases hc
  · rw [hx] at hc; rw [h _ _ hx]; exact hc
theorem Ext.row {w w' : World} (h : Ext w w') {a : Option Addr} {vs : List Value} (hr : RowAt w a vs) : RowAt w' a vs := by
  rcases hr with hr | ⟨b, off, ha, hr⟩
  · exact .inl hr
  · exact .inr ⟨b, off, ha, fun i v hv => h.cell (hr i v hv)⟩

/-- One operation behind the other, each with one value in every world that S lets in. -/
def Seq (P : Program) (ops : Array Oper) (S : World → Prop) : List Nat → Act → Act → Prop
  | [], a, a' => a' = a
  | i :: r, a, a' => ∃ o v, ops[i]? = some o ∧ (∀ wx, S wx → YieldsAt P ops wx o v a) ∧ Seq P ops S r (a.put o.dst v) a'
/-- The forced part whose operations may run ahead of reads: each leaves S; then the rest. -/
def wpTA (P : Program) (ops : Array Oper) (Q : Exit → Act → World → Prop) (S : World → Prop) (tf : List Nat) : List Nat → Act → World → Prop
  | [], a, w => wpOps P ops Q tf a w
  | i :: r, a, w => wpOp P ops Q i (fun a1 w1 => S w1 ∧ wpTA P ops Q S tf r a1 w1) a w
def depOf (o : Oper) (i : Nat) : Bool := o.after.toList.any fun e => Region.binds .any e && e.on == i
/-- B tells, of each operation, what must lie ahead of it. -/
def certOk (ops : Array Oper) (B : List Nat) : Bool :=
  (List.range ops.size).all fun j => (List.range ops.size).all fun i => !(B.getD j 0).testBit i ||
    ((ops[j]?).map fun o => o.after.toList.any fun e => Region.binds .any e && (e.on == i || (B.getD e.on 0).testBit i)).getD false
def apartOk (ops : Array Oper) (i : Nat) : Bool :=
  (List.range ops.size).all fun j => match ops[i]?, ops[j]? with
    | some oi, some oj => i == j || depOf oj i || depOf oi j || (oi.apart ops oj && oj.apart ops oi)
    | _, _ => true
def backOk (ops : Array Oper) : Bool := (List.range ops.size).all fun i => ((ops[i]?).map fun o => o.after.all fun e => !Region.binds .any e || decide (e.on < i)).getD true
def inE (ops : Array Oper) (E : List Nat) (i : Nat) : Bool := ((ops[i]?).map fun o => o.after.all fun e => !Region.binds .any e || E.contains e.on).getD true
structure Early (ops : Array Oper) (B E TA TF : List Nat) : Prop where
  sel : Region.noSelect ops = true
  all : ∀ i, i < ops.size → i ∈ E ∨ i ∈ TA ∨ i ∈ TF
  lt : ∀ i, i ∈ E ∨ i ∈ TA ∨ i ∈ TF → i < ops.size
  nodup : (E ++ (TA ++ TF)).Nodup
  back : backOk ops = true
  cert : certOk ops B = true
  closed : ∀ i, i ∈ E → inE ops E i = true
  apart : ∀ i, i ∈ E → apartOk ops i = true
  sorted : E.Pairwise (· < ·)
  tf : ∀ t, t ∈ TF → ∀ i, i ∈ E → (B.getD t 0).testBit i = true
  chain : (TA ++ TF).Pairwise fun s t => (B.getD t 0).testBit s = true
def earlyB (ops : Array Oper) (B E TA TF : List Nat) : Bool :=
  Region.noSelect ops && ((List.range ops.size).all fun i => E.contains i || (TA.contains i || TF.contains i)) && ((E ++ (TA ++ TF)).all fun i => decide (i < ops.size)) &&
  decide (E ++ (TA ++ TF)).Nodup && backOk ops && certOk ops B && (E.all fun i => inE ops E i) && (E.all fun i => apartOk ops i) && decide (E.Pairwise (· < ·)) &&
  (TF.all fun t => E.all fun i => (B.getD t 0).testBit i) && decide ((TA ++ TF).Pairwise fun s t => (B.getD t 0).testBit s = true)
theorem earlyB_spec {B E TA TF : List Nat} (h : earlyB ops B E TA TF = true) : Early ops B E TA TF := by
  simp only [earlyB, Bool.and_eq_true, List.all_eq_true, List.mem_range, Bool.or_eq_true, List.contains_iff_mem, decide_eq_true_eq, List.mem_append] at h
  obtain ⟨⟨⟨⟨⟨⟨⟨⟨⟨⟨h1, h2⟩, h3⟩, h4⟩, h5⟩, h6⟩, h7⟩, h8⟩, h9⟩, h10⟩, h11⟩ := h
  exact ⟨h1, h2, h3, h4, h5, h6, h7, h8, h9, h10, h11⟩
/-- What is listed has all that it waits for listed. -/
def Closed (ops : Array Oper) (listed : Array Bool) : Prop := ∀ j o, ops[j]? = some o → listed.getD j false = true → ∀ e ∈ o.after, Region.binds .any e = true → listed.getD e.on false = true
theorem listed_before {B : List Nat} (hc : certOk ops B = true) (hb : backOk ops = true) {listed : Array Bool} (hcl : Closed ops listed) :
    ∀ (n j i : Nat) (o : Oper), j < n → ops[j]? = some o → i < ops.size → (B.getD j 0).testBit i = true → (∀ e ∈ o.after, Region.binds .any e = true → listed.getD e.on false = true) → listed.getD i false = true := by
  intro n
  induction n with
  | zero => intro j i o h; omega
  | succ n ih =>
    intro j i o hj ho hi hB hall
    have hjs : j < ops.size := (Array.getElem?_eq_some_iff.1 ho).1
    have h1 := hc
    simp only [certOk, List.all_eq_true, List.mem_range] at h1
    have h2 := h1 j hjs i hi
    rw [hB, ho] at h2
    simp only [Bool.not_true, Bool.false_or, Option.map_some, Option.getD_some, List.any_eq_true, Array.mem_toList_iff, Bool.and_eq_true, Bool.or_eq_true, beq_iff_eq] at h2
    obtain ⟨e, he, hbd, h3⟩ := h2
    have hle := hall e he hbd
    rcases h3 with h3 | h3
    · rw [← h3]; exact hle
    · have h4 := hb
      simp only [backOk, List.all_eq_true, List.mem_range] at h4
      have h5 := h4 j hjs
      rw [ho] at h5
      simp only [Option.map_some, Option.getD_some, Array.all_eq_true_iff_forall_mem, Bool.or_eq_true, Bool.not_eq_true', decide_eq_true_eq] at h5
      have h6 : e.on < j := (h5 e he).resolve_left (by simp [hbd])
      obtain ⟨o', ho'⟩ : ∃ o', ops[e.on]? = some o' := ⟨_, Array.getElem?_eq_getElem (by omega)⟩
      exact ih e.on i o' (by omega) ho' hi h3 (hcl e.on o' ho' hle)
theorem closed_set {listed : Array Bool} (hcl : Closed ops listed) {i : Nat} (hr : i ∈ Region.ready .any ops listed) : Closed ops (listed.setIfInBounds i true) := by
  intro j o ho hj e he hb
  obtain ⟨_, oi, hoi, hall⟩ := mem_ready.1 hr
  by_cases hji : i = j
  · subst hji
    rw [ho] at hoi; cases hoi
    exact getD_set_true (hall e he hb)
  · rw [getD_set_ne false hji] at hj
    exact getD_set_true (hcl j o ho hj e he hb)

theorem sel_of (h : Region.noSelect ops = true) {i : Nat} {o : Oper} (ho : ops[i]? = some o) : ∀ cs b, o.op ≠ .select cs b := fun cs b => Region.noSelect_spec h i o cs b ho
theorem apart_of {i j : Nat} {oi oj : Oper} (h : apartOk ops i = true) (hi : ops[i]? = some oi) (hj : ops[j]? = some oj) (hne : i ≠ j) (h1 : depOf oj i = false) (h2 : depOf oi j = false) : oi.apart ops oj = true ∧ oj.apart ops oi = true := by
  have hjs : j < ops.size := (Array.getElem?_eq_some_iff.1 hj).1
  simp only [apartOk, List.all_eq_true, List.mem_range] at h
  have h3 := h j hjs
  rw [hi, hj] at h3
  simpa [hne, h1, h2] using h3
theorem depOf_false {o : Oper} {i : Nat} (h : ∀ e ∈ o.after, Region.binds .any e = true → e.on ≠ i) : depOf o i = false := by
  unfold depOf
  rw [List.any_eq_false]
  intro e he
  simp only [Bool.and_eq_true, beq_iff_eq, not_and]
  exact h e (Array.mem_toList_iff.1 he)
variable {S : World → Prop}
theorem Seq.keepExec {o : Oper} (hs : ∀ cs b, o.op ≠ .select cs b) : ∀ (er : List Nat) (a a' : Act), Seq P ops S er a a' → (∀ x ∈ er, ∀ ox, ops[x]? = some ox → ox.apart ops o = true) →
    execOp a'.eval o = execOp a.eval o ∧ Region.wanted o (yielded ops a'.tmps) = Region.wanted o (yielded ops a.tmps)
  | [], a, a', h, _ => by rw [show a' = a from h]; exact ⟨rfl, rfl⟩
  | x :: r, a, a', h, hap => by
    obtain ⟨ox, v, hox, _, hn⟩ := h
    obtain ⟨h1, h2⟩ := keepExec hs r _ _ hn (fun y hy => hap y (List.mem_cons_of_mem _ hy))
    obtain ⟨k1, _, _⟩ := Oper.apart_spec (hap x (by simp) ox hox)
    exact ⟨h1.trans (execOp_put o hs a ox.dst v k1), h2.trans (wanted_put o a ox.dst v k1)⟩
theorem Seq.putBoth (hsel : Region.noSelect ops = true) {o : Oper} (u : Value) : ∀ (er : List Nat) (a a' : Act), Seq P ops S er a a' → (∀ x ∈ er, ∀ ox, ops[x]? = some ox → ox.apart ops o = true) →
    Seq P ops S er (a.put o.dst u) (a'.put o.dst u)
  | [], a, a', h, _ => by rw [show a' = a from h]; rfl
  | x :: r, a, a', h, hap => by
    obtain ⟨ox, v, hox, hy, hn⟩ := h
    obtain ⟨_, k2, k3⟩ := Oper.apart_spec (hap x (by simp) ox hox)
    refine ⟨ox, v, hox, fun wx hS => (hy wx hS).of_same (execOp_put ox (sel_of hsel hox) a o.dst u k3) (wanted_put ox a o.dst u k3), ?_⟩
    rw [← Act.put_comm a v u k2]
    exact putBoth hsel u r _ _ hn (fun y hy => hap y (List.mem_cons_of_mem _ hy))
theorem Seq.defersBoth (hsel : Region.noSelect ops = true) (d : Deferred) : ∀ (er : List Nat) (a a' : Act), Seq P ops S er a a' → Seq P ops S er { a with defers := d :: a.defers } { a' with defers := d :: a'.defers }
  | [], a, a', h => by rw [show a' = a from h]; rfl
  | x :: r, a, a', h => by
    obtain ⟨ox, v, hox, hy, hn⟩ := h
    refine ⟨ox, v, hox, fun wx hS => (hy wx hS).of_same rfl rfl, ?_⟩
    have := defersBoth hsel d r _ _ hn
    rw [← Act.put_defers]
    exact this
/-- An operation that waits for none of those ahead of it goes first. -/
theorem Seq.front (hsel : Region.noSelect ops = true) {i : Nat} {oi : Oper} (hi : ops[i]? = some oi) : ∀ (pre post : List Nat) (a a' : Act), Seq P ops S (pre ++ i :: post) a a' → (∀ x ∈ pre, ∀ ox, ops[x]? = some ox → ox.apart ops oi = true) →
    ∃ v, (∀ wx, S wx → YieldsAt P ops wx oi v a) ∧ Seq P ops S (pre ++ post) (a.put oi.dst v) a'
  | [], post, a, a', h, _ => by
    obtain ⟨o, v, ho, hy, hn⟩ := h
    rw [hi] at ho; cases ho
    exact ⟨v, hy, hn⟩
  | x :: r, post, a, a', h, hap => by
    obtain ⟨ox, v, hox, hy, hn⟩ := h
    obtain ⟨u, hy2, hn2⟩ := front hsel hi r post _ _ hn (fun y hy => hap y (List.mem_cons_of_mem _ hy))
    obtain ⟨k1, k2, k3⟩ := Oper.apart_spec (hap x (by simp) ox hox)
    refine ⟨u, fun wx hS => (hy2 wx hS).of_same (execOp_put oi (sel_of hsel hi) a ox.dst v k1).symm (wanted_put oi a ox.dst v k1).symm, ox, v, hox, fun wx hS => (hy wx hS).of_same (execOp_put ox (sel_of hsel hox) a oi.dst u k3) (wanted_put ox a oi.dst u k3), ?_⟩
    rw [← Act.put_comm a v u k2]
    exact hn2
theorem YieldsAt.wpOp' {i : Nat} {o : Oper} {v : Value} {a : Act} {w : World} (hi : ops[i]? = some o) (hy : YieldsAt P ops w o v a) {K : Act → World → Prop} (h : K (a.put o.dst v) w) : wpOp P ops Q i K a w := by
  have := YieldsAt.stOp (K := fun a => K a w) hi hy h
  exact wpOp_of_stOp (fun _ h => h) this
/-- The forced operation, run ahead of reads that are still to come. -/
theorem wpOp_ahead (hsel : Region.noSelect ops = true) (hQ : ∀ c a w, ¬ Q (.panic c) a w) {t : Nat} {ot : Oper} (ht : ops[t]? = some ot) {er : List Nat} {a a' : Act} {w : World} {K : Act → World → Prop}
    (hseq : Seq P ops S er a a') (hap : ∀ x ∈ er, ∀ ox, ops[x]? = some ox → ox.apart ops ot = true) (h : wpOp P ops Q t K a' w) :
    wpOp P ops Q t (fun a1 w1 => ∃ a1', Seq P ops S er a1 a1' ∧ K a1' w1) a w := by
  obtain ⟨e1, e2⟩ := hseq.keepExec (sel_of hsel ht) er a a' hap
  have put := fun u => Seq.putBoth (o := ot) hsel u er a a' hseq hap
  unfold wpOp at *
  simp only [ht] at *
  rw [e2] at h
  split
  · rename_i hw
    simp only [hw, if_true] at h
    rcases h with h | ⟨hasks, hlets⟩
    case inr => exact .inr ⟨by unfold Oper.asks at *; rw [e1] at hasks; exact hasks, hlets⟩
    refine .inl ?_
    unfold Oper.wp at *
    rw [e1] at h
    generalize (execOp a.eval ot).run P w = r at *
    cases r with
    | ok n w' =>
      cases n <;> simp only [Oper.upon] at h ⊢
      case value u => exact ⟨_, put u, h⟩
      case skip => exact ⟨_, put _, h⟩
      case defer d => exact ⟨_, Seq.putBoth (o := ot) hsel _ er _ _ (Seq.defersBoth hsel d er a a' hseq) hap, h⟩
      case enter f args =>
        refine Calls.mono h fun e w'' he => ?_
        cases e with
        | returned u => exact ⟨_, put u, he⟩
        | panicked c => exact (hQ _ _ _ he).elim
        | outgrown => exact he
      case row row args => exact Rows.mono h fun u w'' he => ⟨_, put u, he⟩
    | halt x w' =>
      cases x <;> simp only [Oper.upon] at h ⊢
      case panic u => exact (hQ _ _ _ h).elim
  · rename_i hw
    simp only [hw] at h
    exact ⟨_, put _, h⟩

/-- What is left to do: the reads 'er', then 'tr'. -/
structure Left (ops : Array Oper) (listed : Array Bool) (u : List Nat) : Prop where
  closed : Closed ops listed
  size : listed.size = ops.size
  left : ∀ i, i < ops.size → (listed.getD i true = false ↔ i ∈ u)
theorem Left.listed {listed : Array Bool} {u : List Nat} (h : Left ops listed u) {i : Nat} (hi : i < ops.size) : listed.getD i false = true ↔ i ∉ u := by
  have h1 := h.left i hi
  have hs : i < listed.size := by rw [h.size]; exact hi
  have e1 : listed.getD i false = listed[i] := by simp [hs]
  have e2 : listed.getD i true = listed[i] := by simp [hs]
  rw [e2] at h1
  rw [e1, ← h1]
  cases listed[i] <;> simp
theorem Left.ready {listed : Array Bool} {u : List Nat} (h : Left ops listed u) {i : Nat} (hr : i ∈ Region.ready .any ops listed) : i ∈ u ∧ i < ops.size ∧ ∃ o, ops[i]? = some o ∧ ∀ e ∈ o.after, Region.binds .any e = true → listed.getD e.on false = true := by
  obtain ⟨h0, o, ho, hall⟩ := mem_ready.1 hr
  have hi : i < ops.size := (Array.getElem?_eq_some_iff.1 ho).1
  exact ⟨(h.left i hi).1 h0, hi, o, ho, hall⟩
theorem Left.done {listed : Array Bool} (h : Left ops listed []) : Region.ready .any ops listed = [] := by
  cases hr : Region.ready .any ops listed with
  | nil => rfl
  | cons x l => have := (h.ready (i := x) (by rw [hr]; simp)).1; cases this
theorem Left.next {listed : Array Bool} {u : List Nat} (h : Left ops listed u) (hb : backOk ops = true) : ∀ (n i : Nat), i < n → i < ops.size → i ∈ u → Region.ready .any ops listed ≠ [] := by
  intro n
  induction n with
  | zero => intro i hi; omega
  | succ n ih =>
    intro i hin hi hu
    obtain ⟨o, ho⟩ : ∃ o, ops[i]? = some o := ⟨_, Array.getElem?_eq_getElem hi⟩
    by_cases hall : ∀ e ∈ o.after, Region.binds .any e = true → listed.getD e.on false = true
    · intro h0
      have : i ∈ Region.ready .any ops listed := mem_ready.2 ⟨(h.left i hi).2 hu, o, ho, hall⟩
      rw [h0] at this; cases this
    · simp only [Classical.not_forall] at hall
      obtain ⟨e, he, hbd, hn⟩ := hall
      have h4 := hb
      simp only [backOk, List.all_eq_true, List.mem_range] at h4
      have h5 := h4 i hi
      rw [ho] at h5
      simp only [Option.map_some, Option.getD_some, Array.all_eq_true_iff_forall_mem, Bool.or_eq_true, Bool.not_eq_true', decide_eq_true_eq] at h5
      have h6 : e.on < i := (h5 e he).resolve_left (by simp [hbd])
      refine ih e.on (by omega) (by omega) ?_
      have := h.listed (i := e.on) (by omega)
      exact Classical.not_not.1 fun hc => hn (this.2 hc)
theorem Left.set {listed : Array Bool} {u v : List Nat} {i : Nat} (h : Left ops listed u) (hr : i ∈ Region.ready .any ops listed) (huv : ∀ j, j ∈ v ↔ j ∈ u ∧ j ≠ i) : Left ops (listed.setIfInBounds i true) v := by
  refine ⟨closed_set h.closed hr, by simp [h.size], fun j hj => ?_⟩
  rw [huv]
  obtain ⟨_, hi, _⟩ := h.ready hr
  by_cases hji : i = j
  · subst hji
    have : i < listed.size := by rw [h.size]; exact hi
    simp [this]
  · rw [getD_set_ne true hji, h.left j hj]
    exact ⟨fun x => ⟨x, fun e => hji e.symm⟩, fun x => x.1⟩
theorem wpAny_forced {B : List Nat} (hcert : certOk ops B = true) (hb : backOk ops = true) : ∀ (tf : List Nat) (listed : Array Bool) (a : Act) (w : World), Left ops listed tf → tf.Nodup → (∀ i ∈ tf, i < ops.size) →
    tf.Pairwise (fun s t => (B.getD t 0).testBit s = true) → wpOps P ops Q tf a w → wpAny P .any ops Q tf.length listed a w
  | [], listed, a, w, hl, _, _, _, h => ⟨hl.done, h⟩
  | t :: r, listed, a, w, hl, hnd, hlt, hch, h => by
    refine ⟨fun h0 => absurd h0 (hl.next hb (t + 1) t (by omega) (hlt t (by simp)) (by simp)), fun i hi => ?_⟩
    obtain ⟨hu, his, o, ho, hall⟩ := hl.ready hi
    have hit : i = t := by
      rcases List.mem_cons.1 hu with h1 | h1
      · exact h1
      · have hB := (List.pairwise_cons.1 hch).1 i h1
        have h2 := listed_before hcert hb hl.closed (i + 1) i t o (by omega) ho (hlt t (by simp)) hB hall
        exact absurd (by simp) ((hl.listed (hlt t (by simp))).1 h2)
    subst hit
    rw [wpOps_cons] at h
    have hnr := (List.nodup_cons.1 hnd).1
    exact wpOp_mono (fun a' w' h' => wpAny_forced hcert hb r _ a' w' (hl.set hi fun j => by
      rw [List.mem_cons]
      exact ⟨fun x => ⟨.inr x, fun e => hnr (e ▸ x)⟩, fun x => x.1.resolve_left x.2⟩) (List.nodup_cons.1 hnd).2 (fun j hj => hlt j (List.mem_cons_of_mem _ hj)) (List.pairwise_cons.1 hch).2 h') h
theorem wpAny_early {B E TA TF : List Nat} (chk : Early ops B E TA TF) (hQ : ∀ c a w, ¬ Q (.panic c) a w) : ∀ (n : Nat) (er ta : List Nat) (listed : Array Bool) (a a' : Act) (w : World), er.length + ta.length = n → Left ops listed (er ++ (ta ++ TF)) →
    (er ++ (ta ++ TF)).Nodup → (∀ i ∈ er, i ∈ E) → (∀ i ∈ ta, i ∈ TA) → er.Pairwise (· < ·) → (ta ++ TF).Pairwise (fun s t => (B.getD t 0).testBit s = true) → S w →
    Seq P ops S er a a' → wpTA P ops Q S TF ta a' w → wpAny P .any ops Q (n + TF.length) listed a w := by
  intro n
  induction n with
  | zero =>
    intro er ta listed a a' w hn hl hnd _ _ _ hch _ hseq h
    have h1 : er = [] := List.eq_nil_of_length_eq_zero (by omega)
    have h2 : ta = [] := List.eq_nil_of_length_eq_zero (by omega)
    subst h1; subst h2
    rw [show a' = a from hseq] at h
    rw [Nat.zero_add]
    exact wpAny_forced chk.cert chk.back TF listed a w hl hnd (fun i hi => chk.lt i (.inr (.inr hi))) hch h
  | succ n ih =>
    intro er ta listed a a' w hn hl hnd hE hA hso hch hS hseq h
    have hlt : ∀ i ∈ er ++ (ta ++ TF), i < ops.size := fun i hi => by
      rw [List.mem_append, List.mem_append] at hi
      exact chk.lt i (hi.imp (hE i) (Or.imp_left (hA i)))
    rw [Nat.succ_add]
    refine ⟨fun h0 => ?_, fun i hi => ?_⟩
    · exfalso
      obtain ⟨i, hi⟩ : ∃ i, i ∈ er ++ (ta ++ TF) := by
        cases er with
        | cons x l => exact ⟨x, by simp⟩
        | nil => cases ta with
          | cons x l => exact ⟨x, by simp⟩
          | nil => simp at hn
      exact hl.next chk.back (i + 1) i (by omega) (hlt i hi) hi h0
    · obtain ⟨hu, his, oi, hoi, hall⟩ := hl.ready hi
      have notdep : ∀ x, x ∈ er ++ (ta ++ TF) → depOf oi x = false := fun x hx => depOf_false fun e he hbd hex => by
        have h1 := hall e he hbd
        rw [hex] at h1
        exact (hl.listed (hlt x hx)).1 h1 hx
      have before : ∀ x, x ∈ er ++ (ta ++ TF) → (B.getD i 0).testBit x = true → False := fun x hx hB =>
        (hl.listed (hlt x hx)).1 (listed_before chk.cert chk.back hl.closed (i + 1) i x oi (by omega) hoi (hlt x hx) hB hall) hx
      have nodep : ∀ x ox, ops[x]? = some ox → x ≤ i → depOf ox i = false := fun x ox hox hxi => depOf_false fun e he hbd hex => by
        have hxs : x < ops.size := (Array.getElem?_eq_some_iff.1 hox).1
        have h4 := chk.back
        simp only [backOk, List.all_eq_true, List.mem_range] at h4
        have h5 := h4 x hxs
        rw [hox] at h5
        simp only [Option.map_some, Option.getD_some, Array.all_eq_true_iff_forall_mem, Bool.or_eq_true, Bool.not_eq_true', decide_eq_true_eq] at h5
        have h6 : e.on < x := (h5 e he).resolve_left (by simp [hbd])
        omega
      rw [List.mem_append, List.mem_append] at hu
      rcases hu with hu | hu | hu
      · obtain ⟨pre, post, rfl⟩ := List.append_of_mem hu
        have hap : ∀ x ∈ pre, ∀ ox, ops[x]? = some ox → ox.apart ops oi = true := fun x hx ox hox => by
          have hxi : x < i := (List.pairwise_append.1 hso).2.2 x hx i (by simp)
          have hxm : x ∈ (pre ++ i :: post) ++ (ta ++ TF) := by simp [hx]
          exact (apart_of (chk.apart i (hE i hu)) hoi hox (by omega) (nodep x ox hox (by omega)) (notdep x hxm)).2
        obtain ⟨v, hy, hs2⟩ := Seq.front chk.sel hoi pre post a a' hseq hap
        have hnd2 : i ∉ pre ++ post ∧ i ∉ ta ++ TF := by
          rw [List.append_assoc, List.cons_append] at hnd
          have h1 := List.nodup_append.1 hnd
          have h2 := List.nodup_cons.1 h1.2.1
          exact ⟨fun hm => by
            rcases List.mem_append.1 hm with hm | hm
            · exact h1.2.2 i hm i (by simp) rfl
            · exact h2.1 (by simp [hm]), fun hm => h2.1 (by rw [List.mem_append]; exact .inr hm)⟩
        refine YieldsAt.wpOp' hoi (hy w hS) (ih (pre ++ post) ta _ _ a' w ?_ (hl.set hi fun j => ?_) ?_ (fun j hj => hE j ?_) hA ?_ hch hS hs2 h)
        · simp only [List.length_append, List.length_cons] at hn ⊢; omega
        · simp only [List.mem_append, List.mem_cons] at hnd2 ⊢
          constructor
          · intro x
            exact ⟨by rcases x with (x | x) | x <;> simp [x], fun e => by subst e; rcases x with x | x; exact hnd2.1 x; exact hnd2.2 x⟩
          · rintro ⟨(x | x | x) | x, hne⟩
            · exact .inl (.inl x)
            · exact absurd x hne
            · exact .inl (.inr x)
            · exact .inr x
        · have hsub : (pre ++ post ++ (ta ++ TF)).Sublist (pre ++ i :: post ++ (ta ++ TF)) := by
            refine List.Sublist.append_right ?_ _
            exact List.Sublist.append_left (List.sublist_cons_self i post) pre
          exact hnd.sublist hsub
        · rw [List.mem_append] at hj; simp only [List.mem_append, List.mem_cons]; exact hj.imp id .inr
        · exact hso.sublist (List.Sublist.append_left (List.sublist_cons_self i post) pre)
      · cases ta with
        | nil => cases hu
        | cons t r =>
          have hit : i = t := by
            rcases List.mem_cons.1 hu with h1 | h1
            · exact h1
            · exact (before t (by simp) ((List.pairwise_cons.1 hch).1 i (by simp [h1]))).elim
          subst hit
          have hap : ∀ x ∈ er, ∀ ox, ops[x]? = some ox → ox.apart ops oi = true := fun x hx ox hox => by
            have hxm : x ∈ er ++ (i :: r ++ TF) := by simp [hx]
            have hine : i ∉ er := fun hm => (List.nodup_append.1 hnd).2.2 i hm i (by simp) rfl
            have hxd : depOf ox i = false := depOf_false fun e he hbd hex => by
              have h1 := chk.closed x (hE x hx)
              unfold inE at h1
              rw [hox] at h1
              simp only [Option.map_some, Option.getD_some, Array.all_eq_true_iff_forall_mem, Bool.or_eq_true, Bool.not_eq_true', List.contains_iff_mem] at h1
              have h2 := (h1 e he).resolve_left (by simp [hbd])
              rw [hex] at h2
              have h3 := chk.nodup
              exact (List.nodup_append.1 h3).2.2 i h2 i (by rw [List.mem_append]; exact .inl (hA i (by simp))) rfl
            exact (apart_of (chk.apart x (hE x hx)) hox hoi (fun e => hine (e ▸ hx)) (notdep x hxm) hxd).1
          have h2 := wpOp_ahead chk.sel hQ hoi hseq hap h
          refine wpOp_mono (fun a1 w1 => ?_) h2
          rintro ⟨a1', hs1, hS1, h1⟩
          have hnd1 := List.nodup_append.1 hnd
          refine ih er r _ a1 a1' w1 (by simp only [List.length_cons] at hn; omega) (hl.set hi fun j => ?_) ?_ hE (fun j hj => hA j (by simp [hj])) hso (List.pairwise_cons.1 hch).2 hS1 hs1 h1
          · have hine : i ∉ er := fun hm => hnd1.2.2 i hm i (by simp) rfl
            have hint : i ∉ r ++ TF := (List.nodup_cons.1 hnd1.2.1).1
            simp only [List.mem_append, List.mem_cons, List.cons_append] at hint ⊢
            constructor
            · intro x
              exact ⟨by rcases x with x | x | x <;> simp [x], fun e => by subst e; rcases x with x | x; exact hine x; exact hint x⟩
            · rintro ⟨x | x | x, hne⟩
              · exact .inl x
              · exact absurd x hne
              · exact .inr x
          · exact hnd.sublist (List.Sublist.append_left (List.sublist_cons_self i _) er)
      · exfalso
        cases er with
        | cons x l => exact before x (by simp) (chk.tf i hu x (hE x (by simp)))
        | nil => cases ta with
          | nil => simp at hn
          | cons t r => exact before t (by simp) ((List.pairwise_append.1 hch).2.2 t (by simp) i hu)

/-! How it is walked. -/
def seI (P : Program) (ops : Array Oper) (wx : World) (Q : Act → Prop) : List Nat → Act → Prop
  | [], a => Q a
  | i :: r, a => stOp P ops wx i (seI P ops wx Q r) a
theorem seI_step {wx : World} {Q : Act → Prop} {i : Nat} {r : List Nat} {a : Act} {o : Oper} (ho : ops[i]? = some o)
    (h : ∀ K : Act → Prop, (∀ a, seI P ops wx Q r a → K a) → if Region.wanted o (yielded ops a.tmps) then o.still P a wx K else K (a.put o.dst undef)) : seI P ops wx Q (i :: r) a := by
  show stOp P ops wx i (seI P ops wx Q r) a
  unfold stOp
  rw [ho]
  exact h _ fun _ h => h
theorem seI_nil {wx : World} {Q : Act → Prop} {a : Act} (h : Q a) : seI P ops wx Q [] a := h
def dstsOf (ops : Array Oper) (E : List Nat) : List Nat := E.map fun i => ((ops[i]?).bind (·.dst)).getD 0
def dstB (ops : Array Oper) (E : List Nat) : Bool := (E.all fun i => ((ops[i]?).bind (·.dst)).isSome) && decide (dstsOf ops E).Nodup
theorem seI_keeps {wx : World} {a' : Act} (d : Nat) : ∀ (l : List Nat) (a : Act), d ∉ dstsOf ops l → (∀ i ∈ l, ((ops[i]?).bind (·.dst)).isSome = true) → seI P ops wx (· = a') l a → a'.tmps[d]? = a.tmps[d]?
  | [], a, _, _, h => by rw [← (show a = a' from h)]
  | i :: r, a, hd, hs, h => by
    have hsi := hs i (by simp)
    cases ho : ops[i]? with
    | none => rw [ho] at hsi; cases hsi
    | some o =>
      rw [ho] at hsi
      obtain ⟨v, hy, hK⟩ := yieldsAt_of_stOp ho (show stOp P ops wx i (seI P ops wx (· = a') r) a from h)
      cases hdst : o.dst with
      | none => simp [hdst] at hsi
      | some t =>
        have hne : t ≠ d := fun e => hd (by simp [dstsOf, ho, hdst, e])
        rw [seI_keeps d r _ (fun hm => hd (by simp only [dstsOf, List.map_cons, List.mem_cons] at hm ⊢; exact .inr hm)) (fun j hj => hs j (by simp [hj])) hK, hdst]
        simp [Act.put, Array.getElem?_setIfInBounds_ne hne]
theorem seq_of_seI {S : World → Prop} {a' : Act} (h0 : ∃ wx, S wx) : ∀ (l : List Nat) (a : Act), (dstsOf ops l).Nodup → (∀ i ∈ l, ((ops[i]?).bind (·.dst)).isSome = true) → (∀ d ∈ dstsOf ops l, d < a.tmps.size) →
    (∀ wx, S wx → seI P ops wx (· = a') l a) → Seq P ops S l a a'
  | [], a, _, _, _, h => by obtain ⟨wx, hS⟩ := h0; exact (h wx hS).symm
  | i :: r, a, hnd, hs, hb, h => by
    have hsi := hs i (by simp)
    cases ho : ops[i]? with
    | none => rw [ho] at hsi; cases hsi
    | some o =>
      rw [ho] at hsi
      cases hdst : o.dst with
      | none => simp [hdst] at hsi
      | some t =>
        have ht : ((ops[i]?).bind (·.dst)).getD 0 = t := by rw [ho]; simp [hdst]
        have hts : t < a.tmps.size := hb t (by simp [dstsOf, ho, hdst])
        have htn : t ∉ dstsOf ops r := by
          simp only [dstsOf, List.map_cons, ht] at hnd
          exact (List.nodup_cons.1 hnd).1
        have key : ∀ wx, S wx → ∃ v, YieldsAt P ops wx o v a ∧ seI P ops wx (· = a') r (a.put o.dst v) ∧ a'.tmps[t]? = some v := fun wx hS => by
          obtain ⟨v, hy, hK⟩ := yieldsAt_of_stOp ho (show stOp P ops wx i (seI P ops wx (· = a') r) a from h wx hS)
          refine ⟨v, hy, hK, ?_⟩
          rw [seI_keeps t r _ htn (fun j hj => hs j (by simp [hj])) hK, hdst]
          simp [Act.put, hts]
        obtain ⟨wx0, hS0⟩ := h0
        obtain ⟨v0, _, _, hv0⟩ := key wx0 hS0
        have key2 : ∀ wx, S wx → YieldsAt P ops wx o v0 a ∧ seI P ops wx (· = a') r (a.put o.dst v0) := fun wx hS => by
          obtain ⟨v, hy, hK, hv⟩ := key wx hS
          rw [hv0] at hv; cases hv
          exact ⟨hy, hK⟩
        refine ⟨o, v0, ho, fun wx hS => (key2 wx hS).1, seq_of_seI ⟨wx0, hS0⟩ r _ ?_ (fun j hj => hs j (by simp [hj])) (fun d hd => ?_) fun wx hS => (key2 wx hS).2⟩
        · simp only [dstsOf, List.map_cons] at hnd
          exact (List.nodup_cons.1 hnd).2
        · have := hb d (by simp only [dstsOf, List.map_cons, List.mem_cons] at hd ⊢; exact .inr hd)
          rw [hdst]; simpa [Act.put] using this
inductive Picks (ops : Array Oper) : List Nat → List Oper → Prop
  | nil : Picks ops [] []
  | cons {i : Nat} {r : List Nat} {o : Oper} {l : List Oper} (ho : ops[i]? = some o) (h : Picks ops r l) : Picks ops (i :: r) (o :: l)
theorem wpOps_of_list {tf : List Nat} {l : List Oper} (hp : Picks ops tf l) : ∀ {a : Act} {w : World}, wpList P ops Q l a w → wpOps P ops Q tf a w := by
  induction hp with
  | nil => intro a w h; exact h
  | cons ho hp ih =>
    intro a w h
    rw [wpOps_cons]
    unfold wpOp
    rw [ho]
    unfold wpList at h
    simp only at *
    split
    · rename_i hw
      rw [if_pos hw] at h
      exact h.imp (Oper.wp_mono fun a w => ih) id
    · rename_i hw
      rw [if_neg hw] at h
      exact ih h
theorem Oper.wp_then {o : Oper} {a : Act} {w : World} {K : Act → World → Prop} {n : Act → World → Prop} (h : o.wp P a w K (Exit.then n Q)) : o.wp P a w K Q := by
  unfold Oper.wp at *
  generalize (execOp a.eval o).run P w = r at *
  cases r with
  | ok x w' => cases x <;> simp only [Oper.upon] at h ⊢ <;> first | exact h | exact Calls.mono h (fun e w'' he => by cases e <;> exact he)
  | halt x w' => cases x <;> simp only [Oper.upon] at h ⊢ <;> exact h
theorem wpTA_cons {S : World → Prop} {tf r : List Nat} {i : Nat} {o : Oper} {a : Act} {w : World} (ho : ops[i]? = some o)
    (h : wpList P ops (Exit.then (fun a1 w1 => S w1 ∧ wpTA P ops Q S tf r a1 w1) Q) [o] a w) : wpTA P ops Q S tf (i :: r) a w := by
  show wpOp P ops Q i _ a w
  unfold wpOp
  rw [ho]
  unfold wpList at h
  simp only
  split
  · rename_i hw
    rw [if_pos hw] at h
    exact h.imp (fun h => Oper.wp_mono (fun a w h => h) (Oper.wp_then h)) id
  · rename_i hw
    rw [if_neg hw] at h
    exact h
theorem wpTA_nil {S : World → Prop} {tf : List Nat} {l : List Oper} {a : Act} {w : World} (hp : Picks ops tf l) (h : wpList P ops Q l a w) : wpTA P ops Q S tf [] a w := wpOps_of_list hp h
/-- A REGION THAT DRAWS ITS ORDER: E: what yields the same in every world that S lets in; TA: forced operations that may run ahead of some of E (each leaves S); TF: forced, behind all of E. -/
theorem wp_region_early {id : Nat} {l : List Oper} {a : Act} {w : World} (E TA TF : List Nat) (S : World → Prop) (hm : P.follows .mixedOrders = true)
    (hB : earlyB l.toArray (Region.before l.toArray).toList E TA TF = true) (hd : dstB l.toArray E = true) (hb : ((dstsOf l.toArray E).all fun d => decide (d < a.tmps.size)) = true) (hS : S w.drew)
    (h : ∃ a', (∀ wx, S wx → seI P l.toArray wx (· = a') E a) ∧ wpTA P l.toArray (NoPanic Q) S TF TA a' w.drew) : (Code.region id l.toArray true).wp P Q a w := by
  obtain ⟨a', hE, hT⟩ := h
  refine wp_region_noPanic (wp_region_any hm ?_)
  have chk := earlyB_spec hB
  simp only [dstB, Bool.and_eq_true, List.all_eq_true, decide_eq_true_eq] at hd
  have hseq := seq_of_seI (P := P) ⟨_, hS⟩ E a hd.2 hd.1 (fun d h => by simpa using List.all_eq_true.1 hb d h) hE
  have hlen : E.length + TA.length + TF.length = l.toArray.size := by
    have h1 : (E ++ (TA ++ TF)).Perm (List.range l.toArray.size) := by
      rw [List.perm_ext_iff_of_nodup chk.nodup List.nodup_range]
      intro i
      simp only [List.mem_append, List.mem_range]
      exact ⟨chk.lt i, chk.all i⟩
    have h2 := h1.length_eq
    simp only [List.length_append, List.length_range] at h2
    omega
  have h := wpAny_early (Q := NoPanic Q) chk (fun _ _ _ h => h) (E.length + TA.length) E TA (Array.replicate l.toArray.size false) a a' w.drew rfl
    ⟨fun j o _ hj => (by rw [Array.getD_eq_getD_getElem?, Array.getElem?_replicate] at hj; split at hj <;> cases hj), by simp, fun i hi => ⟨fun _ => by rw [List.mem_append, List.mem_append]; exact chk.all i hi, fun _ => by rw [Array.getD_eq_getD_getElem?, Array.getElem?_replicate, if_pos hi]; rfl⟩⟩
    chk.nodup (fun _ h => h) (fun _ h => h) chk.sorted chk.chain hS hseq hT
  rw [hlen] at h
  exact h
end Go.Proofs.Ytjjmhmbmjpedkaa
