/- The operations that only read, one by one. No program in sight. -/
import Derived.Test.YtjjmhmbmjpedkaaVcQuiet
import Derived.WalkSpells
namespace Go.Proofs.Ytjjmhmbmjpedkaa
open Go.RowKit
variable {P : Program} {E : Env}
def fillL (cs : List Value) (off : Nat) (vs : List Value) : Option (List Value) := cond (Nat.ble (off + vs.length) cs.length) (some (cs.take off ++ vs ++ cs.drop (off + vs.length))) none
def cellsL : Value → List Value
  | .agg cs => cs.toList
  | v => [v]
theorem cellsL_eq (v : Value) : cellsL v = v.cells.toList := by cases v <;> rfl
def placesF (E : Env) : List (Nat × TypeId) → Option (List (Nat × Nat))
  | [] => some []
  | p :: r => match lkT E.tys p.2 with
    | some i => match placesF E r with
      | some l => some ((p.1, i.size) :: l)
      | none => none
    | none => none
def nthP : List (Nat × Nat) → Nat → Option (Nat × Nat)
  | [], _ => none
  | x :: r, n => cond (Nat.beq n 0) (some x) (nthP r (n - 1))
theorem nthP_eq : ∀ (l : List (Nat × Nat)) (n : Nat), nthP l n = l[n]?
  | [], n => by simp [nthP]
  | x :: r, 0 => by simp [nthP]
  | x :: r, n + 1 => by
    have : Nat.beq (n + 1) 0 = false := by simp [Nat.beq]
    simp only [nthP, this, cond_false, Nat.add_sub_cancel, nthP_eq r n, List.getElem?_cons_succ]
/-- What is built: its parts, one behind the other. -/
def buildL (place : Nat → Option (Nat × Nat)) (ρ : SFr) : List Value → List (Nat × Operand) → (List Value → Prop) → Prop
  | cs, [], K => K cs
  | cs, p :: r, K => withV (ev ρ p.2) fun v => match place p.1 with
    | some q => cond (Nat.beq (cellsL v).length q.2) (match fillL cs q.1 (cellsL v) with | some cs' => buildL place ρ cs' r K | none => False) False
    | none => False
def evL (ρ : SFr) : List Operand → List Value → (List Value → Prop) → Prop
  | [], acc, K => K acc
  | x :: r, acc, K => withV (ev ρ x) fun v => evL ρ r (acc ++ [v]) K
theorem evL_get {n : Nat} {ρ : SFr} {σ : List LB} {a : Act} {w : World} (hr : Rep n ρ σ a w) : ∀ {l : List Operand} {acc : List Value} {K : List Value → Prop}, evL ρ l acc K → K (acc ++ l.map a.eval)
  | [], acc, K, h => by simpa [evL] using h
  | x :: r, acc, K, h => by
    have := evL_get hr (hr.evV h)
    simpa using this
def sliceBase (a : Option Addr) (c l s : Nat) : Option Addr := if c = l then a else a.map (·.add (l * s))
def sliceQ (a : Option Addr) (n c s : Nat) : Option Value → Option Value → (Value → Prop) → Prop
  | none, none, K => K (.slice a n c)
  | none, some (.int _ h), K => 0 ≤ h ∧ h ≤ (c : Int) ∧ K (.slice a h.toNat c)
  | some (.int _ l), none, K => 0 ≤ l ∧ l ≤ (n : Int) ∧ K (.slice (sliceBase a c l.toNat s) (n - l.toNat) (c - l.toNat))
  | some (.int _ l), some (.int _ h), K => 0 ≤ l ∧ l ≤ h ∧ h ≤ (c : Int) ∧ K (.slice (sliceBase a c l.toNat s) (h.toNat - l.toNat) (c - l.toNat))
  | _, _, _ => False
def sliceS (b : ByteArray) : Option Value → Option Value → (Value → Prop) → Prop
  | none, none, K => K (.string (b.extract 0 b.size))
  | none, some (.int _ h), K => 0 ≤ h ∧ h ≤ (b.size : Int) ∧ K (.string (b.extract 0 h.toNat))
  | some (.int _ l), none, K => 0 ≤ l ∧ l ≤ (b.size : Int) ∧ K (.string (b.extract l.toNat b.size))
  | some (.int _ l), some (.int _ h), K => 0 ≤ l ∧ l ≤ h ∧ h ≤ (b.size : Int) ∧ K (.string (b.extract l.toNat h.toNat))
  | _, _, _ => False
def evO (ρ : SFr) : Option Operand → (Option Value → Prop) → Prop
  | none, K => K none
  | some x, K => withV (ev ρ x) fun v => K (some v)
theorem evO_get {n : Nat} {ρ : SFr} {σ : List LB} {a : Act} {w : World} (hr : Rep n ρ σ a w) {o : Option Operand} {K : Option Value → Prop} (h : evO ρ o K) : K (o.map a.eval) := by
  cases o with
  | none => exact h
  | some x => exact hr.evV h
def byteAt (s : ByteArray) (z : Int) : Int := ((s.data.toList.getD z.toNat 0).toNat : Int)
def qbuiltin (E : Env) (b : Builtin) (t : Array TypeId) (args : List Value) (K : Value → Prop) : Prop :=
  match b, args with
  | .len, [x] => match t.toList with
    | [t0] => match lkT E.tys t0 with
      | some i => match i.k, x with
        | .slice _, .slice _ n _ => K (.int .i64 (n : Int))
        | .str, .string s => K (.int .i64 (s.size : Int))
        | .arr n _, _ => K (.int .i64 (n : Int))
        | _, _ => False
      | none => False
    | _ => False
  | .cap, [x] => match t.toList with
    | [t0] => match lkT E.tys t0 with
      | some i => match i.k, x with
        | .slice _, .slice _ _ c => K (.int .i64 (c : Int))
        | _, _ => False
      | none => False
    | _ => False
  | .min, [.int k a, .int _ b] => K (.int k (min a b))
  | .max, [.int k a, .int _ b] => K (.int k (max a b))
  | _, _ => False
def nilCmp (op : BinOp) (K : SV → SFact → Prop) : Prop := match op with
  | .eql => K (.v (.bool false)) .tt
  | .neq => K (.v (.bool true)) .tt
  | _ => False
def qop (E : Env) (op : Op) (ρ : SFr) (σ : List LB) (w : World) (K : SV → SFact → Prop) : Prop :=
  match op with
  | .move x => withS (ev ρ x) fun s => K s .tt
  | .assign x => withS (ev ρ x) fun s => K s .tt
  | .pick c a b => withV (ev ρ c) fun cv => match cv with
    | .bool t => br t (withS (ev ρ a) fun s => K s .tt) (withS (ev ρ b) fun s => K s .tt)
    | _ => False
  | .build t parts => match lkT E.tys t with
    | some i => match i.k with
      | .struct fs => match placesF E fs with
        | some pl => buildL (nthP pl) ρ (cellsL i.zero) parts.toList fun cs => K (.v (.agg cs.toArray)) .tt
        | none => False
      | .arr _ e => match lkT E.tys e with
        | some ei => buildL (fun i => some (i * ei.size, ei.size)) ρ (cellsL i.zero) parts.toList fun cs => K (.v (.agg cs.toArray)) .tt
        | none => False
      | _ => False
    | none => False
  | .load t x => match lkT E.tys t with
    | some i => match ev ρ x with
      | some (.box id off) => match lkB σ id with
        | some b => cond (isAggK i.k) (cond (Nat.beq (cutL b.cs off i.size).length i.size) (K (.v (.agg (cutL b.cs off i.size).toArray)) (.box b)) False) (match nth b.cs off with | some v => K (.v v) (.box b) | none => False)
        | none => False
      | some (.v (.pointer p)) => withP p fun b off =>
        cond (isAggK i.k) (cond (Nat.beq i.lv.length i.size) (exLs i.lv [] fun vs => cellsAt w b off vs ∧ K (.v (.agg vs.toArray)) (.mem fun wx => cellsAt wx b off vs)) False)
          (match i.lv with | [l] => exLf l fun v => w.cell? ⟨b, off, none⟩ = some v ∧ K (.v v) (.mem fun wx => wx.cell? ⟨b, off, none⟩ = some v) | _ => False)
      | _ => False
    | none => False
  | .nilCheck x => match ev ρ x with
    | some (.box id off) => K (.box id off) .tt
    | some (.v (.pointer p)) => withP p fun b off => K (.v (.pointer (some ⟨b, off, none⟩))) .tt
    | some (.v (.func (.func f) a c)) => K (.v (.func (.func f) a c)) .tt
    | _ => False
  | .binOp op t x y _ => match ev ρ x, ev ρ y with
    | some (.box _ _), some (.v (.pointer none)) => match lkT E.tys t with
      | some i => match i.k with
        | .ptr => nilCmp op K
        | _ => False
      | none => False
    | some (.v x'), some (.v y') => qbin E op t x' y' fun v => K (.v v) .tt
    | _, _ => False
  | .unOp op _ x => withV (ev ρ x) fun v => match op, v with
    | .not, .bool b => K (.v (.bool (!b))) .tt
    | .neg, .int k n => K (.v (.int k (k.wrap (0 - n)))) .tt
    | _, _ => False
  | .convert src dst x => withV (ev ρ x) fun v => match lkT E.tys src, lkT E.tys dst with
    | some s, some d => match s.k, d.k, v with
      | .int _, .int k, .int _ n => K (.v (.int k (k.wrap n))) .tt
      | .str, .str, .string s => K (.v (.string s)) .tt
      | .slice e, .str, .slice a n _ => match lkT E.tys e with
        | some ei => match ei.k with
          | .int .u8 => ∃ bs : List UInt8, bs.length = n ∧ RowAt w a (bs.map bV) ∧ K (.v (.string (strOf bs))) (.mem fun wx => RowAt wx a (bs.map bV))
          | _ => False
        | none => False
      | _, _, _ => False
    | _, _ => False
  | .makeFunc fn first captured => evL ρ first.toList [] fun fs => evL ρ captured.toList [] fun cs => K (.v (.func fn fs.toArray cs.toArray)) .tt
  | .slice t x lo hi none => match lkT E.tys t with
    | some i => evO ρ lo fun l => evO ρ hi fun h => withV (ev ρ x) fun v => match i.k, v with
      | .slice e, .slice a n c => match lkT E.tys e with
        | some ei => sliceQ a n c ei.size l h fun v => K (.v v) .tt
        | none => False
      | .str, .string s => sliceS s l h fun v => K (.v v) .tt
      | _, _ => False
    | none => False
  | .fieldAddr t x f => match lkT E.tys t with
    | some i => match i.k with
      | .struct fs => match nthF fs f with
        | some (o, ft) => match lkT E.tys ft with
          | some fi => cond (Nat.beq fi.size 0) False (match ev ρ x with
            | some (.box id off) => K (.box id (off + o)) .tt
            | some (.v (.pointer p)) => withP p fun b off => K (.v (.pointer (some ⟨b, off + o, none⟩))) .tt
            | _ => False)
          | none => False
        | none => False
      | _ => False
    | none => False
  | .field t x f => match lkT E.tys t with
    | some i => match i.k with
      | .struct fs => match nthF fs f with
        | some (o, ft) => match lkT E.tys ft with
          | some fi => withV (ev ρ x) fun v => match v with
            | .agg cs => cond (isAggK fi.k) (K (.v (.agg (cutL cs.toList o fi.size).toArray)) .tt) (match nth cs.toList o with | some v => K (.v v) .tt | none => False)
            | _ => False
          | none => False
        | none => False
      | _ => False
    | none => False
  | .indexAddr t x ix => match lkT E.tys t with
    | some i => match i.k with
      | .slice e => match lkT E.tys e with
        | some ei => withV (ev ρ x) fun v => withV (ev ρ ix) fun z => match v, z with
          | .slice a n _, .int _ z => withP a fun b off => 0 ≤ z ∧ z < (n : Int) ∧ K (.v (.pointer (some ⟨b, off + z.toNat * ei.size, none⟩))) .tt
          | _, _ => False
        | none => False
      | .arr n e => match lkT E.tys e with
        | some ei => withV (ev ρ ix) fun z => match ev ρ x, z with
          | some (.v (.pointer p)), .int _ z => withP p fun b off => 0 ≤ z ∧ z < (n : Int) ∧ K (.v (.pointer (some ⟨b, off + z.toNat * ei.size, none⟩))) .tt
          | some (.box id off), .int _ (.ofNat k) => cond (Nat.blt k n) (K (.box id (off + k * ei.size)) .tt) False
          | _, _ => False
        | none => False
      | _ => False
    | none => False
  | .index t x ix => match lkT E.tys t with
    | some i => withV (ev ρ x) fun v => withV (ev ρ ix) fun z => match i.k, v, z with
      | .str, .string s, .int _ z => 0 ≤ z ∧ z < (s.size : Int) ∧ K (.v (.int .u8 (byteAt s z))) .tt
      | .arr n e, .agg cs, .int _ z => match lkT E.tys e with
        | some ei => cond (isAggK ei.k) False (cond (Nat.beq ei.size 1) (0 ≤ z ∧ z < (n : Int) ∧ match ei.lv with | [l] => exLf l fun v => cs.toList[z.toNat]? = some v ∧ K (.v v) .tt | _ => False) False)
        | none => False
      | _, _, _ => False
    | none => False
  | .extract x ix => withV (ev ρ x) fun v => match v with
    | .tuple vs => match nth vs.toList ix with
      | some y => K (.v y) .tt
      | none => False
    | _ => False
  | .call c => match c.callee with
    | .builtin b => evL ρ c.args.toList [] fun args => qbuiltin E b c.argTypes args fun v => K (.v v) .tt
    | _ => False
  | _ => False
def Yields (P : Program) (o : Oper) (a : Act) (σ : List LB) (w : World) (K : SV → SFact → Prop) : Prop :=
  ∃ s f x, K s f ∧ den σ s = some x ∧ f.holds w ∧ (∀ wx, f.holds wx → (execOp a.eval o).run P wx = .ok (.value x) wx) ∧ ∀ b, f = .box b → lkB σ b.id = some b
theorem yields_tt {o : Oper} {a : Act} {σ : List LB} {w : World} {K : SV → SFact → Prop} {x : Value} (h : K (.v x) .tt) (hr : ∀ wx, (execOp a.eval o).run P wx = .ok (.value x) wx) : Yields P o a σ w K :=
  ⟨.v x, .tt, x, h, rfl, trivial, fun wx _ => hr wx, fun b hb => by cases hb⟩
theorem withS_get {s : Option SV} {K : SV → Prop} (h : withS s K) : ∃ x, s = some x ∧ K x := by
  cases s with
  | none => exact h.elim
  | some x => exact ⟨x, rfl, h⟩
section
variable {n : Nat} {ρ : SFr} {σ : List LB} {a : Act} {w : World} {o : Oper} {K : SV → SFact → Prop}
theorem q_move (hr : Rep n ρ σ a w) {x : Operand} (ho : o.op = .move x ∨ o.op = .assign x) (h : withS (ev ρ x) fun s => K s .tt) : Yields P o a σ w K := by
  obtain ⟨s, h1, h2⟩ := withS_get h
  obtain ⟨v, h3, h4⟩ := hr.ev h1
  refine ⟨s, .tt, v, h2, h3, trivial, fun wx _ => ?_, fun b hb => by cases hb⟩
  rcases ho with ho | ho <;> simp [execOp, ho, h4]
theorem q_pick (hr : Rep n ρ σ a w) {c x y : Operand} (ho : o.op = .pick c x y) (h : qop E o.op ρ σ w K) : Yields P o a σ w K := by
  rw [ho] at h
  have h := hr.evV (show withV (ev ρ c) _ from h)
  split at h
  · rename_i t ht
    cases t
    · obtain ⟨s, h1, h2⟩ := withS_get (show withS _ _ from h)
      obtain ⟨v, h3, h4⟩ := hr.ev h1
      exact ⟨s, .tt, v, h2, h3, trivial, fun wx _ => by simp [execOp, ho, ht, asBool, h4], fun b hb => by cases hb⟩
    · obtain ⟨s, h1, h2⟩ := withS_get (show withS _ _ from h)
      obtain ⟨v, h3, h4⟩ := hr.ev h1
      exact ⟨s, .tt, v, h2, h3, trivial, fun wx _ => by simp [execOp, ho, ht, asBool, h4], fun b hb => by cases hb⟩
  · exact h.elim
theorem fold_set (vs : List Value) : ∀ (off : Nat) (cs : Array Value), off + vs.length ≤ cs.size →
    (vs.zipIdx 0).foldl (fun (cs : Array Value) (c : Value × Nat) => cs.setIfInBounds (off + c.2) c.1) cs = (cs.toList.take off ++ vs ++ cs.toList.drop (off + vs.length)).toArray := by
  have key : ∀ (vs : List Value) (k off : Nat) (cs : Array Value), off + k + vs.length ≤ cs.size → (vs.zipIdx k).foldl (fun (cs : Array Value) (c : Value × Nat) => cs.setIfInBounds (off + c.2) c.1) cs = (cs.toList.take (off + k) ++ vs ++ cs.toList.drop (off + k + vs.length)).toArray := by
    intro vs
    induction vs with
    | nil => intro k off cs h; simp
    | cons v r ih =>
      intro k off cs h
      simp only [List.length_cons] at h
      rw [List.zipIdx_cons, List.foldl_cons, ih (k + 1) off _ (by simp; omega)]
      congr 1
      have hlt : off + k < cs.toList.length := by simp; omega
      simp only [Array.toList_setIfInBounds]
      rw [List.take_set, List.drop_set_of_lt (by omega)]
      rw [show off + (k + 1) = off + k + 1 by omega, List.take_add_one, List.set_append_right _ _ (by simp; omega)]
      simp only [List.length_take, List.length_cons]
      rw [List.getElem?_eq_getElem hlt]
      simp only [Option.toList_some]
      rw [show off + k - min (off + k) cs.toList.length = 0 by omega]
      simp only [List.set_cons_zero, List.append_assoc, List.singleton_append, show off + k + 1 + r.length = off + k + (r.length + 1) by omega]
  intro off cs h
  have := key vs 0 off cs (by simpa using h)
  simpa using this
theorem fillL_get {cs vs cs' : List Value} {off : Nat} (h : fillL cs off vs = some cs') : off + vs.length ≤ cs.length ∧ cs' = cs.take off ++ vs ++ cs.drop (off + vs.length) := by
  unfold fillL at h
  cases hb : Nat.ble (off + vs.length) cs.length
  · rw [hb] at h; cases h
  · rw [hb] at h; injection h with h; exact ⟨Nat.le_of_ble_eq_true hb, h.symm⟩
theorem fill_step {place : Nat → Option (Nat × Nat)} {cs cs' : List Value} {i off size : Nat} {v : Value} {rest : List (Nat × Value)} (hp : place i = some (off, size)) (hs : Nat.beq (cellsL v).length size = true) (hf : fillL cs off (cellsL v) = some cs') :
    Instr.fill place cs.toArray ((i, v) :: rest) = Instr.fill place cs'.toArray rest := by
  have hs := Nat.eq_of_beq_eq_true hs
  obtain ⟨h1, rfl⟩ := fillL_get hf
  rw [cellsL_eq] at *
  have := fold_set v.cells.toList off cs.toArray (by simpa using h1)
  rw [← Array.toList_zipIdx, Array.foldl_toList] at this
  rw [Instr.fill.eq_2, hp]
  simp only
  rw [if_neg (by simp at h1 hs ⊢; omega), this]
theorem buildL_get (hr : Rep n ρ σ a w) {place : Nat → Option (Nat × Nat)} : ∀ {parts : List (Nat × Operand)} {cs : List Value} {K : List Value → Prop}, buildL place ρ cs parts K →
    ∃ cs', Instr.fill place cs.toArray (parts.map fun p => (p.1, a.eval p.2)) = some cs'.toArray ∧ K cs'
  | [], cs, K, h => ⟨cs, by rw [List.map_nil, Instr.fill.eq_1], h⟩
  | p :: r, cs, K, h => by
    have h := hr.evV (show withV (ev ρ p.2) _ from h)
    split at h
    · rename_i q hq
      obtain ⟨hs, h⟩ := cond_get h
      split at h
      · rename_i cs1 hf
        obtain ⟨cs2, h1, h2⟩ := buildL_get hr h
        exact ⟨cs2, by rw [← h1, List.map_cons]; exact fill_step hq hs hf, h2⟩
      · exact h.elim
    · exact h.elim
theorem placesF_get (hE : EOk P E) : ∀ {F : List Field} {pl : List (Nat × Nat)}, placesF E (F.map fun f => (f.offset, f.type)) = some pl → F.mapM (fun f => (P.info? f.type).map fun i => (f.offset, i.size)) = some pl
  | [], pl, h => by simpa [placesF] using h
  | f :: r, pl, h => by
    simp only [List.map_cons, placesF] at h
    split at h
    · rename_i i hi
      split at h
      · rename_i l hl
        injection h with h
        subst h
        obtain ⟨inf, h1, h2, _⟩ := hE.info hi
        simp [List.mapM_cons, h1, h2, placesF_get hE hl]
      · cases h
    · cases h
theorem q_build (hE : EOk P E) (hr : Rep n ρ σ a w) {t : TypeId} {parts : Array (Nat × Operand)} (ho : o.op = .build t parts) (h : qop E o.op ρ σ w K) : Yields P o a σ w K := by
  rw [ho] at h
  simp only [qop] at h
  split at h
  · rename_i i hi
    obtain ⟨inf, h1, h2, h3, _⟩ := hE.info hi
    split at h
    · rename_i fs hk
      obtain ⟨F, hu, hF⟩ := hE.struct hi hk
      split at h
      · rename_i pl hpl
        obtain ⟨cs, hf, h⟩ := buildL_get hr h
        refine yields_tt h fun wx => ?_
        have := run_build (P := P) wx t (parts.map fun (i, x) => (i, a.eval x)) cs.toArray (by
          unfold Program.built
          rw [h1, hu]
          simp only [h3]
          rw [← hF] at hpl
          rw [placesF_get hE hpl]
          simp only
          rw [cellsL_eq] at hf
          rw [show (fun x => pl.toArray[x]?) = nthP pl from funext fun x => by rw [nthP_eq]; simp]
          simpa using hf)
        simp [execOp, ho, this]
      · exact h.elim
    · rename_i k e hk
      have hu := hE.arr hi hk
      split at h
      · rename_i ei hei
        obtain ⟨inf2, g1, g2, _⟩ := hE.info hei
        obtain ⟨cs, hf, h⟩ := buildL_get hr h
        refine yields_tt h fun wx => ?_
        have := run_build (P := P) wx t (parts.map fun (i, x) => (i, a.eval x)) cs.toArray (by
          unfold Program.built
          rw [h1, hu]
          simp only [h3, g1, g2]
          rw [cellsL_eq] at hf
          simpa using hf)
        simp [execOp, ho, this]
      · exact h.elim
    · exact h.elim
  · exact h.elim
theorem run_load_box {t : TypeId} {i : TI} (hE : EOk P E) (hi : lkT E.tys t = some i) (hk : isAggK i.k = true) {b : LB} {off : Nat} (hl : (cutL b.cs off i.size).length = i.size) {wx : World} (hb : b.at wx) :
    (Instr.loadAt t (.pointer (some ⟨b.g, off, none⟩))).run P wx = .ok (.agg (cutL b.cs off i.size).toArray) wx := by
  have := run_loadCells_list (P := P) wx ⟨b.g, off, none⟩ (cutL b.cs off i.size) fun j v hv => by
    rw [Addr.add_lit, cell_of_row _ _ _ _ _ _ hb]
    unfold cutL at hv
    rw [List.getElem?_take] at hv
    split at hv
    · rw [List.getElem?_drop] at hv; simpa using hv
    · cases hv
  rw [hl] at this
  simp [Instr.loadAt, Instr.sureAddr, loadVar, hE.isAgg hi, hk, hE.sizeOf hi, this]
theorem run_load_cells {t : TypeId} {i : TI} (hE : EOk P E) (hi : lkT E.tys t = some i) (hk : isAggK i.k = true) {b off : Nat} {vs : List Value} (hl : vs.length = i.size) {wx : World} (hc : cellsAt wx b off vs) :
    (Instr.loadAt t (.pointer (some ⟨b, off, none⟩))).run P wx = .ok (.agg vs.toArray) wx := by
  have := run_loadCells_list (P := P) wx ⟨b, off, none⟩ vs fun j v hv => by rw [Addr.add_lit]; exact cellsAt_get hc j v hv
  rw [hl] at this
  simp [Instr.loadAt, Instr.sureAddr, loadVar, hE.isAgg hi, hk, hE.sizeOf hi, this]
theorem run_load_one {t : TypeId} {i : TI} (hE : EOk P E) (hi : lkT E.tys t = some i) (hk : isAggK i.k = false) {ad : Addr} {v : Value} {wx : World} (hc : wx.cell? ad = some v) :
    (Instr.loadAt t (.pointer (some ad))).run P wx = .ok v wx := by
  simp [Instr.loadAt, Instr.sureAddr, loadVar, hE.isAgg hi, hk, hc]
theorem q_load (hE : EOk P E) (hr : Rep n ρ σ a w) {t : TypeId} {x : Operand} (ho : o.op = .load t x) (h : qop E o.op ρ σ w K) : Yields P o a σ w K := by
  rw [ho] at h
  simp only [qop] at h
  split at h
  · rename_i i hi
    split at h
    · rename_i id off hx
      obtain ⟨b, hb, hev⟩ := hr.evP hx
      rw [hb] at h
      simp only at h
      have hat : b.at w := hr.boxes b (lkB_mem hb).1
      have hh : ∀ wx, SFact.holds (.box b) wx → b.at wx := fun wx h => h
      have hw : SFact.holds (.box b) w := hat
      have hself : ∀ b', SFact.box b = .box b' → lkB σ b'.id = some b' := fun b' e => by injection e with e; subst e; rw [(lkB_mem hb).2]; exact hb
      cases hk : isAggK i.k
      · rw [hk] at h
        simp only [cond_false] at h
        split at h
        · rename_i v hv
          refine ⟨_, _, v, h, rfl, hw, fun wx hx => ?_, hself⟩
          have := run_load_one hE hi hk (ad := ⟨b.g, off, none⟩) (v := v) (wx := wx) (by rw [cell_of_row _ _ _ _ _ _ (hh wx hx)]; rw [nth_eq] at hv; simpa using hv)
          simp [execOp, ho, hev, this]
        · exact h.elim
      · rw [hk] at h
        obtain ⟨hl, h⟩ := cond_get h
        refine ⟨_, _, _, h, rfl, hw, fun wx hx => ?_, hself⟩
        have := run_load_box hE hi hk (Nat.eq_of_beq_eq_true hl) (hh wx hx)
        simp [execOp, ho, hev, this]
    · rename_i p hx
      obtain ⟨y, hy, hev⟩ := hr.ev hx
      cases hy
      obtain ⟨b, off, rfl, h⟩ := withP_get h
      cases hk : isAggK i.k
      · rw [hk] at h
        simp only [cond_false] at h
        split at h
        · rename_i l hl
          obtain ⟨v, hc, h⟩ := exLf_get h
          refine ⟨_, _, v, h, rfl, hc, fun wx hx => ?_, fun b hb => by cases hb⟩
          have := run_load_one hE hi hk (show wx.cell? ⟨b, off, none⟩ = some v from hx)
          simp [execOp, ho, hev, this]
        · exact h.elim
      · rw [hk] at h
        obtain ⟨hl, h⟩ := cond_get h
        obtain ⟨vs, hvl, hc, h⟩ := exLs_get h
        refine ⟨_, _, _, h, rfl, hc, fun wx hx => ?_, fun b hb => by cases hb⟩
        have := run_load_cells hE hi hk (vs := vs) (by rw [hvl, ← Nat.eq_of_beq_eq_true hl]; simp) (show cellsAt wx b off vs from hx)
        simp [execOp, ho, hev, this]
    · exact h.elim
  · exact h.elim
end
end Go.Proofs.Ytjjmhmbmjpedkaa
