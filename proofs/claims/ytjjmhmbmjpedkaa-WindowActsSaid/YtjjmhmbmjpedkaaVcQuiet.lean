/- What an operation that only reads yields in an abstract frame, and that it does so in the model. No program in sight. -/
import Derived.Test.YtjjmhmbmjpedkaaVcOps
namespace Go.Proofs.Ytjjmhmbmjpedkaa
open Go.RowKit
variable {P : Program} {E : Env}
theorem EOk.und (hE : EOk P E) {t : TypeId} {i : TI} (h : lkT E.tys t = some i) : ∃ d, P.underlying t = some d ∧ tkOf d = i.k := by
  have := (hE.tys _ (lkT_mem h)).1
  cases hd : P.underlying t with
  | none => rw [hd] at this; cases this
  | some d => rw [hd] at this; injection this with this; exact ⟨d, rfl, this⟩
theorem EOk.info (hE : EOk P E) {t : TypeId} {i : TI} (h : lkT E.tys t = some i) : ∃ f, P.info? t = some f ∧ f.size = i.size ∧ f.zero = some i.zero ∧ f.bytes = i.bytes := by
  have := (hE.tys _ (lkT_mem h)).2
  cases hd : P.info? t with
  | none => rw [hd] at this; cases this
  | some d => rw [hd] at this; injection this with this; injection this with h1 h2; injection h2 with h2 h3; exact ⟨d, rfl, h1, h2, h3⟩
theorem EOk.sizeOf (hE : EOk P E) {t : TypeId} {i : TI} (h : lkT E.tys t = some i) (w : World) : (Go.sizeOf t).run P w = .ok i.size w := by
  obtain ⟨f, h1, h2, _⟩ := hE.info h
  simp [Go.sizeOf, typeInfo, h1, h2]
theorem EOk.zeroValue (hE : EOk P E) {t : TypeId} {i : TI} (h : lkT E.tys t = some i) (w : World) : (Go.zeroValue t).run P w = .ok i.zero w := by
  obtain ⟨f, h1, _, h2, _⟩ := hE.info h
  simp [Go.zeroValue, typeInfo, h1, h2]
def isAggK : TK → Bool
  | .arr _ _ => true
  | .struct _ => true
  | _ => false
theorem EOk.isAgg (hE : EOk P E) {t : TypeId} {i : TI} (h : lkT E.tys t = some i) (w : World) : (Go.isAgg t).run P w = .ok (isAggK i.k) w := by
  obtain ⟨d, h1, h2⟩ := hE.und h
  unfold Go.isAgg
  rw [Sem.run_bind, run_underlying h1 w, ← h2]
  cases d <;> rfl
theorem tk_slice {d : TypeDesc} {e : TypeId} (h : tkOf d = .slice e) : d = .slice e := by cases d <;> simp [tkOf] at h; rw [h]
theorem tk_arr {d : TypeDesc} {n : Nat} {e : TypeId} (h : tkOf d = .arr n e) : d = .array n e := by cases d <;> simp [tkOf] at h; rw [h.1, h.2]
theorem tk_int {d : TypeDesc} {k : IntKind} (h : tkOf d = .int k) : d = .int k := by cases d <;> simp [tkOf] at h; rw [h]
theorem tk_str {d : TypeDesc} (h : tkOf d = .str) : d = .string := by cases d <;> simp [tkOf] at h; rfl
theorem tk_bool {d : TypeDesc} (h : tkOf d = .bool) : d = .bool := by cases d <;> simp [tkOf] at h; rfl
theorem tk_ptr {d : TypeDesc} (h : tkOf d = .ptr) : ∃ e, d = .pointer e := by cases d <;> simp [tkOf] at h; exact ⟨_, rfl⟩
theorem tk_struct {d : TypeDesc} {fs : List (Nat × TypeId)} (h : tkOf d = .struct fs) : ∃ F, d = .struct F ∧ F.toList.map (fun f => (f.offset, f.type)) = fs := by cases d <;> simp [tkOf] at h; exact ⟨_, rfl, h⟩
theorem EOk.slice (hE : EOk P E) {t e : TypeId} {i : TI} (h : lkT E.tys t = some i) (hk : i.k = .slice e) : P.underlying t = some (.slice e) := by
  obtain ⟨d, h1, h2⟩ := hE.und h; rw [hk] at h2; rw [h1, tk_slice h2]
theorem EOk.arr (hE : EOk P E) {t e : TypeId} {n : Nat} {i : TI} (h : lkT E.tys t = some i) (hk : i.k = .arr n e) : P.underlying t = some (.array n e) := by
  obtain ⟨d, h1, h2⟩ := hE.und h; rw [hk] at h2; rw [h1, tk_arr h2]
theorem EOk.int (hE : EOk P E) {t : TypeId} {k : IntKind} {i : TI} (h : lkT E.tys t = some i) (hk : i.k = .int k) : P.underlying t = some (.int k) := by
  obtain ⟨d, h1, h2⟩ := hE.und h; rw [hk] at h2; rw [h1, tk_int h2]
theorem EOk.str (hE : EOk P E) {t : TypeId} {i : TI} (h : lkT E.tys t = some i) (hk : i.k = .str) : P.underlying t = some .string := by
  obtain ⟨d, h1, h2⟩ := hE.und h; rw [hk] at h2; rw [h1, tk_str h2]
theorem EOk.bool (hE : EOk P E) {t : TypeId} {i : TI} (h : lkT E.tys t = some i) (hk : i.k = .bool) : P.underlying t = some .bool := by
  obtain ⟨d, h1, h2⟩ := hE.und h; rw [hk] at h2; rw [h1, tk_bool h2]
theorem EOk.ptr (hE : EOk P E) {t : TypeId} {i : TI} (h : lkT E.tys t = some i) (hk : i.k = .ptr) : ∃ e, P.underlying t = some (.pointer e) := by
  obtain ⟨d, h1, h2⟩ := hE.und h; rw [hk] at h2; obtain ⟨e, rfl⟩ := tk_ptr h2; exact ⟨e, h1⟩
theorem EOk.struct (hE : EOk P E) {t : TypeId} {fs : List (Nat × TypeId)} {i : TI} (h : lkT E.tys t = some i) (hk : i.k = .struct fs) : ∃ F, P.underlying t = some (.struct F) ∧ F.toList.map (fun f => (f.offset, f.type)) = fs := by
  obtain ⟨d, h1, h2⟩ := hE.und h; rw [hk] at h2; obtain ⟨F, rfl, h3⟩ := tk_struct h2; exact ⟨F, h1, h3⟩
/-! The operators. -/
def bitsV (op : BinOp) (k : IntKind) (x y : Int) : Int :=
  let a := BitVec.ofInt k.bits x
  let b := BitVec.ofInt k.bits y
  match op with
  | .and => k.wrap (a &&& b).toNat
  | .or => k.wrap (a ||| b).toNat
  | .xor => k.wrap (a ^^^ b).toNat
  | _ => k.wrap (a &&& ~~~b).toNat
def qint (op : BinOp) (k : IntKind) (a : Int) (k' : IntKind) (b : Int) (K : Value → Prop) : Prop :=
  match op with
  | .shl => 0 ≤ b ∧ K (.int k (k.wrap (a * 2 ^ (min b.toNat k.bits))))
  | .shr => 0 ≤ b ∧ K (.int k (a.fdiv (2 ^ (min b.toNat k.bits))))
  | .add => cond (decide (k = k')) (K (.int k (k.wrap (a + b)))) False
  | .sub => cond (decide (k = k')) (K (.int k (k.wrap (a - b)))) False
  | .mul => cond (decide (k = k')) (K (.int k (k.wrap (a * b)))) False
  | .quo => cond (decide (k = k')) (b ≠ 0 ∧ K (.int k (k.wrap (a.tdiv b)))) False
  | .rem => cond (decide (k = k')) (b ≠ 0 ∧ K (.int k (a.tmod b))) False
  | .and => cond (decide (k = k')) (K (.int k (bitsV .and k a b))) False
  | .or => cond (decide (k = k')) (K (.int k (bitsV .or k a b))) False
  | .xor => cond (decide (k = k')) (K (.int k (bitsV .xor k a b))) False
  | .andNot => cond (decide (k = k')) (K (.int k (bitsV .andNot k a b))) False
  | .eql => cond (decide (k = k')) (K (.bool (decide (a = b)))) False
  | .neq => cond (decide (k = k')) (K (.bool (decide (a ≠ b)))) False
  | .lss => cond (decide (k = k')) (K (.bool (decide (a < b)))) False
  | .leq => cond (decide (k = k')) (K (.bool (decide (a ≤ b)))) False
  | .gtr => cond (decide (k = k')) (K (.bool (decide (a > b)))) False
  | .geq => cond (decide (k = k')) (K (.bool (decide (a ≥ b)))) False
theorem cond_get {c : Bool} {A : Prop} (h : cond c A False) : c = true ∧ A := by cases c; exact h.elim; exact ⟨rfl, h⟩
theorem int_beq (a b : Int) : (a == b) = decide (a = b) := rfl
theorem bool_beq (a b : Bool) : (a == b) = decide (a = b) := by cases a <;> cases b <;> rfl
theorem qint_sound {op : BinOp} {k k' : IntKind} {a b : Int} {K : Value → Prop} (t : TypeId) (h : qint op k a k' b K) (w : World) : ∃ v, K v ∧ ∀ w, (binOp op t (.int k a) (.int k' b)).run P w = .ok v w := by
  cases op <;> simp only [qint] at h
  case shl => exact ⟨_, h.2, fun w => by simp [binOp, Op.shift, show ¬ b < 0 by omega]⟩
  case shr => exact ⟨_, h.2, fun w => by simp [binOp, Op.shift, show ¬ b < 0 by omega]⟩
  case quo => obtain ⟨hk, h0, h⟩ := cond_get h; exact ⟨_, h, fun w => by simp [binOp, of_decide_eq_true hk, Op.intDiv, h0]⟩
  case rem => obtain ⟨hk, h0, h⟩ := cond_get h; exact ⟨_, h, fun w => by simp [binOp, of_decide_eq_true hk, Op.intDiv, h0]⟩
  case eql => obtain ⟨hk, h⟩ := cond_get h; exact ⟨_, h, fun w => by rw [← int_beq]; simp [binOp, of_decide_eq_true hk, Op.intCmp]⟩
  case neq => obtain ⟨hk, h⟩ := cond_get h; exact ⟨_, h, fun w => by rw [show decide (a ≠ b) = !(a == b) by rw [int_beq]; simp]; simp [binOp, of_decide_eq_true hk, Op.intCmp, bne]⟩
  all_goals first
    | exact h.elim
    | (obtain ⟨hk, h⟩ := cond_get h; exact ⟨_, h, fun w => by simp [binOp, of_decide_eq_true hk, Op.intArith, Op.intCmp, Op.intBits, bitsV]⟩)
def qstr (op : BinOp) (a b : ByteArray) (K : Value → Prop) : Prop :=
  match op with
  | .add => a.size + b.size ≤ 9223372036854775807 ∧ K (.string (a ++ b))
  | .eql => K (.bool (decide (a = b)))
  | .neq => K (.bool (decide (a ≠ b)))
  | .lss => K (.bool (Op.bytesLess a.toList b.toList))
  | .leq => K (.bool (Op.bytesLess a.toList b.toList || decide (a = b)))
  | .gtr => K (.bool (!(Op.bytesLess a.toList b.toList || decide (a = b))))
  | .geq => K (.bool (!Op.bytesLess a.toList b.toList))
  | _ => False
theorem bytes_eq (a b : ByteArray) : (a.toList == b.toList) = decide (a = b) := by
  have ht : ∀ s : ByteArray, s.toList = s.data.toList := fun s => by
    have := ByteArray.toList_mk s.data.toList
    simpa using this
  rw [ht, ht]
  by_cases h : a = b
  · subst h; simp
  · rw [decide_eq_false h, beq_eq_false_iff_ne]
    intro he
    exact h (ByteArray.ext (Array.toList_inj.1 he))
theorem qstr_sound {op : BinOp} {a b : ByteArray} {K : Value → Prop} (t : TypeId) (h : qstr op a b K) : ∃ v, K v ∧ ∀ w, (binOp op t (.string a) (.string b)).run P w = .ok v w := by
  cases op <;> simp only [qstr] at h
  case add =>
    refine ⟨_, h.2, fun w => ?_⟩
    have h1 : ¬ (((a.size + b.size : Nat) : Int) > IntKind.i64.max) := by
      show ¬ (_ > (9223372036854775807 : Int))
      omega
    simp only [binOp, Op.stringOp]
    rw [if_neg h1]
    rfl
  all_goals first
    | exact h.elim
    | exact ⟨_, h, fun w => by simp [binOp, Op.stringOp, bytes_eq]⟩
def qbin (E : Env) (op : BinOp) (t : TypeId) (x y : Value) (K : Value → Prop) : Prop :=
  match x, y with
  | .int k a, .int k' b => qint op k a k' b K
  | .string a, .string b => qstr op a b K
  | .bool a, .bool b => match lkT E.tys t with
    | some i => match i.k, op with
      | .bool, .eql => K (.bool (decide (a = b)))
      | .bool, .neq => K (.bool (decide (a ≠ b)))
      | _, _ => False
    | none => False
  | .slice a _ _, .slice none _ _ => match lkT E.tys t with
    | some i => match i.k, op with
      | .slice _, .eql => K (.bool a.isNone)
      | .slice _, .neq => K (.bool (!a.isNone))
      | _, _ => False
    | none => False
  | .pointer a, .pointer none => match lkT E.tys t with
    | some i => match i.k, op with
      | .ptr, .eql => K (.bool a.isNone)
      | .ptr, .neq => K (.bool (!a.isNone))
      | _, _ => False
    | none => False
  | _, _ => False
theorem run_eq_bool {t : TypeId} (hu : P.underlying t = some .bool) (a b : Bool) (w : World) : (Op.equal t (.bool a) (.bool b)).run P w = .ok (decide (a = b)) w := by
  have : ∀ d, (Op.equalIn (d + 1) t (.bool a) (.bool b)).run P w = .ok (decide (a = b)) w := fun d => by
    unfold Op.equalIn; rw [Sem.run_bind, run_underlying hu, Result.andThen_ok, ← bool_beq]; rfl
  exact this 9999
theorem run_eq_slice {t e : TypeId} (hu : P.underlying t = some (.slice e)) (a : Option Addr) (n c n' c' : Nat) (w : World) : (Op.equal t (.slice a n c) (.slice none n' c')).run P w = .ok a.isNone w := by
  have : ∀ d, (Op.equalIn (d + 1) t (.slice a n c) (.slice none n' c')).run P w = .ok a.isNone w := fun d => by
    unfold Op.equalIn; rw [Sem.run_bind, run_underlying hu, Result.andThen_ok]; cases a <;> rfl
  exact this 9999
theorem run_eq_ptr {t e : TypeId} (hu : P.underlying t = some (.pointer e)) (a : Option Addr) (w : World) : (Op.equal t (.pointer a) (.pointer none)).run P w = .ok a.isNone w := by
  have : ∀ d, (Op.equalIn (d + 1) t (.pointer a) (.pointer none)).run P w = .ok a.isNone w := fun d => by
    unfold Op.equalIn; rw [Sem.run_bind, run_underlying hu, Result.andThen_ok]; cases a <;> rfl
  exact this 9999
theorem qbin_sound (hE : EOk P E) {op : BinOp} {t : TypeId} {x y : Value} {K : Value → Prop} (ox oy : Operand) (h : qbin E op t x y K) : ∃ v, K v ∧ ∀ w, (do eqGuard op t ox oy x y; binOp op t x y : Sem Value).run P w = .ok v w := by
  unfold qbin at h
  split at h
  · rename_i k a k' b
    obtain ⟨v, h1, h2⟩ := qint_sound (P := P) t h default
    refine ⟨v, h1, fun w => ?_⟩
    have : (eqGuard op t ox oy (.int k a) (.int k' b)).run P w = .ok () w := by cases op <;> rfl
    rw [Sem.run_bind, this, Result.andThen_ok]; exact h2 w
  · rename_i a b
    obtain ⟨v, h1, h2⟩ := qstr_sound (P := P) t h
    refine ⟨v, h1, fun w => ?_⟩
    have : (eqGuard op t ox oy (.string a) (.string b)).run P w = .ok () w := by cases op <;> rfl
    rw [Sem.run_bind, this, Result.andThen_ok]; exact h2 w
  · rename_i a b
    split at h
    · rename_i i hi
      split at h
      · rename_i hk
        have hu := hE.bool hi hk
        exact ⟨_, h, fun w => by rw [Sem.run_bind, show (eqGuard .eql t ox oy (.bool a) (.bool b)).run P w = .ok () w from rfl, Result.andThen_ok]; simp [binOp, run_eq_bool hu]⟩
      · rename_i hk
        have hu := hE.bool hi hk
        exact ⟨_, h, fun w => by rw [Sem.run_bind, show (eqGuard .neq t ox oy (.bool a) (.bool b)).run P w = .ok () w from rfl, Result.andThen_ok]; simp [binOp, run_eq_bool hu]⟩
      · exact h.elim
    · exact h.elim
  · rename_i a n c n' c'
    split at h
    · rename_i i hi
      split at h
      · rename_i e hk
        have hu := hE.slice hi hk
        refine ⟨_, h, fun w => ?_⟩
        rw [Sem.run_bind, show (eqGuard .eql t ox oy (.slice a n c) (.slice none n' c')).run P w = .ok () w from rfl, Result.andThen_ok]
        simp [binOp, run_eq_slice hu]
      · rename_i e hk
        have hu := hE.slice hi hk
        refine ⟨_, h, fun w => ?_⟩
        rw [Sem.run_bind, show (eqGuard .neq t ox oy (.slice a n c) (.slice none n' c')).run P w = .ok () w from rfl, Result.andThen_ok]
        simp [binOp, run_eq_slice hu]
      · exact h.elim
    · exact h.elim
  · rename_i a
    split at h
    · rename_i i hi
      split at h
      · rename_i hk
        obtain ⟨e, hu⟩ := hE.ptr hi hk
        refine ⟨_, h, fun w => ?_⟩
        rw [Sem.run_bind, show (eqGuard .eql t ox oy (.pointer a) (.pointer none)).run P w = .ok () w from rfl, Result.andThen_ok]
        simp [binOp, run_eq_ptr hu]
      · rename_i hk
        obtain ⟨e, hu⟩ := hE.ptr hi hk
        refine ⟨_, h, fun w => ?_⟩
        rw [Sem.run_bind, show (eqGuard .neq t ox oy (.pointer a) (.pointer none)).run P w = .ok () w from rfl, Result.andThen_ok]
        simp [binOp, run_eq_ptr hu]
      · exact h.elim
    · exact h.elim
  · exact h.elim
end Go.Proofs.Ytjjmhmbmjpedkaa
