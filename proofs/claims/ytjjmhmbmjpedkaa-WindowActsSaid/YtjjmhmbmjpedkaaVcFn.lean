/- Code over abstract frames: what is to be shown of it, and that this is enough. No program in sight. -/
import Derived.Test.YtjjmhmbmjpedkaaVcCode
import Derived.Deep.LoopGhost
namespace Go.Proofs.Ytjjmhmbmjpedkaa
open Go.RowKit
variable {P : Program} {E : Env}
def arrow : List Lf → Type → Type
  | [], R => R
  | .int _ :: r, R => Int → arrow r R
  | .bool :: r, R => Bool → arrow r R
  | .str :: r, R => ByteArray → arrow r R
  | .slice :: r, R => Option Addr → Nat → Nat → arrow r R
  | .ptr :: r, R => Option Addr → arrow r R
  | .any :: r, R => Value → arrow r R
def getA {R : Type} (dflt : R) : (ls : List Lf) → arrow ls R → List Value → R
  | [], f, vs => match vs with
    | [] => f
    | _ :: _ => dflt
  | .int k :: r, f, vs => match vs with
    | .int k' x :: vs => cond (decide (k = k')) (getA dflt r (f x) vs) dflt
    | _ => dflt
  | .bool :: r, f, vs => match vs with
    | .bool x :: vs => getA dflt r (f x) vs
    | _ => dflt
  | .str :: r, f, vs => match vs with
    | .string s :: vs => getA dflt r (f s) vs
    | _ => dflt
  | .slice :: r, f, vs => match vs with
    | .slice a n c :: vs => getA dflt r (f a n c) vs
    | _ => dflt
  | .ptr :: r, f, vs => match vs with
    | .pointer a :: vs => getA dflt r (f a) vs
    | _ => dflt
  | .any :: r, f, vs => match vs with
    | v :: vs => getA dflt r (f v) vs
    | [] => dflt
def allA {R : Type} : (ls : List Lf) → arrow ls R → List Value → (List Value → R → Prop) → Prop
  | [], f, acc, K => K acc f
  | .int k :: r, f, acc, K => ∀ x : Int, allA r (f x) (acc ++ [.int k x]) K
  | .bool :: r, f, acc, K => ∀ x : Bool, allA r (f x) (acc ++ [.bool x]) K
  | .str :: r, f, acc, K => ∀ x : ByteArray, allA r (f x) (acc ++ [.string x]) K
  | .slice :: r, f, acc, K => ∀ (a : Option Addr) (n c : Nat), allA r (f a n c) (acc ++ [.slice a n c]) K
  | .ptr :: r, f, acc, K => ∀ a : Option Addr, allA r (f a) (acc ++ [.pointer a]) K
  | .any :: r, f, acc, K => ∀ v : Value, allA r (f v) (acc ++ [v]) K
theorem allA_get : ∀ (ls : List Lf) (I : arrow ls (World → Prop)) (acc vals : List Value) (w : World) (K : List Value → (World → Prop) → Prop), allA ls I acc K → getA (fun _ => False) ls I vals w → K (acc ++ vals) (getA (fun _ => False) ls I vals)
  | [], I, acc, vals, w, K, h, hi => by
    cases vals with
    | nil => rw [List.append_nil]; exact h
    | cons v vs => exact hi.elim
  | .int k :: r, I, acc, vals, w, K, h, hi => by
    unfold getA at hi ⊢
    split at hi
    · rename_i k' x vs
      cases hk : decide (k = k')
      · rw [hk] at hi; exact hi.elim
      · rw [hk] at hi
        obtain rfl := of_decide_eq_true hk
        have := allA_get r (I x) (acc ++ [.int k x]) vs w K (h x) hi
        rw [List.append_assoc] at this
        simpa using this
    · exact hi.elim
  | .bool :: r, I, acc, vals, w, K, h, hi => by
    unfold getA at hi ⊢
    split at hi
    · rename_i x vs
      have := allA_get r (I x) (acc ++ [.bool x]) vs w K (h x) hi
      rw [List.append_assoc] at this
      exact this
    · exact hi.elim
  | .str :: r, I, acc, vals, w, K, h, hi => by
    unfold getA at hi ⊢
    split at hi
    · rename_i x vs
      have := allA_get r (I x) (acc ++ [.string x]) vs w K (h x) hi
      rw [List.append_assoc] at this
      exact this
    · exact hi.elim
  | .slice :: r, I, acc, vals, w, K, h, hi => by
    unfold getA at hi ⊢
    split at hi
    · rename_i a n c vs
      have := allA_get r (I a n c) (acc ++ [.slice a n c]) vs w K (h a n c) hi
      rw [List.append_assoc] at this
      exact this
    · exact hi.elim
  | .ptr :: r, I, acc, vals, w, K, h, hi => by
    unfold getA at hi ⊢
    split at hi
    · rename_i a vs
      have := allA_get r (I a) (acc ++ [.pointer a]) vs w K (h a) hi
      rw [List.append_assoc] at this
      exact this
    · exact hi.elim
  | .any :: r, I, acc, vals, w, K, h, hi => by
    unfold getA at hi ⊢
    split at hi
    · rename_i v vs
      have := allA_get r (I v) (acc ++ [v]) vs w K (h v) hi
      rw [List.append_assoc] at this
      exact this
    · exact hi.elim
abbrev LSl := List (Nat × Sh1)
abbrev LBx := List (Nat × List Lf)
def lfsR : LSl → List Lf
  | [] => []
  | p :: r => (match p.2 with | .lf l => [l] | .agg ls => ls) ++ lfsR r
def lfsB : LBx → List Lf
  | [] => []
  | p :: r => p.2 ++ lfsB r
/-- The slots' values at a head, out of the flat row; what is left of it. -/
def headR : LSl → List Value → SFr → SFr
  | [], _, ρ => ρ
  | p :: r, vs, ρ => match p.2, vs with
    | .lf _, v :: vs => headR r vs ((p.1, some (.v v)) :: ρ)
    | .lf _, [] => ρ
    | .agg ls, vs => headR r (vs.drop ls.length) ((p.1, some (.v (.agg (vs.take ls.length).toArray))) :: ρ)
def restR : LSl → List Value → List Value
  | [], vs => vs
  | p :: r, vs => match p.2, vs with
    | .lf _, _ :: vs => restR r vs
    | .lf _, [] => []
    | .agg ls, vs => restR r (vs.drop ls.length)
def headB : LBx → List Value → List LB → List LB
  | [], _, σ => σ
  | p :: r, vs, σ => headB r (vs.drop p.2.length) (setB σ p.1 (vs.take p.2.length))
def liveR : LSl → SFr → List Value → (List Value → Prop) → Prop
  | [], _, acc, K => K acc
  | p :: r, ρ, acc, K => withV (lk ρ p.1) fun v => match p.2, v with
    | .lf _, .agg _ => False
    | .lf _, v => liveR r ρ (acc ++ [v]) K
    | .agg ls, .agg cs => cond (Nat.beq cs.toList.length ls.length) (liveR r ρ (acc ++ cs.toList) K) False
    | .agg _, _ => False
def liveB : LBx → List LB → List Value → (List Value → Prop) → Prop
  | [], _, acc, K => K acc
  | p :: r, σ, acc, K => match lkB σ p.1 with
    | some b => cond (Nat.beq b.cs.length p.2.length) (liveB r σ (acc ++ b.cs) K) False
    | none => False
def dropS (wr : List Nat) : SFr → SFr
  | [] => []
  | p :: r => cond (memN wr p.1) (dropS wr r) (p :: dropS wr r)
def idsB : LBx → List Nat
  | [] => []
  | p :: r => p.1 :: idsB r
def subN : List Nat → List Nat → Bool
  | [], _ => true
  | x :: r, l => cond (memN l x) (subN r l) false
/-- Boxes that may be written are among those that the head lists. -/
def okB : List LB → List Nat → List Nat → Bool
  | [], _, _ => true
  | b :: r, pb, ids => cond (memN pb b.id) (cond (memN ids b.id) (okB r pb ids) false) (okB r pb ids)
inductive AC where
  | skip
  | reg (id : Nat) (ops : Array Oper)
  | regD (id : Nat) (ops : Array Oper) (B L Qs : List Nat)
  | seq (a b : AC)
  | cond (c : Operand) (a b : AC)
  | block (id : Nat) (a : AC)
  | loop (lv : LSl) (bx : LBx) (wr pb : List Nat) (a : AC)
  | cut (lv : LSl) (bx : LBx) (wr pb : List Nat) (a : AC)
  | exit (id : Nat)
  | ret
def AC.erase : AC → Code
  | .skip => .skip
  | .reg id ops => .region id ops false
  | .regD id ops _ _ _ => .region id ops true
  | .seq a b => .seq a.erase b.erase
  | .cond c a b => .cond c a.erase b.erase
  | .block id a => .block id a.erase
  | .loop _ _ _ _ a => .loop a.erase
  | .cut _ _ _ _ a => a.erase
  | .exit id => .exit id
  | .ret => .ret
def dstsO : List Oper → List Nat
  | [] => []
  | o :: r => match o.dst with
    | some d => d :: dstsO r
    | none => dstsO r
def AC.dsts : AC → List Nat
  | .skip => []
  | .reg _ ops => dstsO ops.toList
  | .regD _ ops _ _ _ => dstsO ops.toList
  | .seq a b => a.dsts ++ b.dsts
  | .cond _ a b => a.dsts ++ b.dsts
  | .block _ a => a.dsts
  | .loop _ _ _ _ a => a.dsts
  | .cut _ _ _ _ a => a.dsts
  | .exit _ => []
  | .ret => []
abbrev VQ := Exit → SFr → List LB → World → Prop
def refC (c : Operand) (b : Bool) (ρ : SFr) : SFr := match c with
  | .tmp d => (d, some (.v (.bool b))) :: ρ
  | _ => ρ
def thenQ (K : SFr → List LB → World → Prop) (Q : VQ) : VQ
  | .normal, ρ, σ, w => K ρ σ w
  | e, ρ, σ, w => Q e ρ σ w
def blockQ (id : Nat) (Q : VQ) : VQ
  | .exit k, ρ, σ, w => cond (Nat.beq k id) (Q .normal ρ σ w) (Q (.exit k) ρ σ w)
  | e, ρ, σ, w => Q e ρ σ w
def headOk (σ : List LB) (bx : LBx) (wr pb pro : List Nat) (a : AC) : Bool := subN a.dsts wr && subN pb pro && subN (idsB bx) pro && okB σ pb (idsB bx)
def regOk (ops : Array Oper) (B L Qs : List Nat) : Bool := trB ops B L Qs
def vc (P : Program) (E : Env) (n : Nat) : AC → List Nat → VQ → SFr → List LB → World → Prop
  | .skip, _, Q, ρ, σ, w => Q .normal ρ σ w
  | .reg _ ops, pro, Q, ρ, σ, w => vOps P E n pro ops (List.range ops.size) ρ σ w (Q .normal)
  | .regD _ ops B L Qs, pro, Q, ρ, σ, w => _root_.cond (regOk ops B L Qs) (drewO w fun w1 => vQs E n ops σ w1 (newQ B L Qs) ρ [] fun ρ F => vTr P E n pro ops B L.length L (restQ B L Qs) F ρ σ w1 (Q .normal)) False
  | .seq a b, pro, Q, ρ, σ, w => vc P E n a pro (thenQ (vc P E n b pro Q) Q) ρ σ w
  | .cond c a b, pro, Q, ρ, σ, w => withV (ev ρ c) fun v => match v with
    | .bool t => br t (vc P E n a pro Q (refC c true ρ) σ w) (vc P E n b pro Q (refC c false ρ) σ w)
    | _ => False
  | .block id a, pro, Q, ρ, σ, w => vc P E n a pro (blockQ id Q) ρ σ w
  | .loop lv bx wr pb a, pro, Q, ρ, σ, w => _root_.cond (headOk σ bx wr pb pro a)
      (∃ (I : arrow (lfsR lv ++ lfsB bx) (World → Prop)) (μ : arrow (lfsR lv ++ lfsB bx) (World → Nat)),
        (liveR lv ρ [] fun vs => liveB bx σ vs fun vs => getA (fun _ => False) _ I vs w) ∧
        allA _ I [] fun vs i => ∀ w1, i w1 → vc P E n a pb (thenQ (fun ρ' σ' w' => liveR lv ρ' [] fun vs' => liveB bx σ' vs' fun vs' => getA (fun _ => False) _ I vs' w' ∧ getA (fun _ => 0) _ μ vs' w' < getA (fun _ => 0) _ μ vs w1) Q)
          (headR lv vs (dropS wr ρ)) (headB bx (restR lv vs) σ) w1) False
  | .cut lv bx wr pb a, pro, Q, ρ, σ, w => _root_.cond (headOk σ bx wr pb pro a)
      (∃ (J : arrow (lfsR lv ++ lfsB bx) (World → Prop)),
        vc P E n a pb (thenQ (fun ρ' σ' w' => liveR lv ρ' [] fun vs' => liveB bx σ' vs' fun vs' => getA (fun _ => False) _ J vs' w') Q) ρ σ w ∧
        allA _ J [] fun vs j => ∀ w1, j w1 → Q .normal (headR lv vs (dropS wr ρ)) (headB bx (restR lv vs) σ) w1) False
  | .exit id, _, Q, ρ, σ, w => Q (.exit id) ρ σ w
  | .ret, _, Q, ρ, σ, w => Q .ret ρ σ w
theorem memN_iff {n : Nat} : ∀ {l : List Nat}, memN l n = true ↔ n ∈ l
  | [] => by simp [memN]
  | x :: r => by
    unfold memN
    cases hb : Nat.beq x n
    · have : x ≠ n := fun e => by rw [e, Nat.beq_refl] at hb; cases hb
      simp only [cond_false, memN_iff, List.mem_cons]
      exact ⟨.inr, fun h => h.resolve_left (fun e => this e.symm)⟩
    · simp [Nat.eq_of_beq_eq_true hb]
theorem subN_get : ∀ {l m : List Nat}, subN l m = true → ∀ x, memN l x = true → memN m x = true
  | y :: r, m, h, x, hx => by
    unfold subN at h
    cases hy : memN m y
    · rw [hy] at h; cases h
    · rw [hy] at h
      rw [memN_iff] at hx
      rcases List.mem_cons.1 hx with rfl | hx
      · exact hy
      · exact subN_get h x (memN_iff.2 hx)
theorem dstsO_mem {d : Nat} : ∀ {l : List Oper}, d ∈ dstsO l ↔ ∃ o ∈ l, o.dst = some d
  | [] => by simp [dstsO]
  | o :: r => by
    unfold dstsO
    split
    · rename_i k hk
      simp only [List.mem_cons, dstsO_mem (l := r)]
      constructor
      · rintro (rfl | ⟨o', h1, h2⟩)
        · exact ⟨o, .inl rfl, hk⟩
        · exact ⟨o', .inr h1, h2⟩
      · rintro ⟨o', rfl | h1, h2⟩
        · rw [hk] at h2; injection h2 with h2; exact .inl h2.symm
        · exact .inr ⟨o', h1, h2⟩
    · rename_i hk
      simp only [List.mem_cons, dstsO_mem (l := r)]
      constructor
      · rintro ⟨o', h1, h2⟩; exact ⟨o', .inr h1, h2⟩
      · rintro ⟨o', rfl | h1, h2⟩
        · rw [hk] at h2; cases h2
        · exact ⟨o', h1, h2⟩
theorem wrOps_dsts {ops : Array Oper} {t : Nat} (h : wrOps ops t = true) : memN (dstsO ops.toList) t = true := by
  unfold wrOps at h
  obtain ⟨i, hi, h⟩ := Array.any_eq_true.1 h
  exact memN_iff.2 (dstsO_mem.2 ⟨ops[i], by simp, by simpa using h⟩)
theorem lk_dropS (wr : List Nat) (t : Nat) : ∀ (ρ : SFr), lk (dropS wr ρ) t = if memN wr t then none else lk ρ t
  | [] => by simp [dropS, lk]
  | p :: r => by
    obtain ⟨d, x⟩ := p
    unfold dropS
    cases hd : memN wr d
    · simp only [cond_false]
      rw [lk_cons, lk_cons, lk_dropS wr t r]
      by_cases h : d = t
      · subst h; simp [hd]
      · simp [h]
    · simp only [cond_true]
      rw [lk_dropS wr t r, lk_cons]
      by_cases h : d = t
      · subst h; simp [hd]
      · simp [h]
end Go.Proofs.Ytjjmhmbmjpedkaa
