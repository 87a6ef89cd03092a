/- Notes on code: which loops and cuts carry what, and how a drawn region goes in phases; the code itself is taken from where it stands. No program in sight. -/
import Derived.Test.YtjjmhmbmjpedkaaVcMain
import Derived.KernelRfl
namespace Go.Proofs.Ytjjmhmbmjpedkaa
open Go.RowKit
variable {P : Program} {E : Env}
structure HeadN where
  lv : LSl
  bx : LBx
  wr : List Nat
  pb : List Nat
structure DrawN where
  B : List Nat
  L : List Nat
  Qs : List Nat
/-- Keys: a drawn region's number; of a loop, the number of the first region in it; of a cut, that of the first region in what it goes round, and which kind of node that is (0: a region, 1: a branch, 2: a block). -/
structure Notes where
  draws : List (Nat × DrawN)
  loops : List (Nat × HeadN)
  cuts : List ((Nat × Nat) × HeadN)
def lkD : List (Nat × DrawN) → Nat → Option DrawN
  | [], _ => none
  | p :: r, n => cond (Nat.beq p.1 n) (some p.2) (lkD r n)
def lkH : List (Nat × HeadN) → Nat → Option HeadN
  | [], _ => none
  | p :: r, n => cond (Nat.beq p.1 n) (some p.2) (lkH r n)
def lkC : List ((Nat × Nat) × HeadN) → Nat → Nat → Option HeadN
  | [], _, _ => none
  | p :: r, k, n => cond (Nat.beq p.1.1 k) (cond (Nat.beq p.1.2 n) (some p.2) (lkC r k n)) (lkC r k n)
def firstR : Code → Option Nat
  | .region id _ _ => some id
  | .seq a b => match firstR a with
    | some n => some n
    | none => firstR b
  | .cond _ a b => match firstR a with
    | some n => some n
    | none => firstR b
  | .block _ a => firstR a
  | .loop a => firstR a
  | _ => none
def putCut (N : Notes) (k : Nat) (n : Option Nat) (a : AC) : AC := match n with
  | some n => match lkC N.cuts k n with
    | some h => .cut h.lv h.bx h.wr h.pb a
    | none => a
  | none => a
def mkAC (N : Notes) : Code → AC
  | .skip => .skip
  | .region id ops d => putCut N 0 (some id) (cond d (match lkD N.draws id with | some n => .regD id ops n.B n.L n.Qs | none => .skip) (.reg id ops))
  | .seq a b => .seq (mkAC N a) (mkAC N b)
  | .cond c a b => putCut N 1 (match firstR a with | some n => some n | none => firstR b) (.cond c (mkAC N a) (mkAC N b))
  | .block id a => putCut N 2 (firstR a) (.block id (mkAC N a))
  | .loop a => match firstR a with
    | some n => match lkH N.loops n with
      | some h => .loop h.lv h.bx h.wr h.pb (mkAC N a)
      | none => .skip
    | none => .skip
  | .exit id => .exit id
  | .ret => .ret
  | _ => .skip
def okC (N : Notes) : Code → Bool
  | .skip => true
  | .region id _ d => cond d (match lkD N.draws id with | some _ => true | none => false) true
  | .seq a b => okC N a && okC N b
  | .cond _ a b => okC N a && okC N b
  | .block _ a => okC N a
  | .loop a => match firstR a with
    | some n => match lkH N.loops n with
      | some _ => okC N a
      | none => false
    | none => false
  | .exit _ => true
  | .ret => true
  | _ => false
theorem erase_cut (N : Notes) (k : Nat) (n : Option Nat) (a : AC) : (putCut N k n a).erase = a.erase := by
  unfold putCut
  split
  · split <;> rfl
  · rfl
theorem erase_mk (N : Notes) : ∀ (c : Code), okC N c = true → (mkAC N c).erase = c
  | .skip, _ => rfl
  | .region id ops d, h => by
    unfold mkAC
    rw [erase_cut]
    cases d
    · rfl
    · unfold okC at h
      simp only [cond_true] at h ⊢
      split at h
      · rfl
      · cases h
  | .seq a b, h => by
    unfold okC at h
    rw [Bool.and_eq_true] at h
    unfold mkAC AC.erase
    rw [erase_mk N a h.1, erase_mk N b h.2]
  | .cond c a b, h => by
    unfold okC at h
    rw [Bool.and_eq_true] at h
    unfold mkAC
    rw [erase_cut]
    unfold AC.erase
    rw [erase_mk N a h.1, erase_mk N b h.2]
  | .block id a, h => by
    unfold okC at h
    unfold mkAC
    rw [erase_cut]
    unfold AC.erase
    rw [erase_mk N a h]
  | .loop a, h => by
    unfold okC at h
    unfold mkAC
    split at h
    · split at h
      · unfold AC.erase
        rw [erase_mk N a h]
      · cases h
    · cases h
  | .exit _, _ => rfl
  | .ret, _ => rfl
  | .rangeFunc .., h => by cases h
  | .scope .., h => by cases h
  | .label .., h => by cases h
  | .goto .., h => by cases h
  | .refuse .., h => by cases h
/-- The condition of a function, off its own text. -/
def fvc (P : Program) (E : Env) (fn : Func) (N : Notes) (pro : List Nat) (args : List Value) (w : World) (K : Value → World → Prop) : Prop :=
  match fn.body with
  | some c => cond (okC N c) (cond (Nat.ble args.length fn.ntmps) (vc P E fn.ntmps (mkAC N c) pro (resQ E fn.results.toList K) (argR args 0) [] w) False) False
  | none => False
theorem calls_of_fvc (hE : EOk P E) {f : FuncId} {fn : Func} (hf : P.funcs[f]? = some fn) (N : Notes) (pro : List Nat) (args : List Value) (w : World) (K : Value → World → Prop) (h : fvc P E fn N pro args w K) : Calls P f args.toArray w fun e w' => ∃ v, e = .returned v ∧ K v w' := by
  unfold fvc at h
  split at h
  · rename_i c hb
    obtain ⟨hok, h⟩ := cond_get h
    obtain ⟨hn, h⟩ := cond_get h
    exact calls_of_vc hE hf hb (mkAC N c) (erase_mk N c hok) fn.ntmps rfl fn.results.toList rfl pro args hn w K h
  · exact h.elim
theorem use_vc {A B : Prop} (h : A) (e : A = B) : B := e ▸ h
theorem tyok {t : TypeId} {i : TI} (h1 : (P.underlying t).map tkOf = some i.k) (h2 : (P.info? t).map (fun x => (x.size, x.zero, x.bytes)) = some (i.size, some i.zero, i.bytes)) : TyOk P t i := ⟨h1, h2⟩
theorem fnok {f : FuncId} {fn : Func} (hf : P.funcs[f]? = some fn) (h1 : (fn.name == "runtime.NumGoroutine") = false) (h2 : fn.body.isNone = false) : FnOk P f := fun args w => by
  unfold callFunc
  simp only [Sem.run_bind]
  show (Sem.run P _ w) = _
  simp [hf, h1, h2]
end Go.Proofs.Ytjjmhmbmjpedkaa
