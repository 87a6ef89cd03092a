import Derived.Test.YtjcabccolkmlmaaMFunds4
import Derived.Test.YtjcabccolkmlmaaMFunds3
import Derived.Test.YtjcabccolkmlmaaProg
import Derived.Test.YtjcabccolkmlmaaMFunds2
import Derived.Test.YtjcabccolkmlmaaRows
import Derived.Test.YtjcabccolkmlmaaMFunds1
import Derived.Laws.BitsAllLaws
import Derived.Deep.Cut
import Derived.Lib.Mul64
import Derived.Laws.Bits64b
import Derived.Laws.Externs
set_option linter.unusedVariables false
section
/- Structs that came in as values. No program in sight. -/
namespace Go.Proofs.Ytjcabccolkmlmaa
open Go.RowKit Go.WideShapes Go.ChangeShapes
theorem okWide_str {P : Program} {W : World} {r : Reach} {base : Nat} {t : TypeId} {v : Value} {fs : Sh} (hf : fitsB P (.agg fs) t = true) (hv : Value.okWide P W r base t v) : ∃ cs, v = .agg cs ∧ cs.size = P.cellsOf t := by
  unfold fitsB at hf
  split at hf
  · rename_i fl hu
    unfold Value.okWide at hv
    rw [hu] at hv
    obtain ⟨cs, h1, h2, _⟩ := hv
    exact ⟨cs, h1, h2⟩
  · cases hf
/-- Structs of ints alone. -/
def intsF : Nat → Nat → Sh
  | _, 0 => .fnil
  | i, n + 1 => .fcons i 1 (.int .i64) (intsF (i + 1) n)
theorem has_intsF {w : World} : ∀ (n i : Nat) (cs : List Value), (intsF i n).Has w cs → i + n = cs.length → ∃ zs : List Int, zs.length = n ∧ cs.drop i = zs.map (Value.int .i64) ∧ ∀ z ∈ zs, -9223372036854775808 ≤ z ∧ z ≤ 9223372036854775807
  | 0, i, cs, _, hl => ⟨[], rfl, by rw [List.drop_eq_nil_iff.2 (by omega)]; rfl, fun z hz => by cases hz⟩
  | n + 1, i, cs, h, hl => by
    obtain ⟨⟨z, hz, hw⟩, hr⟩ := h
    obtain ⟨zs, h1, h2, h3⟩ := has_intsF n (i + 1) cs hr (by omega)
    refine ⟨z :: zs, by simp [h1], ?_, fun y hy => ?_⟩
    · have hi : i < cs.length := by omega
      have h0 : cs[i]? = some (.int .i64 z) := by
        have := congrArg (·[0]?) hz
        simpa [List.getElem?_take, List.getElem?_drop] using this
      rw [List.getElem?_eq_getElem hi] at h0
      injection h0 with h0
      rw [List.drop_eq_getElem_cons hi, h0, h2]; rfl
    · rcases List.mem_cons.1 hy with rfl | hy
      · exact i64_range hw
      · exact h3 y hy
theorem open_strI {H : Type} {enc : TypeId × Value → H} {P : Program} {W : World} {r : Reach} {base : Nat} {t : TypeId} {v : Value} {d : DataW H} {p : List MemPlace} (n : Nat) (hf : fitsB P (.agg (intsF 0 n)) t = true) (hc : P.cellsOf t = n) (hv : Value.okWide P W r base t v)
    (h : DataW.Trod enc P W 0 (fun _ => true) true t v d p) : ∃ zs : List Int, zs.length = n ∧ v = .agg (zs.map (Value.int .i64)).toArray ∧ ∀ z ∈ zs, -9223372036854775808 ≤ z ∧ z ≤ 9223372036854775807 := by
  obtain ⟨cs, rfl, hs⟩ := okWide_str hf hv
  have hh := open_sh hf h
  obtain ⟨zs, h1, h2, h3⟩ := has_intsF n 0 cs.toList (by simpa [Value.cells, Sh.Has] using hh) (by simp; omega)
  refine ⟨zs, h1, ?_, h3⟩
  congr 1
  apply Array.ext'
  rw [← h2]
  simp
theorem open_str4 {H : Type} {enc : TypeId × Value → H} {P : Program} {W : World} {r : Reach} {base : Nat} {t : TypeId} {v : Value} {d : DataW H} {p : List MemPlace} (hf : fitsB P (.agg (intsF 0 4)) t = true) (hc : P.cellsOf t = 4) (hv : Value.okWide P W r base t v)
    (h : DataW.Trod enc P W 0 (fun _ => true) true t v d p) : ∃ x y z u : Int, v = .agg #[.int .i64 x, .int .i64 y, .int .i64 z, .int .i64 u] ∧ (-9223372036854775808 ≤ x ∧ x ≤ 9223372036854775807) ∧ (-9223372036854775808 ≤ y ∧ y ≤ 9223372036854775807) ∧ (-9223372036854775808 ≤ z ∧ z ≤ 9223372036854775807) ∧ -9223372036854775808 ≤ u ∧ u ≤ 9223372036854775807 := by
  obtain ⟨zs, hz, rfl, hr⟩ := open_strI 4 hf hc hv h
  match zs, hz with
  | [x, y, z, u], _ => exact ⟨x, y, z, u, rfl, hr x (by simp), hr y (by simp), hr z (by simp), hr u (by simp)⟩
end Go.Proofs.Ytjcabccolkmlmaa
end
section
/- Conditions of functions, printed by a program of this claim's own (vcgen.py) out of the loaded code; each is proved to be enough. -/
set_option maxRecDepth 100000
namespace Go.Proofs.Ytjcabccolkmlmaa
open Go.RowKit
namespace GTar
def env : Env := ⟨[], [], []⟩
theorem envOk : EOk Try.prog env := ⟨(fun _ h => by cases h), (fun _ h => by cases h), by kernel_rfl, (fun _ h => by cases h)⟩
end GTar
end Go.Proofs.Ytjcabccolkmlmaa
end
section
/- Tariffs, lines and what they cost, in plain numbers. No program in sight. -/
namespace Go.Proofs.Ytjcabccolkmlmaa
structure Tr where
  upto : Int
  price : Int
deriving DecidableEq
structure Tar where
  grp : Int
  mode : Int
  block : Int
  ts : List Tr
deriving DecidableEq
structure Pl where
  day : Int
  frm : Int
  til : Int
  base : Tar
  other : Tar
deriving DecidableEq
structure Ln where
  tier : Int
  blocks : Int
  price : Int
deriving DecidableEq
def far : Int := 1099511627776
def tiersE : Int → List Tr → Int
  | _, [] => 0
  | ahead, t :: r => if ¬ (0 ≤ t.price ∧ t.price ≤ 1048576) then 1 else if r = [] then (if t.upto ≠ 0 then 15 else 0) else if ¬ (ahead + 1 ≤ t.upto ∧ t.upto ≤ 1099511627776) then 15 else tiersE t.upto r
def chkE (t : Tar) : Int := if ¬ ((1 ≤ t.grp ∧ t.grp ≤ 8) ∧ 1 ≤ t.block ∧ t.block ≤ 1073741824) then 1 else if t.mode ≠ 1 ∧ t.mode ≠ 2 then 21 else if ¬ (1 ≤ t.ts.length ∧ t.ts.length ≤ 6) then 5 else tiersE 0 t.ts
def nothingT (t : Tar) : Prop := t.grp = 0 ∧ t.mode = 0 ∧ t.block = 0 ∧ t.ts = []
instance (t : Tar) : Decidable (nothingT t) := by unfold nothingT; infer_instance
def dayOk (p : Pl) : Prop := (2 ≤ p.day ∧ p.day ≤ 1073741824) ∧ (0 ≤ p.frm ∧ p.frm ≤ p.day - 1) ∧ (0 ≤ p.til ∧ p.til ≤ p.day - 1) ∧ p.frm ≠ p.til
instance (p : Pl) : Decidable (dayOk p) := by unfold dayOk; infer_instance
def planE (p : Pl) : Int := if chkE p.base ≠ 0 then chkE p.base else if p.day = 0 then (if p.frm = 0 ∧ p.til = 0 ∧ nothingT p.other then 0 else 2) else if ¬ dayOk p then 1 else if chkE p.other ≠ 0 then chkE p.other else if p.base.grp ≠ p.other.grp ∨ p.base.block ≠ p.other.block then 20 else 0
/-- Whether it is the other one. -/
def isOther (p : Pl) (now : Int) : Prop := p.day ≠ 0 ∧ if p.frm < p.til then p.frm ≤ Int.tmod now p.day ∧ Int.tmod now p.day < p.til else p.frm ≤ Int.tmod now p.day ∨ Int.tmod now p.day < p.til
instance (p : Pl) (now : Int) : Decidable (isOther p now) := by unfold isOther; infer_instance
def atT (p : Pl) (now : Int) : Tar := if isOther p now then p.other else p.base
/-- Tiers that are in order. -/
def Good : Int → List Tr → Prop
  | _, [] => False
  | ahead, t :: r => (0 ≤ t.price ∧ t.price ≤ 1048576) ∧ (if r = [] then t.upto = 0 else (ahead < t.upto ∧ t.upto ≤ 1099511627776) ∧ Good t.upto r)
theorem good_of : ∀ (ts : List Tr) (ahead : Int), ts ≠ [] → tiersE ahead ts = 0 → Good ahead ts
  | [], _, h, _ => absurd rfl h
  | t :: r, ahead, _, h => by
    unfold tiersE at h
    unfold Good
    split at h
    · cases h
    · rename_i h1
      have h1 := Decidable.not_not.1 h1
      by_cases hr : r = []
      · rw [if_pos hr] at h
        rw [if_pos hr]
        split at h
        · cases h
        · rename_i h2; exact ⟨h1, Decidable.not_not.1 h2⟩
      · rw [if_neg hr] at h
        rw [if_neg hr]
        split at h
        · cases h
        · rename_i h2
          have h2 := Decidable.not_not.1 h2
          exact ⟨h1, ⟨by omega, h2.2⟩, good_of r _ hr h⟩
theorem chk_ok {t : Tar} (h : chkE t = 0) : ((1 ≤ t.grp ∧ t.grp ≤ 8) ∧ 1 ≤ t.block ∧ t.block ≤ 1073741824) ∧ (t.mode = 1 ∨ t.mode = 2) ∧ (1 ≤ t.ts.length ∧ t.ts.length ≤ 6) ∧ Good 0 t.ts := by
  unfold chkE at h
  split at h
  · cases h
  · rename_i h1
    split at h
    · cases h
    · rename_i h2
      split at h
      · cases h
      · rename_i h3
        have h3 := Decidable.not_not.1 h3
        exact ⟨Decidable.not_not.1 h1, by omega, h3, good_of _ _ (fun e => by rw [e] at h3; simp at h3) h⟩
theorem plan_ok {p : Pl} (h : planE p = 0) : chkE p.base = 0 ∧ ((p.day = 0 ∧ p.frm = 0 ∧ p.til = 0 ∧ nothingT p.other) ∨ (p.day ≠ 0 ∧ dayOk p ∧ chkE p.other = 0 ∧ p.base.grp = p.other.grp ∧ p.base.block = p.other.block)) := by
  unfold planE at h
  split at h
  · rename_i h1; exact absurd h h1
  · rename_i h1
    refine ⟨Decidable.not_not.1 h1, ?_⟩
    split at h
    · rename_i h2
      split at h
      · rename_i h3; exact .inl ⟨h2, h3⟩
      · cases h
    · rename_i h2
      split at h
      · cases h
      · rename_i h3
        split at h
        · rename_i h4; exact absurd h h4
        · rename_i h4
          split at h
          · cases h
          · rename_i h5
            exact .inr ⟨h2, Decidable.not_not.1 h3, Decidable.not_not.1 h4, by omega, by omega⟩
theorem at_ok {p : Pl} (h : planE p = 0) (now : Int) : chkE (atT p now) = 0 ∧ (atT p now).block = p.base.block ∧ (atT p now).grp = p.base.grp := by
  obtain ⟨h1, h2⟩ := plan_ok h
  unfold atT
  split
  · rename_i h3
    rcases h2 with ⟨h2, _⟩ | ⟨_, _, h4, h5, h6⟩
    · exact absurd h2 h3.1
    · exact ⟨h4, h6.symm, h5.symm⟩
  · exact ⟨h1, rfl, rfl⟩
/-- In which tier a block is. -/
def idx (b : Int) : List Tr → Nat
  | [] => 0
  | t :: r => if t.upto = 0 ∨ b ≤ t.upto then 0 else idx b r + 1
theorem idx_lt (b : Int) : ∀ (ts : List Tr) (ahead : Int), Good ahead ts → idx b ts < ts.length
  | [], _, h => h.elim
  | t :: r, ahead, h => by
    unfold idx
    unfold Good at h
    split
    · simp
    · rename_i h1
      by_cases hr : r = []
      · rw [if_pos hr] at h; exact absurd (.inl h.2) h1
      · rw [if_neg hr] at h
        have := idx_lt b r _ h.2.2
        simp; omega
/-- Of each tier the blocks from lo on up to hi. -/
def splitG (k : Int) (prev : Int) : List Tr → Int → Int → List Ln
  | [], _, _ => []
  | t :: r, lo, hi => (if max lo prev < (if 0 < t.upto then min hi t.upto else hi) then [⟨k, (if 0 < t.upto then min hi t.upto else hi) - max lo prev, t.price⟩] else []) ++ splitG (k + 1) t.upto r lo hi
theorem splitG_none : ∀ (ts : List Tr) (k prev lo hi : Int), Good prev ts → hi ≤ max lo prev → splitG k prev ts lo hi = []
  | [], _, _, _, _, h, _ => h.elim
  | t :: r, k, prev, lo, hi, h, hle => by
    unfold splitG
    unfold Good at h
    rw [if_neg (by split <;> omega), List.nil_append]
    by_cases hr : r = []
    · subst hr; rfl
    · rw [if_neg hr] at h
      exact splitG_none r _ _ _ _ h.2.2 (by omega)
theorem splitG_from : ∀ (ts : List Tr) (k prev lo lo2 hi : Int), Good prev ts → max lo prev = max lo2 prev → splitG k prev ts lo hi = splitG k prev ts lo2 hi
  | [], _, _, _, _, _, h, _ => h.elim
  | t :: r, k, prev, lo, lo2, hi, h, hle => by
    unfold splitG
    unfold Good at h
    rw [hle]
    by_cases hr : r = []
    · subst hr; rfl
    · rw [if_neg hr] at h
      rw [splitG_from r _ _ lo lo2 _ h.2.2 (by omega)]
/-- What is taken of the first tier that there is. -/
def takeN (t : Tr) (lo hi : Int) : Int := if 0 < t.upto then min (hi - lo) (t.upto - lo) else hi - lo
theorem splitG_step : ∀ (ts : List Tr) (k prev lo hi : Int), Good prev ts → 0 ≤ prev → prev ≤ lo → lo < hi → ∀ t, ts[idx (lo + 1) ts]? = some t →
    splitG k prev ts lo hi = ⟨k + idx (lo + 1) ts, takeN t lo hi, t.price⟩ :: splitG k prev ts (lo + takeN t lo hi) hi ∧ 0 < takeN t lo hi ∧ takeN t lo hi ≤ hi - lo
  | [], _, _, _, _, h, _, _, _ => h.elim
  | x :: r, k, prev, lo, hi, h, h0, hlo, hlt => by
    intro t ht
    unfold Good at h
    by_cases hx : x.upto = 0 ∨ lo + 1 ≤ x.upto
    · have hi0 : idx (lo + 1) (x :: r) = 0 := by unfold idx; rw [if_pos hx]
      rw [hi0] at ht ⊢
      simp at ht
      subst ht
      have hb : 0 < takeN x lo hi ∧ takeN x lo hi ≤ hi - lo := by
        unfold takeN
        by_cases hr : r = []
        · rw [if_pos hr] at h; split <;> omega
        · rw [if_neg hr] at h; split <;> omega
      refine ⟨?_, hb⟩
      have e1 : (if 0 < x.upto then min hi x.upto else hi) = lo + takeN x lo hi := by unfold takeN; split <;> omega
      conv => lhs; unfold splitG
      conv => rhs; rhs; unfold splitG
      rw [e1, show max lo prev = lo by omega, show max (lo + takeN x lo hi) prev = lo + takeN x lo hi by omega, if_pos (by omega), if_neg (by omega)]
      simp only [List.nil_append, List.singleton_append]
      rw [show lo + takeN x lo hi - lo = takeN x lo hi by omega, show k + ((0 : Nat) : Int) = k by omega]
      congr 1
      by_cases hr : r = []
      · subst hr; rfl
      · rw [if_neg hr] at h
        by_cases hc : hi ≤ x.upto
        · rw [splitG_none _ _ _ _ _ h.2.2 (by omega), splitG_none _ _ _ _ _ h.2.2 (by omega)]
        · exact splitG_from _ _ _ _ _ _ h.2.2 (by rw [show takeN x lo hi = x.upto - lo by unfold takeN; rw [if_pos (by omega)]; omega]; omega)
    · have hr : r ≠ [] := by rintro rfl; simp at h; exact hx (.inl h.2)
      rw [if_neg hr] at h
      have hi1 : idx (lo + 1) (x :: r) = idx (lo + 1) r + 1 := by conv => lhs; unfold idx; rw [if_neg hx]
      rw [hi1] at ht ⊢
      have ht' : r[idx (lo + 1) r]? = some t := by simpa using ht
      obtain ⟨g1, g2, g3⟩ := splitG_step r (k + 1) x.upto lo hi h.2.2 (by omega) (by omega) hlt t ht'
      refine ⟨?_, g2, g3⟩
      conv => lhs; unfold splitG
      conv => rhs; rhs; unfold splitG
      rw [if_neg (by rw [if_pos (by omega)]; omega), if_neg (by rw [if_pos (by omega)]; omega), List.nil_append, List.nil_append, g1]
      congr 2
      push_cast
      omega
def blocksOf : List Ln → Int
  | [] => 0
  | l :: r => l.blocks + blocksOf r
def costOf : List Ln → Int
  | [] => 0
  | l :: r => l.blocks * l.price + costOf r
theorem blocksOf_app : ∀ (a b : List Ln), blocksOf (a ++ b) = blocksOf a + blocksOf b
  | [], b => by simp [blocksOf]
  | l :: r, b => by simp [blocksOf, blocksOf_app r b]; omega
theorem costOf_app : ∀ (a b : List Ln), costOf (a ++ b) = costOf a + costOf b
  | [], b => by simp [costOf]
  | l :: r, b => by simp [costOf, costOf_app r b]; omega
def dearT : List Tr → Int
  | [] => 0
  | t :: r => max t.price (dearT r)
theorem dearT_nn : ∀ ts, 0 ≤ dearT ts
  | [] => by simp [dearT]
  | t :: r => by have := dearT_nn r; simp only [dearT]; omega
theorem dearT_mem : ∀ (ts : List Tr) (t : Tr), t ∈ ts → t.price ≤ dearT ts
  | x :: r, t, h => by
    simp only [dearT]
    rcases List.mem_cons.1 h with rfl | h
    · omega
    · have := dearT_mem r t h; omega
theorem good_price : ∀ (ts : List Tr) (ahead : Int), Good ahead ts → ∀ t ∈ ts, (0 ≤ t.price ∧ t.price ≤ 1048576) ∧ 0 ≤ t.upto ∨ ahead < 0
  | [], _, h, _, _ => h.elim
  | x :: r, ahead, h, t, ht => by
    by_cases hn : ahead < 0
    · exact .inr hn
    · unfold Good at h
      rcases List.mem_cons.1 ht with rfl | ht
      · by_cases hr : r = []
        · rw [if_pos hr] at h; exact .inl ⟨h.1, by omega⟩
        · rw [if_neg hr] at h; exact .inl ⟨h.1, by omega⟩
      · have hr : r ≠ [] := by rintro rfl; cases ht
        rw [if_neg hr] at h
        rcases good_price r _ h.2.2 t ht with h1 | h1
        · exact .inl h1
        · omega
theorem dearT_le (ts : List Tr) (m : Int) (hm : 0 ≤ m) (h : ∀ t ∈ ts, t.price ≤ m) : dearT ts ≤ m := by
  induction ts with
  | nil => simpa [dearT] using hm
  | cons t r ih =>
    have h1 := h t (by simp)
    have h2 := ih fun t ht => h t (by simp [ht])
    simp only [dearT]; omega
/-- The blocks of a tier. -/
theorem splitG_blocks : ∀ (ts : List Tr) (k prev lo hi : Int), Good prev ts → 0 ≤ prev → blocksOf (splitG k prev ts lo hi) = max 0 (hi - max lo prev)
  | [], _, _, _, _, h, _ => h.elim
  | t :: r, k, prev, lo, hi, h, h0 => by
    unfold Good at h
    unfold splitG
    rw [blocksOf_app]
    by_cases hr : r = []
    · subst hr
      simp at h
      rw [if_neg (show ¬ 0 < t.upto by omega)]
      split
      · simp [blocksOf, splitG]; omega
      · simp [blocksOf, splitG]; omega
    · rw [if_neg hr] at h
      rw [splitG_blocks r _ _ _ _ h.2.2 (by omega), if_pos (show 0 < t.upto by omega)]
      split
      · simp [blocksOf]; omega
      · simp [blocksOf]; omega
theorem splitG_mem : ∀ (ts : List Tr) (k prev lo hi : Int) (l : Ln), Good prev ts → 0 ≤ prev → l ∈ splitG k prev ts lo hi → (0 < l.blocks ∧ l.blocks ≤ hi - max lo prev) ∧ (∃ t ∈ ts, l.price = t.price)
  | [], _, _, _, _, _, h, _, _ => h.elim
  | t :: r, k, prev, lo, hi, l, hg, h0, h => by
    unfold Good at hg
    unfold splitG at h
    rcases List.mem_append.1 h with h | h
    · by_cases hm : max lo prev < (if 0 < t.upto then min hi t.upto else hi)
      · rw [if_pos hm, List.mem_singleton] at h
        subst h
        refine ⟨⟨by dsimp only; omega, ?_⟩, t, by simp, rfl⟩
        dsimp only
        split <;> omega
      · rw [if_neg hm] at h; cases h
    · by_cases hr : r = []
      · subst hr; cases h
      · rw [if_neg hr] at hg
        obtain ⟨⟨h1, h3⟩, x, hx, h2⟩ := splitG_mem r _ _ _ _ l hg.2.2 (by omega) h
        exact ⟨⟨h1, by omega⟩, x, by simp [hx], h2⟩
theorem mul_le_mul_i {a b c d : Int} (h1 : a ≤ b) (h2 : c ≤ d) (h3 : 0 ≤ c) (h4 : 0 ≤ b) : a * c ≤ b * d :=
  Int.le_trans (Int.mul_le_mul_of_nonneg_right h1 h3) (Int.mul_le_mul_of_nonneg_left h2 h4)
theorem costOf_le (m : Int) (hm : 0 ≤ m) : ∀ (ls : List Ln), (∀ l ∈ ls, 0 ≤ l.blocks ∧ 0 ≤ l.price ∧ l.price ≤ m) → 0 ≤ costOf ls ∧ costOf ls ≤ blocksOf ls * m ∧ 0 ≤ blocksOf ls
  | [], _ => by simp [costOf, blocksOf]
  | l :: r, h => by
    obtain ⟨h1, h2, h3⟩ := h l (by simp)
    obtain ⟨i1, i2, i3⟩ := costOf_le m hm r fun x hx => h x (by simp [hx])
    simp only [costOf, blocksOf]
    have e1 := Int.mul_nonneg h1 h2
    have e2 := Int.mul_le_mul_of_nonneg_left h3 h1
    rw [Int.add_mul]
    omega
/-- What was split at mid costs as much as the whole. -/
theorem splitG_apart : ∀ (ts : List Tr) (k k1 k2 prev lo mid hi : Int), Good prev ts → lo ≤ mid → mid ≤ hi → costOf (splitG k1 prev ts lo mid) + costOf (splitG k2 prev ts mid hi) = costOf (splitG k prev ts lo hi)
  | [], _, _, _, _, _, _, _, h, _, _ => h.elim
  | t :: r, k, k1, k2, prev, lo, mid, hi, h, h1, h2 => by
    unfold Good at h
    unfold splitG
    simp only [costOf_app]
    have ih : costOf (splitG (k1 + 1) t.upto r lo mid) + costOf (splitG (k2 + 1) t.upto r mid hi) = costOf (splitG (k + 1) t.upto r lo hi) := by
      by_cases hr : r = []
      · subst hr; rfl
      · rw [if_neg hr] at h; exact splitG_apart r _ _ _ _ _ _ _ h.2.2 h1 h2
    have key : ∀ a b : Int, costOf (if a < b then [⟨k, b - a, t.price⟩] else []) = max 0 (b - a) * t.price := fun a b => by
      split
      · simp only [costOf]; rw [show max 0 (b - a) = b - a by omega]; omega
      · simp only [costOf]; rw [show max 0 (b - a) = 0 by omega]; omega
    have key1 : ∀ a b : Int, costOf (if a < b then [⟨k1, b - a, t.price⟩] else []) = max 0 (b - a) * t.price := fun a b => by
      split
      · simp only [costOf]; rw [show max 0 (b - a) = b - a by omega]; omega
      · simp only [costOf]; rw [show max 0 (b - a) = 0 by omega]; omega
    have key2 : ∀ a b : Int, costOf (if a < b then [⟨k2, b - a, t.price⟩] else []) = max 0 (b - a) * t.price := fun a b => by
      split
      · simp only [costOf]; rw [show max 0 (b - a) = b - a by omega]; omega
      · simp only [costOf]; rw [show max 0 (b - a) = 0 by omega]; omega
    rw [key, key1, key2]
    have e : max 0 ((if 0 < t.upto then min mid t.upto else mid) - max lo prev) + max 0 ((if 0 < t.upto then min hi t.upto else hi) - max mid prev) = max 0 ((if 0 < t.upto then min hi t.upto else hi) - max lo prev) := by
      split <;> omega
    rw [← e, Int.add_mul]
    omega
/-- Blocks that begun ones count as. -/
def blk (n b : Int) : Int := (n + b - 1) / b
theorem blk_le (n b c : Int) (hb : 0 < b) (hn : 0 ≤ n) : blk n b ≤ c ↔ n ≤ c * b := by
  unfold blk
  rw [← Int.lt_add_one_iff, Int.ediv_lt_iff_lt_mul hb, Int.add_mul]
  omega
theorem blk_nn (n b : Int) (hb : 0 < b) (hn : 0 ≤ n) : 0 ≤ blk n b := Int.ediv_nonneg (by omega) (by omega)
theorem blk_self (n b : Int) (hb : 0 < b) (hn : 0 ≤ n) : blk n b ≤ n := (blk_le n b n hb hn).2 (by
  have := Int.mul_le_mul_of_nonneg_left (show 1 ≤ b by omega) hn
  omega)
theorem blk_mono {n m b : Int} (hb : 0 < b) (h : n ≤ m) : blk n b ≤ blk m b := Int.ediv_le_ediv hb (by omega)
theorem blk_whole (k b : Int) (hb : 0 < b) : blk (k * b) b = k := by
  unfold blk
  rw [show k * b + b - 1 = (b - 1) + k * b by omega, Int.add_mul_ediv_right _ _ (by omega), Int.ediv_eq_zero_of_lt (by omega) (by omega)]
  omega
def dear (p : Pl) : Int := max (dearT p.base.ts) (dearT p.other.ts)
/-- How many fit. -/
def fitN (b price credit want : Int) : Int := if 0 < price then min want (credit / price * b) else want
theorem fitN_le (b price credit want n : Int) (hb : 0 < b) (hp : 0 ≤ price) (hc : 0 ≤ credit) (hn : 0 ≤ n) (hw : n ≤ want) : blk n b * price ≤ credit ↔ n ≤ fitN b price credit want := by
  unfold fitN
  split
  · rename_i h
    rw [← Int.le_ediv_iff_mul_le h, blk_le n b _ hb hn]
    omega
  · rename_i h
    rw [show price = 0 by omega]
    omega
theorem fitN_nn (b price credit want : Int) (hb : 0 < b) (hc : 0 ≤ credit) (hw : 0 ≤ want) : 0 ≤ fitN b price credit want ∧ fitN b price credit want ≤ want := by
  unfold fitN
  split
  · rename_i h
    have := Int.mul_nonneg (Int.ediv_nonneg hc (Int.le_of_lt h)) (Int.le_of_lt hb)
    omega
  · omega
theorem good_far : ∀ (ts : List Tr) (ahead : Int), Good ahead ts → ∀ t ∈ ts, t.upto ≤ 1099511627776 ∨ t.upto = 0
  | [], _, h, _, _ => h.elim
  | x :: r, ahead, h, t, ht => by
    unfold Good at h
    rcases List.mem_cons.1 ht with rfl | ht
    · by_cases hr : r = []
      · rw [if_pos hr] at h; exact .inr h.2
      · rw [if_neg hr] at h; exact .inl h.2.1.2
    · have hr : r ≠ [] := by rintro rfl; cases ht
      rw [if_neg hr] at h
      exact good_far r _ h.2.2 t ht
def priceAt (ts : List Tr) (i : Nat) : Int := match ts[i]? with | some t => t.price | none => 0
/-- The lines of so many blocks behind a position. -/
def splitL (t : Tar) (pos n : Int) : List Ln := if t.mode = 2 ∧ 0 < n then [⟨idx (pos + n) t.ts, n, priceAt t.ts (idx (pos + n) t.ts)⟩] else splitG 0 0 t.ts pos (pos + n)
def posOk (pos : Int) : Prop := 0 ≤ pos ∧ pos ≤ 1099511627776
instance (pos : Int) : Decidable (posOk pos) := by unfold posOk; infer_instance
def splitO (t : Tar) (pos n : Int) : List Ln := if posOk pos then splitL t pos n else []
theorem splitG_len : ∀ (ts : List Tr) (k prev lo hi : Int), (splitG k prev ts lo hi).length ≤ ts.length
  | [], _, _, _, _ => by simp [splitG]
  | t :: r, k, prev, lo, hi => by
    have := splitG_len r (k + 1) t.upto lo hi
    unfold splitG
    have one : ∀ (b : Prop) [Decidable b] (l : Ln), (if b then [l] else []).length ≤ 1 := fun b _ l => by split <;> simp
    rw [List.length_append, List.length_cons]
    exact Nat.le_trans (Nat.add_le_add (one _ _) this) (by omega)
theorem good0_price {ts : List Tr} (h : Good 0 ts) : ∀ t ∈ ts, (0 ≤ t.price ∧ t.price ≤ 1048576) ∧ 0 ≤ t.upto := fun t ht => (good_price ts 0 h t ht).elim id fun k => by omega
theorem splitL_ok {t : Tar} (h : chkE t = 0) {pos n : Int} (hp : 0 ≤ pos) (hn : 0 ≤ n) :
    (∀ l ∈ splitL t pos n, (0 < l.blocks ∧ l.blocks ≤ n) ∧ (0 ≤ l.price ∧ l.price ≤ 1048576) ∧ l.price ≤ dearT t.ts) ∧ blocksOf (splitL t pos n) = n ∧ (splitL t pos n).length ≤ 6 := by
  obtain ⟨_, _, hl, hg⟩ := chk_ok h
  unfold splitL
  split
  · rename_i hm
    have hi := idx_lt (pos + n) t.ts 0 hg
    have hx := List.getElem?_eq_getElem hi
    refine ⟨fun l hl => ?_, by simp [blocksOf], by simp⟩
    rw [List.mem_singleton] at hl
    subst hl
    have hmem := List.getElem_mem hi
    have he : priceAt t.ts (idx (pos + n) t.ts) = (t.ts[idx (pos + n) t.ts]'hi).price := by unfold priceAt; rw [hx]
    refine ⟨⟨hm.2, Int.le_refl _⟩, ?_, ?_⟩
    · show 0 ≤ priceAt _ _ ∧ priceAt _ _ ≤ _
      rw [he]; exact (good0_price hg _ hmem).1
    · show priceAt _ _ ≤ _
      rw [he]; exact dearT_mem _ _ hmem
  · refine ⟨fun l hl => ?_, ?_, Nat.le_trans (splitG_len _ _ _ _ _) hl.2⟩
    · obtain ⟨⟨h1, h2⟩, x, hx, h3⟩ := splitG_mem t.ts 0 0 pos (pos + n) l hg (by omega) hl
      have := good0_price hg x hx
      refine ⟨⟨h1, by omega⟩, by omega, ?_⟩
      rw [h3]; exact dearT_mem _ _ hx
    · rw [splitG_blocks _ _ _ _ _ hg (by omega)]; omega
theorem splitL_cost {t : Tar} (h : chkE t = 0) {pos n : Int} (hp : 0 ≤ pos) (hn : 0 ≤ n) : 0 ≤ costOf (splitL t pos n) ∧ costOf (splitL t pos n) ≤ n * dearT t.ts := by
  obtain ⟨h1, h2, h3⟩ := splitL_ok h hp hn
  have := costOf_le (dearT t.ts) (dearT_nn _) (splitL t pos n) fun l hl => ⟨by have := (h1 l hl).1; omega, (h1 l hl).2.1.1, (h1 l hl).2.2⟩
  rw [h2] at this
  exact ⟨this.1, this.2.1⟩
theorem dear_small {t : Tar} (h : chkE t = 0) : 0 ≤ dearT t.ts ∧ dearT t.ts ≤ 1048576 := ⟨dearT_nn _, dearT_le _ _ (by omega) fun x hx => (good0_price (chk_ok h).2.2.2 x hx).1.2⟩
structure Rtd where
  ls : List Ln
  blocks : Int
  cost : Int
  pos : Int
def rateE (p : Pl) (now pos n : Int) : Int := if planE p ≠ 0 ∨ now < 0 ∨ ¬ (0 ≤ n ∧ n ≤ 1073741824) ∨ ¬ posOk pos then 1 else 0
def rateR (p : Pl) (now pos n : Int) : Rtd := if rateE p now pos n = 0 then ⟨splitL (atT p now) pos (blk n p.base.block), blk n p.base.block, costOf (splitL (atT p now) pos (blk n p.base.block)), pos + blk n p.base.block⟩ else ⟨[], 0, 0, 0⟩
theorem rateE_ok {p : Pl} {now pos n : Int} (h : rateE p now pos n = 0) : planE p = 0 ∧ 0 ≤ now ∧ (0 ≤ n ∧ n ≤ 1073741824) ∧ posOk pos := by
  unfold rateE at h
  split at h
  · cases h
  · rename_i h1
    refine ⟨Decidable.not_not.1 fun k => h1 (.inl k), by omega, by omega, Decidable.not_not.1 fun k => h1 (.inr (.inr (.inr k)))⟩
theorem rateE_01 (p : Pl) (now pos n : Int) : rateE p now pos n = 0 ∨ rateE p now pos n = 1 := by unfold rateE; split <;> simp
def worstE (p : Pl) (n : Int) : Int := if planE p ≠ 0 ∨ ¬ (0 ≤ n ∧ n ≤ 1073741824) then 1 else 0
def worstN (p : Pl) (n : Int) : Int := if worstE p n = 0 then blk n p.base.block * dear p else 0
def fitE (p : Pl) (credit want : Int) : Int := if planE p ≠ 0 ∨ ¬ (0 ≤ want ∧ want ≤ 1073741824) ∨ credit < 0 then 1 else 0
def fitU (p : Pl) (credit want : Int) : Int := if fitE p credit want = 0 then fitN p.base.block (dear p) credit want else 0
def fitC (p : Pl) (credit want : Int) : Int := if fitE p credit want = 0 then blk (fitU p credit want) p.base.block * dear p else 0
theorem dear_plan {p : Pl} (h : planE p = 0) : 0 ≤ dear p ∧ dear p ≤ 1048576 := by
  obtain ⟨h1, h2⟩ := plan_ok h
  have a := dear_small h1
  unfold dear
  rcases h2 with ⟨_, _, _, h3⟩ | ⟨_, _, h3, _⟩
  · rw [h3.2.2.2]; simp only [dearT]; omega
  · have b := dear_small h3; omega
theorem worst_small {p : Pl} (h : planE p = 0) {n : Int} (hn : 0 ≤ n ∧ n ≤ 1073741824) : 0 ≤ blk n p.base.block * dear p ∧ blk n p.base.block * dear p ≤ 1125899906842624 := by
  have hb := (chk_ok (plan_ok h).1).1.2
  have h1 := dear_plan h
  have h2 := blk_nn n p.base.block (by omega) hn.1
  have h3 := blk_self n p.base.block (by omega) hn.1
  exact ⟨Int.mul_nonneg h2 h1.1, mul_le_mul_i (show blk n p.base.block ≤ 1073741824 by omega) h1.2 h1.1 (by omega)⟩
end Go.Proofs.Ytjcabccolkmlmaa
end
section
/- Tariffs and plans: are they ones; which is it; the dearest; walked. -/
namespace Go.Proofs.Ytjcabccolkmlmaa
open Go.RowKit
def trCells (t : Tr) : List Value := [.int .i64 t.upto, .int .i64 t.price]
theorem tr_len (t : Tr) : (trCells t).length = 2 := rfl
theorem tr_one (t : Tr) : ∀ v ∈ trCells t, v.oneCell' = true := by
  intro v hv
  simp [trCells] at hv
  rcases hv with rfl | rfl <;> rfl
abbrev TsAt (n0 : Nat) (w : World) (a : Option Addr) (ts : List Tr) : Prop := Rws trCells 2 n0 w a ts
def tarV (t : Tar) (a : Option Addr) (c : Nat) : Value := .agg #[.int .i64 t.grp, .int .i64 t.mode, .int .i64 t.block, .slice a t.ts.length c]
def planV (p : Pl) (a : Option Addr) (c : Nat) (a2 : Option Addr) (c2 : Nat) : Value :=
  .agg #[.int .i64 p.day, .int .i64 p.frm, .int .i64 p.til, .int .i64 p.base.grp, .int .i64 p.base.mode, .int .i64 p.base.block, .slice a p.base.ts.length c, .int .i64 p.other.grp, .int .i64 p.other.mode, .int .i64 p.other.block, .slice a2 p.other.ts.length c2]
/-- A plan's tiers lie in memory, not too many. -/
structure PlAt (w : World) (p : Pl) (a a2 : Option Addr) : Prop where
  base : TsAt 0 w a p.base.ts
  other : TsAt 0 w a2 p.other.ts
  lb : p.base.ts.length ≤ 1000
  lo : p.other.ts.length ≤ 1000
theorem PlAt.to {w w' : World} {p : Pl} {a a2 : Option Addr} (h : PlAt w p a a2) (b : Below w.heap.size w w') : PlAt w' p a a2 := ⟨h.base.below b, h.other.below b, h.lb, h.lo⟩
theorem tiersE_cons (ahead : Int) (t : Tr) (r : List Tr) : tiersE ahead (t :: r) = if ¬ (0 ≤ t.price ∧ t.price ≤ 1048576) then 1 else if r = [] then (if t.upto ≠ 0 then 15 else 0) else if ¬ (ahead + 1 ≤ t.upto ∧ t.upto ≤ 1099511627776) then 15 else tiersE t.upto r := rfl
theorem isOther_day {p : Pl} {now : Int} (h : p.day ≠ 0) : isOther p now ↔ if p.frm < p.til then p.frm ≤ Int.tmod now p.day ∧ Int.tmod now p.day < p.til else p.frm ≤ Int.tmod now p.day ∨ Int.tmod now p.day < p.til := ⟨fun k => k.2, fun k => ⟨h, k⟩⟩
end Go.Proofs.Ytjcabccolkmlmaa
end
section
/- Tariffs and plans that came in. No program in sight. -/
namespace Go.Proofs.Ytjcabccolkmlmaa
open Go.RowKit Go.WideShapes Go.ChangeShapes
def shTier : Sh := .agg (intsF 0 2)
def shTar : Sh := .agg (.fcons 0 1 (.int .i64) (.fcons 1 1 (.int .i64) (.fcons 2 1 (.int .i64) (.fcons 3 1 (.slice shTier 2) .fnil))))
def shPlan : Sh := .agg (.fcons 0 1 (.int .i64) (.fcons 1 1 (.int .i64) (.fcons 2 1 (.int .i64) (.fcons 3 4 shTar (.fcons 7 4 shTar .fnil)))))
theorem tier_elem {w : World} (cs' : List Value) (b off : Nat) (hl : cs'.length = 2) (hc : cellsAt w b off cs') (h : shTier.Has w cs') : ∃ t : Tr, cellsAt w b off (trCells t) := by
  obtain ⟨zs, h1, h2, _⟩ := has_intsF 2 0 cs' h (by omega)
  rw [List.drop_zero] at h2
  subst h2
  match zs, h1 with
  | [x, y], _ => exact ⟨⟨x, y⟩, hc⟩
/-- Tiers that came in: no more than there can be. -/
structure TsIn (w : World) (a : Option Addr) (c : Nat) (ts : List Tr) : Prop where
  at' : TsAt 0 w a ts
  cap : ts.length ≤ c
theorem has_tar {w : World} {cs : List Value} (hl : cs.length = 4) (h : shTar.Has w cs) : ∃ (t : Tar) (a : Option Addr) (c : Nat), cs = [.int .i64 t.grp, .int .i64 t.mode, .int .i64 t.block, .slice a t.ts.length c] ∧ TsIn w a c t.ts := by
  obtain ⟨⟨x, hx, _⟩, ⟨y, hy, _⟩, ⟨z, hz, _⟩, hs, _⟩ := h
  obtain ⟨ts, a, c, k1, k2, _, k3⟩ := has_rows (R := fun w b off x => cellsAt w b off (trCells x)) (by decide) tier_elem hs
  match cs, hl with
  | [v0, v1, v2, v3], _ =>
    simp at hx hy hz k1
    subst hx; subst hy; subst hz; subst k1
    exact ⟨⟨x, y, z, ts⟩, a, c, rfl, Rws.ofRows k3, k2⟩
theorem has_plan {w : World} {cs : List Value} (hl : cs.length = 11) (h : shPlan.Has w cs) :
    ∃ (p : Pl) (a a2 : Option Addr) (c c2 : Nat), Value.agg cs.toArray = planV p a c a2 c2 ∧ TsIn w a c p.base.ts ∧ TsIn w a2 c2 p.other.ts ∧ -9223372036854775808 ≤ p.day ∧ p.day ≤ 9223372036854775807 := by
  obtain ⟨⟨x, hx, wx⟩, ⟨y, hy, _⟩, ⟨z, hz, _⟩, h1, h2, _⟩ := h
  match cs, hl with
  | [v0, v1, v2, v3, v4, v5, v6, v7, v8, v9, v10], _ =>
    obtain ⟨t1, a, c, e1, k1⟩ := has_tar (by simp) h1
    obtain ⟨t2, a2, c2, e2, k2⟩ := has_tar (by simp) h2
    simp at hx hy hz e1 e2
    obtain ⟨rfl, rfl, rfl, rfl⟩ := e1
    obtain ⟨rfl, rfl, rfl, rfl⟩ := e2
    subst hx; subst hy; subst hz
    exact ⟨⟨x, y, z, t1, t2⟩, a, a2, c, c2, rfl, k1, k2, i64_range wx⟩
theorem open_plan {H : Type} {enc : TypeId × Value → H} {P : Program} {W : World} {r : Reach} {base : Nat} {t : TypeId} {v : Value} {d : DataW H} {p : List MemPlace} (hf : fitsB P shPlan t = true) (hc : P.cellsOf t = 11) (hv : Value.okWide P W r base t v) (h : DataW.Trod enc P W 0 (fun _ => true) true t v d p) :
    ∃ (q : Pl) (a a2 : Option Addr) (c c2 : Nat), v = planV q a c a2 c2 ∧ TsIn W a c q.base.ts ∧ TsIn W a2 c2 q.other.ts ∧ -9223372036854775808 ≤ q.day ∧ q.day ≤ 9223372036854775807 := by
  obtain ⟨cs, rfl, hs⟩ := okWide_str hf hv
  have hh := open_sh hf h
  obtain ⟨q, a, a2, c, c2, e, k⟩ := has_plan (cs := cs.toList) (by simp; omega) (by simpa [Value.cells] using hh)
  exact ⟨q, a, a2, c, c2, by simpa using e, k⟩
theorem open_tar {H : Type} {enc : TypeId × Value → H} {P : Program} {W : World} {r : Reach} {base : Nat} {t : TypeId} {v : Value} {d : DataW H} {p : List MemPlace} (hf : fitsB P shTar t = true) (hc : P.cellsOf t = 4) (hv : Value.okWide P W r base t v) (h : DataW.Trod enc P W 0 (fun _ => true) true t v d p) :
    ∃ (q : Tar) (a : Option Addr) (c : Nat), v = tarV q a c ∧ TsIn W a c q.ts := by
  obtain ⟨cs, rfl, hs⟩ := okWide_str hf hv
  have hh := open_sh hf h
  obtain ⟨q, a, c, e, k⟩ := has_tar (cs := cs.toList) (by simp; omega) (by simpa [Value.cells] using hh)
  refine ⟨q, a, c, ?_, k⟩
  unfold tarV
  congr 1
  apply Array.ext'
  rw [e]
end Go.Proofs.Ytjcabccolkmlmaa
end
section
/- Conditions of functions, printed by a program of this claim's own (vcgen.py) out of the loaded code; each is proved to be enough. -/
set_option maxRecDepth 100000
namespace Go.Proofs.Ytjcabccolkmlmaa
open Go.RowKit
namespace GGrant
def env : Env := ⟨[], [], []⟩
theorem envOk : EOk Try.prog env := ⟨(fun _ h => by cases h), (fun _ h => by cases h), by kernel_rfl, (fun _ h => by cases h)⟩
end GGrant
end Go.Proofs.Ytjcabccolkmlmaa
end
section
/- Numbers in ten parts of 32 bits: what one part of a sum, a difference, a product is. No program in sight. -/
namespace Go.Proofs.Ytjcabccolkmlmaa
open Go.RowKit
def limb (n i : Nat) : Nat := n / 2 ^ (32 * i) % 4294967296
def uV (n : Nat) : Value := .int .u64 n
def arr (f : Nat → Nat) (neg : Bool) : Array Value := #[uV (f 0), uV (f 1), uV (f 2), uV (f 3), uV (f 4), uV (f 5), uV (f 6), uV (f 7), uV (f 8), uV (f 9), .bool neg]
def bigM (n : Nat) (neg : Bool) : Value := .agg (arr (limb n) neg)
def bigOf (z : Int) : Value := bigM z.natAbs (decide (z < 0))
theorem limb_lt (n i : Nat) : limb n i < 4294967296 := Nat.mod_lt _ (by omega)
theorem cases10 {P : Nat → Prop} (h0 : P 0) (h1 : P 1) (h2 : P 2) (h3 : P 3) (h4 : P 4) (h5 : P 5) (h6 : P 6) (h7 : P 7) (h8 : P 8) (h9 : P 9) : ∀ i, i < 10 → P i := by
  intro i hi
  match i, hi with
  | 0, _ => exact h0
  | 1, _ => exact h1
  | 2, _ => exact h2
  | 3, _ => exact h3
  | 4, _ => exact h4
  | 5, _ => exact h5
  | 6, _ => exact h6
  | 7, _ => exact h7
  | 8, _ => exact h8
  | 9, _ => exact h9
  | n + 10, h => omega
theorem arr_get (f : Nat → Nat) (neg : Bool) : ∀ i, i < 10 → (arr f neg)[i]? = some (.int .u64 (f i)) := cases10 rfl rfl rfl rfl rfl rfl rfl rfl rfl rfl
theorem arr_neg (f : Nat → Nat) (neg : Bool) : (arr f neg)[10]? = some (.bool neg) := rfl
theorem arr_size (f : Nat → Nat) (neg : Bool) : (arr f neg).size = 11 := rfl
theorem arr_congr {f g : Nat → Nat} (neg : Bool) (h : ∀ i, i < 10 → f i = g i) : arr f neg = arr g neg := by
  unfold arr
  rw [h 0 (by omega), h 1 (by omega), h 2 (by omega), h 3 (by omega), h 4 (by omega), h 5 (by omega), h 6 (by omega), h 7 (by omega), h 8 (by omega), h 9 (by omega)]
theorem arr_set (f : Nat → Nat) (neg : Bool) (v : Nat) : ∀ i, i < 10 → (arr f neg).setIfInBounds i (.int .u64 v) = arr (fun k => if k = i then v else f k) neg := cases10 rfl rfl rfl rfl rfl rfl rfl rfl rfl rfl
theorem arr_setNeg (f : Nat → Nat) (neg b : Bool) : (arr f neg).setIfInBounds 10 (.bool b) = arr f b := rfl
theorem arr_one (f : Nat → Nat) (neg : Bool) : (arr f neg).all (·.oneCell') = true := by simp [arr, uV, Value.oneCell']
theorem arr_zero : arr (fun _ => 0) false = #[.int .u64 0, .int .u64 0, .int .u64 0, .int .u64 0, .int .u64 0, .int .u64 0, .int .u64 0, .int .u64 0, .int .u64 0, .int .u64 0, .bool false] := rfl
theorem limb_zero (i : Nat) : limb 0 i = 0 := by unfold limb; rw [Nat.zero_div]
theorem bigOf_zero : bigOf 0 = .agg (arr (fun _ => 0) false) := by
  show Value.agg (arr (limb 0) false) = _
  rw [arr_congr false (g := fun _ => 0) (fun i _ => limb_zero i)]

/-! One step of a sum. -/
def carry (n m i : Nat) : Nat := (n % 2 ^ (32 * i) + m % 2 ^ (32 * i)) / 2 ^ (32 * i)
theorem pow_succ32 (i : Nat) : 2 ^ (32 * (i + 1)) = 2 ^ (32 * i) * 4294967296 := by rw [Nat.mul_add, Nat.pow_add]
theorem mod_limb (n i : Nat) : n % 2 ^ (32 * (i + 1)) = n % 2 ^ (32 * i) + 2 ^ (32 * i) * limb n i := by
  rw [pow_succ32, Nat.mod_mul]; rfl
theorem carry_zero (n m : Nat) : carry n m 0 = 0 := by unfold carry; simp [Nat.mod_one]
theorem carry_le (n m i : Nat) : carry n m i ≤ 1 := by
  unfold carry
  have hp : 0 < 2 ^ (32 * i) := Nat.pow_pos (by omega)
  have h1 := Nat.mod_lt n hp
  have h2 := Nat.mod_lt m hp
  have : (n % 2 ^ (32 * i) + m % 2 ^ (32 * i)) / 2 ^ (32 * i) < 2 := by rw [Nat.div_lt_iff_lt_mul hp]; omega
  omega
theorem add_step (n m i : Nat) : (limb n i + limb m i + carry n m i) / 4294967296 = carry n m (i + 1) ∧ (limb n i + limb m i + carry n m i) % 4294967296 = limb (n + m) i := by
  have hp : 0 < 2 ^ (32 * i) := Nat.pow_pos (by omega)
  constructor
  · unfold carry
    rw [mod_limb, mod_limb, pow_succ32]
    generalize 2 ^ (32 * i) = p at *
    rw [← Nat.div_div_eq_div_mul]
    congr 1
    rw [show n % p + p * limb n i + (m % p + p * limb m i) = (n % p + m % p) + p * (limb n i + limb m i) by rw [Nat.mul_add]; omega, Nat.add_mul_div_left _ _ hp]
    omega
  · unfold carry limb
    generalize 2 ^ (32 * i) = p at *
    have h : (n + m) / p = n / p + m / p + (n % p + m % p) / p := by
      conv => lhs; rw [← Nat.div_add_mod n p, ← Nat.div_add_mod m p]
      rw [show p * (n / p) + n % p + (p * (m / p) + m % p) = (n % p + m % p) + p * (n / p + m / p) by rw [Nat.mul_add]; omega, Nat.add_mul_div_left _ _ hp]
      omega
    rw [h]
    omega
theorem u64_mask (s : Nat) (h : s < 18446744073709551616) : bits BinOp.and IntKind.u64 (s : Int) 4294967295 = ((s % 4294967296 : Nat) : Int) := by
  rw [show (4294967295 : Int) = ((4294967295 : Nat) : Int) from rfl, u64_and_nat _ _ h (by omega), show (4294967295 : Nat) = 2 ^ 32 - 1 from rfl, Nat.and_two_pow_sub_one_eq_mod]
/-! One step of a difference. -/
def borrow (n m i : Nat) : Nat := if n % 2 ^ (32 * i) < m % 2 ^ (32 * i) then 1 else 0
theorem borrow_zero (n m : Nat) : borrow n m 0 = 0 := by unfold borrow; simp [Nat.mod_one]
theorem borrow_le (n m i : Nat) : borrow n m i ≤ 1 := by unfold borrow; split <;> omega
theorem sub_step (n m i : Nat) (h : m ≤ n) : 1 - (limb n i + 4294967296 - limb m i - borrow n m i) / 4294967296 = borrow n m (i + 1) ∧ (limb n i + 4294967296 - limb m i - borrow n m i) % 4294967296 = limb (n - m) i := by
  have hp : 0 < 2 ^ (32 * i) := Nat.pow_pos (by omega)
  constructor
  · unfold borrow
    rw [mod_limb, mod_limb]
    have lx := limb_lt n i
    have ly := limb_lt m i
    have r1 := Nat.mod_lt n hp
    have r2 := Nat.mod_lt m hp
    generalize limb n i = x at *
    generalize limb m i = y at *
    generalize 2 ^ (32 * i) = p at *
    generalize n % p = r at *
    generalize m % p = s at *
    rcases Nat.lt_trichotomy x y with hxy | hxy | hxy
    · have h1 : p * (x + 1) ≤ p * y := Nat.mul_le_mul_left p hxy
      rw [Nat.mul_add, Nat.mul_one] at h1
      rw [if_pos (show r + p * x < s + p * y by omega)]
      split <;> omega
    · subst hxy
      by_cases hrs : r < s
      · rw [if_pos hrs, if_pos (by omega)]; omega
      · rw [if_neg hrs, if_neg (by omega)]; omega
    · have h1 : p * (y + 1) ≤ p * x := Nat.mul_le_mul_left p hxy
      rw [Nat.mul_add, Nat.mul_one] at h1
      rw [if_neg (show ¬ (r + p * x < s + p * y) by omega)]
      split <;> omega
  · unfold borrow limb
    have r1 := Nat.mod_lt n hp
    have r2 := Nat.mod_lt m hp
    generalize 2 ^ (32 * i) = p at *
    have e1 := Nat.div_add_mod n p
    have e2 := Nat.div_add_mod m p
    have hd : m / p ≤ n / p := Nat.div_le_div_right h
    have key : (n - m) / p = n / p - m / p - (if n % p < m % p then 1 else 0) := by
      split
      · rename_i hlt
        have hne : m / p < n / p := by
          rcases Nat.lt_or_ge (m / p) (n / p) with h1 | h1
          · exact h1
          · have : n / p = m / p := by omega
            rw [this] at e1
            omega
        have hm : p * (m / p + 1) ≤ p * (n / p) := Nat.mul_le_mul_left p hne
        rw [Nat.mul_add, Nat.mul_one] at hm
        have e3 : n - m = (p + n % p - m % p) + p * (n / p - m / p - 1) := by
          rw [Nat.mul_sub, Nat.mul_sub]
          omega
        rw [e3, Nat.add_mul_div_left _ _ hp, Nat.div_eq_of_lt (by omega)]
        omega
      · have hm : p * (m / p) ≤ p * (n / p) := Nat.mul_le_mul_left p hd
        have e3 : n - m = (n % p - m % p) + p * (n / p - m / p) := by
          rw [Nat.mul_sub]
          omega
        rw [e3, Nat.add_mul_div_left _ _ hp, Nat.div_eq_of_lt (by omega)]
        omega
    rw [key]
    have hb : n % p < m % p → m / p < n / p := fun hlt => by
      rcases Nat.lt_or_ge (m / p) (n / p) with h1 | h1
      · exact h1
      · have : n / p = m / p := by omega
        rw [this] at e1
        omega
    generalize n / p = a at *
    generalize m / p = b at *
    split
    · rename_i hlt
      have := hb hlt
      omega
    · omega
/-! From the top: the first part that parts them decides. -/
theorem div_limb (n i : Nat) : n / 2 ^ (32 * i) = 4294967296 * (n / 2 ^ (32 * (i + 1))) + limb n i := by
  rw [pow_succ32, ← Nat.div_div_eq_div_mul]
  unfold limb
  omega
theorem less_same {n m i : Nat} (h : n / 2 ^ (32 * (i + 1)) = m / 2 ^ (32 * (i + 1))) (h2 : limb n i = limb m i) : n / 2 ^ (32 * i) = m / 2 ^ (32 * i) := by rw [div_limb n, div_limb m, h, h2]
theorem less_apart {n m i : Nat} (h : n / 2 ^ (32 * (i + 1)) = m / 2 ^ (32 * (i + 1))) (h2 : limb n i ≠ limb m i) : decide (limb n i < limb m i) = decide (n < m) := by
  have e1 := div_limb n i
  have e2 := div_limb m i
  rw [h] at e1
  have hp : 0 < 2 ^ (32 * i) := Nat.pow_pos (by omega)
  have f1 := Nat.div_add_mod n (2 ^ (32 * i))
  have f2 := Nat.div_add_mod m (2 ^ (32 * i))
  have r1 := Nat.mod_lt n hp
  have r2 := Nat.mod_lt m hp
  generalize 2 ^ (32 * i) = p at *
  generalize limb n i = x at *
  generalize limb m i = y at *
  rcases Nat.lt_or_gt_of_ne h2 with hxy | hxy
  · have h3 : n / p + 1 ≤ m / p := by omega
    have h4 := Nat.mul_le_mul_left p h3
    rw [Nat.mul_add, Nat.mul_one] at h4
    rw [decide_eq_true hxy, decide_eq_true (by omega)]
  · have h3 : m / p + 1 ≤ n / p := by omega
    have h4 := Nat.mul_le_mul_left p h3
    rw [Nat.mul_add, Nat.mul_one] at h4
    rw [decide_eq_false (by omega), decide_eq_false (by omega)]
/-- More than all ten parts hold. (A name: the number itself is never to be reckoned.) -/
def lim : Nat := 2 ^ (32 * 10)
theorem lim_eq : lim = 2 ^ (32 * 10) := by unfold lim; rfl
theorem lim_div {n : Nat} (h : n < lim) : n / 2 ^ (32 * 10) = 0 := by rw [← lim_eq]; exact Nat.div_eq_of_lt h
theorem lim_big {n k : Nat} (hk : k ≤ 32 * 10) (h : n < 2 ^ k) : n < lim := by
  have h2 := Nat.pow_le_pow_right (n := 2) (by omega) hk
  rw [← lim_eq] at h2
  exact Nat.lt_of_lt_of_le h h2
theorem top_zero {n : Nat} (h : n < lim) : n / 2 ^ (32 * (9 + 1)) = 0 := by
  rw [show 9 + 1 = 10 from rfl]; exact lim_div h
theorem all_same {n m : Nat} (h : n / 2 ^ (32 * 0) = m / 2 ^ (32 * 0)) : n = m := by simpa using h
/-- Nought has no part. -/
theorem limb_all_zero {n : Nat} (h : n < lim) (h0 : ∀ i, i < 10 → limb n i = 0) : n = 0 := by
  have e : ∀ k, k ≤ 10 → n / 2 ^ (32 * (10 - k)) = 0 := by
    intro k
    induction k with
    | zero => intro _; rw [Nat.sub_zero]; exact lim_div h
    | succ k ih =>
      intro hk
      have h1 := ih (by omega)
      rw [div_limb, show 10 - (k + 1) + 1 = 10 - k by omega, h1, h0 _ (by omega)]
  have := e 10 (by omega)
  simpa using this
theorem limb_small {n i : Nat} (h : n < 2 ^ (32 * i)) : limb n i = 0 := by unfold limb; rw [Nat.div_eq_of_lt h]
end Go.Proofs.Ytjcabccolkmlmaa
end
section
/- 'add' of the reference, walked. -/
namespace Go.Proofs.Ytjcabccolkmlmaa
open Go.RowKit
/-- A block that holds a row, whole. -/
def Blk (w : World) (g : Nat) (cs : Array Value) (t : TypeId) : Prop := w.heap[g]? = some (.cells cs t (0, 0))
theorem Blk.cell {w : World} {g : Nat} {cs : Array Value} {t : TypeId} (h : Blk w g cs t) (i : Nat) : w.cell? ⟨g, i, none⟩ = cs[i]? := cell_of_row _ _ _ _ _ _ h
theorem Blk.frozen {w : World} {g : Nat} {cs : Array Value} {t : TypeId} (h : Blk w g cs t) (i : Nat) : w.frozen? ⟨g, i, none⟩ = false := frozen_of_row _ _ _ _ _ h
theorem Blk.setCell {w : World} {g : Nat} {cs : Array Value} {t : TypeId} (h : Blk w g cs t) (i : Nat) (v : Value) : Blk (w.setCell ⟨g, i, none⟩ v) g (cs.setIfInBounds i v) t := heap_setCell_same _ _ _ _ _ _ h
theorem Blk.other {w : World} {g k i : Nat} {cs : Array Value} {t : TypeId} {v : Value} (h : Blk w g cs t) (hne : g ≠ k) : Blk (w.setCell ⟨k, i, none⟩ v) g cs t := (heap_setCell_other _ _ _ _ hne).trans h
theorem Blk.new {w : World} {cs : Array Value} {t : TypeId} {k : Nat} (h : k = w.heap.size) : Blk (w.alloc (.cells cs t)) k cs t := al_new h
theorem Blk.alloc {w : World} {g : Nat} {cs : Array Value} {t : TypeId} (h : Blk w g cs t) (o : Obj) : Blk (w.alloc o) g cs t := al_old h
theorem Blk.setRow {w : World} {g : Nat} {cs : Array Value} {t : TypeId} (h : Blk w g cs t) (ds : Array Value) : Blk (w.setRow g ds) g ds t := setRow_heap _ _ _ _ _ _ h
theorem Blk.otherRow {w : World} {g k : Nat} {cs : Array Value} {t : TypeId} (h : Blk w g cs t) (ds : Array Value) (hne : g ≠ k) : Blk (w.setRow k ds) g cs t := by
  unfold Blk at *
  simp only [World.setRow, Array.getElem?_modify]
  rw [if_neg (fun e => hne e.symm)]
  exact h
theorem Blk.lt {w : World} {g : Nat} {cs : Array Value} {t : TypeId} (h : Blk w g cs t) : g < w.heap.size := heap_lt h
theorem Blk.below {w w' : World} {g B : Nat} {cs : Array Value} {t : TypeId} (h : Blk w g cs t) (hb : Below B w w') (hB : w.heap.size ≤ B) : Blk w' g cs t := Below.kept hb (Nat.lt_of_lt_of_le h.lt hB) h
theorem al3 (w : World) (A B C : Obj) : ((w.alloc A).alloc B |>.alloc C).heap[w.heap.size]? = some A ∧ ((w.alloc A).alloc B |>.alloc C).heap[w.heap.size + 1]? = some B ∧ ((w.alloc A).alloc B |>.alloc C).heap[w.heap.size + 1 + 1]? = some C ∧
    Below w.heap.size w ((w.alloc A).alloc B |>.alloc C) :=
  ⟨al_old (al_old (al_new rfl)), al_old (al_new (by simp)), al_new (by simp), ((Below_one A).alloc (by simp) B).alloc (by simp; omega) C⟩
def mix (n m i k : Nat) : Nat := if k < i then limb (n + m) k else limb n k
end Go.Proofs.Ytjcabccolkmlmaa
end
section
/- '==' of two arrays of integers. No program in sight. -/
namespace Go.Proofs.Ytjcabccolkmlmaa
open Go.RowKit
variable {P : Program}
theorem run_part1 {e : TypeId} {k : IntKind} (he : P.underlying e = some (.int k)) (w : World) (cs : Array Value) (i : Nat) (v : Value) (h : cs[i]? = some v) : (part e cs i).run P w = .ok v w := by
  simp [part, isAgg, run_underlying he, h]
theorem run_eqRange {e : TypeId} {k : IntKind} (he : P.underlying e = some (.int k)) (w : World) (xs ys : Array Value) (d : Nat) (f g : Nat → Int) : ∀ (l : List Nat), (∀ i ∈ l, xs[i]? = some (.int k (f i)) ∧ ys[i]? = some (.int k (g i))) →
    (forIn (m := Sem) l ((none, ()) : Option Bool × Unit) fun i (_ : Option Bool × Unit) => do
      let a ← part e xs (i * 1)
      let b ← part e ys (i * 1)
      let r ← Op.equalIn (d + 1) e a b
      if (!r) = true then pure (ForInStep.done (some false, ())) else pure (ForInStep.yield (none, ()))).run P w =
      .ok (if l.all (fun i => f i == g i) then (none, ()) else (some false, ())) w := by
  intro l
  induction l with
  | nil => intro _; rfl
  | cons i l ih =>
    intro h
    obtain ⟨h1, h2⟩ := h i (by simp)
    have e1 := run_part1 he w xs (i * 1) _ (by rw [Nat.mul_one]; exact h1)
    have e2 := run_part1 he w ys (i * 1) _ (by rw [Nat.mul_one]; exact h2)
    have e3 := run_equalIn_int (P := P) w d e k k (f i) (g i) he
    simp only [List.forIn_cons, Sem.run_bind, e1, e2, e3, Result.andThen_ok]
    cases hq : (f i == g i)
    · simp [hq]
    · simp only [Bool.not_true, Bool.false_eq_true, if_false, Sem.run_pure, Result.andThen_ok, List.all_cons, hq, Bool.true_and]
      exact ih fun j hj => h j (by simp [hj])
theorem run_equalIn_arr {t e : TypeId} {k : IntKind} {n : Nat} (d : Nat) (ht : P.underlying t = some (.array n e)) (he : P.underlying e = some (.int k)) (hs : ∀ w, (sizeOf e).run P w = .ok 1 w) (xs ys : Array Value) (f g : Nat → Int)
    (h : ∀ i, i < n → xs[i]? = some (.int k (f i)) ∧ ys[i]? = some (.int k (g i))) (w : World) : (Op.equalIn (d + 2) t (.agg xs) (.agg ys)).run P w = .ok ((List.range n).all fun i => f i == g i) w := by
  unfold Op.equalIn
  simp only [Sem.run_bind, run_underlying ht, Result.andThen_ok, hs]
  rw [Std.Legacy.Range.forIn_eq_forIn_range']
  have hr := run_eqRange (P := P) he w xs ys d f g (List.range n) (fun i hi => h i (List.mem_range.1 hi))
  simp only [Std.Legacy.Range.size, Nat.sub_zero, Nat.add_sub_cancel, Nat.div_one, ← List.range_eq_range']
  rw [hr]
  split
  · rename_i hq
    simp [hq]
  · rename_i hq
    simp [hq]
end Go.Proofs.Ytjcabccolkmlmaa
end
section
/- 'sub', 'less', 'zero' of the reference, walked. -/
namespace Go.Proofs.Ytjcabccolkmlmaa
open Go.RowKit
def mixS (n m i k : Nat) : Nat := if k < i then limb (n - m) k else limb n k
theorem al2 (w : World) (A B : Obj) : ((w.alloc A).alloc B).heap[w.heap.size]? = some A ∧ ((w.alloc A).alloc B).heap[w.heap.size + 1]? = some B ∧ Below w.heap.size w ((w.alloc A).alloc B) :=
  ⟨al_old (al_new rfl), al_new (by simp), (Below_one A).alloc (by simp) B⟩
theorem all_limbs (n : Nat) (hn : n < lim) : ((List.range 10).all fun i => ((limb n i : Nat) : Int) == 0) = decide (n = 0) := by
  by_cases h : n = 0
  · subst h
    rw [decide_eq_true rfl, List.all_eq_true]
    intro i _
    rw [limb_zero]; rfl
  · rw [decide_eq_false h, List.all_eq_false]
    refine Classical.byContradiction fun hc => h (limb_all_zero hn fun i hi => Classical.byContradiction fun h0 => hc ⟨i, List.mem_range.2 hi, ?_⟩)
    simp; omega
end Go.Proofs.Ytjcabccolkmlmaa
end
section
/- 'Plus', 'Of', 'Minus', 'Int' of the reference, walked. -/
namespace Go.Proofs.Ytjcabccolkmlmaa
open Go.RowKit
/-- What is left of two numbers of unlike signs. -/
def diffM (n m : Nat) (na nb : Bool) : Value := if n < m then bigM (m - n) nb else bigM (n - m) (if n = m then false else na)
end Go.Proofs.Ytjcabccolkmlmaa
end
section
/- 'Of', 'Minus', 'Int' of the reference, walked. -/
namespace Go.Proofs.Ytjcabccolkmlmaa
open Go.RowKit
theorem ofArr (u : Nat) (h : u < 18446744073709551616) (neg : Bool) : arr (limb u) neg = #[.int .u64 ((u % 4294967296 : Nat) : Int), .int .u64 ((u / 4294967296 : Nat) : Int), .int .u64 0, .int .u64 0, .int .u64 0, .int .u64 0, .int .u64 0, .int .u64 0, .int .u64 0, .int .u64 0, .bool neg] := by
  have hz : ∀ i, 2 ≤ i → limb u i = 0 := fun i hi => limb_small (Nat.lt_of_lt_of_le h (Nat.pow_le_pow_right (n := 2) (by omega) (show 64 ≤ 32 * i by omega)))
  have h0 : limb u 0 = u % 4294967296 := by unfold limb; simp
  have h1 : limb u 1 = u / 4294967296 := by unfold limb; rw [show 2 ^ (32 * 1) = 4294967296 from rfl]; omega
  unfold arr uV
  rw [h0, h1, hz 2 (by omega), hz 3 (by omega), hz 4 (by omega), hz 5 (by omega), hz 6 (by omega), hz 7 (by omega), hz 8 (by omega), hz 9 (by omega)]
  rfl
def fitB (z : Int) : Bool := decide (-9223372036854775808 ≤ z ∧ z ≤ 9223372036854775807)
/-- A number and whether it is an int. -/
def fitV (z : Int) : Value := .tuple #[.int .i64 (if fitB z = true then z else 0), .bool (fitB z)]
theorem fitV_yes {z : Int} (h1 : -9223372036854775808 ≤ z) (h2 : z ≤ 9223372036854775807) : fitV z = .tuple #[.int .i64 z, .bool true] := by
  have : fitB z = true := by unfold fitB; simp [h1, h2]
  unfold fitV; rw [this]; rfl
theorem fitV_no {z : Int} (h : z < -9223372036854775808 ∨ 9223372036854775807 < z) : fitV z = .tuple #[.int .i64 0, .bool false] := by
  have : fitB z = false := by unfold fitB; simp; omega
  unfold fitV; rw [this]; rfl
theorem high_zero {n : Nat} (hn : n < lim) (h : ∀ k, 2 ≤ k → k < 10 → limb n k = 0) : n < 18446744073709551616 := by
  have e : ∀ k, k ≤ 8 → n / 2 ^ (32 * (10 - k)) = 0 := by
    intro k
    induction k with
    | zero => intro _; rw [Nat.sub_zero]; exact lim_div hn
    | succ k ih =>
      intro hk
      rw [div_limb, show 10 - (k + 1) + 1 = 10 - k by omega, ih (by omega), h _ (by omega) (by omega)]
  have := e 8 (by omega)
  have h2 : n / 18446744073709551616 = 0 := this
  omega
theorem or_limbs (n : Nat) (h : n < 18446744073709551616) : bits BinOp.or IntKind.u64 ((limb n 0 : Nat) : Int) (((limb n 1 : Nat) : Int) * 4294967296) = (n : Int) := by
  have h0 : limb n 0 = n % 4294967296 := by unfold limb; simp
  have h1 : limb n 1 = n / 4294967296 := by unfold limb; rw [show 2 ^ (32 * 1) = 4294967296 from rfl]; omega
  rw [h0, h1, show ((n / 4294967296 : Nat) : Int) * 4294967296 = ((n / 4294967296 * 4294967296 : Nat) : Int) by omega, u64_or_nat _ _ (by omega) (by omega), Nat.or_comm, nat_join 32 _ _ (by omega) (by omega)]
  omega
end Go.Proofs.Ytjcabccolkmlmaa
end
section
/- 'Add', 'Sub', 'Mul' of the code, walked. -/
namespace Go.Proofs.Ytjcabccolkmlmaa
open Go.RowKit
theorem maskN (a : Nat) (ha : a < 18446744073709551616) : bits .and .u64 (a : Int) 4294967295 = ((a % 4294967296 : Nat) : Int) := u64_mask a ha
theorem divN (a : Nat) : (a : Int) / 4294967296 = ((a / 4294967296 : Nat) : Int) := by omega
theorem mulN (a b : Nat) : (a : Int) * (b : Int) = ((a * b : Nat) : Int) := (Int.natCast_mul a b).symm
theorem addN (a b : Nat) : (a : Int) + (b : Int) = ((a + b : Nat) : Int) := (Int.natCast_add a b).symm
theorem wrapN (a : Nat) (ha : a < 18446744073709551616) : IntKind.u64.wrap (a : Int) = (a : Int) := by rw [IntKind.wrap_u64]; omega
theorem wrapM (a : Nat) : IntKind.u64.wrap (a : Int) = ((a % 18446744073709551616 : Nat) : Int) := by rw [IntKind.wrap_u64]; omega
end Go.Proofs.Ytjcabccolkmlmaa
end
section
/- 'Times' of the reference, walked. -/
namespace Go.Proofs.Ytjcabccolkmlmaa
open Go.RowKit
/-- A fact put by so that no search comes upon it. -/
structure Box (p : Prop) : Prop where
  out : p
theorem lim_mul {n m k : Nat} (hn : n < 2 ^ k) (hm : m < 2 ^ k) : n * m < 2 ^ (k + k) := by rw [Nat.pow_add]; exact Nat.mul_lt_mul'' hn hm
/-! One part set to another value. -/
theorem limb_div {n p j : Nat} (h : p ≤ j) : limb n j = limb (n / 2 ^ (32 * p)) (j - p) := by
  unfold limb
  rw [Nat.div_div_eq_div_mul, ← Nat.pow_add, ← Nat.mul_add, show p + (j - p) = j by omega]
theorem limb_mod {n p j : Nat} (h : j < p) : limb (n % 2 ^ (32 * p)) j = limb n j := by
  unfold limb
  rw [show 2 ^ (32 * p) = 2 ^ (32 * j) * (4294967296 * 2 ^ (32 * (p - j - 1))) by
    rw [← Nat.mul_assoc, ← pow_succ32, ← Nat.pow_add, ← Nat.mul_add, show j + 1 + (p - j - 1) = p by omega]]
  rw [Nat.mod_mul_right_div_self, Nat.mod_mul_right_mod]
/-- The number with another part. -/
def put (n p v : Nat) : Nat := (n / 2 ^ (32 * (p + 1)) * 4294967296 + v) * 2 ^ (32 * p) + n % 2 ^ (32 * p)
theorem put_div {n p v : Nat} : put n p v / 2 ^ (32 * p) = n / 2 ^ (32 * (p + 1)) * 4294967296 + v := by
  have hp : 0 < 2 ^ (32 * p) := Nat.pow_pos (by omega)
  unfold put
  rw [Nat.add_comm, Nat.add_mul_div_right _ _ hp, Nat.div_eq_of_lt (Nat.mod_lt _ hp), Nat.zero_add]
theorem put_mod {n p v : Nat} : put n p v % 2 ^ (32 * p) = n % 2 ^ (32 * p) := by
  unfold put
  rw [Nat.add_comm, Nat.add_mul_mod_self_right, Nat.mod_mod]
theorem limb_put {n p v : Nat} (hv : v < 4294967296) (j : Nat) : limb (put n p v) j = if j = p then v else limb n j := by
  by_cases h : j = p
  · subst h
    rw [if_pos rfl]
    unfold limb
    rw [put_div]
    omega
  · rw [if_neg h]
    by_cases hl : j < p
    · rw [← limb_mod hl, put_mod, limb_mod hl]
    · rw [limb_div (show p + 1 ≤ j by omega), limb_div (n := n) (show p + 1 ≤ j by omega)]
      congr 1
      rw [pow_succ32, ← Nat.div_div_eq_div_mul, put_div, ← Nat.div_div_eq_div_mul]
      have : (n / 2 ^ (32 * (p + 1)) * 4294967296 + v) / 4294967296 = n / 2 ^ (32 * (p + 1)) := by omega
      rw [this, pow_succ32, Nat.div_div_eq_div_mul]
theorem put_eq (n p v : Nat) : put n p v + limb n p * 2 ^ (32 * p) = n + v * 2 ^ (32 * p) := by
  have h1 := Nat.div_add_mod n (2 ^ (32 * p))
  have h2 := div_limb n p
  unfold put
  rw [Nat.add_mul]
  have h3 : n = (n / 2 ^ (32 * (p + 1)) * 4294967296) * 2 ^ (32 * p) + limb n p * 2 ^ (32 * p) + n % 2 ^ (32 * p) := by
    conv => lhs; rw [← h1, h2, Nat.mul_add, Nat.mul_comm, Nat.mul_comm 4294967296, Nat.mul_comm (2 ^ (32 * p)) (limb n p)]
  omega
/-- What is in the sum behind i rows and k parts of the next one. -/
def part (n m i k : Nat) : Nat := n % 2 ^ (32 * i) * m + limb n i * 2 ^ (32 * i) * (m % 2 ^ (32 * k))
theorem part_zero (n m i : Nat) : part n m i 0 = n % 2 ^ (32 * i) * m := by unfold part; simp [Nat.mod_one]
theorem part_next (n m i k : Nat) : part n m i (k + 1) = part n m i k + limb n i * limb m k * 2 ^ (32 * (i + k)) := by
  unfold part
  rw [mod_limb m k, Nat.mul_add, Nat.mul_add 32 i k, Nat.pow_add 2 (32 * i)]
  have : limb n i * 2 ^ (32 * i) * (2 ^ (32 * k) * limb m k) = limb n i * limb m k * (2 ^ (32 * i) * 2 ^ (32 * k)) := by
    generalize 2 ^ (32 * i) = a; generalize 2 ^ (32 * k) = b
    rw [Nat.mul_assoc, Nat.mul_assoc]
    congr 1
    rw [← Nat.mul_assoc a b, Nat.mul_comm (a * b)]
  omega
theorem part_row (n m i : Nat) (hm : m < 2 ^ (32 * 5)) : part n m i 5 = n % 2 ^ (32 * (i + 1)) * m := by
  unfold part
  rw [Nat.mod_eq_of_lt hm, mod_limb n i, Nat.add_mul, Nat.mul_comm (limb n i)]
theorem times_step {n m i k C over x : Nat} (hI : C + over * 2 ^ (32 * (i + k)) = part n m i k) (hx : x = limb C (i + k)) :
    put C (i + k) ((x + limb n i * limb m k + over) % 4294967296) + (x + limb n i * limb m k + over) / 4294967296 * 2 ^ (32 * (i + (k + 1))) = part n m i (k + 1) := by
  rw [part_next, ← hI]
  have h := put_eq C (i + k) ((x + limb n i * limb m k + over) % 4294967296)
  rw [← hx] at h
  rw [show i + (k + 1) = i + k + 1 by omega, pow_succ32]
  generalize 2 ^ (32 * (i + k)) = B at *
  generalize hq : limb n i * limb m k = q at *
  have e1 : (x + q + over) / 4294967296 * (B * 4294967296) + (x + q + over) % 4294967296 * B = (x + q + over) * B := by
    rw [Nat.mul_comm B, ← Nat.mul_assoc, ← Nat.add_mul]
    congr 1
    omega
  rw [Nat.add_mul, Nat.add_mul] at e1
  omega
theorem row_lt {n m i : Nat} (hm : m < 2 ^ (32 * 5)) (j : Nat) (hj : i + 5 ≤ j) : limb (n % 2 ^ (32 * i) * m) j = 0 := by
  refine limb_small ?_
  have h1 : n % 2 ^ (32 * i) < 2 ^ (32 * i) := Nat.mod_lt _ (Nat.pow_pos (by omega))
  have h2 : n % 2 ^ (32 * i) * m < 2 ^ (32 * i) * 2 ^ (32 * 5) := Nat.mul_lt_mul'' h1 hm
  rw [← Nat.pow_add, ← Nat.mul_add] at h2
  exact Nat.lt_of_lt_of_le h2 (Nat.pow_le_pow_right (by omega) (by omega))
end Go.Proofs.Ytjcabccolkmlmaa
end
section
/- Lists of ints: 'Sum' of the code and of the reference, 'Same'. -/
namespace Go.Proofs.Ytjcabccolkmlmaa
open Go.RowKit
theorem seI_load_row {P : Program} {ops : Array Oper} {wx : World} {Q : Act → Prop} {i : Nat} {r : List Nat} {a : Act} {o : Oper} (ho : ops[i]? = some o) (hgd : o.guard = none) (ty : TypeId) (x : Operand) (hop : o.op = .load ty x)
    (g : Nat) (hx : a.eval x = .pointer (some ⟨g, 0, none⟩)) (t : TypeId) (cs : Array Value) (fr : Nat × Nat) (d : TypeDesc) (hg : wx.heap[g]? = some (.cells cs t fr))
    (hu : P.underlying ty = some d) (hd : (match d with | .struct _ | .array _ _ => true | _ => false) = true) (hi : (P.info? ty).map (·.size) = some cs.size)
    (h : seI P ops wx Q r (a.put o.dst (.agg cs))) : seI P ops wx Q (i :: r) a := by
  refine seI_step ho fun K hK => ?_
  rw [if_pos (by simp [Region.wanted, hgd])]
  unfold Oper.still execOp
  simp only [hop, hx, Instr.loadAt, Instr.sureAddr, Sem.run_bind, Sem.run_pure, Result.andThen_ok, run_loadVar_row wx g t ty cs fr d hg hu hd hi]
  rw [Oper.stillUpon_value]
  exact hK _ h
def total (zs : List Int) : Int := zs.foldl (· + ·) 0
theorem total_take_succ {zs : List Int} {k : Nat} (h : k < zs.length) : total (zs.take (k + 1)) = total (zs.take k) + zs[k] := by
  unfold total
  rw [List.take_succ_eq_append_getElem h, List.foldl_append]
  rfl
theorem total_bound {zs : List Int} (h : ints zs) : ∀ k, k ≤ zs.length → -9223372036854775808 * (k : Int) ≤ total (zs.take k) ∧ total (zs.take k) ≤ 9223372036854775808 * (k : Int) := by
  intro k
  induction k with
  | zero => intro _; simp [total]
  | succ k ih =>
    intro hk
    have := ih (by omega)
    have hz := h zs[k] (List.getElem_mem _)
    rw [total_take_succ (by omega)]
    omega
def sLo (z : Int) : Int := z % 18446744073709551616
def sHi (z : Int) : Int := z / 18446744073709551616 % 18446744073709551616
theorem lo_step (s n : Int) : (sLo s + IntKind.u64.wrap n) % 18446744073709551616 = sLo (s + n) := by rw [IntKind.wrap_u64]; unfold sLo; omega
theorem hi_step (s n : Int) (h1 : -9223372036854775808 ≤ n) (h2 : n ≤ 9223372036854775807) :
    IntKind.u64.wrap (sHi s + IntKind.u64.wrap (IntKind.u64.wrap (n / 9223372036854775808) + (sLo s + IntKind.u64.wrap n) / 18446744073709551616)) = sHi (s + n) := by
  simp only [IntKind.wrap_u64]
  have e1 : n = n % 18446744073709551616 + 18446744073709551616 * (n / 9223372036854775808) := by omega
  have e2 : s = sLo s + 18446744073709551616 * (s / 18446744073709551616) := by unfold sLo; omega
  have e3 : (s + n) / 18446744073709551616 = s / 18446744073709551616 + n / 9223372036854775808 + (sLo s + n % 18446744073709551616) / 18446744073709551616 := by
    have e4 : s + n = (sLo s + n % 18446744073709551616) + 18446744073709551616 * (s / 18446744073709551616 + n / 9223372036854775808) := by omega
    generalize sLo s + n % 18446744073709551616 = z at *
    generalize s / 18446744073709551616 = q at *
    generalize n / 9223372036854775808 = r at *
    omega
  unfold sHi
  rw [e3]
  generalize (sLo s + n % 18446744073709551616) / 18446744073709551616 = z
  generalize s / 18446744073709551616 = q
  generalize n / 9223372036854775808 = r
  omega
set_option maxRecDepth 100000 in
set_option maxHeartbeats 2000000 in
theorem rSame_any (a b : Option Addr) (ca cb : Nat) (zs : List Int) (w : World) (hl : zs.length ≤ 1000000) (hra : RowAt w a (zs.map iV)) (hrb : RowAt w b (zs.map iV)) :
    Calls Try.prog 39 #[.slice a zs.length ca, .slice b zs.length cb] w fun e w' => e = .returned (.bool true) ∧ Below w.heap.size w w' := by
  have HA := hid hra; have HB := hid hrb
  clear hra hrb
  go_enter Try.func39, Try.ntmps39
  go_wp2
  go_loopw [5,11,12,13,14,15,16,17,18,19,20,21,22,23,24,25] (fun t5 _ _ _ _ _ _ _ _ _ _ _ _ _ _ _ wr => ∃ k : Nat, k ≤ zs.length ∧ t5 = .int .i64 k ∧ Below w.heap.size w wr) (fun t5 _ _ _ _ _ _ _ _ _ _ _ _ _ _ _ wr => zs.length - (intOf t5).toNat)
  case atStart => exact ⟨0, by omega, rfl, Below.refl _ _⟩
  case round =>
    obtain ⟨k, hk, rfl, hb⟩ := hrel
    have HW := hid hb; clear hb
    by_cases hlt : k < zs.length
    · obtain ⟨b1, off1, rfl, hc1⟩ := (HA.out.below HW.out (Nat.le_refl _)).int hlt
      obtain ⟨b2, off2, rfl, hc2⟩ := (HB.out.below HW.out (Nat.le_refl _)).int hlt
      generalize zs[k] = n at *
      have i0 : (0 : Int) ≤ (k : Int) := by omega
      have i1 : (k : Int) < (zs.length : Int) := by omega
      go_wp2
      refine wp_region_early [0, 1, 2, 3, 4, 5, 6, 7, 8] [] [] (fun wx => wx.cell? ⟨b1, off1 + k, none⟩ = some (.int .i64 n) ∧ wx.cell? ⟨b2, off2 + k, none⟩ = some (.int .i64 n)) (by kernel_rfl) (by kernel_rfl) (by kernel_rfl) (by rfl) ⟨hc1, hc2⟩ ?_
      apply Exists.intro
      refine ⟨fun wx hx => ?_, ?_⟩
      · obtain ⟨x1, x2⟩ := hx
        repeat (refine seI_step rfl (fun K hK => ?_); go_simp; refine hK _ ?_; clear hK K)
        exact seI_nil rfl
      refine wpTA_nil .nil ?_
      go_wp2
      refine NoPanic.normal ?_
      go_wp2
      go_roundw
      case rel => exact ⟨k + 1, by omega, by go_num, HW.out.drew⟩
      case measure => simp [intOf]; omega
    · obtain rfl : k = zs.length := by omega
      go_wp2
      go_ret
      exact ⟨rfl, HW.out⟩
end Go.Proofs.Ytjcabccolkmlmaa
end
section
/- The law of sums, walked. -/
namespace Go.Proofs.Ytjcabccolkmlmaa
open Go.RowKit
theorem Try.infoInt : (Try.prog.info? 3).map (fun i => (i.zero, i.size, i.bytes)) = some (some (.int .i64 0), 1, 8) := by kernel_rfl
end Go.Proofs.Ytjcabccolkmlmaa
end
section
/- The law of pairs, walked. -/
namespace Go.Proofs.Ytjcabccolkmlmaa
open Go.RowKit
theorem sign_mul (x y : Int) : decide (x * y < 0) = ((decide (x < 0) != decide (y < 0)) && !(decide ((x * y).natAbs = 0))) := by
  rcases Int.lt_trichotomy x 0 with hx | hx | hx <;> rcases Int.lt_trichotomy y 0 with hy | hy | hy
  · have := Int.mul_pos_of_neg_of_neg hx hy
    rw [decide_eq_true hx, decide_eq_true hy, decide_eq_false (by omega)]; rfl
  · subst hy; simp
  · have := Int.mul_neg_of_neg_of_pos hx hy
    rw [decide_eq_true hx, decide_eq_false (show ¬ y < 0 by omega), decide_eq_true this, decide_eq_false (show ¬ (x * y).natAbs = 0 by omega)]; rfl
  · subst hx; simp
  · subst hx; simp
  · subst hx; simp
  · have := Int.mul_neg_of_pos_of_neg hx hy
    rw [decide_eq_false (show ¬ x < 0 by omega), decide_eq_true hy, decide_eq_true this, decide_eq_false (show ¬ (x * y).natAbs = 0 by omega)]; rfl
  · subst hy; simp
  · have := Int.mul_pos hx hy
    rw [decide_eq_false (show ¬ x < 0 by omega), decide_eq_false (show ¬ y < 0 by omega), decide_eq_false (show ¬ x * y < 0 by omega)]; rfl
theorem fitV_out (z : Int) : ∃ x o, fitV z = .tuple #[.int .i64 x, .bool o] := ⟨_, _, rfl⟩
end Go.Proofs.Ytjcabccolkmlmaa
end
section
/- 'Blocks' of both, walked. -/
namespace Go.Proofs.Ytjcabccolkmlmaa
open Go.RowKit
/-- How many blocks, and whether there are any to be told. -/
def blkB (u b : Int) : Bool := decide (0 ≤ u ∧ 1 ≤ b)
def blkV (u b : Int) : Int := if blkB u b = true then (u + b - 1) / b else 0
def blkT (u b : Int) : Value := .tuple #[.int .i64 (blkV u b), .bool (blkB u b)]
theorem blkT_no {u b : Int} (h : u < 0 ∨ b < 1) : blkT u b = .tuple #[.int .i64 0, .bool false] := by
  have : blkB u b = false := by unfold blkB; simp; omega
  unfold blkT blkV; rw [this]; rfl
theorem blkT_yes {u b : Int} (h1 : 0 ≤ u) (h2 : 1 ≤ b) : blkT u b = .tuple #[.int .i64 ((u + b - 1) / b), .bool true] := by
  have : blkB u b = true := by unfold blkB; simp; omega
  unfold blkT blkV; rw [this]; rfl
theorem blk_one {u b : Int} (h1 : 1 ≤ u) (h2 : 1 ≤ b) : (u - 1).tdiv b + 1 = (u + b - 1) / b ∧ 0 ≤ (u - 1) / b ∧ (u - 1) / b < u := by
  rw [Int.tdiv_eq_ediv_of_nonneg (by omega), show u + b - 1 = (u - 1) + 1 * b by omega, Int.add_mul_ediv_right _ _ (by omega)]
  refine ⟨rfl, Int.ediv_nonneg (by omega) (by omega), ?_⟩
  have := Int.ediv_le_self b (show 0 ≤ u - 1 by omega)
  omega
theorem blk_two {u b : Int} (h1 : 0 ≤ u) (h2 : 1 ≤ b) : (u % b = 0 → (u + b - 1) / b = u / b) ∧ (u % b ≠ 0 → (u + b - 1) / b = u / b + 1) ∧ 0 ≤ u / b ∧ u / b ≤ u ∧ (u % b ≠ 0 → u / b < u) := by
  have hd := Int.mul_ediv_add_emod u b
  have m0 := Int.emod_nonneg u (show b ≠ 0 by omega)
  have m1 := Int.emod_lt_of_pos u (show 0 < b by omega)
  have q0 : 0 ≤ u / b := Int.ediv_nonneg h1 (by omega)
  have q1 := Int.ediv_le_self b h1
  have e : u + b - 1 = (u % b + b - 1) + (u / b) * b := by rw [Int.mul_comm]; omega
  refine ⟨fun h => ?_, fun h => ?_, q0, q1, fun h => ?_⟩
  · rw [e, Int.add_mul_ediv_right _ _ (by omega), h, Int.ediv_eq_zero_of_lt (by omega) (by omega)]; omega
  · rw [e, Int.add_mul_ediv_right _ _ (by omega), show u % b + b - 1 = (u % b - 1) + 1 * b by omega, Int.add_mul_ediv_right _ _ (by omega), Int.ediv_eq_zero_of_lt (by omega) (by omega)]; omega
  · refine Classical.byContradiction fun h3 => ?_
    · have h4 : u / b = u := by omega
      rw [h4] at hd
      have : u ≤ b * u := by
        have := Int.mul_le_mul_of_nonneg_right h2 h1
        omega
      omega
end Go.Proofs.Ytjcabccolkmlmaa
end
section
/- Usage spread over tiers, and what it costs: tier and rate; walked. -/
namespace Go.Proofs.Ytjcabccolkmlmaa
open Go.RowKit
def lnCells (l : Ln) : List Value := [.int .i64 l.tier, .int .i64 l.blocks, .int .i64 l.price]
theorem ln_len (l : Ln) : (lnCells l).length = 3 := rfl
theorem ln_one (l : Ln) : ∀ v ∈ lnCells l, v.oneCell' = true := by
  intro v hv
  simp [lnCells] at hv
  rcases hv with rfl | rfl | rfl <;> rfl
abbrev LsAt (n0 : Nat) (w : World) (a : Option Addr) (ls : List Ln) : Prop := Rws lnCells 3 n0 w a ls
end Go.Proofs.Ytjcabccolkmlmaa
end
section
/- What lines cost; what units come to, at most, and how many fit: tier.Cost, rate; walked. -/
namespace Go.Proofs.Ytjcabccolkmlmaa
open Go.RowKit
def prodsL (ls : List Ln) : List Int := ls.map fun l => l.blocks * l.price
def blksL (ls : List Ln) : List Int := ls.map (·.blocks)
theorem total_cons (z : Int) (zs : List Int) : total (z :: zs) = z + total zs := by
  unfold total
  have key : ∀ (l : List Int) (a b : Int), l.foldl (· + ·) (a + b) = a + l.foldl (· + ·) b := by
    intro l
    induction l with
    | nil => intro a b; rfl
    | cons x r ih => intro a b; simp only [List.foldl_cons]; rw [Int.add_assoc, ih]
  rw [List.foldl_cons, Int.zero_add]
  have := key zs z 0
  rwa [Int.add_zero] at this
theorem total_prods : ∀ ls : List Ln, total (prodsL ls) = costOf ls
  | [] => rfl
  | l :: r => by rw [prodsL, List.map_cons, total_cons]; show _ + total (prodsL r) = _; rw [total_prods r]; rfl
theorem total_blks : ∀ ls : List Ln, total (blksL ls) = blocksOf ls
  | [] => rfl
  | l :: r => by rw [blksL, List.map_cons, total_cons]; show _ + total (blksL r) = _; rw [total_blks r]; rfl
theorem prod_fits {l : Ln} (h : (0 ≤ l.blocks ∧ l.blocks ≤ 1073741824) ∧ 0 ≤ l.price ∧ l.price ≤ 1048576) : 0 ≤ l.blocks * l.price ∧ l.blocks * l.price ≤ 1125899906842624 := ⟨Int.mul_nonneg h.1.1 h.2.1, mul_le_mul_i h.1.2 h.2.2 h.2.1 (by omega)⟩
/-- Lines that are small enough. -/
def LsOk (ls : List Ln) : Prop := (∀ l ∈ ls, (0 ≤ l.blocks ∧ l.blocks ≤ 1073741824) ∧ 0 ≤ l.price ∧ l.price ≤ 1048576) ∧ ls.length ≤ 1000
theorem cost_fits {ls : List Ln} (h : LsOk ls) : 0 ≤ costOf ls ∧ costOf ls ≤ 1125899906842624 * ls.length := by
  obtain ⟨h1, h2⟩ := h
  clear h2
  induction ls with
  | nil => simp [costOf]
  | cons l r ih =>
    have h3 := prod_fits (h1 l (by simp))
    have h4 := ih fun x hx => h1 x (by simp [hx])
    simp only [costOf, List.length_cons]
    push_cast
    omega
def rtdV (r : Rtd) (a : Option Addr) (c : Nat) : Value := .agg #[.slice a r.ls.length c, .int .i64 r.blocks, .int .i64 r.cost, .int .i64 r.pos]
theorem splitO_ok {t : Tar} (h : chkE t = 0) (pos : Int) {n : Int} (hn : 0 ≤ n ∧ n ≤ 1073741824) : LsOk (splitO t pos n) := by
  unfold splitO
  split
  · rename_i hp
    obtain ⟨h1, _, h3⟩ := splitL_ok h hp.1 hn.1
    exact ⟨fun l hl => by have := h1 l hl; omega, by omega⟩
  · exact ⟨(fun l hl => by cases hl), by simp⟩
end Go.Proofs.Ytjcabccolkmlmaa
end
section
/- The document's tariffs, lines and what they cost: references 9, 10, 11; walked. -/
namespace Go.Proofs.Ytjcabccolkmlmaa
open Go.RowKit
def prevOf (ts : List Tr) : Nat → Int
  | 0 => 0
  | i + 1 => match ts[i]? with | some t => t.upto | none => 0
end Go.Proofs.Ytjcabccolkmlmaa
end
section
/- What lines cost, by the document; the document's rate, worst and fit; walked. -/
namespace Go.Proofs.Ytjcabccolkmlmaa
open Go.RowKit
def bigA (x0 x1 x2 x3 x4 x5 x6 x7 x8 x9 : Int) (b : Bool) : Value := .agg #[.int .u64 x0, .int .u64 x1, .int .u64 x2, .int .u64 x3, .int .u64 x4, .int .u64 x5, .int .u64 x6, .int .u64 x7, .int .u64 x8, .int .u64 x9, .bool b]
theorem small_lim {z : Int} (h : 0 ≤ z ∧ z ≤ 1152921504606846976) : z.natAbs < lim ∧ 2 * z.natAbs < lim ∧ z.natAbs < 2 ^ (32 * 5) := by
  have h1 : 2 * z.natAbs < 2 ^ 62 := by show _ < 4611686018427387904; omega
  refine ⟨lim_big (by decide) (Nat.lt_of_le_of_lt (by omega) h1), lim_big (by decide) h1, Nat.lt_of_lt_of_le (Nat.lt_of_le_of_lt (by omega) h1) (Nat.pow_le_pow_right (by omega) (by omega))⟩
theorem dearT_app : ∀ (xs ys : List Tr), dearT (xs ++ ys) = max (dearT xs) (dearT ys)
  | [], ys => by have := dearT_nn ys; simp only [List.nil_append, dearT]; omega
  | x :: r, ys => by simp only [List.cons_append, dearT, dearT_app r ys]; omega
end Go.Proofs.Ytjcabccolkmlmaa
end
section
/- Plans, tamed; what a rate comes to. -/
namespace Go.Proofs.Ytjcabccolkmlmaa
open Go.RowKit
def tameT (t : Tar) : Tar := { t with ts := t.ts.take 9 }
def tameP (p : Pl) : Pl := { p with base := tameT p.base, other := tameT p.other }
theorem min9 (ts : List Tr) : (min ((ts.length : Nat) : Int) 9).toNat = (ts.take 9).length := by rw [List.length_take]; omega
theorem take9 (ts : List Tr) : (ts.take 9).length ≤ 9 := by rw [List.length_take]; omega
def DayIn (p : Pl) : Prop := -9223372036854775808 ≤ p.day ∧ p.day ≤ 9223372036854775807
theorem PlAt.box {w w1 : World} {p : Pl} {a a2 : Option Addr} {n g : Nat} (h1 : TsAt n w a p.base.ts) (h2 : TsAt n w a2 p.other.ts) (l1 : p.base.ts.length ≤ 1000) (l2 : p.other.ts.length ≤ 1000) (hb : BoxSt g w w1) (hg : g < n) : PlAt w1 p a a2 :=
  ⟨(h1.box hb hg).low (Nat.zero_le _), (h2.box hb hg).low (Nat.zero_le _), l1, l2⟩
def plan0 : Pl := ⟨0, 0, 0, ⟨1, 1, 10, [⟨0, 3⟩]⟩, ⟨0, 0, 0, []⟩⟩
theorem plan0_rate : rateE plan0 0 0 11 = 0 ∧ (rateR plan0 0 0 11).blocks = 2 ∧ (rateR plan0 0 0 11).cost = 6 ∧ (rateR plan0 0 0 11).pos = 2 ∧ fitE plan0 7 100 = 0 ∧ fitU plan0 7 100 = 20 ∧ fitC plan0 7 100 = 6 := by decide +kernel
theorem dearT_at {p : Pl} (now : Int) : dearT (atT p now).ts ≤ dear p := by
  unfold atT dear
  split <;> omega
theorem rateR_len (q : Pl) (now pos n : Int) : (rateR q now pos n).ls.length ≤ 1000 := by
  by_cases hE : rateE q now pos n = 0
  · obtain ⟨k1, k2, k3, k4⟩ := rateE_ok hE
    have hat := at_ok k1 now
    have hb := (chk_ok (plan_ok k1).1).1.2
    have := (splitL_ok hat.1 k4.1 (blk_nn n q.base.block (by omega) k3.1)).2.2
    unfold rateR
    rw [if_pos hE]
    exact Nat.le_trans this (by decide)
  · unfold rateR
    rw [if_neg hE]
    exact Nat.zero_le _
theorem rateR_yes {q : Pl} {now pos n : Int} (hE : rateE q now pos n = 0) : rateR q now pos n = ⟨splitL (atT q now) pos (blk n q.base.block), blk n q.base.block, costOf (splitL (atT q now) pos (blk n q.base.block)), pos + blk n q.base.block⟩ := by unfold rateR; rw [if_pos hE]
theorem rate_facts {q : Pl} {now pos n : Int} (hE : rateE q now pos n = 0) :
    LsOk (rateR q now pos n).ls ∧ (rateR q now pos n).cost = costOf (rateR q now pos n).ls ∧ 0 ≤ (rateR q now pos n).cost ∧ (rateR q now pos n).cost ≤ worstN q n ∧ (rateR q now pos n).pos = pos + (rateR q now pos n).blocks ∧ 0 ≤ (rateR q now pos n).blocks ∧ (rateR q now pos n).blocks ≤ 1073741824 ∧ worstE q n = 0 ∧ posOk pos := by
  obtain ⟨k1, k2, k3, k4⟩ := rateE_ok hE
  have hat := at_ok k1 now
  have hb := (chk_ok (plan_ok k1).1).1.2
  have hbn := blk_nn n q.base.block (by omega) k3.1
  have hbs := blk_self n q.base.block (by omega) k3.1
  have hc := splitL_cost hat.1 k4.1 hbn
  have hso : LsOk (splitL (atT q now) pos (blk n q.base.block)) := by
    have := splitO_ok hat.1 pos (n := blk n q.base.block) (by omega)
    unfold splitO at this
    rwa [if_pos k4] at this
  have hw : worstE q n = 0 := by unfold worstE; rw [if_neg (by omega)]
  have hd := Int.mul_le_mul_of_nonneg_left (dearT_at (p := q) now) hbn
  rw [rateR_yes hE]
  unfold worstN
  rw [if_pos hw]
  exact ⟨hso, rfl, hc.1, Int.le_trans hc.2 hd, rfl, hbn, by dsimp only; omega, hw, k4⟩
end Go.Proofs.Ytjcabccolkmlmaa
end
section
/- Grants, in plain numbers. No program in sight. -/
namespace Go.Proofs.Ytjcabccolkmlmaa
structure Gnt where
  grp : Int
  units : Int
  amount : Int
  fin : Bool
deriving DecidableEq
def gnt0 : Gnt := ⟨0, 0, 0, false⟩
def makeE (p : Pl) (cr want : Int) : Int := if fitE p cr want ≠ 0 ∨ want < 1 then 1 else if fitU p cr want = 0 then 9 else 0
def makeG (p : Pl) (cr want : Int) : Gnt := if makeE p cr want = 0 then ⟨p.base.grp, fitU p cr want, fitC p cr want, decide (fitU p cr want < want)⟩ else gnt0
theorem fitE_ok {p : Pl} {cr want : Int} (h : fitE p cr want = 0) : planE p = 0 ∧ (0 ≤ want ∧ want ≤ 1073741824) ∧ 0 ≤ cr := by
  unfold fitE at h
  split at h
  · cases h
  · omega
theorem fit_facts {p : Pl} {cr want : Int} (h : fitE p cr want = 0) : (0 ≤ fitU p cr want ∧ fitU p cr want ≤ want) ∧ fitC p cr want = blk (fitU p cr want) p.base.block * dear p ∧ 0 ≤ fitC p cr want ∧ fitC p cr want ≤ cr ∧ fitC p cr want ≤ 1125899906842624 := by
  obtain ⟨k1, k2, k3⟩ := fitE_ok h
  have hU : fitU p cr want = fitN p.base.block (dear p) cr want := by unfold fitU; rw [if_pos h]
  have hC : fitC p cr want = blk (fitU p cr want) p.base.block * dear p := by unfold fitC; rw [if_pos h]
  have hb := (chk_ok (plan_ok k1).1).1.2
  have hdr := dear_plan k1
  have hnn := fitN_nn p.base.block (dear p) cr want (by omega) k3 k2.1
  rw [← hU] at hnn
  have hle := fitN_le p.base.block (dear p) cr want (fitU p cr want) (by omega) hdr.1 k3 hnn.1 hnn.2
  rw [← hU] at hle
  have hs := worst_small k1 (n := fitU p cr want) (by omega)
  have hcr := hle.2 (Int.le_refl _)
  rw [hC]
  exact ⟨hnn, rfl, hs.1, hcr, hs.2⟩
theorem makeE_cases (p : Pl) (cr want : Int) : makeE p cr want = 0 ∨ makeE p cr want = 9 ∨ makeE p cr want = 1 := by
  unfold makeE
  split
  · simp
  · split <;> simp
theorem makeE_ok {p : Pl} {cr want : Int} (h : makeE p cr want = 0) : fitE p cr want = 0 ∧ 1 ≤ want ∧ fitU p cr want ≠ 0 := by
  unfold makeE at h
  split at h
  · cases h
  · split at h
    · cases h
    · omega
theorem makeE_9 {p : Pl} {cr want : Int} (h : makeE p cr want = 9) : fitE p cr want = 0 ∧ 1 ≤ want := by
  unfold makeE at h
  split at h
  · cases h
  · omega
theorem makeG_yes {p : Pl} {cr want : Int} (h : makeE p cr want = 0) : makeG p cr want = ⟨p.base.grp, fitU p cr want, fitC p cr want, decide (fitU p cr want < want)⟩ := by unfold makeG; rw [if_pos h]
theorem makeG_no {p : Pl} {cr want : Int} (h : makeE p cr want ≠ 0) : makeG p cr want = gnt0 := by unfold makeG; rw [if_neg h]
/-- What stands in the list for a plan. -/
def gOf (p : Pl) (cr want : Int) : Gnt := if makeE p cr want = 9 then ⟨p.base.grp, 0, 0, true⟩ else makeG p cr want
theorem gOf_amount {p : Pl} {cr want : Int} (hc : 0 ≤ cr) : 0 ≤ (gOf p cr want).amount ∧ (gOf p cr want).amount ≤ cr ∧ (gOf p cr want).amount ≤ 1125899906842624 := by
  unfold gOf
  split
  · exact ⟨Int.le_refl 0, hc, show (0 : Int) ≤ 1125899906842624 by decide⟩
  · rcases makeE_cases p cr want with h | h | h
    · rw [makeG_yes h]
      have := (fit_facts (makeE_ok h).1).2.2
      exact this
    · contradiction
    · rw [makeG_no (by rw [h]; decide)]
      exact ⟨Int.le_refl _, hc, by decide⟩
theorem gOf_bad {p : Pl} {cr want : Int} (h : makeE p cr want = 1) : gOf p cr want = gnt0 := by
  unfold gOf
  rw [if_neg (by rw [h]; decide), makeG_no (by rw [h]; decide)]
theorem makeE_neg {p : Pl} {cr want : Int} (h : cr < 0) : makeE p cr want = 1 := by
  have : fitE p cr want = 1 := by unfold fitE; rw [if_pos (.inr (.inr h))]
  unfold makeE
  rw [if_pos (.inl (by rw [this]; decide))]
/-- One behind the other: grants, and codes. -/
def mGo : List Pl → List Int → Int → List Gnt
  | p :: ps, n :: ns, cr => gOf p cr n :: mGo ps ns (cr - (gOf p cr n).amount)
  | _, _, _ => []
def mEs : List Pl → List Int → Int → List Int
  | p :: ps, n :: ns, cr => makeE p cr n :: mEs ps ns (cr - (gOf p cr n).amount)
  | _, _, _ => []
def apartP (l : List Pl) : Prop := (l.map (·.base.grp)).Nodup
instance (l : List Pl) : Decidable (apartP l) := by unfold apartP; infer_instance
def manyE (l : List Pl) (cr : Int) (ns : List Int) : Int :=
  if ¬ (1 ≤ l.length ∧ l.length ≤ 4) ∨ l.length ≠ ns.length ∨ ¬ apartP l then 1 else if 1 ∈ mEs l ns cr then 1 else if 0 ∈ mEs l ns cr then 0 else 9
def manyG (l : List Pl) (cr : Int) (ns : List Int) : List Gnt := if manyE l cr ns = 0 then mGo l ns cr else []
/-- What is left of the credit behind some. -/
def mCr : List Pl → List Int → Int → Int
  | p :: ps, n :: ns, cr => mCr ps ns (cr - (gOf p cr n).amount)
  | _, _, cr => cr
theorem m_len : ∀ (l : List Pl) (ns : List Int) (cr : Int), l.length = ns.length → (mGo l ns cr).length = l.length ∧ (mEs l ns cr).length = l.length
  | [], [], _, _ => ⟨rfl, rfl⟩
  | p :: ps, n :: ns, cr, h => by
    have := m_len ps ns (cr - (gOf p cr n).amount) (by simpa using h)
    simp [mGo, mEs, this]
theorem mGo_cons (p : Pl) (ps : List Pl) (n : Int) (ns : List Int) (cr : Int) : mGo (p :: ps) (n :: ns) cr = gOf p cr n :: mGo ps ns (cr - (gOf p cr n).amount) := rfl
theorem mEs_cons (p : Pl) (ps : List Pl) (n : Int) (ns : List Int) (cr : Int) : mEs (p :: ps) (n :: ns) cr = makeE p cr n :: mEs ps ns (cr - (gOf p cr n).amount) := rfl
theorem mCr_cons (p : Pl) (ps : List Pl) (n : Int) (ns : List Int) (cr : Int) : mCr (p :: ps) (n :: ns) cr = mCr ps ns (cr - (gOf p cr n).amount) := rfl
theorem mGo_nil (ns : List Int) (cr : Int) : mGo [] ns cr = [] := rfl
theorem mEs_nil (ns : List Int) (cr : Int) : mEs [] ns cr = [] := rfl
theorem mCr_nil (ns : List Int) (cr : Int) : mCr [] ns cr = cr := rfl
theorem m_app (p : Pl) (n : Int) : ∀ (l : List Pl) (ns : List Int) (cr : Int), l.length = ns.length → mGo (l ++ [p]) (ns ++ [n]) cr = mGo l ns cr ++ [gOf p (mCr l ns cr) n] ∧ mEs (l ++ [p]) (ns ++ [n]) cr = mEs l ns cr ++ [makeE p (mCr l ns cr) n] ∧ mCr (l ++ [p]) (ns ++ [n]) cr = mCr l ns cr - (gOf p (mCr l ns cr) n).amount := by
  intro l
  induction l with
  | nil =>
    intro ns cr h
    obtain rfl : ns = [] := List.length_eq_zero_iff.1 h.symm
    rw [List.nil_append, List.nil_append, mGo_cons, mEs_cons, mCr_cons, mGo_nil, mGo_nil, mEs_nil, mEs_nil, mCr_nil, mCr_nil, List.nil_append, List.nil_append]
    exact ⟨rfl, rfl, rfl⟩
  | cons q l ih =>
    intro ns cr h
    match ns, h with
    | m :: ns, h =>
      obtain ⟨h1, h2, h3⟩ := ih ns (cr - (gOf q cr m).amount) (by simpa using h)
      rw [List.cons_append, List.cons_append, mGo_cons, mEs_cons, mCr_cons, mGo_cons, mEs_cons, mCr_cons, h1, h2, h3]
      exact ⟨rfl, rfl, rfl⟩
theorem m_take : ∀ (l : List Pl) (ns : List Int) (cr : Int) (i : Nat), mEs (l.take i) (ns.take i) cr = (mEs l ns cr).take i ∧ mGo (l.take i) (ns.take i) cr = (mGo l ns cr).take i
  | _, _, _, 0 => by simp [mEs_nil, mGo_nil]
  | [], ns, cr, i + 1 => by simp [mEs_nil, mGo_nil]
  | p :: ps, [], cr, i + 1 => by simp [mEs, mGo]
  | p :: ps, n :: ns, cr, i + 1 => by
    obtain ⟨h1, h2⟩ := m_take ps ns (cr - (gOf p cr n).amount) i
    simp only [List.take_succ_cons, mEs_cons, mGo_cons, h1, h2]
    exact ⟨trivial, trivial⟩
def amtsG (gs : List Gnt) : List Int := gs.map (·.amount)
def sumG : List Gnt → Int
  | [] => 0
  | g :: r => g.amount + sumG r
theorem m_sum : ∀ (l : List Pl) (ns : List Int) (cr : Int), 0 ≤ cr → 0 ≤ sumG (mGo l ns cr) ∧ sumG (mGo l ns cr) ≤ cr ∧ (∀ g ∈ mGo l ns cr, 0 ≤ g.amount ∧ g.amount ≤ 1125899906842624) ∧ 0 ≤ mCr l ns cr ∧ mCr l ns cr ≤ cr
  | [], _, cr, h => by simp [mGo, sumG, mCr, h]
  | p :: ps, [], cr, h => by simp [mGo, sumG, mCr, h]
  | p :: ps, n :: ns, cr, h => by
    have ha := gOf_amount (p := p) (want := n) h
    obtain ⟨h1, h2, h3, h4, h5⟩ := m_sum ps ns (cr - (gOf p cr n).amount) (by omega)
    simp only [mGo, sumG, mCr]
    refine ⟨by omega, by omega, fun g hg => ?_, h4, by omega⟩
    rcases List.mem_cons.1 hg with rfl | hg
    · exact ⟨ha.1, ha.2.2⟩
    · exact h3 g hg
theorem m_neg {l : List Pl} {ns : List Int} {cr : Int} (h : cr < 0) (hl : l.length = ns.length) (h0 : 0 < l.length) : 1 ∈ mEs l ns cr := by
  match l, ns, hl with
  | p :: ps, n :: ns, _ => simp [mEs, makeE_neg h]
theorem mCr_neg : ∀ {l : List Pl} {ns : List Int} {cr : Int}, cr < 0 → mCr l ns cr = cr
  | [], ns, cr, _ => by simp [mCr_nil]
  | p :: ps, [], cr, _ => by simp [mCr]
  | p :: ps, n :: ns, cr, h => by
    have e : (gOf p cr n).amount = 0 := by rw [gOf_bad (makeE_neg h)]; rfl
    rw [mCr_cons, e, Int.sub_zero]
    exact mCr_neg h
theorem m_codes : ∀ (l : List Pl) (ns : List Int) (cr : Int), ∀ e ∈ mEs l ns cr, e = 0 ∨ e = 9 ∨ e = 1
  | p :: ps, n :: ns, cr, e, h => by
    rcases List.mem_cons.1 h with rfl | h
    · exact makeE_cases _ _ _
    · exact m_codes ps ns _ e h
  | [], _, _, e, h => by cases h
  | _ :: _, [], _, e, h => by cases h
def settleE (g : Gnt) (p : Pl) (now pos used : Int) : Int :=
  if rateE p now pos used ≠ 0 ∨ g.grp ≠ p.base.grp ∨ g.units < 0 ∨ g.amount < 0 then 1 else if g.units < used then 19 else if g.amount < (rateR p now pos used).cost then 20 else 0
def settleR (g : Gnt) (p : Pl) (now pos used : Int) : Rtd := if settleE g p now pos used = 0 then rateR p now pos used else ⟨[], 0, 0, 0⟩
def settleN (g : Gnt) (p : Pl) (now pos used : Int) : Int := if settleE g p now pos used = 0 then g.amount - (rateR p now pos used).cost else 0
end Go.Proofs.Ytjcabccolkmlmaa
end
section
/- The laws of grants: the plan that comes in, tamed; walked. -/
namespace Go.Proofs.Ytjcabccolkmlmaa
open Go.RowKit
end Go.Proofs.Ytjcabccolkmlmaa
end
section
/- Grants: made, settled, held, by both; walked. -/
namespace Go.Proofs.Ytjcabccolkmlmaa
open Go.RowKit
def gnV (g : Gnt) : Value := .agg #[.int .i64 g.grp, .int .i64 g.units, .int .i64 g.amount, .bool g.fin]
def gnCells (g : Gnt) : List Value := [.int .i64 g.grp, .int .i64 g.units, .int .i64 g.amount, .bool g.fin]
theorem gn_len (g : Gnt) : (gnCells g).length = 4 := rfl
theorem gn_one (g : Gnt) : ∀ v ∈ gnCells g, v.oneCell' = true := by
  intro v hv
  simp [gnCells] at hv
  rcases hv with rfl | rfl | rfl | rfl <;> rfl
abbrev GsAt (n0 : Nat) (w : World) (a : Option Addr) (gs : List Gnt) : Prop := Rws gnCells 4 n0 w a gs
def heldZ (zs : List Int) : Int := if fitB (total zs) = true then total zs else 0
theorem plan0_grant : makeE plan0 7 100 = 0 ∧ makeG plan0 7 100 = ⟨1, 20, 6, true⟩ ∧ settleE ⟨1, 20, 6, true⟩ plan0 0 0 15 = 0 ∧ (settleR ⟨1, 20, 6, true⟩ plan0 0 0 15).cost = 6 ∧ settleN ⟨1, 20, 6, true⟩ plan0 0 0 15 = 0 := by decide +kernel
end Go.Proofs.Ytjcabccolkmlmaa
end
section
/- Grants, and pairs of plans, that came in. No program in sight. -/
namespace Go.Proofs.Ytjcabccolkmlmaa
open Go.RowKit Go.WideShapes Go.ChangeShapes
theorem open_arr3 {H : Type} {enc : TypeId × Value → H} {P : Program} {W : World} {r : Reach} {base : Nat} {t : TypeId} {v : Value} {d : DataW H} {p : List MemPlace} (hf : fitsB P (.arr 3 (.int .i64) 1) t = true) (hc : P.cellsOf t = 3) (hv : Value.okWide P W r base t v)
    (h : DataW.Trod enc P W 0 (fun _ => true) true t v d p) : ∃ x y z : Int, v = .agg #[.int .i64 x, .int .i64 y, .int .i64 z] ∧ (-9223372036854775808 ≤ x ∧ x ≤ 9223372036854775807) ∧ (-9223372036854775808 ≤ y ∧ y ≤ 9223372036854775807) ∧ -9223372036854775808 ≤ z ∧ z ≤ 9223372036854775807 := by
  obtain ⟨zs, hz, rfl, hr⟩ := open_arrI 3 hf hc hv h
  match zs, hz with
  | [x, y, z], _ => exact ⟨x, y, z, rfl, hr x (by simp), hr y (by simp), hr z (by simp)⟩
def shGnt : Sh := .agg (.fcons 0 1 (.int .i64) (.fcons 1 1 (.int .i64) (.fcons 2 1 (.int .i64) (.fcons 3 1 .bool .fnil))))
theorem open_gnt {H : Type} {enc : TypeId × Value → H} {P : Program} {W : World} {r : Reach} {base : Nat} {t : TypeId} {v : Value} {d : DataW H} {p : List MemPlace} (hf : fitsB P shGnt t = true) (hc : P.cellsOf t = 4) (hv : Value.okWide P W r base t v) (h : DataW.Trod enc P W 0 (fun _ => true) true t v d p) :
    ∃ g : Gnt, v = gnV g ∧ -9223372036854775808 ≤ g.amount ∧ g.amount ≤ 9223372036854775807 := by
  obtain ⟨cs, rfl, hs⟩ := okWide_str hf hv
  obtain ⟨⟨x, hx, _⟩, ⟨y, hy, _⟩, ⟨z, hz, wz⟩, ⟨b, hb⟩, _⟩ := open_sh hf h
  obtain ⟨l⟩ := cs
  match l, (show l.length = 4 by simpa [hc] using hs) with
  | [v0, v1, v2, v3], _ =>
    simp [Value.cells] at hx hy hz hb
    subst hx; subst hy; subst hz; subst hb
    exact ⟨⟨x, y, z, b⟩, rfl, i64_range wz⟩
end Go.Proofs.Ytjcabccolkmlmaa
end
section
/- Both books side by side: one call on both; are both the same?; walked. -/
namespace Go.Proofs.Ytjcabccolkmlmaa
open Go.RowKit Go.WideShapes Go.ChangeShapes
structure FB2 (w : World) (g mb gr : Nat) (A : FB) : Prop where
  t : FbAt w g mb A
  r : RbAt w gr A
  wf : FWf A
section
variable {w w1 : World} {g mb gr : Nat} {A A' : FB}
theorem FB2.ne (h : FB2 w g mb gr A) : g ≠ gr ∧ mb ≠ gr ∧ g ≠ mb := by
  obtain ⟨m, hm, _⟩ := h.t.map
  exact ⟨h.t.blk.ne h.r (by decide), fun e => hm.ne_cells h.r e.symm, hm.ne_cells h.t.blk⟩
theorem FB2.below (h : FB2 w g mb gr A) (b : Below w.heap.size w w1) : FB2 w1 g mb gr A := ⟨h.t.below b, h.r.below b, h.wf⟩
theorem FB2.lt (h : FB2 w g mb gr A) : g < w.heap.size ∧ mb < w.heap.size ∧ gr < w.heap.size := ⟨h.t.lt.1, h.t.lt.2, h.r.lt⟩
end
def act7 (A : FB) (x : FAct) : FB :=
  let z := (IntKind.u64.wrap x.what) % 7
  if z = 0 then topD A x.node x.amt else if z = 1 then holdD A x.p x.l x.amt else if z = 2 then awayD A 0 x.p x.amt else if z = 3 then awayD A 1 x.p x.amt else if z = 4 then awayD A 2 x.p x.amt else if z = 5 then rollD A x.node x.carry else setD A x.node x.acc
theorem act7_wf {A : FB} (h : FWf A) (x : FAct) : FWf (act7 A x) := by
  unfold act7
  dsimp only
  split
  · exact h.top _ _
  split
  · exact h.hold _ _ _
  split
  · exact h.away _ _ _
  split
  · exact h.away _ _ _
  split
  · exact h.away _ _ _
  split
  · exact h.roll _ _
  · exact h.set _ _
theorem act_mod7 (what : Int) : IntKind.i64.wrap (Int.tmod (IntKind.u64.wrap what) 7) = IntKind.u64.wrap what % 7 := by
  have h0 : 0 ≤ IntKind.u64.wrap what := by rw [IntKind.wrap_u64]; omega
  rw [Int.tmod_eq_emod_of_nonneg h0]
  exact wr64 (by omega) (by omega)
theorem two_doF {w w3 w4 w5 : World} {g mb gr : Nat} {A A' : FB} (h : FB2 w g mb gr A) (b2 : Below w.heap.size w w3) (f4 : Fr [mb] w3 w4) (t4 : FbAt w4 g mb A') (f5 : Fr [gr] w4 w5) (r5 : RbAt w5 gr A') (hW : FWf A') : FB2 w5 g mb gr A' ∧ Fr [mb, gr] w w5 := by
  obtain ⟨n1, n2, n3⟩ := h.ne
  refine ⟨⟨t4.fr f5 (by simp; omega) (by simp; omega), r5, hW⟩, ?_⟩
  have e1 : Fr [mb, gr] w w3 := Fr.ofBelow b2
  have e2 : Fr [mb, gr] w3 w4 := f4.mono fun k hk => .inl (by simp at hk; simp [hk])
  have e3 : Fr [mb, gr] w4 w5 := f5.mono fun k hk => .inl (by simp at hk; simp [hk])
  exact (e1.trans e2 (Gr.refl _ _)).trans e3 (Gr.refl _ _)
set_option maxRecDepth 10000 in
theorem ldoF_any {w : World} {g mb gr : Nat} {A : FB} (h : FB2 w g mb gr A) {x : FAct} (hx : FActOk w x) :
    Calls Try.prog 16 #[factV x, .pointer (some ⟨g, 0, none⟩), .pointer (some ⟨gr, 0, none⟩)] w fun e w' => e = .returned (.bool true) ∧ FB2 w' g mb gr (act7 A x) ∧ Fr [mb, gr] w w' := by
  refine (GFuR.ldo_calls x.what x.node x.pa x.path.length x.pc x.la x.lims.length x.lc x.amt x.carry x.acc.t x.acc.c x.acc.e x.acc.u x.acc.h (some ⟨g, 0, none⟩) (some ⟨gr, 0, none⟩) w (fun u w' => u = .bool true ∧ FB2 w' g mb gr (act7 A x) ∧ Fr [mb, gr] w w') ?_).mono (by rintro e w' ⟨v, rfl, rfl, h⟩; exact ⟨rfl, h⟩)
  have hW' := act7_wf h.wf x
  unfold GFuR.ldo_vc
  rw [act_mod7]
  obtain ⟨l1, l2, l3⟩ := h.lt
  obtain ⟨n1, n2, n3⟩ := h.ne
  have lp := x.plen
  have ll := x.llen
  refine newB (Bs.refl w) fun g1 w2 g10 sg1 ng z2 b2 B2 => (llists_new (hx.below b2)).mono ?_
  rintro e w3 ⟨a, c, a2, c2, rfl, m1, m2, bl⟩
  have B3 := B2.to bl
  have h3 := h.below B3
  have hs3 := bl.size
  have hk1 : ∀ {wa wb : World}, Fr [mb] wa wb → KeepG [g1] wa wb := fun f => keepG_fr f fun q hq hq2 => by rw [List.mem_singleton] at hq hq2; omega
  have hk2 : ∀ {wa wb : World}, Fr [gr] wa wb → KeepG [g1] wa wb := fun f => keepG_fr f fun q hq hq2 => by rw [List.mem_singleton] at hq hq2; omega
  have fin : ∀ {w3 w4 w5 : World} {z : Int} {A' : FB}, act7 A x = A' → Bs w w3 → Fr [mb] w3 w4 → FbAt w4 g mb A' → Fr [gr] w4 w5 → RbAt w5 gr A' → (Value.bool (decide (z = z)) = .bool true ∧ FB2 w5 g mb gr (act7 A x) ∧ Fr [mb, gr] w w5) := fun {w3 w4 w5 z A'} e b f4 t4 f5 r5 => by
    rw [e] at hW' ⊢
    have := two_doF h b f4 t4 f5 r5 hW'
    exact ⟨by rw [decide_eq_true rfl], this.1, this.2⟩
  have rkeep : ∀ {wa wb : World}, Bs w wa → Fr [mb] wa wb → RbAt wb gr A := fun b f => (h.r.below b).fr f (by simp; omega)
  refine ⟨keepG_below bl, a, _, c, a2, _, c2, rfl, by decide, ?_⟩
  refine br_dec (fun q => drewB B3 fun w4 b4 B4 e4 => (ftop_any (h.t.below B4) h.wf x.node x.amt).mono ?_) fun q0 =>
    br_dec (fun q => drewB B3 fun w4 b4 B4 e4 => (fhold_any (h.t.below B4) h.wf (m1.below b4).row (by omega) m1.cap (m2.below b4).row (by omega) x.amt).mono ?_) fun q1 =>
    br_dec (fun q => drewB B3 fun w4 b4 B4 e4 => (frel_any (h.t.below B4) h.wf (m1.below b4).row (by omega) m1.cap x.amt).mono ?_) fun q2 =>
    br_dec (fun q => drewB B3 fun w4 b4 B4 e4 => (fcom_any (h.t.below B4) h.wf (m1.below b4).row (by omega) m1.cap x.amt).mono ?_) fun q3 =>
    br_dec (fun q => drewB B3 fun w4 b4 B4 e4 => (fref_any (h.t.below B4) h.wf (m1.below b4).row (by omega) m1.cap x.amt).mono ?_) fun q4 =>
    br_dec (fun q => (froll_any h3.t h.wf x.node x.carry).mono ?_) fun q5 => drewB B3 fun w4 b4 B4 e4 => callB B4 (lto_ret x.acc w4) fun w5 b5 B5 => ⟨_, _, _, _, _, rfl, (fseta_any (h.t.below B5) x.node x.acc).mono ?_⟩
  · rintro e w5 ⟨rfl, t5, f5⟩
    refine ⟨hk1 f5, _, rfl, (qtop_any (rkeep B4 f5) h.wf x.node x.amt).mono ?_⟩
    rintro e w6 ⟨rfl, r6, f6⟩
    exact ⟨hk2 f6, _, rfl, fin (by unfold act7; rw [if_pos q]) B4 f5 t5 f6 r6⟩
  · rintro e w5 ⟨rfl, t5, f5⟩
    have k1 := (m1.below b4).keep f5 (fun k hk => by rw [List.mem_singleton] at hk; omega)
    have k2 := (m2.below b4).keep f5 (fun k hk => by rw [List.mem_singleton] at hk; omega)
    refine ⟨hk1 f5, _, rfl, (qhold_any (rkeep B4 f5) h.wf k1.row (by omega) k2.row (by omega) (k1.ne (by omega)) x.amt).mono ?_⟩
    rintro e w6 ⟨rfl, r6, f6⟩
    exact ⟨hk2 f6, _, rfl, fin (by unfold act7; rw [if_neg q0, if_pos q]) B4 f5 t5 f6 r6⟩
  · rintro e w5 ⟨rfl, t5, f5⟩
    have k1 := (m1.below b4).keep f5 (fun k hk => by rw [List.mem_singleton] at hk; omega)
    refine ⟨hk1 f5, _, rfl, (qmove_any (rkeep B4 f5) h.wf k1.row (by omega) (k1.ne (by omega)) 0 x.amt (.inl rfl)).mono ?_⟩
    rintro e w6 ⟨rfl, r6, f6⟩
    exact ⟨hk2 f6, _, rfl, fin (by unfold act7; rw [if_neg q0, if_neg q1, if_pos q]) B4 f5 t5 f6 r6⟩
  · rintro e w5 ⟨rfl, t5, f5⟩
    have k1 := (m1.below b4).keep f5 (fun k hk => by rw [List.mem_singleton] at hk; omega)
    refine ⟨hk1 f5, _, rfl, (qmove_any (rkeep B4 f5) h.wf k1.row (by omega) (k1.ne (by omega)) 1 x.amt (.inr (.inl rfl))).mono ?_⟩
    rintro e w6 ⟨rfl, r6, f6⟩
    exact ⟨hk2 f6, _, rfl, fin (by unfold act7; rw [if_neg q0, if_neg q1, if_neg q2, if_pos q]) B4 f5 t5 f6 r6⟩
  · rintro e w5 ⟨rfl, t5, f5⟩
    have k1 := (m1.below b4).keep f5 (fun k hk => by rw [List.mem_singleton] at hk; omega)
    refine ⟨hk1 f5, _, rfl, (qmove_any (rkeep B4 f5) h.wf k1.row (by omega) (k1.ne (by omega)) 2 x.amt (.inr (.inr rfl))).mono ?_⟩
    rintro e w6 ⟨rfl, r6, f6⟩
    exact ⟨hk2 f6, _, rfl, fin (by unfold act7; rw [if_neg q0, if_neg q1, if_neg q2, if_neg q3, if_pos q]) B4 f5 t5 f6 r6⟩
  · rintro e w5 ⟨rfl, t5, f5⟩
    refine ⟨hk1 f5, _, _, rfl, (qroll_any (rkeep B3 f5) h.wf x.node x.carry).mono ?_⟩
    rintro e w6 ⟨rfl, r6, f6⟩
    exact ⟨hk2 f6, _, _, rfl, br_y rfl (fin (by unfold act7; rw [if_neg q0, if_neg q1, if_neg q2, if_neg q3, if_neg q4, if_pos q]) B3 f5 t5 f6 r6)⟩
  · rintro e w6 ⟨rfl, t6, f6⟩
    have hact : act7 A x = setD A x.node x.acc := by unfold act7; rw [if_neg q0, if_neg q1, if_neg q2, if_neg q3, if_neg q4, if_neg q5]
    have hr6 := rkeep B5 f6
    refine ⟨hk1 f6, _, rfl, callB (Bs.refl w6) (qnode_ret x.node w6) fun w7 b7 B7 => ⟨_, rfl, br_not (br_dec (fun hn => ?_) fun hn => ?_)⟩⟩
    · refine callB B7 (qright_ret x.acc w7) fun w8 b8 B8 => ⟨_, rfl, br_not (br_dec (fun hr => drewB B8 fun w9 b9 B9 e9 => ?_) fun hr => ?_)⟩
      · have e0 : setE x.node x.acc = 0 := by unfold setE; rw [if_pos ⟨hn, hr⟩]
        have eD : setD A x.node x.acc = upF A x.node x.acc := by unfold setD; rw [if_pos ⟨hn, hr⟩]
        have hn' := hn
        unfold NodeOk at hn'
        rw [e0]
        refine ⟨by omega, by omega, rb_setA (hr6.below B9) hn x.acc (by simp; omega) fun w10 t10 f10 z10 => ?_⟩
        exact fin (z := 0) (A' := setD A x.node x.acc) hact B5 f6 t6 ((Fr.ofBelow B9).trans f10 (Gr.refl _ _)) (by rw [eD]; exact t10)
      · have e1 : setE x.node x.acc = 1 := by unfold setE; rw [if_neg fun q => hr q.2]
        have eD : setD A x.node x.acc = A := by unfold setD; rw [if_neg fun q => hr q.2]
        rw [e1]
        exact fin (z := 1) (A' := setD A x.node x.acc) hact B5 f6 t6 (Fr.ofBelow B8) (by rw [eD]; exact hr6.below B8)
    · have e1 : setE x.node x.acc = 1 := by unfold setE; rw [if_neg fun q => hn q.1]
      have eD : setD A x.node x.acc = A := by unfold setD; rw [if_neg fun q => hn q.1]
      rw [e1]
      exact fin (z := 1) (A' := setD A x.node x.acc) hact B5 f6 t6 (Fr.ofBelow B7) (by rw [eD]; exact hr6.below B7)
def nodesN (A : FB) (i : Nat) : List Int := (ids32.take i).filter fun k => decide (¬ (A k).Nil)
theorem nodesN_step (A : FB) (i : Nat) (hi : i < 32) : nodesN A (i + 1) = nodesN A i ++ if (A ((i : Int) + 1)).Nil then [] else [(i : Int) + 1] := by
  unfold nodesN
  rw [List.take_add_one, show ids32[i]? = some ((i : Int) + 1) by simp [ids32, hi], List.filter_append]
  congr 1
  by_cases h : (A ((i : Int) + 1)).Nil
  · simp [h]
  · simp [h]
theorem nodesN_le (A : FB) (i : Nat) : (nodesN A i).length ≤ 32 := by
  have h1 := List.length_filter_le (fun k => decide (¬ (A k).Nil)) (ids32.take i)
  have h2 : (ids32.take i).length ≤ 32 := by rw [List.length_take]; simp [ids32]; omega
  exact Nat.le_trans h1 h2
theorem five_t {a : Ac} : (decide (a.t = a.t) && (decide (a.c = a.c) && (decide (a.e = a.e) && (decide (a.u = a.u) && (decide (a.h = a.h) && true))))) = true := by simp
theorem five_nil (a : Ac) : (decide (a.t = 0) && (decide (a.c = 0) && (decide (a.e = 0) && (decide (a.u = 0) && (decide (a.h = 0) && true))))) = decide a.Nil := by
  rw [Bool.eq_iff_iff, decide_eq_true_iff]
  unfold Ac.Nil
  simp
theorem llikeF_ret {w : World} {g mb gr : Nat} {A : FB} (h : FB2 w g mb gr A) : Calls Try.prog 67 #[.pointer (some ⟨g, 0, none⟩), .pointer (some ⟨gr, 0, none⟩)] w (Ret (.bool true) w) := by
  refine ret_in (GFuR.llike_calls (some ⟨g, 0, none⟩) (some ⟨gr, 0, none⟩) w (fun u w' => u = .bool true ∧ Below w.heap.size w w') ?_)
  unfold GFuR.llike_vc
  refine ⟨fun a n c x wy => ∃ i : Nat, x = (i : Int) + 1 ∧ i ≤ 32 ∧ n = (nodesN A i).length ∧ Mine wy w.heap.size a c (nodesN A i) ∧ Bs w wy, fun _ _ _ x _ => 33 - x.toNat, ⟨0, rfl, by omega, rfl, Own.nil _ _ _ _, Bs.refl _⟩, ?_⟩
  rintro a n c x wy ⟨i, rfl, hi32, rfl, hO, By⟩
  have hy := h.below By
  have hW := h.wf
  refine br_dec (fun hlt => ?_) fun hge => ?_
  · have hil : i < 32 := by omega
    have hl := nodesN_le A i
    obtain ⟨⟨k1, k2, k3, k4, k5⟩, k6, k7⟩ := (hW ((i : Int) + 1)).1.all
    have hL := (hW ((i : Int) + 1)).1.2.2
    rw [wr64 (by omega) (by omega)]
    refine ⟨by omega, by omega, _, _, _, _, _, rb_cells hy.r ⟨by omega, by omega⟩, newB By fun g2 w2 g20 sg2 n2 z2 b2 B2 => boxB B2 g20 fun w3 h3 B3 z3 => drewB B3 fun w4 b4 B4 e4 => ?_⟩
    have bx3 : Bs wy w3 := Bs.box (show Bs wy w2 from b2) (by omega) h3
    have bx : Below wy.heap.size wy w4 := Bs.to bx3 b4
    have h4 := hy.below bx
    refine callB B4 (fget_ret h4.t ((i : Int) + 1)) fun w5 b5 B5 => ⟨_, _, _, _, _, rfl, callB B5 (lto_ret (A ((i : Int) + 1)) w5) fun w6 b6 B6 => ⟨_, _, _, _, _, rfl, br_f (by rw [five_t]; rfl) ?_⟩⟩
    have h6 := (h4.below b5).below b6
    refine callB B6 (favail_ret h6.t hW ((i : Int) + 1)) fun w7 b7 B7 => ⟨_, rfl, callB B7 (qleft_ret (hW ((i : Int) + 1)).1.1 w7) fun w8 b8 B8 => ⟨_, rfl, br_n (fun q => q rfl) (callB B8 (qleft_ret (hW ((i : Int) + 1)).1.1 w8) fun w9 b9 B9 => ⟨_, rfl, br_n (by omega) (br_n (by omega) ?_)⟩)⟩⟩
    have hO9 : Mine w9 w.heap.size a c (nodesN A i) := ((((((hO.below bx).below b5).below b6).below b7).below b8).below b9)
    have hs : g2 < w9.heap.size ∧ wy.heap.size ≤ w9.heap.size := by
      have := b4.size; have := b5.size; have := b6.size; have := b7.size; have := b8.size; have := b9.size
      omega
    rw [five_nil]
    refine br_not (br_dec (fun hz => ⟨⟨i + 1, by omega, by omega, ?_, ?_, B9⟩, by dsimp only; omega⟩) fun hz => newB B9 fun g3 w10 g30 sg3 n10 z10 b10 B10 => ?_)
    · rw [nodesN_step A i hil, if_pos hz, List.append_nil]
    · rw [nodesN_step A i hil, if_pos hz, List.append_nil]; exact hO9
    · refine appB B10 (hO9.below b10) (Nat.le_refl _) B10.size (src_block (cs := [.int .i64 ((i : Int) + 1)]) Try.underlying23 n10 rfl rfl) (by unfold maxLen; omega) (by omega) (fun q hq e => ?_) fun a' c' w11 o11 gr11 B11 z11 => ⟨⟨i + 1, by omega, by omega, ?_, ?_, B11⟩, by dsimp only; omega⟩
      · rw [List.mem_singleton] at hq
        have := (Own.lt hO q e).2
        omega
      · rw [nodesN_step A i hil, if_neg hz]; simp
      · rw [nodesN_step A i hil, if_neg hz]
        unfold Mine
        rw [List.map_append, List.length_append]
        exact o11
  · obtain rfl : i = 32 := by omega
    have hids : nodesN A 32 = nodesF A := by
      unfold nodesN nodesF
      rw [List.take_of_length_le (by simp [ids32])]
    have hl := nodesN_le A 32
    rw [hids] at hO hl ⊢
    refine (fnodes_new hy.t hW).mono ?_
    rintro e w2 ⟨ai, ni, ci, rfl, rfl, oi, bi⟩
    have B2 := By.to bi
    exact ⟨keepG_below bi, ai, _, ci, rfl, callB B2 (rSameF_true ai a ci c (nodesF A) w2 (by omega) (Own.row oi) (hO.below bi).row) fun w3 b3 B3 => ⟨_, rfl, rfl, B3⟩⟩
/-! The rows of calls that come in. -/
def FActAt (w : World) (b off : Nat) (x : FAct) : Prop := cellsAt w b off (factC x) ∧ FActOk w x
theorem FActAt.below {w w' : World} {b off : Nat} {x : FAct} (h : FActAt w b off x) (hb : Below w.heap.size w w') : FActAt w' b off x := ⟨cellsAt_below h.1 hb (Nat.le_refl _), h.2.below hb⟩
def shAc : Sh := .agg (.fcons 0 1 (.int .i64) (.fcons 1 1 (.int .i64) (.fcons 2 1 (.int .i64) (.fcons 3 1 (.int .i64) (.fcons 4 1 (.int .i64) .fnil)))))
def shFAct : Sh := .agg (.fcons 0 1 (.int .i64) (.fcons 1 1 (.int .i64) (.fcons 2 1 (.slice (.int .i64) 1) (.fcons 3 1 (.slice (.int .i64) 1) (.fcons 4 1 (.int .i64) (.fcons 5 1 .bool (.fcons 6 5 shAc .fnil)))))))
theorem int_elem {w : World} (cs' : List Value) (b off : Nat) (hl : cs'.length = 1) (hc : cellsAt w b off cs') (h : (Sh.int .i64).Has w cs') : ∃ z : Int, cellsAt w b off [.int .i64 z] := by
  obtain ⟨x, hx, _⟩ := h
  match cs', hl with
  | [v0], _ =>
    simp at hx
    subst hx
    exact ⟨x, hc⟩
theorem rows_row {w : World} {a : Option Addr} {zs : List Int} (h : RowsAt (fun w b off (z : Int) => cellsAt w b off [.int .i64 z]) 1 w a zs) : RowAt w a (zs.map iV) := by
  rcases h with h | ⟨b, off, ha, h⟩
  · subst h; exact .inl rfl
  · refine .inr ⟨b, off, ha, fun i v hv => ?_⟩
    rw [List.getElem?_map, Option.map_eq_some_iff] at hv
    obtain ⟨z, hz, rfl⟩ := hv
    have := cellsAt_get (h i z hz) 0 _ rfl
    rwa [Nat.mul_one, Nat.add_zero] at this
theorem fact_of {w : World} (cs' : List Value) (hl : cs'.length = 11) (h : shFAct.Has w cs') : ∃ x, cs' = factC x ∧ FActOk w x := by
  obtain ⟨⟨x0, h0, _⟩, ⟨x1, h1, _⟩, hp, hq, ⟨x4, h4, _⟩, ⟨b5, h5⟩, ⟨⟨y0, e0, _⟩, ⟨y1, e1, _⟩, ⟨y2, e2, _⟩, ⟨y3, e3, _⟩, ⟨y4, e4, _⟩, _⟩, _⟩ := h
  obtain ⟨ps, a, c, p1, p2, _, p3⟩ := has_rows (R := fun w b off (z : Int) => cellsAt w b off [.int .i64 z]) (by decide) int_elem hp
  obtain ⟨qs, a2, c2, q1, q2, _, q3⟩ := has_rows (R := fun w b off (z : Int) => cellsAt w b off [.int .i64 z]) (by decide) int_elem hq
  match cs', hl with
  | [v0, v1, v2, v3, v4, v5, v6, v7, v8, v9, v10], _ =>
    simp at h0 h1 p1 q1 h4 h5 e0 e1 e2 e3 e4
    subst h0; subst h1; subst p1; subst q1; subst h4; subst h5; subst e0; subst e1; subst e2; subst e3; subst e4
    exact ⟨⟨x0, x1, a, c, ps, a2, c2, qs, x4, b5, ⟨y0, y1, y2, y3, y4⟩⟩, rfl, rows_row p3, p2, rows_row q3, q2⟩
theorem fact_elem {w : World} (cs' : List Value) (b off : Nat) (hl : cs'.length = 11) (hc : cellsAt w b off cs') (h : shFAct.Has w cs') : ∃ x, FActAt w b off x := by
  obtain ⟨x, rfl, hx⟩ := fact_of cs' hl h
  exact ⟨x, hc, hx⟩
theorem open_facts {H : Type} {enc : TypeId × Value → H} {W : World} {t : TypeId} {v : Value} {d : DataW H} {p : List MemPlace} (hf : fitsB Try.prog (.slice shFAct 11) t = true) (hv : ∃ a l c, v = .slice a l c) (h : DataW.Trod enc Try.prog W 0 (fun _ => true) true t v d p) :
    ∃ (xs : List FAct) (a : Option Addr) (c : Nat), v = .slice a xs.length c ∧ RowsAt FActAt 11 W a xs ∧ xs.length ≤ c ∧ c ≤ maxLen := open_rows (by decide) fact_elem hf hv h
theorem open_fact {H : Type} {enc : TypeId × Value → H} {P : Program} {W : World} {r : Reach} {base : Nat} {t : TypeId} {v : Value} {d : DataW H} {p : List MemPlace} (hf : fitsB P shFAct t = true) (hc : P.cellsOf t = 11) (hv : Value.okWide P W r base t v) (h : DataW.Trod enc P W 0 (fun _ => true) true t v d p) :
    ∃ x : FAct, v = factV x ∧ FActOk W x := by
  obtain ⟨cs, rfl, hs⟩ := okWide_str hf hv
  obtain ⟨x, hx, ho⟩ := fact_of _ (by simpa [Value.cells, hc] using hs) (open_sh hf h)
  refine ⟨x, ?_, ho⟩
  obtain ⟨l⟩ := cs
  simp [Value.cells] at hx
  subst hx
  rfl
abbrev FActs (w : World) (a : Option Addr) (xs : List FAct) : Prop := RowsAt FActAt 11 w a xs
theorem factsF_below {w w' : World} {a : Option Addr} {xs : List FAct} (h : FActs w a xs) (hb : Below w.heap.size w w') : FActs w' a xs := h.mono fun _ _ _ q => q.below hb
end Go.Proofs.Ytjcabccolkmlmaa
end
section
/- FundsRolls, FundsRooms, FundsActs; walked. -/
namespace Go.Proofs.Ytjcabccolkmlmaa
open Go.RowKit
theorem rb_new {w : World} {g : Nat} (h : w.heap[g]? = some (.cells (sArr 33 5 fun _ => acL ac0) 33 (0, 0))) : RbAt w g (fun _ => ac0) := h
theorem rowsF_ok {w : World} {a : Option Addr} {xs : List FAct} (hx : FActs w a xs) (i : Nat) (hi : i < xs.length) {wx : World} (B : Bs w wx) :
    ∃ b off, a = some ⟨b, off, none⟩ ∧ cellsAt wx b (off + i * 11) (factC xs[i]) ∧ FActOk wx xs[i] := by
  obtain ⟨b, off, ha, hc⟩ := RowsAt.get (factsF_below hx B) hi
  exact ⟨b, off, ha, hc.1, hc.2⟩
/-- What the laws know behind their loops. -/
structure At2 (w wx : World) (g mb gr : Nat) (A : FB) : Prop where
  two : FB2 wx g mb gr A
  bs : Bs w wx
  m0 : w.heap.size ≤ mb
  r0 : w.heap.size ≤ gr
section
variable {w wx wy : World} {g mb gr : Nat} {A A' : FB}
theorem At2.below (h : At2 w wx g mb gr A) (b : Below wx.heap.size wx wy) : At2 w wy g mb gr A := ⟨h.two.below b, h.bs.to b, h.m0, h.r0⟩
theorem At2.step (h : At2 w wx g mb gr A) (t : FB2 wy g mb gr A') (f : Fr [mb, gr] wx wy) : At2 w wy g mb gr A' := ⟨t, h.bs.fr f fun k hk => by
  simp at hk
  rcases hk with rfl | rfl
  · exact h.m0
  · exact h.r0, h.m0, h.r0⟩
end
theorem node_of (x : Int) : IntKind.i64.wrap (1 + IntKind.i64.wrap (Int.tmod (IntKind.u64.wrap x) 32)) = 1 + IntKind.u64.wrap x % 32 := by
  have h0 : 0 ≤ IntKind.u64.wrap x := by rw [IntKind.wrap_u64]; omega
  rw [Int.tmod_eq_emod_of_nonneg h0, wr64 (z := IntKind.u64.wrap x % 32) (by omega) (by omega), wr64 (by omega) (by omega)]
theorem lrolls_k1_ok {w wx : World} {g mb gr : Nat} {A : FB} (h : At2 w wx g mb gr A) (x : Int) (carry : Bool) :
    GFuR.lrolls_k1 (fun u w' => u = .bool true ∧ Below w.heap.size w w') x carry (some ⟨g, 0, none⟩) wx := by
  unfold GFuR.lrolls_k1
  rw [node_of]
  have h0 : 0 ≤ IntKind.u64.wrap x := by rw [IntKind.wrap_u64]; omega
  have hn : NodeOk (1 + IntKind.u64.wrap x % 32) := ⟨by omega, by omega⟩
  generalize 1 + IntKind.u64.wrap x % 32 = n at hn ⊢
  have hW := h.two.wf
  obtain ⟨l1, l2, l3⟩ := h.two.lt
  obtain ⟨⟨k1, k2, k3, k4, k5⟩, k6, k7⟩ := (hW n).1.all
  have hL := (hW n).1.2.2
  have hv : (A n).left = (A n).t + (A n).c - (A n).e - (A n).u - (A n).h := rfl
  have B := h.bs
  have hA : rollD A n carry n = rollA (A n) carry := by unfold rollD; rw [if_pos hn, upF_same]
  have hE : rollE n = 0 := by unfold rollE; rw [if_pos hn]
  have hG : goneF A n carry = if carry = true then 0 else (A n).left := by unfold goneF; rw [if_pos hn]
  have hW' : FWf (rollD A n carry) := hW.roll n carry
  have hl : (rollA (A n) carry).left = (A n).left - goneF A n carry := by rw [hG]; unfold rollA Ac.left; dsimp only; omega
  refine ⟨by decide, callB B (fget_ret h.two.t n) fun w2 b2 B2 => ⟨_, _, _, _, _, rfl, newB B2 fun g2 w3 g20 sg2 n3 z3 b3 B3 => boxB B3 g20 fun w4 h4 B4 z4 => ?_⟩⟩
  have bx4 : Bs wx w4 := Bs.box (Bs.to (show Bs wx w2 from b2) b3) (by have := b2.size; omega) h4
  have t4 : FbAt w4 g mb A := h.two.t.below bx4
  have s2 := b2.size
  refine callB B4 (favail_ret t4 hW n) fun w5 b5 B5 => ⟨_, rfl, (froll_any (t4.below b5) hW n carry).mono ?_⟩
  rintro e w6 ⟨rfl, t6, f6⟩
  have B6 := B5.fr1 f6 h.m0
  refine ⟨keepG_fr f6 (fun q hq hq2 => by rw [List.mem_singleton] at hq hq2; omega), _, _, rfl, callB B6 (fget_ret t6 n) fun w7 b7 B7 => ?_⟩
  rw [hA]
  refine ⟨_, _, _, _, _, rfl, newB B7 fun g3 w8 g30 sg3 n8 z8 b8 B8 => boxB B8 g30 fun w9 h9 B9 z9 => callB B9 (lhaves_ret w9) fun w10 b10 B10 => ⟨_, rfl, br_f rfl ?_⟩⟩
  have bx9 : Bs w6 w9 := Bs.box (Bs.to (show Bs w6 w7 from b7) b8) (by have := b7.size; omega) h9
  have t10 := (t6.below bx9).below b10
  rw [hE]
  refine br_n (fun q => q rfl) (br_n (fun q => q rfl) (br_n (fun q => q rfl) (br_n (fun q => q rfl) (br_n (fun q => q rfl) (callB B10 (favail_ret t10 hW' n) fun w11 b11 B11 => ⟨_, rfl, ?_⟩)))))
  rw [hA, hl]
  have hg1 : 0 ≤ goneF A n carry ∧ goneF A n carry ≤ (A n).left := by rw [hG]; split <;> omega
  rw [wr64 (z := (A n).left - goneF A n carry) (by omega) (by omega), wr64 (z := (A n).left + (A n).h) (by omega) (by omega)]
  refine br_n (fun q => q rfl) ?_
  cases carry
  · refine br_f rfl (br_y (by rw [hG]; rfl) (br_y (by unfold rollA; simp; omega) (callB B11 (favail_ret (t10.below b11) hW' n) fun w12 b12 B12 => ⟨_, rfl, ?_, B12⟩)))
    rw [hA, hl, hG]
    simp
  · refine br_t rfl (br_y (by rw [hG]; rfl) ⟨?_, B11⟩)
    unfold rollA
    simp
set_option maxRecDepth 20000 in
theorem lrolls_walk (a : Option Addr) (c : Nat) (xs : List FAct) (x : Int) (carry : Bool) (w : World) (hl : xs.length ≤ maxLen) (hx : FActs w a xs) :
    Calls Try.prog 4 #[.slice a xs.length c, .int .i64 x, .bool carry] w (Ret (.bool true) w) := by
  refine ret_in (GFuR.lrolls_calls a xs.length c x carry w (fun u w' => u = .bool true ∧ Below w.heap.size w w') ?_)
  unfold GFuR.lrolls_vc
  have hlm : xs.length ≤ 9223372036854775807 := by unfold maxLen at hl; omega
  refine (fnew_new w).mono ?_
  rintro e w2 ⟨g, mb, rfl, t2, g0, mb0, b2⟩
  refine ⟨keepG_nil _ _, _, rfl, newB b2 fun gr w3 gr0 sgr n3 z3 b3 B3 => ?_⟩
  have r3 : RbAt w3 gr (fun _ => ac0) := rb_new (by rw [n3]; rfl)
  refine ⟨fun x wx => ∃ (i : Nat) (A : FB), x = i ∧ i ≤ xs.length ∧ At2 w wx g mb gr A, fun x _ => xs.length - x.toNat, ⟨0, fun _ => ac0, rfl, by omega, ⟨t2.below b3, r3, fwf0⟩, B3, mb0, gr0⟩, ?_⟩
  rintro y wx ⟨i, A, rfl, hix, hT⟩
  have hk := lrolls_k1_ok hT x carry
  refine br_dec (fun hlt => br_dec (fun h50 => ?_) fun _ => hk) fun _ => hk
  have hil : i < xs.length := by omega
  obtain ⟨b, off, rfl, hcc, hok⟩ := rowsF_ok hx i hil hT.bs
  refine ⟨by omega, by omega, _, _, _, _, _, _, _, _, _, _, _, _, _, _, _, by rw [Int.toNat_natCast]; exact hcc, (ldoF_any hT.two hok).mono ?_⟩
  rintro e w6 ⟨rfl, t6, f6⟩
  refine ⟨keepG_nil _ _, _, rfl, br_f rfl ?_⟩
  rw [wr64 (by omega) (by omega)]
  exact ⟨⟨i + 1, _, by omega, by omega, hT.step t6 f6⟩, by dsimp only; omega⟩
theorem holdN_vals (A : FB) (l lim : List Int) (n : Int) : ∀ i, holdN A l lim n i = 0 ∨ holdN A l lim n i = 9 ∨ holdN A l lim n i = 18
  | 0 => .inl rfl
  | i + 1 => by
    rw [holdN]
    split
    · exact holdN_vals A l lim n i
    · split
      · exact .inr (.inl rfl)
      · split
        · exact .inr (.inr rfl)
        · exact .inl rfl
theorem lrooms_k1_ok {w wx : World} {g1 g mb gr b : Nat} {A : FB} {a a2 : Option Addr} {c c2 : Nat} {l lim : List Int} (h : At2 w wx g mb gr A) (m1 : Mine wx b a c l) (m2 : Mine wx b a2 c2 lim) (hl : l.length ≤ 5) (hl2 : lim.length ≤ 5) (hg1 : g1 < mb) (hp : LimsOk l lim) :
    GFuR.lrooms_k1 (fun u w' => u = .bool true ∧ Below w.heap.size w w') g1 (some ⟨g, 0, none⟩) a l.length c a2 lim.length c2 (roomN A l lim l.length) wx := by
  unfold GFuR.lrooms_k1
  have hge := roomN_ge h.two.wf l lim l.length
  have hle := roomN_le A l lim l.length
  refine br_dec (fun _ => ⟨rfl, h.bs⟩) fun hz => (fhold_any h.two.t h.two.wf m1.row (by omega) m1.cap m2.row (by omega) (roomN A l lim l.length)).mono ?_
  have hm : AmtOk (roomN A l lim l.length) := ⟨by omega, by omega⟩
  have he : holdE A l lim (roomN A l lim l.length) = 0 := by
    unfold holdE
    rw [if_neg fun q => q.elim (fun q => q hp) fun q => q hm]
    exact (room_hold hm).2 (Int.le_refl _)
  rintro e w2 ⟨rfl, t2, f2⟩
  refine ⟨keepG_fr f2 (fun q hq hq2 => by rw [List.mem_singleton] at hq hq2; omega), _, rfl, ?_, h.bs.fr1 f2 h.m0⟩
  rw [he]
  rfl
theorem lrooms_k2_ok {w wx : World} {g1 g mb gr : Nat} {A : FB} {x : FAct} (h : At2 w wx g mb gr A) (hx : FActOk wx x) (hg1 : g1 < mb) :
    GFuR.lrooms_k2 (fun u w' => u = .bool true ∧ Below w.heap.size w w') x.what x.node x.pa x.path.length x.pc x.la x.lims.length x.lc x.amt x.carry x.acc.t x.acc.c x.acc.e x.acc.u x.acc.h g1 (some ⟨g, 0, none⟩) wx := by
  unfold GFuR.lrooms_k2
  have lp := x.plen
  have ll := x.llen
  refine (llists_new hx).mono ?_
  rintro e w3 ⟨a, c, a2, c2, rfl, m1, m2, bl⟩
  have h3 := h.below bl
  refine ⟨keepG_below bl, a, _, c, a2, _, c2, rfl, callB h3.bs (froom_ret h3.two.t h3.two.wf m1.row (by omega) m1.cap m2.row (by omega)) fun w4 b4 B4 => ⟨_, _, rfl, callB B4 (lhaves_ret w4) fun w5 b5 B5 => ⟨_, rfl, br_f rfl ?_⟩⟩⟩
  have h5 := (h3.below b4).below b5
  have k1 := (m1.below b4).below b5
  have k2 := (m2.below b4).below b5
  unfold roomE roomF
  by_cases hp : LimsOk x.p x.l
  · rw [if_pos hp, if_pos hp]
    refine br_n (fun q => q rfl) ?_
    have hge := roomN_ge h5.two.wf x.p x.l x.p.length
    have hle := roomN_le A x.p x.l x.p.length
    rw [wr64 (by omega) (by omega)]
    refine (fhold_any h5.two.t h5.two.wf k1.row (by omega) k1.cap k2.row (by omega) (roomN A x.p x.l x.p.length + 1)).mono ?_
    rintro e w6 ⟨rfl, t6, f6⟩
    have hne : holdE A x.p x.l (roomN A x.p x.l x.p.length + 1) ≠ 0 := fun q => by
      obtain ⟨_, q2, q3⟩ := holdE_zero q
      have := (room_hold q2).1 q3
      omega
    have hD : holdD A x.p x.l (roomN A x.p x.l x.p.length + 1) = A := by unfold holdD; rw [if_neg hne]
    rw [hD] at t6
    obtain ⟨n1, n2, n3⟩ := h5.two.ne
    have f6' : Fr [mb, gr] w5 w6 := f6.mono fun k hk => .inl (by simp at hk; simp [hk])
    have h6 : At2 w w6 g mb gr A := h5.step ⟨t6, h5.two.r.fr f6 (by simp; omega), h5.two.wf⟩ f6'
    have q1 : Mine w6 wx.heap.size a c x.p := k1.keep f6 (fun k hk => by rw [List.mem_singleton] at hk; have := h.two.lt.2.1; omega)
    have q2 : Mine w6 wx.heap.size a2 c2 x.l := k2.keep f6 (fun k hk => by rw [List.mem_singleton] at hk; have := h.two.lt.2.1; omega)
    have last := lrooms_k1_ok (g1 := g1) h6 q1 q2 lp ll hg1 hp
    refine ⟨keepG_fr f6 (fun q hq hq2 => by rw [List.mem_singleton] at hq hq2; omega), _, rfl, br_n hne (br_dec (fun h1 => br_n (fun hlt => ?_) last) fun _ => last)⟩
    have hm : AmtOk (roomN A x.p x.l x.p.length + 1) := ⟨by omega, by omega⟩
    unfold holdE at h1
    rw [if_neg fun q => q.elim (fun q => q hp) fun q => q hm] at h1
    rcases holdN_vals A x.p x.l (roomN A x.p x.l x.p.length + 1) x.p.length with e | e | e <;> omega
  · rw [if_neg hp, if_neg hp]
    exact br_y (by decide) (callB B5 (lhaves_ret w5) fun w6 b6 B6 => ⟨_, rfl, br_t rfl ⟨rfl, B6⟩⟩)
set_option maxRecDepth 20000 in
theorem lrooms_walk (a : Option Addr) (c : Nat) (xs : List FAct) (x : FAct) (w : World) (hl : xs.length ≤ maxLen) (hx : FActs w a xs) (ho : FActOk w x) :
    Calls Try.prog 3 #[.slice a xs.length c, factV x] w (Ret (.bool true) w) := by
  refine ret_in (GFuR.lrooms_calls a xs.length c x.what x.node x.pa x.path.length x.pc x.la x.lims.length x.lc x.amt x.carry x.acc.t x.acc.c x.acc.e x.acc.u x.acc.h w (fun u w' => u = .bool true ∧ Below w.heap.size w w') ?_)
  unfold GFuR.lrooms_vc
  have hlm : xs.length ≤ 9223372036854775807 := by unfold maxLen at hl; omega
  refine newB (Bs.refl w) fun g1 w1 g10 sg1 n1 z1 b1 B1 => (fnew_new w1).mono ?_
  rintro e w2 ⟨g, mb, rfl, t2, g0, mb0, b2⟩
  refine ⟨keepG_below b2, _, rfl, newB (B1.to b2) fun gr w3 gr0 sgr n3 z3 b3 B3 => ?_⟩
  have r3 : RbAt w3 gr (fun _ => ac0) := rb_new (by rw [n3]; rfl)
  have s2 := b2.size
  refine ⟨fun x wx => ∃ (i : Nat) (A : FB), x = i ∧ i ≤ xs.length ∧ At2 w wx g mb gr A, fun x _ => xs.length - x.toNat, ⟨0, fun _ => ac0, rfl, by omega, ⟨t2.below b3, r3, fwf0⟩, B3, by omega, gr0⟩, ?_⟩
  rintro y wx ⟨i, A, rfl, hix, hT⟩
  have hk := lrooms_k2_ok (g1 := g1) hT (ho.below hT.bs) (by omega)
  refine br_dec (fun hlt => br_dec (fun h50 => ?_) fun _ => hk) fun _ => hk
  have hil : i < xs.length := by omega
  obtain ⟨b, off, rfl, hcc, hok⟩ := rowsF_ok hx i hil hT.bs
  refine ⟨by omega, by omega, _, _, _, _, _, _, _, _, _, _, _, _, _, _, _, by rw [Int.toNat_natCast]; exact hcc, (ldoF_any hT.two hok).mono ?_⟩
  rintro e w6 ⟨rfl, t6, f6⟩
  refine ⟨keepG_fr f6 (fun q hq hq2 => by simp at hq hq2; omega), _, rfl, br_f rfl ?_⟩
  rw [wr64 (by omega) (by omega)]
  exact ⟨⟨i + 1, _, by omega, by omega, hT.step t6 f6⟩, by dsimp only; omega⟩
theorem lactsF_k1_ok {w wx : World} {g mb gr : Nat} {A : FB} (h : At2 w wx g mb gr A) (ask : Int) :
    GFuR.lacts_k1 (fun u w' => u = .bool true ∧ Below w.heap.size w w') ask (some ⟨g, 0, none⟩) gr wx := by
  unfold GFuR.lacts_k1
  refine callB h.bs (llikeF_ret h.two) fun w2 b2 B2 => ⟨_, rfl, br_t rfl (callB B2 (qnode_ret ask w2) fun w3 b3 B3 => ⟨_, rfl, br_dec (fun _ => ⟨rfl, B3⟩) fun hn => ?_⟩)⟩
  have h3 := (h.below b2).below b3
  have hz := (h.two.wf ask).2 hn
  refine callB B3 (favail_ret h3.two.t h3.two.wf ask) fun w4 b4 B4 => ⟨_, rfl, br_y (by rw [hz]; rfl) (callB B4 (fget_ret (h3.two.t.below b4) ask) fun w5 b5 B5 => ⟨_, _, _, _, _, rfl, ?_, B5⟩)⟩
  rw [hz]
  rfl
set_option maxRecDepth 20000 in
theorem lactsF_walk (a : Option Addr) (c : Nat) (xs : List FAct) (ask : Int) (w : World) (hl : xs.length ≤ maxLen) (hx : FActs w a xs) :
    Calls Try.prog 13 #[.slice a xs.length c, .int .i64 ask] w (Ret (.bool true) w) := by
  refine ret_in (GFuR.lacts_calls a xs.length c ask w (fun u w' => u = .bool true ∧ Below w.heap.size w w') ?_)
  unfold GFuR.lacts_vc
  have hlm : xs.length ≤ 9223372036854775807 := by unfold maxLen at hl; omega
  refine callB (Bs.refl w) (lnoneF_ret w) fun w2 b2 B2 => ⟨_, rfl, callB B2 (froom_nil none none 0 0 0 0 w2) fun w3 b3 B3 => ⟨_, _, rfl, callB B3 (lnoneF_ret w3) fun w4 b4 B4 => ⟨_, rfl, callB B4 (froll_nil 1 true w4) fun w5 b5 B5 => ⟨_, _, rfl, callB B5 (lhaves_ret w5) fun w6 b6 B6 => ⟨_, rfl, br_f rfl (br_n (by decide) (br_n (by decide) ?_))⟩⟩⟩⟩⟩
  refine callB B6 (lnoneF_ret w6) fun w7 b7 B7 => ⟨_, rfl, callB B7 (favail_nil 1 w7) fun w8 b8 B8 => ⟨_, rfl, br_n (by decide) ?_⟩⟩
  refine callB B8 (lnoneF_ret w8) fun w9 b9 B9 => ⟨_, rfl, callB B9 (fget_nil 1 w9) fun w10 b10 B10 => ⟨_, _, _, _, _, rfl, br_f rfl ?_⟩⟩
  refine callB B10 (lnoneF_ret w10) fun w11 b11 B11 => ⟨_, rfl, callB B11 (fseta_nil 1 ac0 w11) fun w12 b12 B12 => ⟨_, rfl, br_n (by decide) ?_⟩⟩
  refine callB B12 (lnoneF_ret w12) fun w13 b13 B13 => ⟨_, rfl, callB B13 (fnodes_nil w13) fun w14 b14 B14 => ⟨_, _, _, rfl, br_n (by decide) ?_⟩⟩
  refine callB B14 (lnoneF_ret w14) fun w15 b15 B15 => ⟨_, rfl, callB B15 (ftop_nil 1 1 w15) fun w16 b16 B16 => ⟨_, rfl, br_n (by decide) ?_⟩⟩
  refine callB B16 (lnoneF_ret w16) fun w17 b17 B17 => ⟨_, rfl, callB B17 (fhold_nil none none 0 0 0 0 1 w17) fun w18 b18 B18 => ⟨_, rfl, br_n (by decide) ?_⟩⟩
  refine callB B18 (lnoneF_ret w18) fun w19 b19 B19 => ⟨_, rfl, callB B19 (frel_nil none 0 0 1 w19) fun w20 b20 B20 => ⟨_, rfl, br_n (by decide) ?_⟩⟩
  refine callB B20 (lnoneF_ret w20) fun w21 b21 B21 => ⟨_, rfl, callB B21 (fcom_nil none 0 0 1 w21) fun w22 b22 B22 => ⟨_, rfl, br_n (by decide) ?_⟩⟩
  refine callB B22 (lnoneF_ret w22) fun w23 b23 B23 => ⟨_, rfl, callB B23 (fref_nil none 0 0 1 w23) fun w24 b24 B24 => ⟨_, rfl, br_n (by decide) ?_⟩⟩
  refine (fnew_new w24).mono ?_
  rintro e w25 ⟨g, mb, rfl, t25, g0, mb0, b25⟩
  have B25 := B24.to b25
  have hsw := B24.size
  refine ⟨keepG_nil _ _, _, rfl, newB B25 fun gr w26 gr0 sgr n26 z26 b26 B26 => ?_⟩
  have r26 : RbAt w26 gr (fun _ => ac0) := rb_new (by rw [n26]; rfl)
  refine ⟨fun x wx => ∃ (i : Nat) (A : FB), x = i ∧ i ≤ xs.length ∧ At2 w wx g mb gr A, fun x _ => xs.length - x.toNat, ⟨0, fun _ => ac0, rfl, by omega, ⟨t25.below b26, r26, fwf0⟩, B26, by omega, gr0⟩, ?_⟩
  rintro y wx ⟨i, A, rfl, hix, hT⟩
  have hk := lactsF_k1_ok hT ask
  refine br_dec (fun hlt => br_dec (fun h50 => ?_) fun _ => hk) fun _ => hk
  have hil : i < xs.length := by omega
  obtain ⟨b, off, rfl, hcc, hok⟩ := rowsF_ok hx i hil hT.bs
  refine ⟨by omega, by omega, _, _, _, _, _, _, _, _, _, _, _, _, _, _, _, by rw [Int.toNat_natCast]; exact hcc, (ldoF_any hT.two hok).mono ?_⟩
  rintro e w28 ⟨rfl, t28, f28⟩
  have h28 := hT.step t28 f28
  obtain ⟨b', off', e', hcc2, hok2⟩ := rowsF_ok hx i hil h28.bs
  cases e'
  have lp := xs[i].plen
  have ll := xs[i].llen
  refine ⟨keepG_nil _ _, _, rfl, br_f rfl ⟨by omega, by omega, _, _, _, _, _, _, _, _, _, _, _, _, _, _, _, by rw [Int.toNat_natCast]; exact hcc2, (llists_new hok2).mono ?_⟩⟩
  rintro e w29 ⟨a1, c1, a2, c2, rfl, m1, m2, bl⟩
  have h29 := h28.below bl
  refine ⟨keepG_nil _ _, a1, _, c1, a2, _, c2, rfl, callB h29.bs (froom_ret h29.two.t h29.two.wf m1.row (by omega) m1.cap m2.row (by omega)) fun w30 b30 B30 => ⟨_, _, rfl, callB B30 (qroom_ret (h29.two.r.below b30) h29.two.wf (m1.below b30).row (by omega) (m2.below b30).row (by omega)) fun w31 b31 B31 => ⟨_, _, rfl, br_n (fun q => q rfl) (br_n (fun q => q rfl) ?_)⟩⟩⟩
  rw [wr64 (by omega) (by omega)]
  exact ⟨⟨i + 1, _, by omega, by omega, (h29.below b30).below b31⟩, by dsimp only; omega⟩
end Go.Proofs.Ytjcabccolkmlmaa
end
section
/- FundsBack; walked. -/
namespace Go.Proofs.Ytjcabccolkmlmaa
open Go.RowKit
theorem lback_k1_ok {w wx : World} {g1 g mb gr : Nat} {A : FB} (h : At2 w wx g mb gr A) : GFuR.lback_k1 (fun u w' => u = .bool true ∧ Below w.heap.size w w') g1 (some ⟨g, 0, none⟩) gr wx := by
  unfold GFuR.lback_k1
  exact callB h.bs (llikeF_ret h.two) fun w2 b2 B2 => ⟨_, rfl, rfl, B2⟩
theorem lback_k2_ok {w wx : World} {g1 g mb gr b : Nat} {A : FB} {a : Option Addr} {c : Nat} {l : List Int} {amt x part : Int} (t : FbAt wx g mb (mvF A l part 0)) (hW' : FWf (mvF A l part 0)) (r : RbAt wx gr A) (hW : FWf A) (B : Bs w wx) (mb0 : w.heap.size ≤ mb) (gr0 : w.heap.size ≤ gr)
    (m1 : Mine wx b a c l) (hp : PathOk l) (hpt : 0 ≤ part ∧ part ≤ 9007199254740992) (hP : IntKind.i64.wrap (Int.tmod (IntKind.u64.wrap x) (IntKind.u64.wrap (IntKind.i64.wrap (amt + 1)))) = part) (hg1 : g1 < mb) :
    GFuR.lback_k2 (fun u w' => u = .bool true ∧ Below w.heap.size w w') amt x g1 (some ⟨g, 0, none⟩) gr a l.length c wx := by
  unfold GFuR.lback_k2
  rw [hP]
  have hl3 := hp.1.2
  refine ⟨fun y wy => ∃ i : Nat, y = i ∧ i ≤ l.length ∧ Bs wx wy, fun y _ => l.length - y.toNat, ⟨0, rfl, by omega, Bs.refl _⟩, ?_⟩
  rintro y wy ⟨i, rfl, hi, By⟩
  refine br_dec (fun hlt => drewB By fun w4 b4 B4 e4 => ?_) fun hge => ?_
  · have hil : i < l.length := by omega
    have hno := hp.2.1 l[i] (List.getElem_mem hil)
    unfold NodeOk at hno
    obtain ⟨b1, o1, rfl, c1⟩ := (m1.row.below B4 (Nat.le_refl _)).int hil
    have hat : mvF A l part 0 l[i] = addA (A l[i]) part 0 := mvF_in (List.getElem_mem hil)
    obtain ⟨⟨k1, k2, k3, k4, k5⟩, k6, k7⟩ := (hW l[i]).1.all
    have hL := (hW l[i]).1.2.2
    have hv : (A l[i]).left = (A l[i]).t + (A l[i]).c - (A l[i]).e - (A l[i]).u - (A l[i]).h := rfl
    have cc : ∀ {wz : World}, Bs wx wz → wz.cell? ⟨b1, o1 + (i : Int).toNat * 1, none⟩ = some (.int .i64 l[i]) := fun Bz => by
      obtain ⟨b2, o2, e2, c2⟩ := (m1.row.below Bz (Nat.le_refl _)).int hil
      cases e2
      rw [Int.toNat_natCast, Nat.mul_one]
      exact c2
    rw [wr64 (z := (i : Int) + 1) (by omega) (by omega)]
    refine ⟨by omega, by omega, l[i], cc B4, by omega, by omega, _, _, _, _, _, rb_cells (r.below B4) ⟨by omega, by omega⟩, newB B4 fun g3 w5 g30 sg3 n5 z5 b5 B5 => ⟨cc B5, rb_cells (r.below B5) ⟨by omega, by omega⟩, boxB B5 g30 fun w6 h6 B6 z6 => drewB B6 fun w7 b7 B7 e7 => ?_⟩⟩
    refine ⟨by omega, by omega, l[i], cc B7, callB B7 (favail_ret (t.below B7) hW' l[i]) fun w8 b8 B8 => ⟨_, rfl, callB B8 (qleft_ret (hW l[i]).1.1 w8) fun w9 b9 B9 => ⟨_, rfl, br_n ?_ ⟨by omega, by omega, l[i], cc B9, callB B9 (fget_ret (t.below B9) l[i]) fun w10 b10 B10 => ?_⟩⟩⟩⟩
    · rw [hat, wr64 (by omega) (by omega)]
      unfold addA Ac.left
      dsimp only
      omega
    rw [hat]
    refine ⟨_, _, _, _, _, rfl, br_n ?_ ⟨by omega, by omega, l[i], cc B10, callB B10 (fget_ret (t.below B10) l[i]) fun w11 b11 B11 => ?_⟩⟩
    · rw [wr64 (by omega) (by omega)]
      exact fun q => q rfl
    rw [hat]
    refine ⟨_, _, _, _, _, rfl, br_n (fun q => q (Int.add_zero _)) ⟨⟨i + 1, by omega, by omega, B11⟩, by dsimp only; omega⟩⟩
  · have hkeep := By.size
    have Bw : Bs w wy := B.to By
    have r' := r.below By
    have tt := t.below By
    refine br_dec (fun hpos => (fref_any tt hW' (m1.below By).row (by omega) (m1.below By).cap part).mono ?_) fun hpos => ?_
    · have he : awayE (mvF A l part 0) 2 l part = 0 := awayE_is hp ⟨by omega, hpt.2⟩ fun k hk => by
        rw [mvF_in hk]
        obtain ⟨⟨k1, k2, k3, k4, k5⟩, k6, k7⟩ := (hW k).1.all
        unfold selF addA
        simp
        omega
      have hd : awayD (mvF A l part 0) 2 l part = A := by
        unfold awayD
        rw [if_pos he, mvF_mv, show part + duF 2 part = 0 by unfold duF; simp; omega, show (0 : Int) + dhF 2 part = 0 by unfold dhF; simp, mvF_zero]
      rintro e w4 ⟨rfl, t4, f4⟩
      rw [hd] at t4
      have hlt := tt.lt
      have hne : mb ≠ gr := fun e => by
        obtain ⟨m, hm, _⟩ := tt.map
        exact hm.ne_cells r' e.symm
      exact ⟨keepG_fr f4 (fun q hq hq2 => by rw [List.mem_singleton] at hq hq2; omega), _, rfl, br_n (fun q => q he) (lback_k1_ok ⟨⟨t4, r'.fr f4 (by simp; omega), hW⟩, Bw.fr1 f4 mb0, mb0, gr0⟩)⟩
    · have h0 : part = 0 := by omega
      rw [h0, mvF_zero] at tt
      exact lback_k1_ok ⟨⟨tt, r', hW⟩, Bw, mb0, gr0⟩
theorem part_of (x amt : Int) (ha : AmtOk amt) : IntKind.u64.wrap (IntKind.i64.wrap (amt + 1)) ≠ 0 ∧ IntKind.i64.wrap (Int.tmod (IntKind.u64.wrap x) (IntKind.u64.wrap (IntKind.i64.wrap (amt + 1)))) = IntKind.u64.wrap x % (amt + 1) := by
  unfold AmtOk at ha
  have h0 : 0 ≤ IntKind.u64.wrap x := by rw [IntKind.wrap_u64]; omega
  have h1 : IntKind.u64.wrap (IntKind.i64.wrap (amt + 1)) = amt + 1 := by rw [wr64 (by omega) (by omega), IntKind.wrap_u64]; omega
  have h2 := Int.emod_nonneg (IntKind.u64.wrap x) (b := amt + 1) (by omega)
  have h3 := Int.emod_lt_of_pos (IntKind.u64.wrap x) (b := amt + 1) (by omega)
  rw [h1, Int.tmod_eq_emod_of_nonneg h0, wr64 (by omega) (by omega)]
  exact ⟨by omega, rfl⟩
theorem lback_k3_ok {w wx : World} {g1 g mb gr : Nat} {A : FB} {x : FAct} (h : At2 w wx g mb gr A) (hx : FActOk wx x) (hg1 : g1 < mb) (pt : Int) :
    GFuR.lback_k3 (fun u w' => u = .bool true ∧ Below w.heap.size w w') x.what x.node x.pa x.path.length x.pc x.la x.lims.length x.lc x.amt x.carry x.acc.t x.acc.c x.acc.e x.acc.u x.acc.h pt g1 (some ⟨g, 0, none⟩) gr wx := by
  unfold GFuR.lback_k3
  have lp := x.plen
  have ll := x.llen
  refine (llists_new hx).mono ?_
  rintro e w3 ⟨a, c, a2, c2, rfl, m1, m2, bl⟩
  have h3 := h.below bl
  refine ⟨keepG_below bl, a, _, c, a2, _, c2, rfl, callB h3.bs (lhaves_ret w3) fun w4 b4 B4 => ⟨_, rfl, br_f rfl ?_⟩⟩
  have h4 := h3.below b4
  have k1 := m1.below b4
  have k2 := m2.below b4
  have hmb := h.two.lt.2.1
  obtain ⟨n1, n2, n3⟩ := h.two.ne
  have hk : ∀ {wa wb : World}, Fr [mb] wa wb → KeepG [g1] wa wb := fun f => keepG_fr f fun q hq hq2 => by rw [List.mem_singleton] at hq hq2; omega
  refine (fhold_any h4.two.t h4.two.wf k1.row (by omega) k1.cap k2.row (by omega) x.amt).mono ?_
  rintro e w5 ⟨rfl, t5, f5⟩
  have B5 := B4.fr1 f5 h.m0
  refine ⟨hk f5, _, rfl, br_dec (fun hz => callB B5 (lhaves_ret w5) fun w6 b6 B6 => ⟨_, rfl, rfl, B6⟩) fun hz => ?_⟩
  have hz : holdE A x.p x.l x.amt = 0 := Decidable.byContradiction hz
  obtain ⟨hq1, ha, hq3⟩ := holdE_zero hz
  have hp := hq1.1
  have hleft := hold_left hq3
  have ht : holdD A x.p x.l x.amt = mvF A x.p 0 x.amt := by unfold holdD; rw [if_pos hz]
  rw [ht] at t5
  obtain ⟨hnz, hP⟩ := part_of pt x.amt ha
  have ha' := ha
  unfold AmtOk at ha'
  have hp2 := Int.emod_nonneg (IntKind.u64.wrap pt) (b := x.amt + 1) (by omega)
  have hp3 := Int.emod_lt_of_pos (IntKind.u64.wrap pt) (b := x.amt + 1) (by omega)
  refine ⟨hnz, ?_⟩
  generalize hamt : x.amt = amt at *
  generalize hpart : IntKind.u64.wrap pt % (amt + 1) = part at *
  rw [hP, wr64 (z := amt - part) (by omega) (by omega)]
  have hpt : 0 ≤ part ∧ part ≤ 9007199254740992 := ⟨hp2, by omega⟩
  have wf : ∀ du dh : Int, 0 ≤ du → 0 ≤ dh → du + dh ≤ amt → FWf (mvF A x.p du dh) := fun du dh h1 h2 h3 => h.two.wf.mv fun k hk => ⟨hp.2.1 k hk, by
    obtain ⟨⟨k1, k2, k3, k4, k5⟩, k6, k7⟩ := (h.two.wf k).1.all
    have := hleft k hk
    unfold Ac.left at this
    unfold addA
    exact Ac.mk_ok (by omega) (by omega) (by omega) (by omega) (by omega) (by omega) (by omega)⟩
  have w1 := wf 0 amt (by omega) (by omega) (by omega)
  have w2 := wf part (amt - part) (by omega) (by omega) (by omega)
  have w3 := wf part 0 (by omega) (by omega) (by omega)
  have r5 : RbAt w5 gr A := h4.two.r.fr f5 (by simp; omega)
  have k5 := k1.keep f5 (fun k hk => by rw [List.mem_singleton] at hk; omega)
  refine br_dec (fun hpos => (fcom_any t5 w1 k5.row (by omega) k5.cap part).mono ?_) fun hpos => ?_
  · have he : awayE (mvF A x.p 0 amt) 1 x.p part = 0 := awayE_is hp ⟨by omega, by omega⟩ fun k hk => by
      rw [mvF_in hk]
      obtain ⟨⟨k1, k2, k3, k4, k5⟩, k6, k7⟩ := (h.two.wf k).1.all
      unfold selF addA
      simp
      omega
    have hd : awayD (mvF A x.p 0 amt) 1 x.p part = mvF A x.p part (amt - part) := by
      unfold awayD
      rw [if_pos he, mvF_mv, show 0 + duF 1 part = part by unfold duF; simp, show amt + dhF 1 part = amt - part by unfold dhF; simp; omega]
    rintro e w6 ⟨rfl, t6, f6⟩
    rw [hd] at t6
    have B6 := B5.fr1 f6 h.m0
    have r6 : RbAt w6 gr A := r5.fr f6 (by simp; omega)
    have k6 := k5.keep f6 (fun k hk => by rw [List.mem_singleton] at hk; omega)
    refine ⟨hk f6, _, rfl, br_n (fun q => q he) ?_⟩
    refine br_dec (fun hr => (frel_any t6 w2 k6.row (by omega) k6.cap (amt - part)).mono ?_) fun hr => ?_
    · have he : awayE (mvF A x.p part (amt - part)) 0 x.p (amt - part) = 0 := awayE_is hp ⟨by omega, by omega⟩ fun k hk => by
        rw [mvF_in hk]
        obtain ⟨⟨k1, k2, k3, k4, k5⟩, k6, k7⟩ := (h.two.wf k).1.all
        unfold selF addA
        simp
        omega
      have hd : awayD (mvF A x.p part (amt - part)) 0 x.p (amt - part) = mvF A x.p part 0 := by
        unfold awayD
        rw [if_pos he, mvF_mv, show part + duF 0 (amt - part) = part by unfold duF; simp, show amt - part + dhF 0 (amt - part) = 0 by unfold dhF; simp; omega]
      rintro e w7 ⟨rfl, tr, fr⟩
      rw [hd] at tr
      have B9 := B6.fr1 fr h.m0
      refine ⟨hk fr, _, rfl, br_n (fun q => q he) ?_⟩
      exact lback_k2_ok tr w3 (r6.fr fr (by simp; omega)) h.two.wf B9 h.m0 h.r0 (k6.keep fr (fun k hk => by rw [List.mem_singleton] at hk; omega)) hp hpt hP hg1
    · have h0 : amt - part = 0 := by omega
      have tz := t6
      rw [h0] at tz
      exact lback_k2_ok tz w3 r6 h.two.wf B6 h.m0 h.r0 k6 hp hpt hP hg1
  · have h0 : part = 0 := by omega
    have t6 : FbAt w5 g mb (mvF A x.p part (amt - part)) := by rw [h0, Int.sub_zero]; exact t5
    refine br_dec (fun hr => (frel_any t6 w2 k5.row (by omega) k5.cap (amt - part)).mono ?_) fun hr => ?_
    · have he : awayE (mvF A x.p part (amt - part)) 0 x.p (amt - part) = 0 := awayE_is hp ⟨by omega, by omega⟩ fun k hk => by
        rw [mvF_in hk]
        obtain ⟨⟨k1, k2, k3, k4, k5⟩, k6, k7⟩ := (h.two.wf k).1.all
        unfold selF addA
        simp
        omega
      have hd : awayD (mvF A x.p part (amt - part)) 0 x.p (amt - part) = mvF A x.p part 0 := by
        unfold awayD
        rw [if_pos he, mvF_mv, show part + duF 0 (amt - part) = part by unfold duF; simp, show amt - part + dhF 0 (amt - part) = 0 by unfold dhF; simp; omega]
      rintro e w7 ⟨rfl, tr, fr⟩
      rw [hd] at tr
      have B9 := B5.fr1 fr h.m0
      refine ⟨hk fr, _, rfl, br_n (fun q => q he) ?_⟩
      exact lback_k2_ok tr w3 (r5.fr fr (by simp; omega)) h.two.wf B9 h.m0 h.r0 (k5.keep fr (fun k hk => by rw [List.mem_singleton] at hk; omega)) hp hpt hP hg1
    · have h0 : amt - part = 0 := by omega
      have tz := t6
      rw [h0] at tz
      exact lback_k2_ok tz w3 r5 h.two.wf B5 h.m0 h.r0 k5 hp hpt hP hg1
set_option maxRecDepth 20000 in
theorem lback_walk (a : Option Addr) (c : Nat) (xs : List FAct) (x : FAct) (pt : Int) (w : World) (hl : xs.length ≤ maxLen) (hx : FActs w a xs) (ho : FActOk w x) :
    Calls Try.prog 14 #[.slice a xs.length c, factV x, .int .i64 pt] w (Ret (.bool true) w) := by
  refine ret_in (GFuR.lback_calls a xs.length c x.what x.node x.pa x.path.length x.pc x.la x.lims.length x.lc x.amt x.carry x.acc.t x.acc.c x.acc.e x.acc.u x.acc.h pt w (fun u w' => u = .bool true ∧ Below w.heap.size w w') ?_)
  unfold GFuR.lback_vc
  have hlm : xs.length ≤ 9223372036854775807 := by unfold maxLen at hl; omega
  refine newB (Bs.refl w) fun g1 w1 g10 sg1 n1 z1 b1 B1 => (fnew_new w1).mono ?_
  rintro e w2 ⟨g, mb, rfl, t2, g0, mb0, b2⟩
  refine ⟨keepG_below b2, _, rfl, newB (B1.to b2) fun gr w3 gr0 sgr n3 z3 b3 B3 => ?_⟩
  have r3 : RbAt w3 gr (fun _ => ac0) := rb_new (by rw [n3]; rfl)
  have s2 := b2.size
  refine ⟨fun x wx => ∃ (i : Nat) (A : FB), x = i ∧ i ≤ xs.length ∧ At2 w wx g mb gr A, fun x _ => xs.length - x.toNat, ⟨0, fun _ => ac0, rfl, by omega, ⟨t2.below b3, r3, fwf0⟩, B3, by omega, gr0⟩, ?_⟩
  rintro y wx ⟨i, A, rfl, hix, hT⟩
  have hk := lback_k3_ok (g1 := g1) hT (ho.below hT.bs) (by omega) pt
  refine br_dec (fun hlt => br_dec (fun h50 => ?_) fun _ => hk) fun _ => hk
  have hil : i < xs.length := by omega
  obtain ⟨b, off, rfl, hcc, hok⟩ := rowsF_ok hx i hil hT.bs
  refine ⟨by omega, by omega, _, _, _, _, _, _, _, _, _, _, _, _, _, _, _, by rw [Int.toNat_natCast]; exact hcc, (ldoF_any hT.two hok).mono ?_⟩
  rintro e w6 ⟨rfl, t6, f6⟩
  refine ⟨keepG_fr f6 (fun q hq hq2 => by simp at hq hq2; omega), _, rfl, br_f rfl ?_⟩
  rw [wr64 (by omega) (by omega)]
  exact ⟨⟨i + 1, _, by omega, by omega, hT.step t6 f6⟩, by dsimp only; omega⟩
end Go.Proofs.Ytjcabccolkmlmaa
end
section
/- What the rows of the funds need, together. -/
namespace Go.Proofs.Ytjcabccolkmlmaa
end Go.Proofs.Ytjcabccolkmlmaa
end
