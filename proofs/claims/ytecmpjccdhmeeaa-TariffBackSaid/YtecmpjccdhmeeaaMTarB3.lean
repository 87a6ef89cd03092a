import Derived.Test.YtecmpjccdhmeeaaMTarB2
import Derived.Test.YtecmpjccdhmeeaaMTarB1
import Derived.Test.YtecmpjccdhmeeaaRows
import Derived.Deep.DeepCutAuto
import Derived.Deep.CutBlock
import Derived.OwnWalk
import Derived.ScopeJumps
import Derived.WalkMore
import Derived.Test.YtecmpjccdhmeeaaProg
import Derived.Deep.Slices
import Derived.OpenShut
set_option linter.unusedVariables false
section
/- Tariffs, lines and what they cost, in plain numbers. No program in sight. -/
namespace Go.Proofs.Ytecmpjccdhmeeaa
structure Tr where
  upto : Int
  price : Int
deriving DecidableEq
structure Tar where
  grp : Int
  mode : Int
  block : Int
  ts : List Tr
deriving DecidableEq
structure Pl where
  day : Int
  frm : Int
  til : Int
  base : Tar
  other : Tar
deriving DecidableEq
structure Ln where
  tier : Int
  blocks : Int
  price : Int
deriving DecidableEq
def far : Int := 1099511627776
def tiersE : Int → List Tr → Int
  | _, [] => 0
  | ahead, t :: r => if ¬ (0 ≤ t.price ∧ t.price ≤ 1048576) then 1 else if r = [] then (if t.upto ≠ 0 then 15 else 0) else if ¬ (ahead + 1 ≤ t.upto ∧ t.upto ≤ 1099511627776) then 15 else tiersE t.upto r
def chkE (t : Tar) : Int := if ¬ ((1 ≤ t.grp ∧ t.grp ≤ 8) ∧ 1 ≤ t.block ∧ t.block ≤ 1073741824) then 1 else if t.mode ≠ 1 ∧ t.mode ≠ 2 then 21 else if ¬ (1 ≤ t.ts.length ∧ t.ts.length ≤ 6) then 5 else tiersE 0 t.ts
def nothingT (t : Tar) : Prop := t.grp = 0 ∧ t.mode = 0 ∧ t.block = 0 ∧ t.ts = []
instance (t : Tar) : Decidable (nothingT t) := by unfold nothingT; infer_instance
def dayOk (p : Pl) : Prop := (2 ≤ p.day ∧ p.day ≤ 1073741824) ∧ (0 ≤ p.frm ∧ p.frm ≤ p.day - 1) ∧ (0 ≤ p.til ∧ p.til ≤ p.day - 1) ∧ p.frm ≠ p.til
instance (p : Pl) : Decidable (dayOk p) := by unfold dayOk; infer_instance
def planE (p : Pl) : Int := if chkE p.base ≠ 0 then chkE p.base else if p.day = 0 then (if p.frm = 0 ∧ p.til = 0 ∧ nothingT p.other then 0 else 2) else if ¬ dayOk p then 1 else if chkE p.other ≠ 0 then chkE p.other else if p.base.grp ≠ p.other.grp ∨ p.base.block ≠ p.other.block then 20 else 0
/-- Whether it is the other one. -/
def isOther (p : Pl) (now : Int) : Prop := p.day ≠ 0 ∧ if p.frm < p.til then p.frm ≤ Int.tmod now p.day ∧ Int.tmod now p.day < p.til else p.frm ≤ Int.tmod now p.day ∨ Int.tmod now p.day < p.til
instance (p : Pl) (now : Int) : Decidable (isOther p now) := by unfold isOther; infer_instance
def atT (p : Pl) (now : Int) : Tar := if isOther p now then p.other else p.base
/-- Tiers that are in order. -/
def Good : Int → List Tr → Prop
  | _, [] => False
  | ahead, t :: r => (0 ≤ t.price ∧ t.price ≤ 1048576) ∧ (if r = [] then t.upto = 0 else (ahead < t.upto ∧ t.upto ≤ 1099511627776) ∧ Good t.upto r)
theorem good_of : ∀ (ts : List Tr) (ahead : Int), ts ≠ [] → tiersE ahead ts = 0 → Good ahead ts
  | [], _, h, _ => absurd rfl h
  | t :: r, ahead, _, h => by
    unfold tiersE at h
    unfold Good
    split at h
    · cases h
    · rename_i h1
      have h1 := Decidable.not_not.1 h1
      by_cases hr : r = []
      · rw [if_pos hr] at h
        rw [if_pos hr]
        split at h
        · cases h
        · rename_i h2; exact ⟨h1, Decidable.not_not.1 h2⟩
      · rw [if_neg hr] at h
        rw [if_neg hr]
        split at h
        · cases h
        · rename_i h2
          have h2 := Decidable.not_not.1 h2
          exact ⟨h1, ⟨by omega, h2.2⟩, good_of r _ hr h⟩
theorem chk_ok {t : Tar} (h : chkE t = 0) : ((1 ≤ t.grp ∧ t.grp ≤ 8) ∧ 1 ≤ t.block ∧ t.block ≤ 1073741824) ∧ (t.mode = 1 ∨ t.mode = 2) ∧ (1 ≤ t.ts.length ∧ t.ts.length ≤ 6) ∧ Good 0 t.ts := by
  unfold chkE at h
  split at h
  · cases h
  · rename_i h1
    split at h
    · cases h
    · rename_i h2
      split at h
      · cases h
      · rename_i h3
        have h3 := Decidable.not_not.1 h3
        exact ⟨Decidable.not_not.1 h1, by omega, h3, good_of _ _ (fun e => by rw [e] at h3; simp at h3) h⟩
theorem plan_ok {p : Pl} (h : planE p = 0) : chkE p.base = 0 ∧ ((p.day = 0 ∧ p.frm = 0 ∧ p.til = 0 ∧ nothingT p.other) ∨ (p.day ≠ 0 ∧ dayOk p ∧ chkE p.other = 0 ∧ p.base.grp = p.other.grp ∧ p.base.block = p.other.block)) := by
  unfold planE at h
  split at h
  · rename_i h1; exact absurd h h1
  · rename_i h1
    refine ⟨Decidable.not_not.1 h1, ?_⟩
    split at h
    · rename_i h2
      split at h
      · rename_i h3; exact .inl ⟨h2, h3⟩
      · cases h
    · rename_i h2
      split at h
      · cases h
      · rename_i h3
        split at h
        · rename_i h4; exact absurd h h4
        · rename_i h4
          split at h
          · cases h
          · rename_i h5
            exact .inr ⟨h2, Decidable.not_not.1 h3, Decidable.not_not.1 h4, by omega, by omega⟩
theorem at_ok {p : Pl} (h : planE p = 0) (now : Int) : chkE (atT p now) = 0 ∧ (atT p now).block = p.base.block ∧ (atT p now).grp = p.base.grp := by
  obtain ⟨h1, h2⟩ := plan_ok h
  unfold atT
  split
  · rename_i h3
    rcases h2 with ⟨h2, _⟩ | ⟨_, _, h4, h5, h6⟩
    · exact absurd h2 h3.1
    · exact ⟨h4, h6.symm, h5.symm⟩
  · exact ⟨h1, rfl, rfl⟩
/-- In which tier a block is. -/
def idx (b : Int) : List Tr → Nat
  | [] => 0
  | t :: r => if t.upto = 0 ∨ b ≤ t.upto then 0 else idx b r + 1
theorem idx_lt (b : Int) : ∀ (ts : List Tr) (ahead : Int), Good ahead ts → idx b ts < ts.length
  | [], _, h => h.elim
  | t :: r, ahead, h => by
    unfold idx
    unfold Good at h
    split
    · simp
    · rename_i h1
      by_cases hr : r = []
      · rw [if_pos hr] at h; exact absurd (.inl h.2) h1
      · rw [if_neg hr] at h
        have := idx_lt b r _ h.2.2
        simp; omega
/-- Of each tier the blocks from lo on up to hi. -/
def splitG (k : Int) (prev : Int) : List Tr → Int → Int → List Ln
  | [], _, _ => []
  | t :: r, lo, hi => (if max lo prev < (if 0 < t.upto then min hi t.upto else hi) then [⟨k, (if 0 < t.upto then min hi t.upto else hi) - max lo prev, t.price⟩] else []) ++ splitG (k + 1) t.upto r lo hi
theorem splitG_none : ∀ (ts : List Tr) (k prev lo hi : Int), Good prev ts → hi ≤ max lo prev → splitG k prev ts lo hi = []
  | [], _, _, _, _, h, _ => h.elim
  | t :: r, k, prev, lo, hi, h, hle => by
    unfold splitG
    unfold Good at h
    rw [if_neg (by split <;> omega), List.nil_append]
    by_cases hr : r = []
    · subst hr; rfl
    · rw [if_neg hr] at h
      exact splitG_none r _ _ _ _ h.2.2 (by omega)
theorem splitG_from : ∀ (ts : List Tr) (k prev lo lo2 hi : Int), Good prev ts → max lo prev = max lo2 prev → splitG k prev ts lo hi = splitG k prev ts lo2 hi
  | [], _, _, _, _, _, h, _ => h.elim
  | t :: r, k, prev, lo, lo2, hi, h, hle => by
    unfold splitG
    unfold Good at h
    rw [hle]
    by_cases hr : r = []
    · subst hr; rfl
    · rw [if_neg hr] at h
      rw [splitG_from r _ _ lo lo2 _ h.2.2 (by omega)]
/-- What is taken of the first tier that there is. -/
def takeN (t : Tr) (lo hi : Int) : Int := if 0 < t.upto then min (hi - lo) (t.upto - lo) else hi - lo
theorem splitG_step : ∀ (ts : List Tr) (k prev lo hi : Int), Good prev ts → 0 ≤ prev → prev ≤ lo → lo < hi → ∀ t, ts[idx (lo + 1) ts]? = some t →
    splitG k prev ts lo hi = ⟨k + idx (lo + 1) ts, takeN t lo hi, t.price⟩ :: splitG k prev ts (lo + takeN t lo hi) hi ∧ 0 < takeN t lo hi ∧ takeN t lo hi ≤ hi - lo
  | [], _, _, _, _, h, _, _, _ => h.elim
  | x :: r, k, prev, lo, hi, h, h0, hlo, hlt => by
    intro t ht
    unfold Good at h
    by_cases hx : x.upto = 0 ∨ lo + 1 ≤ x.upto
    · have hi0 : idx (lo + 1) (x :: r) = 0 := by unfold idx; rw [if_pos hx]
      rw [hi0] at ht ⊢
      simp at ht
      subst ht
      have hb : 0 < takeN x lo hi ∧ takeN x lo hi ≤ hi - lo := by
        unfold takeN
        by_cases hr : r = []
        · rw [if_pos hr] at h; split <;> omega
        · rw [if_neg hr] at h; split <;> omega
      refine ⟨?_, hb⟩
      have e1 : (if 0 < x.upto then min hi x.upto else hi) = lo + takeN x lo hi := by unfold takeN; split <;> omega
      conv => lhs; unfold splitG
      conv => rhs; rhs; unfold splitG
      rw [e1, show max lo prev = lo by omega, show max (lo + takeN x lo hi) prev = lo + takeN x lo hi by omega, if_pos (by omega), if_neg (by omega)]
      simp only [List.nil_append, List.singleton_append]
      rw [show lo + takeN x lo hi - lo = takeN x lo hi by omega, show k + ((0 : Nat) : Int) = k by omega]
      congr 1
      by_cases hr : r = []
      · subst hr; rfl
      · rw [if_neg hr] at h
        by_cases hc : hi ≤ x.upto
        · rw [splitG_none _ _ _ _ _ h.2.2 (by omega), splitG_none _ _ _ _ _ h.2.2 (by omega)]
        · exact splitG_from _ _ _ _ _ _ h.2.2 (by rw [show takeN x lo hi = x.upto - lo by unfold takeN; rw [if_pos (by omega)]; omega]; omega)
    · have hr : r ≠ [] := by rintro rfl; simp at h; exact hx (.inl h.2)
      rw [if_neg hr] at h
      have hi1 : idx (lo + 1) (x :: r) = idx (lo + 1) r + 1 := by conv => lhs; unfold idx; rw [if_neg hx]
      rw [hi1] at ht ⊢
      have ht' : r[idx (lo + 1) r]? = some t := by simpa using ht
      obtain ⟨g1, g2, g3⟩ := splitG_step r (k + 1) x.upto lo hi h.2.2 (by omega) (by omega) hlt t ht'
      refine ⟨?_, g2, g3⟩
      conv => lhs; unfold splitG
      conv => rhs; rhs; unfold splitG
      rw [if_neg (by rw [if_pos (by omega)]; omega), if_neg (by rw [if_pos (by omega)]; omega), List.nil_append, List.nil_append, g1]
      congr 2
      push_cast
      omega
def blocksOf : List Ln → Int
  | [] => 0
  | l :: r => l.blocks + blocksOf r
def costOf : List Ln → Int
  | [] => 0
  | l :: r => l.blocks * l.price + costOf r
theorem blocksOf_app : ∀ (a b : List Ln), blocksOf (a ++ b) = blocksOf a + blocksOf b
  | [], b => by simp [blocksOf]
  | l :: r, b => by simp [blocksOf, blocksOf_app r b]; omega
theorem costOf_app : ∀ (a b : List Ln), costOf (a ++ b) = costOf a + costOf b
  | [], b => by simp [costOf]
  | l :: r, b => by simp [costOf, costOf_app r b]; omega
def dearT : List Tr → Int
  | [] => 0
  | t :: r => max t.price (dearT r)
theorem dearT_nn : ∀ ts, 0 ≤ dearT ts
  | [] => by simp [dearT]
  | t :: r => by have := dearT_nn r; simp only [dearT]; omega
theorem dearT_mem : ∀ (ts : List Tr) (t : Tr), t ∈ ts → t.price ≤ dearT ts
  | x :: r, t, h => by
    simp only [dearT]
    rcases List.mem_cons.1 h with rfl | h
    · omega
    · have := dearT_mem r t h; omega
theorem good_price : ∀ (ts : List Tr) (ahead : Int), Good ahead ts → ∀ t ∈ ts, (0 ≤ t.price ∧ t.price ≤ 1048576) ∧ 0 ≤ t.upto ∨ ahead < 0
  | [], _, h, _, _ => h.elim
  | x :: r, ahead, h, t, ht => by
    by_cases hn : ahead < 0
    · exact .inr hn
    · unfold Good at h
      rcases List.mem_cons.1 ht with rfl | ht
      · by_cases hr : r = []
        · rw [if_pos hr] at h; exact .inl ⟨h.1, by omega⟩
        · rw [if_neg hr] at h; exact .inl ⟨h.1, by omega⟩
      · have hr : r ≠ [] := by rintro rfl; cases ht
        rw [if_neg hr] at h
        rcases good_price r _ h.2.2 t ht with h1 | h1
        · exact .inl h1
        · omega
theorem dearT_le (ts : List Tr) (m : Int) (hm : 0 ≤ m) (h : ∀ t ∈ ts, t.price ≤ m) : dearT ts ≤ m := by
  induction ts with
  | nil => simpa [dearT] using hm
  | cons t r ih =>
    have h1 := h t (by simp)
    have h2 := ih fun t ht => h t (by simp [ht])
    simp only [dearT]; omega
/-- The blocks of a tier. -/
theorem splitG_blocks : ∀ (ts : List Tr) (k prev lo hi : Int), Good prev ts → 0 ≤ prev → blocksOf (splitG k prev ts lo hi) = max 0 (hi - max lo prev)
  | [], _, _, _, _, h, _ => h.elim
  | t :: r, k, prev, lo, hi, h, h0 => by
    unfold Good at h
    unfold splitG
    rw [blocksOf_app]
    by_cases hr : r = []
    · subst hr
      simp at h
      rw [if_neg (show ¬ 0 < t.upto by omega)]
      split
      · simp [blocksOf, splitG]; omega
      · simp [blocksOf, splitG]; omega
    · rw [if_neg hr] at h
      rw [splitG_blocks r _ _ _ _ h.2.2 (by omega), if_pos (show 0 < t.upto by omega)]
      split
      · simp [blocksOf]; omega
      · simp [blocksOf]; omega
theorem splitG_mem : ∀ (ts : List Tr) (k prev lo hi : Int) (l : Ln), Good prev ts → 0 ≤ prev → l ∈ splitG k prev ts lo hi → (0 < l.blocks ∧ l.blocks ≤ hi - max lo prev) ∧ (∃ t ∈ ts, l.price = t.price)
  | [], _, _, _, _, _, h, _, _ => h.elim
  | t :: r, k, prev, lo, hi, l, hg, h0, h => by
    unfold Good at hg
    unfold splitG at h
    rcases List.mem_append.1 h with h | h
    · by_cases hm : max lo prev < (if 0 < t.upto then min hi t.upto else hi)
      · rw [if_pos hm, List.mem_singleton] at h
        subst h
        refine ⟨⟨by dsimp only; omega, ?_⟩, t, by simp, rfl⟩
        dsimp only
        split <;> omega
      · rw [if_neg hm] at h; cases h
    · by_cases hr : r = []
      · subst hr; cases h
      · rw [if_neg hr] at hg
        obtain ⟨⟨h1, h3⟩, x, hx, h2⟩ := splitG_mem r _ _ _ _ l hg.2.2 (by omega) h
        exact ⟨⟨h1, by omega⟩, x, by simp [hx], h2⟩
theorem mul_le_mul_i {a b c d : Int} (h1 : a ≤ b) (h2 : c ≤ d) (h3 : 0 ≤ c) (h4 : 0 ≤ b) : a * c ≤ b * d :=
  Int.le_trans (Int.mul_le_mul_of_nonneg_right h1 h3) (Int.mul_le_mul_of_nonneg_left h2 h4)
theorem costOf_le (m : Int) (hm : 0 ≤ m) : ∀ (ls : List Ln), (∀ l ∈ ls, 0 ≤ l.blocks ∧ 0 ≤ l.price ∧ l.price ≤ m) → 0 ≤ costOf ls ∧ costOf ls ≤ blocksOf ls * m ∧ 0 ≤ blocksOf ls
  | [], _ => by simp [costOf, blocksOf]
  | l :: r, h => by
    obtain ⟨h1, h2, h3⟩ := h l (by simp)
    obtain ⟨i1, i2, i3⟩ := costOf_le m hm r fun x hx => h x (by simp [hx])
    simp only [costOf, blocksOf]
    have e1 := Int.mul_nonneg h1 h2
    have e2 := Int.mul_le_mul_of_nonneg_left h3 h1
    rw [Int.add_mul]
    omega
/-- What was split at mid costs as much as the whole. -/
theorem splitG_apart : ∀ (ts : List Tr) (k k1 k2 prev lo mid hi : Int), Good prev ts → lo ≤ mid → mid ≤ hi → costOf (splitG k1 prev ts lo mid) + costOf (splitG k2 prev ts mid hi) = costOf (splitG k prev ts lo hi)
  | [], _, _, _, _, _, _, _, h, _, _ => h.elim
  | t :: r, k, k1, k2, prev, lo, mid, hi, h, h1, h2 => by
    unfold Good at h
    unfold splitG
    simp only [costOf_app]
    have ih : costOf (splitG (k1 + 1) t.upto r lo mid) + costOf (splitG (k2 + 1) t.upto r mid hi) = costOf (splitG (k + 1) t.upto r lo hi) := by
      by_cases hr : r = []
      · subst hr; rfl
      · rw [if_neg hr] at h; exact splitG_apart r _ _ _ _ _ _ _ h.2.2 h1 h2
    have key : ∀ a b : Int, costOf (if a < b then [⟨k, b - a, t.price⟩] else []) = max 0 (b - a) * t.price := fun a b => by
      split
      · simp only [costOf]; rw [show max 0 (b - a) = b - a by omega]; omega
      · simp only [costOf]; rw [show max 0 (b - a) = 0 by omega]; omega
    have key1 : ∀ a b : Int, costOf (if a < b then [⟨k1, b - a, t.price⟩] else []) = max 0 (b - a) * t.price := fun a b => by
      split
      · simp only [costOf]; rw [show max 0 (b - a) = b - a by omega]; omega
      · simp only [costOf]; rw [show max 0 (b - a) = 0 by omega]; omega
    have key2 : ∀ a b : Int, costOf (if a < b then [⟨k2, b - a, t.price⟩] else []) = max 0 (b - a) * t.price := fun a b => by
      split
      · simp only [costOf]; rw [show max 0 (b - a) = b - a by omega]; omega
      · simp only [costOf]; rw [show max 0 (b - a) = 0 by omega]; omega
    rw [key, key1, key2]
    have e : max 0 ((if 0 < t.upto then min mid t.upto else mid) - max lo prev) + max 0 ((if 0 < t.upto then min hi t.upto else hi) - max mid prev) = max 0 ((if 0 < t.upto then min hi t.upto else hi) - max lo prev) := by
      split <;> omega
    rw [← e, Int.add_mul]
    omega
/-- Blocks that begun ones count as. -/
def blk (n b : Int) : Int := (n + b - 1) / b
theorem blk_le (n b c : Int) (hb : 0 < b) (hn : 0 ≤ n) : blk n b ≤ c ↔ n ≤ c * b := by
  unfold blk
  rw [← Int.lt_add_one_iff, Int.ediv_lt_iff_lt_mul hb, Int.add_mul]
  omega
theorem blk_nn (n b : Int) (hb : 0 < b) (hn : 0 ≤ n) : 0 ≤ blk n b := Int.ediv_nonneg (by omega) (by omega)
theorem blk_self (n b : Int) (hb : 0 < b) (hn : 0 ≤ n) : blk n b ≤ n := (blk_le n b n hb hn).2 (by
  have := Int.mul_le_mul_of_nonneg_left (show 1 ≤ b by omega) hn
  omega)
theorem blk_mono {n m b : Int} (hb : 0 < b) (h : n ≤ m) : blk n b ≤ blk m b := Int.ediv_le_ediv hb (by omega)
theorem blk_whole (k b : Int) (hb : 0 < b) : blk (k * b) b = k := by
  unfold blk
  rw [show k * b + b - 1 = (b - 1) + k * b by omega, Int.add_mul_ediv_right _ _ (by omega), Int.ediv_eq_zero_of_lt (by omega) (by omega)]
  omega
def dear (p : Pl) : Int := max (dearT p.base.ts) (dearT p.other.ts)
/-- How many fit. -/
def fitN (b price credit want : Int) : Int := if 0 < price then min want (credit / price * b) else want
theorem fitN_le (b price credit want n : Int) (hb : 0 < b) (hp : 0 ≤ price) (hc : 0 ≤ credit) (hn : 0 ≤ n) (hw : n ≤ want) : blk n b * price ≤ credit ↔ n ≤ fitN b price credit want := by
  unfold fitN
  split
  · rename_i h
    rw [← Int.le_ediv_iff_mul_le h, blk_le n b _ hb hn]
    omega
  · rename_i h
    rw [show price = 0 by omega]
    omega
theorem fitN_nn (b price credit want : Int) (hb : 0 < b) (hc : 0 ≤ credit) (hw : 0 ≤ want) : 0 ≤ fitN b price credit want ∧ fitN b price credit want ≤ want := by
  unfold fitN
  split
  · rename_i h
    have := Int.mul_nonneg (Int.ediv_nonneg hc (Int.le_of_lt h)) (Int.le_of_lt hb)
    omega
  · omega
theorem good_far : ∀ (ts : List Tr) (ahead : Int), Good ahead ts → ∀ t ∈ ts, t.upto ≤ 1099511627776 ∨ t.upto = 0
  | [], _, h, _, _ => h.elim
  | x :: r, ahead, h, t, ht => by
    unfold Good at h
    rcases List.mem_cons.1 ht with rfl | ht
    · by_cases hr : r = []
      · rw [if_pos hr] at h; exact .inr h.2
      · rw [if_neg hr] at h; exact .inl h.2.1.2
    · have hr : r ≠ [] := by rintro rfl; cases ht
      rw [if_neg hr] at h
      exact good_far r _ h.2.2 t ht
def priceAt (ts : List Tr) (i : Nat) : Int := match ts[i]? with | some t => t.price | none => 0
/-- The lines of so many blocks behind a position. -/
def splitL (t : Tar) (pos n : Int) : List Ln := if t.mode = 2 ∧ 0 < n then [⟨idx (pos + n) t.ts, n, priceAt t.ts (idx (pos + n) t.ts)⟩] else splitG 0 0 t.ts pos (pos + n)
def posOk (pos : Int) : Prop := 0 ≤ pos ∧ pos ≤ 1099511627776
instance (pos : Int) : Decidable (posOk pos) := by unfold posOk; infer_instance
def splitO (t : Tar) (pos n : Int) : List Ln := if posOk pos then splitL t pos n else []
theorem splitG_len : ∀ (ts : List Tr) (k prev lo hi : Int), (splitG k prev ts lo hi).length ≤ ts.length
  | [], _, _, _, _ => by simp [splitG]
  | t :: r, k, prev, lo, hi => by
    have := splitG_len r (k + 1) t.upto lo hi
    unfold splitG
    have one : ∀ (b : Prop) [Decidable b] (l : Ln), (if b then [l] else []).length ≤ 1 := fun b _ l => by split <;> simp
    rw [List.length_append, List.length_cons]
    exact Nat.le_trans (Nat.add_le_add (one _ _) this) (by omega)
theorem good0_price {ts : List Tr} (h : Good 0 ts) : ∀ t ∈ ts, (0 ≤ t.price ∧ t.price ≤ 1048576) ∧ 0 ≤ t.upto := fun t ht => (good_price ts 0 h t ht).elim id fun k => by omega
theorem splitL_ok {t : Tar} (h : chkE t = 0) {pos n : Int} (hp : 0 ≤ pos) (hn : 0 ≤ n) :
    (∀ l ∈ splitL t pos n, (0 < l.blocks ∧ l.blocks ≤ n) ∧ (0 ≤ l.price ∧ l.price ≤ 1048576) ∧ l.price ≤ dearT t.ts) ∧ blocksOf (splitL t pos n) = n ∧ (splitL t pos n).length ≤ 6 := by
  obtain ⟨_, _, hl, hg⟩ := chk_ok h
  unfold splitL
  split
  · rename_i hm
    have hi := idx_lt (pos + n) t.ts 0 hg
    have hx := List.getElem?_eq_getElem hi
    refine ⟨fun l hl => ?_, by simp [blocksOf], by simp⟩
    rw [List.mem_singleton] at hl
    subst hl
    have hmem := List.getElem_mem hi
    have he : priceAt t.ts (idx (pos + n) t.ts) = (t.ts[idx (pos + n) t.ts]'hi).price := by unfold priceAt; rw [hx]
    refine ⟨⟨hm.2, Int.le_refl _⟩, ?_, ?_⟩
    · show 0 ≤ priceAt _ _ ∧ priceAt _ _ ≤ _
      rw [he]; exact (good0_price hg _ hmem).1
    · show priceAt _ _ ≤ _
      rw [he]; exact dearT_mem _ _ hmem
  · refine ⟨fun l hl => ?_, ?_, Nat.le_trans (splitG_len _ _ _ _ _) hl.2⟩
    · obtain ⟨⟨h1, h2⟩, x, hx, h3⟩ := splitG_mem t.ts 0 0 pos (pos + n) l hg (by omega) hl
      have := good0_price hg x hx
      refine ⟨⟨h1, by omega⟩, by omega, ?_⟩
      rw [h3]; exact dearT_mem _ _ hx
    · rw [splitG_blocks _ _ _ _ _ hg (by omega)]; omega
theorem splitL_cost {t : Tar} (h : chkE t = 0) {pos n : Int} (hp : 0 ≤ pos) (hn : 0 ≤ n) : 0 ≤ costOf (splitL t pos n) ∧ costOf (splitL t pos n) ≤ n * dearT t.ts := by
  obtain ⟨h1, h2, h3⟩ := splitL_ok h hp hn
  have := costOf_le (dearT t.ts) (dearT_nn _) (splitL t pos n) fun l hl => ⟨by have := (h1 l hl).1; omega, (h1 l hl).2.1.1, (h1 l hl).2.2⟩
  rw [h2] at this
  exact ⟨this.1, this.2.1⟩
theorem dear_small {t : Tar} (h : chkE t = 0) : 0 ≤ dearT t.ts ∧ dearT t.ts ≤ 1048576 := ⟨dearT_nn _, dearT_le _ _ (by omega) fun x hx => (good0_price (chk_ok h).2.2.2 x hx).1.2⟩
structure Rtd where
  ls : List Ln
  blocks : Int
  cost : Int
  pos : Int
def rateE (p : Pl) (now pos n : Int) : Int := if planE p ≠ 0 ∨ now < 0 ∨ ¬ (0 ≤ n ∧ n ≤ 1073741824) ∨ ¬ posOk pos then 1 else 0
def rateR (p : Pl) (now pos n : Int) : Rtd := if rateE p now pos n = 0 then ⟨splitL (atT p now) pos (blk n p.base.block), blk n p.base.block, costOf (splitL (atT p now) pos (blk n p.base.block)), pos + blk n p.base.block⟩ else ⟨[], 0, 0, 0⟩
theorem rateE_ok {p : Pl} {now pos n : Int} (h : rateE p now pos n = 0) : planE p = 0 ∧ 0 ≤ now ∧ (0 ≤ n ∧ n ≤ 1073741824) ∧ posOk pos := by
  unfold rateE at h
  split at h
  · cases h
  · rename_i h1
    refine ⟨Decidable.not_not.1 fun k => h1 (.inl k), by omega, by omega, Decidable.not_not.1 fun k => h1 (.inr (.inr (.inr k)))⟩
theorem rateE_01 (p : Pl) (now pos n : Int) : rateE p now pos n = 0 ∨ rateE p now pos n = 1 := by unfold rateE; split <;> simp
def worstE (p : Pl) (n : Int) : Int := if planE p ≠ 0 ∨ ¬ (0 ≤ n ∧ n ≤ 1073741824) then 1 else 0
def worstN (p : Pl) (n : Int) : Int := if worstE p n = 0 then blk n p.base.block * dear p else 0
def fitE (p : Pl) (credit want : Int) : Int := if planE p ≠ 0 ∨ ¬ (0 ≤ want ∧ want ≤ 1073741824) ∨ credit < 0 then 1 else 0
def fitU (p : Pl) (credit want : Int) : Int := if fitE p credit want = 0 then fitN p.base.block (dear p) credit want else 0
def fitC (p : Pl) (credit want : Int) : Int := if fitE p credit want = 0 then blk (fitU p credit want) p.base.block * dear p else 0
theorem dear_plan {p : Pl} (h : planE p = 0) : 0 ≤ dear p ∧ dear p ≤ 1048576 := by
  obtain ⟨h1, h2⟩ := plan_ok h
  have a := dear_small h1
  unfold dear
  rcases h2 with ⟨_, _, _, h3⟩ | ⟨_, _, h3, _⟩
  · rw [h3.2.2.2]; simp only [dearT]; omega
  · have b := dear_small h3; omega
theorem worst_small {p : Pl} (h : planE p = 0) {n : Int} (hn : 0 ≤ n ∧ n ≤ 1073741824) : 0 ≤ blk n p.base.block * dear p ∧ blk n p.base.block * dear p ≤ 1125899906842624 := by
  have hb := (chk_ok (plan_ok h).1).1.2
  have h1 := dear_plan h
  have h2 := blk_nn n p.base.block (by omega) hn.1
  have h3 := blk_self n p.base.block (by omega) hn.1
  exact ⟨Int.mul_nonneg h2 h1.1, mul_le_mul_i (show blk n p.base.block ≤ 1073741824 by omega) h1.2 h1.1 (by omega)⟩
end Go.Proofs.Ytecmpjccdhmeeaa
end
section
/- The bytes of numbers: the plain law. No program in sight. -/
namespace Go.Proofs.Ytecmpjccdhmeeaa
open Go.RowKit
/-- The groups of a number without a sign. -/
def grp (u : Nat) : List UInt8 := if u < 128 then [UInt8.ofNat u] else UInt8.ofNat (u % 128 + 128) :: grp (u / 128)
termination_by u
decreasing_by omega
theorem grp_lt {u : Nat} (h : u < 128) : grp u = [UInt8.ofNat u] := by rw [grp, if_pos h]
theorem grp_ge {u : Nat} (h : 128 ≤ u) : grp u = UInt8.ofNat (u % 128 + 128) :: grp (u / 128) := by rw [grp, if_neg (by omega)]
theorem grp_len (n : Nat) : ∀ u, u < 128 ^ (n + 1) → (grp u).length ≤ n + 1 := by
  induction n with
  | zero => intro u h; rw [grp_lt (by simpa using h)]; simp
  | succ n ih =>
    intro u h
    by_cases h1 : u < 128
    · rw [grp_lt h1]; simp
    · rw [grp_ge (by omega), List.length_cons]
      have := ih (u / 128) (by rw [Nat.div_lt_iff_lt_mul (by omega), ← Nat.pow_succ]; exact h)
      omega
theorem grp_len64 {u : Nat} (h : u < 18446744073709551616) : (grp u).length ≤ 10 := grp_len 9 u (by omega)
theorem grp_pos (u : Nat) : 0 < (grp u).length := by
  by_cases h : u < 128
  · rw [grp_lt h]; simp
  · rw [grp_ge (by omega)]; simp
/-- An int as a number without a sign: zigzag. -/
def zig (z : Int) : Nat := if 0 ≤ z then (2 * z).toNat else (2 * (-z) - 1).toNat
theorem zig_lt {z : Int} (h1 : -9223372036854775808 ≤ z) (h2 : z ≤ 9223372036854775807) : zig z < 18446744073709551616 := by unfold zig; split <;> omega
def uintB (z : Int) : List UInt8 := if z < 0 then [] else grp z.toNat
def intB (z : Int) : List UInt8 := grp (zig z)
def flagB (b : Bool) : List UInt8 := [if b then 1 else 0]
def textB (bs : List UInt8) : List UInt8 := grp bs.length ++ bs
end Go.Proofs.Ytecmpjccdhmeeaa
end
section
/- The writer of the codec, walked. -/
namespace Go.Proofs.Ytecmpjccdhmeeaa
open Go.RowKit
theorem Try.infoB : (Try.prog.info? 5).map (fun i => (i.zero, i.size, i.bytes)) = some (some (.int .u8 0), 1, 1) := by kernel_rfl
theorem wpList_appb {ops : Array Oper} {rest : List Oper} {o : Oper} {a : Act} {w : World} {Q : Exit → Act → World → Prop} (hgd : o.guard = none) (s xo : Operand)
    (hop : o.op = Op.call { callee := Callee.builtin Builtin.append, args := #[s, xo], argTypes := #[28, 28] })
    {base n : Nat} {v : Value} {xs : List Value} (hv : a.eval s = v) (ho : Own w base 5 1 v n xs) (x : Value) (hx : a.eval xo = x) (m : Nat) (news : List Value) (hs : Src Try.prog 1 28 x m news w)
    (hb : n + m ≤ 140737488355328) (hbase : base ≤ w.heap.size)
    (hK : ∀ v' w', Own w' base 5 1 v' (n + m) (xs ++ news) → w.grownBy w' v.ownBlock → (v'.ownBlock = v.ownBlock ∨ ∃ g, v'.ownBlock = some g ∧ w.heap.size ≤ g) → wpList Try.prog ops Q rest (a.put o.dst v') w') :
    wpList Try.prog ops Q (o :: rest) a w := by
  obtain ⟨i0, hi, hz0, hz1, hz2⟩ := info_parts Try.infoB
  exact wpList_app hgd s xo 28 28 hop i0 _ 1 Try.underlying28 hi hz0 hz1 hz2 rfl hv ho x hx m news hs (by unfold maxLen; omega) (by omega) hbase hK
theorem Src.builtB {W : World} (b : UInt8) : Src Try.prog 1 28 (.slice (some ⟨W.heap.size, 0, none⟩) 1 1) 1 [bV b] (W.alloc (.cells #[bV b] 5)) :=
  Src.ofRow Try.underlying28 (some ⟨W.heap.size, 0, none⟩) 1 [bV b] (RowAt.ofWhole (vs := [bV b]) (al_new rfl)) (by intro u hu; rw [List.mem_singleton] at hu; subst hu; rfl)
/-- A writer. -/
structure WAt (w : World) (L : List Nat) (g : Nat) (bs : List UInt8) (bad : Bool) : Prop where
  ex : ∃ v, Bk w g #[v, .bool bad] 83 ∧ Own w 0 5 1 v bs.length (bs.map bV) ∧ ∀ k, v.ownBlock = some k → k ∈ L
  mem : g ∈ L
  under : Under L w.heap.size
theorem WAt.keep {w w' : World} {L : List Nat} {g : Nat} {bs : List UInt8} {bad : Bool} (h : WAt w L g bs bad) (hk : ∀ k ∈ L, w'.heap[k]? = w.heap[k]?) (hs : w.heap.size ≤ w'.heap.size) : WAt w' L g bs bad := by
  obtain ⟨⟨v, h1, h2, h3⟩, h4, h5⟩ := h
  exact ⟨⟨v, h1.keep (hk g h4), h2.keep fun k hv => hk k (h3 k hv), h3⟩, h4, h5.mono hs⟩
theorem WAt.fr {w w' : World} {L M : List Nat} {g : Nat} {bs : List UInt8} {bad : Bool} (h : WAt w L g bs bad) (hf : Fr M w w') (ha : Apart L M) : WAt w' L g bs bad := h.keep (hf.keep ha h.under) hf.size
theorem WAt.make {w : World} {g : Nat} {v : Value} {bs : List UInt8} {bad : Bool} (h1 : Bk w g #[v, .bool bad] 83) (h2 : Own w 0 5 1 v bs.length (bs.map bV)) : WAt w (g :: v.ownBlock.toList) g bs bad :=
  ⟨⟨v, h1, h2, fun k hk => by simp [hk]⟩, by simp, fun k hk => by
    rcases List.mem_cons.1 hk with rfl | hk
    · exact h1.lt
    · exact (h2.lt k (by simpa using hk)).2⟩
theorem own_far {w : World} {g : Nat} {v : Value} {cs : Array Value} {n : Nat} {xs : List Value} {t : TypeId} (h1 : Bk w g cs t) (h2 : Own w 0 5 1 v n xs) (hne : t ≠ 5) : v.ownBlock ≠ some g := by
  intro h
  rcases h2.2 with ⟨rfl, _⟩ | ⟨g', off, cap, cur, rfl, hb, hg, _⟩
  · cases h
  · simp [Value.ownBlock] at h
    subst h
    unfold Bk at h1
    rw [h1] at hg
    injection hg with hg
    injection hg with h3 h4 h5
    exact hne h4
theorem u8_of (u : Nat) : IntKind.u8.wrap (u : Int) = ((u % 256 : Nat) : Int) := by rw [IntKind.wrap_u8]; omega
theorem bV_nat (n : Nat) (h : n < 256) : bV (UInt8.ofNat n) = .int .u8 (n : Int) := by
  unfold bV
  rw [show (UInt8.ofNat n).toNat = n % 256 from rfl, Nat.mod_eq_of_lt h]
theorem or128B : ((List.range 256).all fun x => bits BinOp.or IntKind.u8 (x : Int) 128 == ((x % 128 + 128 : Nat) : Int)) = true := by kernel_rfl
theorem or128 (x : Nat) : bits BinOp.or IntKind.u8 ((x : Int) % 256) 128 = ((x % 128 + 128 : Nat) : Int) := by
  have h := List.all_eq_true.1 or128B (x % 256) (List.mem_range.2 (by omega))
  have h2 := eq_of_beq h
  rw [show ((x % 256 : Nat) : Int) = (x : Int) % 256 by omega, show x % 256 % 128 = x % 128 by omega] at h2
  exact h2
/-- One append to a writer, and the store of the slice. -/
theorem w_step {wa w1 : World} {g n m : Nat} {v v1 : Value} {bad : Bool} {xs zs : List Value} (hB : Bk wa g #[v, .bool bad] 83) (hO : Own wa 0 5 1 v n xs) (hg : wa.grownBy w1 v.ownBlock) (ho1 : Own w1 0 5 1 v1 m zs) :
    Bk w1 g #[v, .bool bad] 83 ∧ Bk (w1.setCell ⟨g, 0, none⟩ v1) g #[v1, .bool bad] 83 ∧ Own (w1.setCell ⟨g, 0, none⟩ v1) 0 5 1 v1 m zs := by
  have hne : v.ownBlock ≠ some g := own_far hB hO (by decide)
  have b1 : Bk w1 g #[v, .bool bad] 83 := hB.keep (hg.block g hB.lt (fun e => hne e.symm))
  refine ⟨b1, b1.setCell 0 v1, ho1.keep fun k hk => Below.heap_setCell _ _ _ _ fun e => ?_⟩
  have e2 : k = g := e
  subst e2
  exact own_far b1 ho1 (by decide) hk
theorem own_gr {L : List Nat} {v v1 : Value} {n m : Nat} (hK : ∀ k, v.ownBlock = some k → k ∈ L ∨ n ≤ k) (hn1 : v1.ownBlock = v.ownBlock ∨ ∃ g, v1.ownBlock = some g ∧ m ≤ g) (hnm : n ≤ m) : ∀ k, v1.ownBlock = some k → k ∈ L ∨ n ≤ k := by
  intro k hk
  rcases hn1 with h | ⟨g, h, hg⟩
  · exact hK k (h ▸ hk)
  · rw [h] at hk; injection hk with hk; omega
theorem gr_make {L : List Nat} {v : Value} {n g : Nat} (hg : g ∈ L) (hK : ∀ k, v.ownBlock = some k → k ∈ L ∨ n ≤ k) : Gr L (g :: v.ownBlock.toList) n := by
  intro k hk
  rcases List.mem_cons.1 hk with rfl | hk
  · exact .inl hg
  · exact hK k (by simpa using hk)
set_option maxRecDepth 100000 in
set_option maxHeartbeats 2000000 in
theorem wput_any (g u : Nat) (hu : u < 18446744073709551616) (bs : List UInt8) (bad : Bool) (L : List Nat) (w : World) (h : WAt w L g bs bad) (hl : bs.length ≤ 100000000) :
    Calls Try.prog 76 #[.pointer (some ⟨g, 0, none⟩), .int .u64 u] w fun e w' => e = .returned (.tuple #[]) ∧ ∃ L', WAt w' L' g (bs ++ grp u) bad ∧ Fr L w w' ∧ Gr L L' w.heap.size := by
  obtain ⟨⟨v, h1, h2, h3⟩, h4, h5⟩ := h
  have H1 := Bx.mk h1; have H2 := Bx.mk h2; have H3 := Bx.mk h3; have H4 := Bx.mk h4; have HL := Bx.mk hl; have HU := Bx.mk hu
  have H10 := Bx.mk (grp_len64 hu)
  clear h1 h2 h3 h4 h5 hl hu
  go_enter Try.func76, Try.ntmps76
  go_wp2_with fail
  go_loopw [1,4,5,6,7,8,9,10,11,12,13,14,15,16,17,18,19] (fun t1 _ _ _ _ _ _ _ _ _ _ _ _ _ _ _ _ wr => ∃ (x : Nat) (v : Value) (ys : List UInt8), t1 = .int .u64 x ∧ x ≤ u ∧ Bx (ys ++ grp x = bs ++ grp u) ∧ Bk wr g #[v, .bool bad] 83 ∧ Own wr 0 5 1 v ys.length (ys.map bV) ∧ Bx (∀ k, v.ownBlock = some k → k ∈ L ∨ w.heap.size ≤ k) ∧ Fr L w wr) (fun t1 _ _ _ _ _ _ _ _ _ _ _ _ _ _ _ _ _ => (intOf t1).toNat)
  case atStart => exact ⟨u, v, bs, rfl, Nat.le_refl _, ⟨rfl⟩, H1.out, H2.out, ⟨fun k hk => .inl (H3.out k hk)⟩, Fr.refl _ _⟩
  case round =>
    obtain ⟨x, v, ys, rfl, hxu, hE, hB, hO, hK, hF⟩ := hrel
    have HB := Bx.mk hB; have HO := Bx.mk hO; have HF := Bx.mk hF
    have hlen : ys.length ≤ 100000010 := by
      have := congrArg List.length hE.out; rw [List.length_append, List.length_append] at this; have := HL.out; have := H10.out; omega
    have HLen := Bx.mk hlen
    have hXU := Bx.mk hxu
    have c0 : wr.cell? ⟨g, 0, none⟩ = some v := by rw [hB.cell]; rfl
    clear hB hO hF hlen hxu
    by_cases hge : (128 : Int) ≤ (x : Int)
    · have hG := grp_ge (u := x) (by omega)
      obtain ⟨y, hy⟩ : ∃ y, y = x % 128 + 128 := ⟨_, rfl⟩
      have f2 : bits BinOp.or IntKind.u8 ((x : Int) % 256) 128 = (y : Int) := by rw [or128, hy]
      have f3 : (x : Int) / 128 = ((x / 128 : Nat) : Int) := by omega
      have f4 : IntKind.u64.wrap ((x / 128 : Nat) : Int) = ((x / 128 : Nat) : Int) := by rw [IntKind.wrap_u64]; have := hXU.out; have := HU.out; omega
      rw [← hy] at hG
      have hyb := bV_nat y (by omega)
      have HY := Bx.mk hyb; have HG := Bx.mk hG
      have hdec : x / 128 < x := by omega
      have hdec2 : x / 128 ≤ u := by have := hXU.out; omega
      have HD := Bx.mk hdec; have HD2 := Bx.mk hdec2
      clear hy hyb hG hdec hdec2
      generalize x / 128 = x2 at *
      go_wp2_with (refine wpList_appb rfl (.tmp 10) (.tmp 14) rfl rfl (HO.out.alloc _) _ rfl 1 [bV (UInt8.ofNat y)] (by rw [← HY.out]; exact Src.builtB (UInt8.ofNat y)) (by have := HLen.out; omega) (by omega) ?_)
      intro v1 w1 ho1 hg1 hn1
      obtain ⟨a1, cp1, rfl⟩ := ho1.isSlice
      obtain ⟨b1, b2, b3⟩ := w_step (HB.out.alloc _) (HO.out.alloc _) hg1 ho1
      have hK2 := own_gr hK.out hn1 (show w.heap.size ≤ wr.heap.size + 1 by have := HF.out.size; omega)
      have hF2 := ((HF.out.alloc (.cells #[.int .u8 (y : Int)] 5)).grown hg1 hK.out).setCell (p := ⟨g, 0, none⟩) (.inl H4.out) (.slice a1 (ys.length + 1) cp1)
      have c1 : w1.frozen? ⟨g, 0, none⟩ = false := b1.frozen 0
      have c2 : w1.cell? ⟨g, 0, none⟩ = some v := by rw [b1.cell]; rfl
      have B2 := Bx.mk b2; have B3 := Bx.mk b3; have K2 := Bx.mk hK2; have F2 := Bx.mk hF2
      clear b1 b2 b3 hK2 hF2 ho1 hg1 hn1
      go_wp2
      go_roundw
      case rel => exact ⟨x2, _, ys ++ [UInt8.ofNat y], rfl, HD2.out, ⟨by rw [← hE.out, HG.out, List.append_assoc]; rfl⟩, B2.out, by rw [List.length_append, List.map_append]; exact B3.out, K2, F2.out⟩
      case measure => have := HD.out; simp [intOf]; omega
    · have hG := grp_lt (u := x) (by omega)
      have hyb := bV_nat x (by omega)
      have HY := Bx.mk hyb; have HG := Bx.mk hG
      have f1 : (x : Int) % 256 = (x : Int) := by omega
      clear hyb hG
      go_wp2_with (refine wpList_appb rfl (.tmp 24) (.tmp 27) rfl rfl (HO.out.alloc _) _ rfl 1 [bV (UInt8.ofNat x)] (by rw [← HY.out]; exact Src.builtB (UInt8.ofNat x)) (by have := HLen.out; omega) (by omega) ?_)
      intro v1 w1 ho1 hg1 hn1
      obtain ⟨a1, cp1, rfl⟩ := ho1.isSlice
      obtain ⟨b1, b2, b3⟩ := w_step (HB.out.alloc _) (HO.out.alloc _) hg1 ho1
      have hK2 := own_gr hK.out hn1 (show w.heap.size ≤ wr.heap.size + 1 by have := HF.out.size; omega)
      have hF2 := ((HF.out.alloc (.cells #[.int .u8 (x : Int)] 5)).grown hg1 hK.out).setCell (p := ⟨g, 0, none⟩) (.inl H4.out) (.slice a1 (ys.length + 1) cp1)
      have c1 : w1.frozen? ⟨g, 0, none⟩ = false := b1.frozen 0
      have c2 : w1.cell? ⟨g, 0, none⟩ = some v := by rw [b1.cell]; rfl
      have B2 := Bx.mk b2; have B3 := Bx.mk b3; have K2 := Bx.mk hK2; have F2 := Bx.mk hF2
      clear b1 b2 b3 hK2 hF2 ho1 hg1 hn1
      go_wp2
      go_end0
      refine ⟨rfl, _, ?_, F2.out, gr_make H4.out K2.out⟩
      rw [← hE.out, HG.out]
      exact WAt.make B2.out (by rw [List.length_append, List.map_append]; exact B3.out)
end Go.Proofs.Ytecmpjccdhmeeaa
end
section
/- The rest of the codec's writer, walked. -/
namespace Go.Proofs.Ytecmpjccdhmeeaa
open Go.RowKit
def W1 (w : World) (L : List Nat) (g : Nat) (bs : List UInt8) (bad : Bool) (e : Ending) (w' : World) : Prop :=
  e = .returned (.tuple #[]) ∧ ∃ L', WAt w' L' g bs bad ∧ Fr L w w' ∧ Gr L L' w.heap.size
theorem WAt.setBad {w : World} {L : List Nat} {g : Nat} {bs : List UInt8} {bad : Bool} (h : WAt w L g bs bad) : WAt (w.setCell ⟨g, 1, none⟩ (.bool true)) L g bs true := by
  obtain ⟨⟨v, h1, h2, h3⟩, h4, h5⟩ := h
  refine ⟨⟨v, h1.setCell 1 (.bool true), h2.keep fun k hk => Below.heap_setCell _ _ _ _ fun e => ?_, h3⟩, h4, by simpa [Under] using h5⟩
  have e2 : k = g := e
  subst e2
  exact own_far h1 h2 (by decide) hk
set_option maxRecDepth 100000 in
set_option maxHeartbeats 2000000 in
theorem wUint_neg (g : Nat) (z : Int) (hz : z < 0) (bs : List UInt8) (bad : Bool) (L : List Nat) (w : World) (h : WAt w L g bs bad) :
    Calls Try.prog 40 #[.pointer (some ⟨g, 0, none⟩), .int .i64 z] w (W1 w L g bs true) := by
  have HW := Bx.mk h
  obtain ⟨⟨v, h1, h2, h3⟩, h4, h5⟩ := h
  have H4 := Bx.mk h4
  have c1 : w.frozen? ⟨g, 1, none⟩ = false := h1.frozen 1
  have c2 : w.cell? ⟨g, 1, none⟩ = some (.bool bad) := by rw [h1.cell]; rfl
  clear h1 h2 h3 h4 h5
  go_enter Try.func40, Try.ntmps40
  go_wp2
  go_end0
  exact ⟨rfl, L, HW.out.setBad, (Fr.refl _ _).setCell (p := ⟨g, 1, none⟩) (.inl H4.out) _, Gr.refl _ _⟩
set_option maxRecDepth 100000 in
set_option maxHeartbeats 2000000 in
theorem wUint_pos (g n : Nat) (hn : n < 9223372036854775808) (bs : List UInt8) (bad : Bool) (L : List Nat) (w : World) (h : WAt w L g bs bad) (hl : bs.length ≤ 100000000) :
    Calls Try.prog 40 #[.pointer (some ⟨g, 0, none⟩), .int .i64 n] w (W1 w L g (bs ++ grp n) bad) := by
  have HC := fun w h => Bx.mk (wput_any g n (by omega) bs bad L w h hl)
  have HW := Bx.mk h
  have f1 : IntKind.u64.wrap (n : Int) = (n : Int) := by rw [IntKind.wrap_u64]; omega
  have f2 : ¬ (n : Int) < 0 := by omega
  clear h hl hn
  go_enter Try.func40, Try.ntmps40
  go_wp2_with fail
  refine (HC _ HW.out).out.mono ?_
  rintro e w' ⟨rfl, hw'⟩
  go_wp2
  go_end0
  exact ⟨rfl, hw'⟩
theorem wUint_nil (z : Int) (w : World) : Calls Try.prog 40 #[.pointer none, .int .i64 z] w fun e w' => e = .returned (.tuple #[]) ∧ w' = w := by
  go_enter Try.func40, Try.ntmps40
  go_wp2
  go_end0
  exact ⟨rfl, rfl⟩
theorem wUint_any (g : Nat) (z : Int) (hz : z ≤ 9223372036854775807) (bs : List UInt8) (bad : Bool) (L : List Nat) (w : World) (h : WAt w L g bs bad) (hl : bs.length ≤ 100000000) :
    Calls Try.prog 40 #[.pointer (some ⟨g, 0, none⟩), .int .i64 z] w (W1 w L g (bs ++ uintB z) (bad || decide (z < 0))) := by
  by_cases h0 : z < 0
  · rw [show uintB z = [] by unfold uintB; rw [if_pos h0], List.append_nil, decide_eq_true h0, Bool.or_true]
    exact wUint_neg g z h0 bs bad L w h
  · obtain ⟨n, rfl⟩ := Int.eq_ofNat_of_zero_le (show 0 ≤ z by omega)
    rw [show uintB (n : Int) = grp n by unfold uintB; rw [if_neg h0]; rfl, decide_eq_false h0, Bool.or_false]
    exact wUint_pos g n (by omega) bs bad L w h hl
theorem zig_xor_pos (n : Nat) (h : n < 9223372036854775808) : zig (n : Int) = 2 * n := by unfold zig; rw [if_pos (by omega)]; omega
theorem xor_zero (a : Nat) (h : a < 18446744073709551616) : bits BinOp.xor IntKind.u64 (a : Int) 0 = (a : Int) := by
  have := bits_xor_u64_nat a 0 h (by omega)
  simpa using this
theorem nat_xor_ones (a : Nat) (h : a < 2 ^ 64) : a ^^^ (2 ^ 64 - 1) = 2 ^ 64 - 1 - a := by
  apply Nat.eq_of_testBit_eq
  intro i
  rw [Nat.testBit_xor, Nat.testBit_two_pow_sub_one, show 2 ^ 64 - 1 - a = 2 ^ 64 - (a + 1) by omega, Nat.testBit_two_pow_sub_succ h]
  by_cases hi : i < 64
  · simp [hi]
  · simp [hi]
    exact Nat.testBit_lt_two_pow (Nat.lt_of_lt_of_le h (Nat.pow_le_pow_right (by omega) (by omega)))
theorem xor_ones (a : Nat) (h : a < 18446744073709551616) : bits BinOp.xor IntKind.u64 (a : Int) 18446744073709551615 = ((18446744073709551615 - a : Nat) : Int) := by
  have h1 := bits_xor_u64_nat a 18446744073709551615 h (by omega)
  have h2 := nat_xor_ones a h
  rw [show (2 : Nat) ^ 64 - 1 = 18446744073709551615 from rfl] at h2
  rw [h2] at h1
  exact h1
/-- The bytes of a slice, in blocks of M. -/
def In (w : World) (M : List Nat) (a : Option Addr) (bs : List UInt8) : Prop := RowAt w a (bs.map bV) ∧ ∀ ad, a = some ad → bs ≠ [] → ad.block ∈ M
theorem In.keep {w w' : World} {M : List Nat} {a : Option Addr} {bs : List UInt8} (h : In w M a bs) (hk : ∀ k ∈ M, w'.heap[k]? = w.heap[k]?) : In w' M a bs := by
  refine ⟨?_, h.2⟩
  rcases h.1 with h1 | ⟨b, off, rfl, h1⟩
  · exact .inl h1
  · by_cases hb : bs = []
    · exact .inl (by rw [hb]; rfl)
    · refine .inr ⟨b, off, rfl, fun i v hv => ?_⟩
      rw [← h1 i v hv]
      exact World.cell?_of_block (a := ⟨b, off + i, none⟩) (hk b (h.2 _ rfl hb))
theorem In.nil (w : World) (M : List Nat) : In w M none [] := ⟨.inl rfl, fun _ h => by cases h⟩
theorem In.src {w : World} {M : List Nat} {a : Option Addr} {bs : List UInt8} (h : In w M a bs) (c : Nat) : Src Try.prog 1 28 (.slice a bs.length c) bs.length (bs.map bV) w := by
  have := Src.ofRow (P := Try.prog) (tx := 28) (w := w) Try.underlying28 a c (bs.map bV) h.1 one_bV
  rwa [List.length_map] at this
theorem In.ofOwn {w : World} {b : Nat} {a : Option Addr} {c : Nat} {xs : List UInt8} (h : Own w b 5 1 (.slice a xs.length c) xs.length (xs.map bV)) : In w (Value.ownBlock (.slice a xs.length c)).toList a xs := by
  refine ⟨h.row, fun ad had hne => ?_⟩
  rcases h.2 with ⟨he, h0⟩ | ⟨g, off, cap, cur, he, _⟩
  · exact absurd (List.eq_nil_of_length_eq_zero h0) hne
  · injection he with h1 h2 h3
    subst h1
    injection had with had
    subst had
    simp [Value.ownBlock]
end Go.Proofs.Ytecmpjccdhmeeaa
end
section
/- bytes.Clone, Bytes; the reference's bytes of numbers, walked. -/
namespace Go.Proofs.Ytecmpjccdhmeeaa
open Go.RowKit
set_option maxRecDepth 100000 in
set_option maxHeartbeats 2000000 in
theorem bClone_any (a : Option Addr) (c : Nat) (bs : List UInt8) (w : World) (h : RowAt w a (bs.map bV)) (hl : bs.length ≤ 100000000) :
    Calls Try.prog 77 #[.slice a bs.length c] w fun e w' => ∃ v, e = .returned v ∧ Own w' w.heap.size 5 1 v bs.length (bs.map bV) ∧ Below w.heap.size w w' := by
  have H := Bx.mk h; have HL := Bx.mk hl
  clear h hl
  cases a with
  | none =>
    have hb : bs = [] := by
      rcases H.out with h | ⟨b, off, h, _⟩
      · simpa using h
      · cases h
    subst hb
    have hnil := fun w => Lib.run_eql_slice_nil (P := Try.prog) w 28 5 none 0 c 0 0 Try.underlying28
    show Calls Try.prog 77 #[.slice none 0 c] w _
    go_enter Try.func77, Try.ntmps77
    go_wp2
    go_ret
    exact ⟨_, rfl, Own.nil _ _ _ _, Below.refl _ _⟩
  | some ad =>
    have hnil := fun w => Lib.run_eql_slice_nil (P := Try.prog) w 28 5 (some ad) bs.length c 0 0 Try.underlying28
    have hnn : (some ad).isNone = false := rfl
    go_enter Try.func77, Try.ntmps77
    go_wp2_with (refine wpList_appb rfl (.tmp 5) (.tmp 6) rfl rfl (Own.fresh0 (w := w) (Nat.le_refl _)) _ rfl bs.length (bs.map bV) ?hs ?hb ?hbase ?_)
    case hs =>
      have := Src.ofRow (P := Try.prog) (tx := 28) Try.underlying28 (some ad) c (bs.map bV) (H.out.alloc (.cells #[] 5)) one_bV
      rwa [List.length_map] at this
    case hb => have := HL.out; omega
    case hbase => simp
    intro v1 w1 ho1 hg1 hn1
    obtain ⟨a1, cp1, rfl⟩ := ho1.isSlice
    have hb := (Below_one (w := w) (.cells #[] 5)).grown hg1 (by simp) (fun g hg => by have h3 : w.heap.size = g := Option.some.inj hg; omega)
    have HB := Bx.mk hb; have HO := Bx.mk ho1
    clear hb ho1 hg1 hn1
    go_wp2
    go_ret
    exact ⟨_, rfl, HO.out, HB.out⟩
/-- What 'Bytes' tells of a writer. -/
def wErr (bad : Bool) : Int := if bad then 1 else 0
set_option maxRecDepth 100000 in
set_option maxHeartbeats 2000000 in
theorem wBytes_any (g : Nat) (bs : List UInt8) (bad : Bool) (L : List Nat) (w : World) (h : WAt w L g bs bad) (hl : bs.length ≤ 100000000) :
    Calls Try.prog 42 #[.pointer (some ⟨g, 0, none⟩)] w fun e w' => ∃ v, e = .returned (.tuple #[v, .int .i64 (wErr bad)]) ∧ Own w' w.heap.size 5 1 v bs.length (bs.map bV) ∧ Below w.heap.size w w' := by
  obtain ⟨⟨v, h1, h2, h3⟩, h4, h5⟩ := h
  obtain ⟨a, c, rfl⟩ := h2.isSlice
  have HR := Bx.mk h2.row
  have c0 : w.cell? ⟨g, 0, none⟩ = some (.slice a bs.length c) := by rw [h1.cell]; rfl
  have c1 : w.cell? ⟨g, 1, none⟩ = some (.bool bad) := by rw [h1.cell]; rfl
  have HL := Bx.mk hl
  clear h1 h2 h3 h4 h5 hl
  cases bad with
  | true =>
    go_enter Try.func42, Try.ntmps42
    go_wp2_with fail
    refine (bClone_any a c bs w HR.out HL.out).mono ?_
    rintro e w' ⟨v, rfl, ho, hb⟩
    have HO := Bx.mk ho; have HB := Bx.mk hb
    clear ho hb
    go_wp2
    go_ret2
    exact ⟨_, rfl, HO.out, HB.out⟩
  | false =>
    go_enter Try.func42, Try.ntmps42
    go_wp2_with fail
    refine (bClone_any a c bs w HR.out HL.out).mono ?_
    rintro e w' ⟨v, rfl, ho, hb⟩
    have HO := Bx.mk ho; have HB := Bx.mk hb
    clear ho hb
    go_wp2
    go_ret2
    exact ⟨_, rfl, HO.out, HB.out⟩
theorem wBytes_nil (w : World) : Calls Try.prog 42 #[.pointer none] w fun e w' => e = .returned (.tuple #[.slice none 0 0, .int .i64 1]) ∧ w' = w := by
  go_enter Try.func42, Try.ntmps42
  go_wp2
  go_ret2
  exact ⟨rfl, rfl⟩
theorem strOf_app (a b : List UInt8) : strOf a ++ strOf b = strOf (a ++ b) := by
  apply ByteArray.ext
  rw [ByteArray.data_append]
  simp [strOf]
theorem add_str {P : Program} (W : World) (xs ys : List UInt8) (h : xs.length + ys.length ≤ 9000000000000000000) : (Op.stringOp .add (strOf xs) (strOf ys)).run P W = .ok (.string (strOf (xs ++ ys))) W := by
  rw [run_string_add_sum W _ _ (by rw [strOf_size, strOf_size]; omega), strOf_app]
set_option maxRecDepth 100000 in
set_option maxHeartbeats 2000000 in
theorem fOne_any (n : Nat) (h : n < 256) (w : World) : Calls Try.prog 97 #[.int .i64 n] w fun e w' => e = .returned (.string (strOf [UInt8.ofNat n])) ∧ Below w.heap.size w w' := by
  have hb := bV_nat n h
  have hc : ∀ w : World, (convert 28 9 (.slice (some ⟨w.heap.size, 0, none⟩) 1 1)).run Try.prog (w.alloc (.cells #[.int .u8 (n : Int)] 5)) = .ok (.string (strOf [UInt8.ofNat n])) (w.alloc (.cells #[.int .u8 (n : Int)] 5)) := fun w => by
    rw [← hb]
    exact conv_str 28 9 Try.underlying28 Try.underlying5 Try.underlying9 _ (some ⟨w.heap.size, 0, none⟩) 1 [UInt8.ofNat n] (RowAt.ofWhole (vs := [bV (UInt8.ofNat n)]) (al_new rfl))
  clear hb
  go_enter Try.func97, Try.ntmps97
  go_wp2
  go_ret
  exact ⟨rfl, Below_one _⟩
set_option maxRecDepth 100000 in
set_option maxHeartbeats 2000000 in
theorem fgroups_any (u : Nat) (hu : u < 18446744073709551616) (w : World) : Calls Try.prog 82 #[.int .u64 u] w fun e w' => e = .returned (.string (strOf (grp u))) ∧ Below w.heap.size w w' := by
  have HU := Bx.mk hu
  have H10 := Bx.mk (grp_len64 hu)
  clear hu
  go_enter Try.func82, Try.ntmps82
  go_wp2_with fail
  go_loopw [0,3,4,5,6,7,8,9,10,11,12,13,14] (fun t0 t3 _ _ _ _ _ _ _ _ _ _ _ wr => ∃ (x : Nat) (ys : List UInt8), t0 = .int .u64 x ∧ t3 = .string (strOf ys) ∧ x ≤ u ∧ Bx (ys ++ grp x = grp u) ∧ Bx (Below w.heap.size w wr)) (fun t0 _ _ _ _ _ _ _ _ _ _ _ _ _ => (intOf t0).toNat)
  case atStart => exact ⟨u, [], rfl, rfl, Nat.le_refl _, ⟨rfl⟩, ⟨Below.refl _ _⟩⟩
  case round =>
    obtain ⟨x, ys, rfl, rfl, hxu, hE, hB⟩ := hrel
    have hXU := Bx.mk hxu
    have hlen : ys.length ≤ 10 := by
      have := congrArg List.length hE.out; rw [List.length_append] at this; have := H10.out; omega
    have HLen := Bx.mk hlen
    clear hlen hxu
    by_cases hge : (127 : Int) < (x : Int)
    · have hG := grp_ge (u := x) (by omega)
      obtain ⟨y, hy⟩ : ∃ y, y = x % 128 + 128 := ⟨_, rfl⟩
      have f1 : (x : Int) % 128 + 128 = (y : Int) := by omega
      have f3 : (x : Int) / 128 = ((x / 128 : Nat) : Int) := by omega
      rw [← hy] at hG
      have HC := fun w => Bx.mk (fOne_any y (by omega) w)
      have HG := Bx.mk hG
      have hdec : x / 128 < x := by omega
      have hdec2 : x / 128 ≤ u := by have := hXU.out; omega
      have HD := Bx.mk hdec; have HD2 := Bx.mk hdec2
      clear hy hG hdec hdec2
      generalize x / 128 = x2 at *
      have f5 : wrap64 ((x : Int) % 128) = (x : Int) % 128 := by unfold wrap64; omega
      have f6 : IntKind.u64.wrap (x2 : Int) = (x2 : Int) := by rw [IntKind.wrap_u64]; have := HD2.out; have := HU.out; omega
      go_wp2_with fail
      refine (HC _).out.mono ?_
      rintro e w' ⟨rfl, hb⟩
      have HB2 := Bx.mk (hB.out.trans (hb.mono hB.out.size))
      clear hb
      have hap := fun W => add_str (P := Try.prog) W ys [UInt8.ofNat y] (by have := HLen.out; simp; omega)
      go_wp2
      go_roundw
      case rel => exact ⟨x2, ys ++ [UInt8.ofNat y], rfl, rfl, HD2.out, ⟨by rw [← hE.out, HG.out, List.append_assoc]; rfl⟩, HB2⟩
      case measure => have := HD.out; simp [intOf]; omega
    · have hG := grp_lt (u := x) (by omega)
      have HC := fun w => Bx.mk (fOne_any x (by omega) w)
      have HG := Bx.mk hG
      have f5 : wrap64 (x : Int) = (x : Int) := by unfold wrap64; omega
      clear hG
      go_wp2_with fail
      refine (HC _).out.mono ?_
      rintro e w' ⟨rfl, hb⟩
      have HB2 := Bx.mk (hB.out.trans (hb.mono hB.out.size))
      clear hb
      have hap := fun W => add_str (P := Try.prog) W ys [UInt8.ofNat x] (by have := HLen.out; simp; omega)
      go_wp2
      go_ret
      exact ⟨by rw [← hE.out, HG.out]; rfl, HB2.out⟩
theorem fUint_any (z : Int) (h2 : z ≤ 9223372036854775807) (w : World) : Calls Try.prog 51 #[.int .i64 z] w fun e w' => e = .returned (.string (strOf (uintB z))) ∧ Below w.heap.size w w' := by
  by_cases h0 : z < 0
  · rw [show uintB z = [] by unfold uintB; rw [if_pos h0]]
    clear h2
    go_enter Try.func51, Try.ntmps51
    go_wp2
    go_ret
    exact ⟨rfl, Below.refl _ _⟩
  · obtain ⟨n, rfl⟩ := Int.eq_ofNat_of_zero_le (show 0 ≤ z by omega)
    rw [show uintB (n : Int) = grp n by unfold uintB; rw [if_neg h0]; rfl]
    have f1 : IntKind.u64.wrap (n : Int) = (n : Int) := by rw [IntKind.wrap_u64]; omega
    have HC := fun w => Bx.mk (fgroups_any n (by omega) w)
    clear h2
    go_enter Try.func51, Try.ntmps51
    go_wp2_with fail
    refine (HC _).out.mono ?_
    rintro e w' ⟨rfl, hb⟩
    have HB := Bx.mk hb; clear hb
    go_wp2
    go_ret
    exact ⟨rfl, HB.out⟩
end Go.Proofs.Ytecmpjccdhmeeaa
end
section
/- Numbers read from bytes: the plain law. No program in sight. -/
namespace Go.Proofs.Ytecmpjccdhmeeaa
open Go.RowKit
/-- The next number: it, how many bytes it has, and what is wrong (3: it ends too soon; 2: not in form). -/
def tk (most : Nat) : Nat → Nat → List UInt8 → Nat × Nat × Int
  | _, _, [] => (0, 0, 3)
  | i, u, x :: r => if i = most ∨ (x.toNat = 0 ∧ 0 < i) ∨ (i = 9 ∧ 1 < x.toNat) then (0, 0, 2) else
    if 128 ≤ x.toNat then tk most (i + 1) (u + x.toNat % 128 * 128 ^ i) r else (u + x.toNat % 128 * 128 ^ i, i + 1, 0)
theorem tk_nil (most i u : Nat) : tk most i u [] = (0, 0, 3) := rfl
theorem tk_bad {most i u : Nat} {x : UInt8} {r : List UInt8} (h : i = most ∨ (x.toNat = 0 ∧ 0 < i) ∨ (i = 9 ∧ 1 < x.toNat)) : tk most i u (x :: r) = (0, 0, 2) := by unfold tk; rw [if_pos h]
theorem tk_more {most i u : Nat} {x : UInt8} {r : List UInt8} (h : ¬ (i = most ∨ (x.toNat = 0 ∧ 0 < i) ∨ (i = 9 ∧ 1 < x.toNat))) (h2 : 128 ≤ x.toNat) : tk most i u (x :: r) = tk most (i + 1) (u + x.toNat % 128 * 128 ^ i) r := by
  rw [tk, if_neg h, if_pos h2]
theorem tk_last {most i u : Nat} {x : UInt8} {r : List UInt8} (h : ¬ (i = most ∨ (x.toNat = 0 ∧ 0 < i) ∨ (i = 9 ∧ 1 < x.toNat))) (h2 : ¬ 128 ≤ x.toNat) : tk most i u (x :: r) = (u + x.toNat % 128 * 128 ^ i, i + 1, 0) := by
  rw [tk, if_neg h, if_neg h2]
theorem u8_eq {x : UInt8} {n : Nat} (h : x.toNat = n) (hn : n < 256) : UInt8.ofNat n = x := by
  subst h; simp
/-- What is read has just its bytes. -/
theorem tk_enc (most : Nat) : ∀ (bs : List UInt8) (i a u n : Nat), tk most i a bs = (u, n, 0) → ∃ v, u = a + v * 128 ^ i ∧ (0 < i → v ≠ 0) ∧ i < n ∧ n ≤ i + bs.length ∧ bs.take (n - i) = grp v := by
  intro bs
  induction bs with
  | nil => intro i a u n h; rw [tk_nil] at h; injection h with _ h; injection h with _ h; cases h
  | cons x r ih =>
    intro i a u n h
    by_cases hb : i = most ∨ (x.toNat = 0 ∧ 0 < i) ∨ (i = 9 ∧ 1 < x.toNat)
    · rw [tk_bad hb] at h; injection h with _ h; injection h with _ h; cases h
    · by_cases h2 : 128 ≤ x.toNat
      · rw [tk_more hb h2] at h
        obtain ⟨v, h3, h4, h5, h6, h7⟩ := ih _ _ _ _ h
        have hx := x.toNat_lt
        have hv := h4 (by omega)
        refine ⟨x.toNat % 128 + 128 * v, ?_, fun _ => by omega, by omega, by simp; omega, ?_⟩
        · rw [h3, Nat.pow_succ, Nat.add_mul, Nat.add_assoc, Nat.mul_comm (128 ^ i) 128, ← Nat.mul_assoc, Nat.mul_comm v 128]
        · rw [grp_ge (by omega), show n - i = (n - (i + 1)) + 1 by omega, List.take_succ_cons, h7]
          congr 1
          · exact (u8_eq (n := (x.toNat % 128 + 128 * v) % 128 + 128) (by omega) (by omega)).symm
          · congr 1; omega
      · rw [tk_last hb h2] at h
        injection h with h3 h
        injection h with h4 _
        have hx := x.toNat_lt
        refine ⟨x.toNat, by rw [← h3, Nat.mod_eq_of_lt (by omega)], fun h => by omega, by omega, by simp; omega, ?_⟩
        rw [grp_lt (by omega), show n - i = 1 by omega]
        simp
theorem tk_enc0 {most u n : Nat} {bs : List UInt8} (h : tk most 0 0 bs = (u, n, 0)) : 0 < n ∧ n ≤ bs.length ∧ bs.take n = grp u := by
  obtain ⟨v, h1, _, h3, h4, h5⟩ := tk_enc most bs 0 0 u n h
  simp at h1 h4 h5
  subst h1
  exact ⟨h3, h4, h5⟩
/-- What is written is read again. -/
theorem tk_dec (most : Nat) (rest : List UInt8) : ∀ (m v i a : Nat), v ≤ m → v * 128 ^ i < 18446744073709551616 → i ≤ 9 → i + (grp v).length ≤ most → (0 < i → v ≠ 0) →
    tk most i a (grp v ++ rest) = (a + v * 128 ^ i, i + (grp v).length, 0) := by
  intro m
  induction m with
  | zero =>
    intro v i a hv hb hi hm h0
    obtain rfl : v = 0 := by omega
    have hi0 : i = 0 := by
      rcases Nat.eq_zero_or_pos i with h | h
      · exact h
      · exact absurd rfl (h0 h)
    subst hi0
    rw [grp_lt (by omega)] at hm ⊢
    simp at hm
    show tk most 0 a (UInt8.ofNat 0 :: rest) = _
    rw [tk_last (by simp; omega) (by simp)]
    simp
  | succ m ih =>
    intro v i a hv hb hi hm h0
    have h9 : i = 9 → v ≤ 1 := by
      intro h; subst h; omega
    by_cases hlt : v < 128
    · rw [grp_lt hlt] at hm ⊢
      simp at hm
      show tk most i a (UInt8.ofNat v :: rest) = _
      have hx : (UInt8.ofNat v).toNat = v := by show v % 256 = v; omega
      rw [tk_last (by rw [hx]; omega) (by rw [hx]; omega), hx, Nat.mod_eq_of_lt hlt]
      rfl
    · rw [grp_ge (by omega)] at hm ⊢
      rw [List.length_cons] at hm ⊢
      show tk most i a (UInt8.ofNat (v % 128 + 128) :: (grp (v / 128) ++ rest)) = _
      have hx : (UInt8.ofNat (v % 128 + 128)).toNat = v % 128 + 128 := by show (v % 128 + 128) % 256 = _; omega
      have hp := grp_pos (v / 128)
      have hdiv : v / 128 * 128 ^ (i + 1) ≤ v * 128 ^ i := by
        rw [Nat.pow_succ, Nat.mul_comm (128 ^ i) 128, ← Nat.mul_assoc]
        exact Nat.mul_le_mul_right _ (by omega)
      rw [tk_more (by rw [hx]; omega) (by rw [hx]; omega), hx, ih (v / 128) (i + 1) _ (by omega) (by omega) (by omega) (by omega) (by omega)]
      have e : v = 128 * (v / 128) + v % 128 := by omega
      refine Prod.ext ?_ (Prod.ext (by simp; omega) rfl)
      show a + (v % 128 + 128) % 128 * 128 ^ i + v / 128 * 128 ^ (i + 1) = a + v * 128 ^ i
      rw [show (v % 128 + 128) % 128 = v % 128 by omega]
      conv => rhs; rw [e]
      rw [Nat.pow_succ, Nat.add_mul, Nat.mul_comm (128 ^ i) 128, ← Nat.mul_assoc, Nat.mul_comm (v / 128) 128]
      omega
theorem tk_dec0 {most v : Nat} (rest : List UInt8) (hv : v < 18446744073709551616) (hm : (grp v).length ≤ most) : tk most 0 0 (grp v ++ rest) = (v, (grp v).length, 0) := by
  have := tk_dec most rest v v 0 0 (Nat.le_refl _) (by simpa using hv) (by omega) (by omega) (by omega)
  simpa using this
/-- A number without a sign as an int: zigzag, back. -/
def zag (u : Nat) : Int := if u % 2 = 1 then -((u / 2 : Nat) : Int) - 1 else ((u / 2 : Nat) : Int)
theorem zig_zag (u : Nat) : zig (zag u) = u := by unfold zig zag; split <;> (split <;> omega)
theorem zag_zig (z : Int) : zag (zig z) = z := by unfold zag zig; split <;> (split <;> omega)
theorem zag_range {u : Nat} (h : u < 18446744073709551616) : -9223372036854775808 ≤ zag u ∧ zag u ≤ 9223372036854775807 := by unfold zag; split <;> omega
end Go.Proofs.Ytecmpjccdhmeeaa
end
section
/- The reader of the codec, walked. -/
namespace Go.Proofs.Ytecmpjccdhmeeaa
open Go.RowKit
/-- A reader. -/
structure RdAt (w : World) (L : List Nat) (g : Nat) (bs : List UInt8) (e : Int) : Prop where
  ex : ∃ a c, Bk w g #[.slice a bs.length c, .int .i64 e] 130 ∧ In w L a bs ∧ bs.length ≤ c
  mem : g ∈ L
  under : Under L w.heap.size
theorem RdAt.keep {w w' : World} {L : List Nat} {g : Nat} {bs : List UInt8} {e : Int} (h : RdAt w L g bs e) (hk : ∀ k ∈ L, w'.heap[k]? = w.heap[k]?) (hs : w.heap.size ≤ w'.heap.size) : RdAt w' L g bs e := by
  obtain ⟨⟨a, c, h1, h2, h3⟩, h4, h5⟩ := h
  exact ⟨⟨a, c, h1.keep (hk g h4), h2.keep hk, h3⟩, h4, h5.mono hs⟩
theorem RdAt.fr {w w' : World} {L M : List Nat} {g : Nat} {bs : List UInt8} {e : Int} (h : RdAt w L g bs e) (hf : Fr M w w') (ha : Apart L M) : RdAt w' L g bs e := h.keep (hf.keep ha h.under) hf.size
theorem RdAt.below {w w' : World} {L : List Nat} {g : Nat} {bs : List UInt8} {e : Int} (h : RdAt w L g bs e) (hb : Below w.heap.size w w') : RdAt w' L g bs e := h.keep (fun k hk => hb.block k (h.under k hk)) hb.size
/-- The bytes are not in the reader's own block. -/
theorem in_other {w : World} {L : List Nat} {a : Option Addr} {bs : List UInt8} {g i : Nat} {cs : Array Value} {v : Value} (hb : Bk w g cs 130) (h : In w L a bs) : In (w.setCell ⟨g, i, none⟩ v) L a bs ∨ ∃ (j : Nat) (x : UInt8), cs[j]? = some (bV x) := by
  rcases h.1 with h1 | ⟨b, off, rfl, h1⟩
  · left; exact ⟨.inl h1, h.2⟩
  · by_cases hg : b = g
    · subst hg
      cases bs with
      | nil => left; exact ⟨.inl rfl, h.2⟩
      | cons x r =>
        right
        have := h1 0 (bV x) rfl
        rw [hb.cell] at this
        exact ⟨_, _, this⟩
    · left
      refine ⟨.inr ⟨b, off, rfl, fun j u hj => ?_⟩, h.2⟩
      rw [← h1 j u hj]
      exact World.cell?_of_block (a := ⟨b, off + j, none⟩) (Below.heap_setCell _ _ _ _ hg)
theorem in_set {w : World} {L : List Nat} {a a0 : Option Addr} {bs : List UInt8} {n0 c0 g i : Nat} {e : Int} {v : Value} (hb : Bk w g #[.slice a0 n0 c0, .int .i64 e] 130) (h : In w L a bs) : In (w.setCell ⟨g, i, none⟩ v) L a bs := by
  rcases in_other (i := i) (v := v) hb h with h | ⟨j, x, hj⟩
  · exact h
  · match j with
    | 0 => cases hj
    | 1 => cases hj
    | j + 2 => simp at hj
theorem RdAt.setErr {w : World} {L : List Nat} {g : Nat} {bs : List UInt8} {e : Int} (h : RdAt w L g bs e) (e' : Int) : RdAt (w.setCell ⟨g, 1, none⟩ (.int .i64 e')) L g bs e' := by
  obtain ⟨⟨a, c, h1, h2, h3⟩, h4, h5⟩ := h
  exact ⟨⟨a, c, h1.setCell 1 (.int .i64 e'), in_set h1 h2, h3⟩, h4, by simpa [Under] using h5⟩
theorem RdAt.setBytes {w : World} {L : List Nat} {g : Nat} {bs bs2 : List UInt8} {e : Int} (h : RdAt w L g bs e) {a2 : Option Addr} {c2 : Nat} (h2 : In w L a2 bs2) (hc : bs2.length ≤ c2) : RdAt (w.setCell ⟨g, 0, none⟩ (.slice a2 bs2.length c2)) L g bs2 e := by
  obtain ⟨⟨a, c, h1, _, h3⟩, h4, h5⟩ := h
  exact ⟨⟨a2, c2, h1.setCell 0 (.slice a2 bs2.length c2), in_set h1 h2, hc⟩, h4, by simpa [Under] using h5⟩
/-- 'b[n:]'. -/
theorem slice_from {w : World} {L : List Nat} {a : Option Addr} {bs : List UInt8} {c n : Nat} (hn : n ≤ bs.length) (hc : bs.length ≤ c) (h : In w L a bs) :
    ∃ a' c', (∀ W : World, (Instr.slice 28 (.slice a bs.length c) (some (.int .i64 (n : Int))) none none).run Try.prog W = .ok (.slice a' (bs.drop n).length c') W) ∧ In w L a' (bs.drop n) ∧ (bs.drop n).length ≤ c' := by
  have hsz : ∀ W : World, (sizeOf 5).run Try.prog W = .ok 1 W := fun W => by kernel_rfl
  refine ⟨if c = n then a else a.map (·.add (n * 1)), c - n, fun W => ?_, ?_, by simp; omega⟩
  · have h1 : (0 : Int) ≤ (n : Int) ∧ (n : Int) ≤ (bs.length : Int) := by omega
    have h2 : ¬ bs.length < n := by omega
    simp [Instr.slice, run_underlying Try.underlying28, Instr.sliceBounds, Instr.sliceBound, asIntOf, h1, h2, hsz]
  · by_cases hcn : c = n
    · rw [if_pos hcn]
      have : bs.drop n = [] := List.drop_eq_nil_of_le (by omega)
      rw [this]
      exact ⟨.inl rfl, fun _ _ h => absurd rfl h⟩
    · rw [if_neg hcn]
      rcases h.1 with h1 | ⟨b, off, rfl, h1⟩
      · have h2 : bs = [] := by simpa using h1
        subst h2
        exact ⟨.inl (by simp), fun _ _ h => absurd (by simp) h⟩
      · refine ⟨?_, fun ad had hne => ?_⟩
        · have := RowAt.drop (w := w) (b := b) (off := off) (vs := bs.map bV) (.inr ⟨b, off, rfl, h1⟩) n
          rw [List.map_drop] 
          simpa [Addr.add_lit] using this
        · simp [Addr.add_lit] at had
          subst had
          exact h.2 ⟨b, off, none⟩ rfl (fun h0 => hne (by rw [h0]; simp))
set_option maxRecDepth 100000 in
set_option maxHeartbeats 2000000 in
theorem cRead_any (a : Option Addr) (c : Nat) (bs : List UInt8) (w : World) (h : RowAt w a (bs.map bV)) (hl : bs.length ≤ 100000000) :
    Calls Try.prog 47 #[.slice a bs.length c] w fun e w' => ∃ g L, e = .returned (.pointer (some ⟨g, 0, none⟩)) ∧ RdAt w' L g bs 0 ∧ From w.heap.size L ∧ Below w.heap.size w w' := by
  have HC := Bx.mk (bClone_any a c bs w h hl)
  clear h hl
  go_enter Try.func47, Try.ntmps47
  go_wp2_with fail
  refine HC.out.mono ?_
  rintro e w1 ⟨v, rfl, ho, hb⟩
  obtain ⟨a1, c1, rfl⟩ := ho.isSlice
  have HO := Bx.mk ho; have HB := Bx.mk hb
  clear ho hb
  go_wp2
  go_ret
  refine ⟨w1.heap.size, w1.heap.size :: (Value.ownBlock (.slice a1 bs.length c1)).toList, rfl, ⟨⟨a1, c1, Bk.new rfl, ?_, HO.out.cap.1⟩, by simp, ?_⟩, ?_, HB.out.alloc HB.out.size _⟩
  · have h1 := In.ofOwn (HO.out.alloc (.cells #[.slice a1 bs.length c1, .int .i64 0] 130))
    exact ⟨h1.1, fun ad had hne => by simp only [List.mem_cons]; exact .inr (h1.2 ad had hne)⟩
  · intro k hk
    rcases List.mem_cons.1 hk with rfl | hk
    · simp
    · have := (HO.out.lt k (by simpa using hk)).2; simp; omega
  · intro k hk
    rcases List.mem_cons.1 hk with rfl | hk
    · exact HB.out.size
    · exact (HO.out.lt k (by simpa using hk)).1
theorem rdead0 {w : World} {L : List Nat} {g : Nat} {bs : List UInt8} (h : RdAt w L g bs 0) : Calls Try.prog 80 #[.pointer (some ⟨g, 0, none⟩)] w fun e w' => e = .returned (.bool false) ∧ w' = w := by
  obtain ⟨⟨a, c, h1, _, _⟩, _, _⟩ := h
  have c1 : w.cell? ⟨g, 1, none⟩ = some (.int .i64 0) := by rw [h1.cell]; rfl
  clear h1
  go_enter Try.func80, Try.ntmps80
  go_wp2
  go_ret
  exact ⟨rfl, rfl⟩
theorem rdead1 {w : World} {L : List Nat} {g : Nat} {bs : List UInt8} {e : Int} (h : RdAt w L g bs e) (he : e ≠ 0) : Calls Try.prog 80 #[.pointer (some ⟨g, 0, none⟩)] w fun r w' => r = .returned (.bool true) ∧ w' = w := by
  obtain ⟨⟨a, c, h1, _, _⟩, _, _⟩ := h
  have c1 : w.cell? ⟨g, 1, none⟩ = some (.int .i64 e) := by rw [h1.cell]; rfl
  have he2 : (e != 0) = true := by simpa using he
  clear h1 he
  go_enter Try.func80, Try.ntmps80
  go_wp2
  go_ret
  exact ⟨rfl, rfl⟩
theorem and127B : ((List.range 256).all fun x => bits BinOp.andNot IntKind.u8 (x : Int) 128 == ((x % 128 : Nat) : Int)) = true := by kernel_rfl
theorem and127 (x : UInt8) : bits BinOp.andNot IntKind.u8 (x.toNat : Int) 128 = ((x.toNat % 128 : Nat) : Int) :=
  eq_of_beq (List.all_eq_true.1 and127B x.toNat (List.mem_range.2 x.toNat_lt))
theorem or_next {u y i : Nat} (hu : u < 128 ^ i) (hs : u + y * 128 ^ i < 18446744073709551616) : bits BinOp.or IntKind.u64 (u : Int) ((y * 128 ^ i : Nat) : Int) = ((u + y * 128 ^ i : Nat) : Int) := by
  have hy : y * 128 ^ i < 18446744073709551616 := by omega
  have e : (128 : Nat) ^ i = 2 ^ (7 * i) := by rw [Nat.pow_mul]
  rw [u64_or_nat _ _ (by omega) hy, Nat.or_comm, nat_join (7 * i) _ _ (by rw [e]; exact Nat.mul_mod_left _ _) (by rw [← e]; exact hu), Nat.add_comm]
set_option maxRecDepth 100000 in
set_option maxHeartbeats 4000000 in
theorem rtake_any (g : Nat) (most : Nat) (hm0 : 0 < most) (hm : most ≤ 10) (bs : List UInt8) (L : List Nat) (w : World) (h : RdAt w L g bs 0) (hl : bs.length ≤ 100000000) (u0 n0 : Nat) (e0 : Int) (hr : tk most 0 0 bs = (u0, n0, e0)) :
    Calls Try.prog 81 #[.pointer (some ⟨g, 0, none⟩), .int .i64 most] w fun e w' => (e0 = 0 ∧ e = .returned (.tuple #[.int .u64 u0, .int .i64 n0]) ∧ w' = w) ∨ (e0 ≠ 0 ∧ e = .returned (.tuple #[.int .u64 0, .int .i64 0]) ∧ w' = w.setCell ⟨g, 1, none⟩ (.int .i64 e0)) := by
  obtain ⟨⟨a, c, h1, h2, h3⟩, h4, h5⟩ := h
  have HI := Bx.mk h2; have HR := Bx.mk hr; have HM := Bx.mk hm; have HL := Bx.mk hl
  have c0 : w.cell? ⟨g, 0, none⟩ = some (.slice a bs.length c) := by rw [h1.cell]; rfl
  have c1 : w.cell? ⟨g, 1, none⟩ = some (.int .i64 0) := by rw [h1.cell]; rfl
  have c2 : w.frozen? ⟨g, 1, none⟩ = false := h1.frozen 1
  have M0 := Bx.mk hm0
  have hmb : ((0 : Int) == (most : Int)) = false := by simp; omega
  clear h1 h2 h3 h4 h5 hr hm hl hm0
  go_enter Try.func81, Try.ntmps81
  go_wp2
  refine wp_scope_jumps 0 (fun a' w' => w' = w ∧ ∃ (i u : Nat) (x8 x9 x10 x11 x12 x13 x14 x15 x16 x17 x18 x19 x20 x21 x22 x23 x24 x25 x26 x27 x28 x29 x30 x31 x32 x33 x34 x35 x36 x37 x38 x39 x40 x41 x42 x43 x44 x45 x46 x47 x48 x49 x50 x51 x52 x53 x54 x55 x56 x57 x58 x59 x60 x61 : Value), a' = { tmps := #[.pointer (some ⟨g, 0, none⟩), .int .i64 most, undef, undef, .int .u64 0, .int .i64 0, .int .u64 u, .int .i64 i, x8, x9, x10, x11, x12, x13, x14, x15, x16, x17, x18, x19, x20, x21, x22, x23, x24, x25, x26, x27, x28, x29, x30, x31, x32, x33, x34, x35, x36, x37, x38, x39, x40, x41, x42, x43, x44, x45, x46, x47, x48, x49, x50, x51, x52, x53, x54, x55, x56, x57, x58, x59, x60, x61], defers := [] } ∧ Bx (tk most i u (bs.drop i) = (u0, n0, e0) ∧ u < 128 ^ i ∧ i ≤ 9 ∧ i ≤ bs.length)) (fun a' _ => 10 - (intOf (a'.tmps.getD 7 undef)).toNat) rfl ?first ?pass
  case first =>
    go_wp2
    go_step3
    by_cases hb0 : bs.length = 0
    · have h0 : bs = [] := List.eq_nil_of_length_eq_zero hb0
      have HE := Bx.mk (show ((0, 0, 3) : Nat × Nat × Int) = (u0, n0, e0) by rw [← HR.out, h0]; rfl)
      have hl0 : ((0 : Int) == (bs.length : Int)) = true := by rw [hb0]; rfl
      clear HR HI h0 hb0
      go_wp2
      dsimp only [Exit.jump]
      go_ret2
      have h := HE.out
      injection h with h1 h2
      injection h2 with h2 h3
      subst h1; subst h2; subst h3
      exact .inr ⟨by decide, rfl, rfl⟩
    · obtain ⟨b, off, rfl, hc⟩ := RowAt.byte HI.out.1 (k := 0) (by omega)
      rw [Nat.add_zero] at hc
      have hd : bs = bs[0] :: bs.drop 1 := by rw [← List.drop_eq_getElem_cons (by omega)]; rfl
      have HD := Bx.mk hd
      have hn0 : ((0 : Int) == (bs.length : Int)) = false := by simp; omega
      have l0 : (0 : Int) < (bs.length : Int) := by omega
      have hx : bs[0].toNat < 256 := bs[0].toNat_lt
      obtain ⟨y, hy⟩ : ∃ y, y = bs[0].toNat % 128 := ⟨_, rfl⟩
      have ha := and127 bs[0]
      rw [← hy] at ha
      have hor : bits BinOp.or IntKind.u64 0 (y : Int) = (y : Int) := by
        have := u64_or_nat 0 y (by omega) (by omega)
        simpa using this
      have hyw : IntKind.u64.wrap (y : Int) = (y : Int) := by rw [IntKind.wrap_u64]; omega
      generalize bs[0] = x at *
      clear hd
      have HX := Bx.mk hx; have HY := Bx.mk hy; have HY2 := Bx.mk (show y < 128 by omega)
      by_cases h2 : (128 : Int) ≤ (x.toNat : Int)
      · have ht : tk most 1 y (bs.drop 1) = (u0, n0, e0) := by
          have h := HR.out
          rw [HD.out, tk_more (by have := M0.out; omega) (by omega), ← hy] at h
          simpa using h
        have HT := Bx.mk ht
        have HL1 := Bx.mk (show 1 ≤ bs.length by omega)
        have hxb : ((x.toNat : Int) == 0) = false := by simp; omega
        clear ht HR hy hx
        go_wp2
        go_step3
        refine ⟨rfl, rfl, ?_⟩
        refine ⟨1, y, ?_⟩
        repeat apply Exists.intro
        exact ⟨rfl, ⟨HT.out, by have := HY2.out; simpa using this, by omega, HL1.out⟩⟩
      · have ht : (y, 1, (0 : Int)) = (u0, n0, e0) := by
          have h := HR.out
          rw [HD.out, tk_last (by have := M0.out; omega) (by omega), ← hy] at h
          simpa using h
        injection ht with h1 h3
        injection h3 with h3 h4
        subst h1; subst h3; subst h4
        by_cases hx0 : x.toNat = 0
        · have hy0 : y = 0 := by omega
          subst hy0
          rw [hx0] at hc ha
          have ha0 : bits BinOp.andNot IntKind.u8 0 128 = 0 := ha
          have hor0 : bits BinOp.or IntKind.u64 0 0 = 0 := hor
          clear HR hy hx ha hor h2 hx0
          go_wp2
          dsimp only [Exit.jump]
          go_ret2
          exact .inl ⟨rfl, rfl, rfl⟩
        · have hxb : ((x.toNat : Int) == 0) = false := by simpa using hx0
          clear HR hy hx hx0
          go_wp2
          dsimp only [Exit.jump]
          go_ret2
          exact .inl ⟨rfl, rfl, rfl⟩
  case pass =>
    rintro a' w' ⟨hw, i, u, hx⟩
    subst hw
    obtain ⟨x8, hx⟩ := hx
    obtain ⟨x9, hx⟩ := hx
    obtain ⟨x10, hx⟩ := hx
    obtain ⟨x11, hx⟩ := hx
    obtain ⟨x12, hx⟩ := hx
    obtain ⟨x13, hx⟩ := hx
    obtain ⟨x14, hx⟩ := hx
    obtain ⟨x15, hx⟩ := hx
    obtain ⟨x16, hx⟩ := hx
    obtain ⟨x17, hx⟩ := hx
    obtain ⟨x18, hx⟩ := hx
    obtain ⟨x19, hx⟩ := hx
    obtain ⟨x20, hx⟩ := hx
    obtain ⟨x21, hx⟩ := hx
    obtain ⟨x22, hx⟩ := hx
    obtain ⟨x23, hx⟩ := hx
    obtain ⟨x24, hx⟩ := hx
    obtain ⟨x25, hx⟩ := hx
    obtain ⟨x26, hx⟩ := hx
    obtain ⟨x27, hx⟩ := hx
    obtain ⟨x28, hx⟩ := hx
    obtain ⟨x29, hx⟩ := hx
    obtain ⟨x30, hx⟩ := hx
    obtain ⟨x31, hx⟩ := hx
    obtain ⟨x32, hx⟩ := hx
    obtain ⟨x33, hx⟩ := hx
    obtain ⟨x34, hx⟩ := hx
    obtain ⟨x35, hx⟩ := hx
    obtain ⟨x36, hx⟩ := hx
    obtain ⟨x37, hx⟩ := hx
    obtain ⟨x38, hx⟩ := hx
    obtain ⟨x39, hx⟩ := hx
    obtain ⟨x40, hx⟩ := hx
    obtain ⟨x41, hx⟩ := hx
    obtain ⟨x42, hx⟩ := hx
    obtain ⟨x43, hx⟩ := hx
    obtain ⟨x44, hx⟩ := hx
    obtain ⟨x45, hx⟩ := hx
    obtain ⟨x46, hx⟩ := hx
    obtain ⟨x47, hx⟩ := hx
    obtain ⟨x48, hx⟩ := hx
    obtain ⟨x49, hx⟩ := hx
    obtain ⟨x50, hx⟩ := hx
    obtain ⟨x51, hx⟩ := hx
    obtain ⟨x52, hx⟩ := hx
    obtain ⟨x53, hx⟩ := hx
    obtain ⟨x54, hx⟩ := hx
    obtain ⟨x55, hx⟩ := hx
    obtain ⟨x56, hx⟩ := hx
    obtain ⟨x57, hx⟩ := hx
    obtain ⟨x58, hx⟩ := hx
    obtain ⟨x59, hx⟩ := hx
    obtain ⟨x60, hx⟩ := hx
    obtain ⟨x61, hx⟩ := hx
    obtain ⟨ha, hJ⟩ := hx
    subst ha
    obtain ⟨hr, hu, hi9, hil⟩ := hJ.out
    clear hJ HR hmb
    have HR := Bx.mk hr; have HU := Bx.mk hu
    clear hr hu
    by_cases hb0 : i = bs.length
    · have HE := Bx.mk (show ((0, 0, 3) : Nat × Nat × Int) = (u0, n0, e0) by rw [← HR.out, hb0, List.drop_length]; rfl)
      have hl0 : ((i : Int) == (bs.length : Int)) = true := by rw [hb0]; simp
      clear HR HI hb0
      go_wp2
      dsimp only [Exit.jump]
      go_ret2
      have h := HE.out
      injection h with h1 h2
      injection h2 with h2 h3
      subst h1; subst h2; subst h3
      exact .inr ⟨by decide, rfl, rfl⟩
    · have hlt : i < bs.length := by omega
      obtain ⟨b, off, rfl, hc⟩ := RowAt.byte HI.out.1 (k := i) hlt
      have HD := Bx.mk (List.drop_eq_getElem_cons hlt)
      have hn0 : ((i : Int) == (bs.length : Int)) = false := by simp; omega
      have l0 : (i : Int) < (bs.length : Int) := by omega
      have i0 : (0 : Int) ≤ (i : Int) := by omega
      have hx : bs[i].toNat < 256 := bs[i].toNat_lt
      have ha := and127 bs[i]
      generalize bs[i] = x at *
      obtain ⟨z, hz⟩ : ∃ z, z = x.toNat := ⟨_, rfl⟩
      rw [← hz] at hc ha hx
      have HZ := Bx.mk hz
      clear hz
      obtain ⟨bad, hbad⟩ : ∃ bad, bad = decide (i = most ∨ (z = 0 ∧ 0 < i) ∨ (i = 9 ∧ 1 < z)) := ⟨_, rfl⟩
      have HBD := Bx.mk hbad
      go_upto_region 7 with fail
      go_cut [44] (fun t44 wx => t44 = .bool bad ∧ w' = wx)
      case first =>
        clear HR HD HU ha
        by_cases h1 : i = most
        · have h1b : ((i : Int) == (most : Int)) = true := by simp; omega
          rw [decide_eq_true (.inl h1)] at hbad
          clear h1 HBD
          go_wp2
          go_meet
          case rel => exact ⟨by rw [hbad], rfl⟩
        · have h1b : ((i : Int) == (most : Int)) = false := by simp; omega
          by_cases h2 : z = 0
          · subst h2
            by_cases h3 : (0 : Int) < (i : Int)
            · rw [decide_eq_true (.inr (.inl ⟨rfl, by omega⟩))] at hbad
              clear h1 HBD
              go_wp2
              go_meet
              case rel => exact ⟨by rw [hbad], rfl⟩
            · rw [decide_eq_false (by omega)] at hbad
              obtain rfl : i = 0 := by omega
              clear h1 HBD h3 h1b
              have h1c : ((0 : Int) == (most : Int)) = false := by have := M0.out; simp; omega
              go_wp2
              go_meet
              case rel => exact ⟨by rw [hbad], rfl⟩
          · have h2b : ((z : Int) == 0) = false := by simp; omega
            by_cases h4 : i = 9
            · have h4b : ((i : Int) == 9) = true := by simp; omega
              by_cases h5 : (1 : Int) < (z : Int)
              · rw [decide_eq_true (.inr (.inr ⟨h4, by omega⟩))] at hbad
                clear h1 HBD h2 h4
                go_wp2
                go_meet
                case rel => exact ⟨by rw [hbad], rfl⟩
              · rw [decide_eq_false (by omega)] at hbad
                clear h1 HBD h2 h4
                go_wp2
                go_meet
                case rel => exact ⟨by rw [hbad], rfl⟩
            · have h4b : ((i : Int) == 9) = false := by simp; omega
              rw [decide_eq_false (by omega)] at hbad
              clear h1 HBD h2 h4
              go_wp2
              go_meet
              case rel => exact ⟨by rw [hbad], rfl⟩
      case rest =>
        obtain ⟨rfl, rfl⟩ := hcut
        clear hbad
        cases bad with
        | true =>
          have hb := of_decide_eq_true HBD.out.symm
          have hE : ((0, 0, 2) : Nat × Nat × Int) = (u0, n0, e0) := by rw [← HR.out, HD.out, tk_bad (by rw [← HZ.out]; exact hb)]
          injection hE with h1 h2
          injection h2 with h2 h3
          subst h1; subst h2; subst h3
          clear HR HD HU HI hb ha
          go_wp2
          dsimp only [Exit.jump]
          go_ret2
          exact .inr ⟨by decide, rfl, rfl⟩
        | false =>
          have hb := of_decide_eq_false HBD.out.symm
          obtain ⟨y, hy⟩ : ∃ y, y = z % 128 := ⟨_, rfl⟩
          rw [← hy] at ha
          obtain ⟨p, hp⟩ : ∃ p, p = y * 128 ^ i := ⟨_, rfl⟩
          have hpow : 128 ^ i ≤ 128 ^ 9 := Nat.pow_le_pow_right (by omega) hi9
          have hpb : u + p < 18446744073709551616 := by
            by_cases h9 : i = 9
            · subst h9
              have h1 : y ≤ 1 := by omega
              have h2 : y * 128 ^ 9 ≤ 1 * 128 ^ 9 := Nat.mul_le_mul_right _ h1
              have := HU.out
              omega
            · have h3 : 128 ^ i ≤ 128 ^ 8 := Nat.pow_le_pow_right (by omega) (by omega)
              have h2 : y * 128 ^ i ≤ 127 * 128 ^ i := Nat.mul_le_mul_right _ (by omega)
              have := HU.out
              omega
          have hpi : IntKind.u64.wrap (IntKind.u64.wrap (y : Int) * 2 ^ (7 * i)) = (p : Int) := by
            have e : ((y : Int) * 2 ^ (7 * i)) = (p : Int) := by
              have e2 : ((2 : Int) ^ (7 * i)) = ((128 ^ i : Nat) : Int) := by
                rw [show (128 : Nat) = 2 ^ 7 from rfl, ← Nat.pow_mul]; exact (Int.natCast_pow 2 (7 * i)).symm
              rw [hp, e2, ← Int.natCast_mul]
            rw [show IntKind.u64.wrap (y : Int) = (y : Int) by rw [IntKind.wrap_u64]; omega, e, IntKind.wrap_u64]; omega
          have hor : bits BinOp.or IntKind.u64 (u : Int) (p : Int) = ((u + p : Nat) : Int) := by
            rw [hp]; exact or_next HU.out (by rw [← hp]; exact hpb)
          obtain ⟨q, hq⟩ : ∃ q, q = u + p := ⟨_, rfl⟩
          rw [← hq] at hor
          have HB2 := Bx.mk hb; have HY := Bx.mk hy; have HP := Bx.mk hp; have HQ := Bx.mk hq
          have s0 : (0 : Int) ≤ 7 * (i : Int) := by omega
          clear hb hy hp hq hpow hpb
          by_cases hmore : (128 : Int) ≤ (z : Int)
          · have hne9 : i ≠ 9 := fun h => by have := HB2.out; omega
            have ht : tk most (i + 1) q (bs.drop (i + 1)) = (u0, n0, e0) := by
              have h := HR.out
              rw [HD.out, tk_more (by rw [← HZ.out]; exact HB2.out) (by rw [← HZ.out]; omega), ← HZ.out, ← HY.out, ← HP.out, ← HQ.out] at h
              exact h
            have hq2 : q < 128 ^ (i + 1) := by
              have h2 : y * 128 ^ i ≤ 127 * 128 ^ i := Nat.mul_le_mul_right _ (by have := HY.out; omega)
              have h3 := HU.out
              rw [HQ.out, HP.out, Nat.pow_succ]; omega
            have HT := Bx.mk ht; have HQ2 := Bx.mk hq2
            clear ht hq2
            go_wp2
            go_step3
            rw [show ((i : Int) + 1) = ((i + 1 : Nat) : Int) by omega]
            refine ⟨rfl, ⟨rfl, ?_⟩, by simp [intOf]; omega⟩
            refine ⟨i + 1, q, ?_⟩
            repeat apply Exists.intro
            exact ⟨rfl, ⟨HT.out, HQ2.out, by omega, by omega⟩⟩
          · have ht : (q, i + 1, (0 : Int)) = (u0, n0, e0) := by
              have h := HR.out
              rw [HD.out, tk_last (by rw [← HZ.out]; exact HB2.out) (by rw [← HZ.out]; omega), ← HZ.out, ← HY.out, ← HP.out, ← HQ.out] at h
              exact h
            injection ht with h1 h3
            injection h3 with h3 h4
            subst h1; subst h3; subst h4
            go_wp2
            dsimp only [Exit.jump]
            go_ret2
            exact .inl ⟨rfl, rfl, rfl⟩
end Go.Proofs.Ytecmpjccdhmeeaa
end
section
/- The reader's methods, walked. -/
namespace Go.Proofs.Ytecmpjccdhmeeaa
open Go.RowKit
theorem grp_bound (n : Nat) : ∀ u, (grp u).length ≤ n → u < 128 ^ n := by
  induction n with
  | zero => intro u h; have := grp_pos u; omega
  | succ n ih =>
    intro u h
    by_cases h1 : u < 128
    · have : 1 ≤ 128 ^ n := Nat.pow_pos (by omega)
      rw [Nat.pow_succ]; omega
    · rw [grp_ge (by omega), List.length_cons] at h
      have := ih (u / 128) (by omega)
      rw [Nat.pow_succ]; omega
theorem tk_n (most : Nat) : ∀ (bs : List UInt8) (i a u n : Nat), i ≤ most → tk most i a bs = (u, n, 0) → n ≤ most := by
  intro bs
  induction bs with
  | nil => intro i a u n _ h; rw [tk_nil] at h; injection h with _ h; injection h with _ h; cases h
  | cons x r ih =>
    intro i a u n hi h
    by_cases hb : i = most ∨ (x.toNat = 0 ∧ 0 < i) ∨ (i = 9 ∧ 1 < x.toNat)
    · rw [tk_bad hb] at h; injection h with _ h; injection h with _ h; cases h
    · by_cases h2 : 128 ≤ x.toNat
      · rw [tk_more hb h2] at h; exact ih _ _ _ _ (by omega) h
      · rw [tk_last hb h2] at h; injection h with _ h; injection h with h _; omega
theorem tk_lt (most : Nat) : ∀ (bs : List UInt8) (i a u n : Nat), i ≤ 9 → a < 128 ^ i → tk most i a bs = (u, n, 0) → u < 18446744073709551616 := by
  intro bs
  induction bs with
  | nil => intro i a u n _ _ h; rw [tk_nil] at h; injection h with _ h; injection h with _ h; cases h
  | cons x r ih =>
    intro i a u n hi ha h
    by_cases hb : i = most ∨ (x.toNat = 0 ∧ 0 < i) ∨ (i = 9 ∧ 1 < x.toNat)
    · rw [tk_bad hb] at h; injection h with _ h; injection h with _ h; cases h
    · by_cases h2 : 128 ≤ x.toNat
      · rw [tk_more hb h2] at h
        refine ih _ _ _ _ (by omega) ?_ h
        have h3 : x.toNat % 128 * 128 ^ i ≤ 127 * 128 ^ i := Nat.mul_le_mul_right _ (by omega)
        rw [Nat.pow_succ]; omega
      · rw [tk_last hb h2] at h
        injection h with h _
        by_cases h9 : i = 9
        · subst h9
          have h3 : x.toNat % 128 * 128 ^ 9 ≤ 1 * 128 ^ 9 := Nat.mul_le_mul_right _ (by omega)
          omega
        · have h4 : 128 ^ i ≤ 128 ^ 8 := Nat.pow_le_pow_right (by omega) (by omega)
          have h3 : x.toNat % 128 * 128 ^ i ≤ 127 * 128 ^ i := Nat.mul_le_mul_right _ (by omega)
          omega
theorem tk9_lt {bs : List UInt8} {u n : Nat} (h : tk 9 0 0 bs = (u, n, 0)) : u < 9223372036854775808 := by
  have h1 := tk_n 9 bs 0 0 u n (by omega) h
  obtain ⟨_, h2, h3⟩ := tk_enc0 h
  have h4 : (grp u).length ≤ 9 := by rw [← h3, List.length_take]; omega
  exact grp_bound 9 u h4
/-- What a reader answers. -/
def rdUint (most : Int) (bs : List UInt8) (e : Int) : Int × List UInt8 × Int :=
  if e ≠ 0 then (0, bs, e) else
  let r := tk 9 0 0 bs
  if r.2.2 ≠ 0 then (0, bs, r.2.2) else if most < 0 ∨ most < r.1 then (0, bs, 5) else (r.1, bs.drop r.2.1, 0)
def rdInt (bs : List UInt8) (e : Int) : Int × List UInt8 × Int :=
  if e ≠ 0 then (0, bs, e) else
  let r := tk 10 0 0 bs
  if r.2.2 ≠ 0 then (0, bs, r.2.2) else (zag r.1, bs.drop r.2.1, 0)
/-- The reader's block alone is written. -/
def R1 (w : World) (L : List Nat) (g : Nat) (v : Value) (bs : List UInt8) (e : Int) (r : Ending) (w' : World) : Prop :=
  r = .returned v ∧ RdAt w' L g bs e ∧ Fr L w w' ∧ Fr [g] w w'
theorem rtake_ok {g most : Nat} (hm0 : 0 < most) (hm : most ≤ 10) {bs : List UInt8} {L : List Nat} {w : World} (h : RdAt w L g bs 0) (hl : bs.length ≤ 100000000) {u n : Nat} (hr : tk most 0 0 bs = (u, n, 0)) :
    Calls Try.prog 81 #[.pointer (some ⟨g, 0, none⟩), .int .i64 most] w fun e w' => e = .returned (.tuple #[.int .u64 u, .int .i64 n]) ∧ w' = w :=
  (rtake_any g most hm0 hm bs L w h hl u n 0 hr).mono fun e w' h => by
    rcases h with ⟨_, h1, h2⟩ | ⟨h1, _⟩
    · exact ⟨h1, h2⟩
    · exact absurd rfl h1
theorem rtake_err {g most : Nat} (hm0 : 0 < most) (hm : most ≤ 10) {bs : List UInt8} {L : List Nat} {w : World} (h : RdAt w L g bs 0) (hl : bs.length ≤ 100000000) {u n : Nat} {e0 : Int} (he : e0 ≠ 0) (hr : tk most 0 0 bs = (u, n, e0)) :
    Calls Try.prog 81 #[.pointer (some ⟨g, 0, none⟩), .int .i64 most] w fun e w' => e = .returned (.tuple #[.int .u64 0, .int .i64 0]) ∧ w' = w.setCell ⟨g, 1, none⟩ (.int .i64 e0) :=
  (rtake_any g most hm0 hm bs L w h hl u n e0 hr).mono fun e w' h => by
    rcases h with ⟨h1, _⟩ | ⟨_, h1, h2⟩
    · exact absurd h1 he
    · exact ⟨h1, h2⟩
theorem rd_err {w : World} {L : List Nat} {g : Nat} {bs : List UInt8} {e : Int} (h : RdAt w L g bs e) (e' : Int) (v : Value) : R1 w L g v bs e' (.returned v) (w.setCell ⟨g, 1, none⟩ (.int .i64 e')) :=
  ⟨rfl, h.setErr e', (Fr.refl _ _).setCell (p := ⟨g, 1, none⟩) (.inl h.mem) _, (Fr.refl _ _).setCell (p := ⟨g, 1, none⟩) (.inl (by simp)) _⟩
theorem rd_bytes {w : World} {L : List Nat} {g : Nat} {bs bs2 : List UInt8} {e : Int} (h : RdAt w L g bs e) {a2 : Option Addr} {c2 : Nat} (h2 : In w L a2 bs2) (hc : bs2.length ≤ c2) (v : Value) :
    R1 w L g v bs2 e (.returned v) (w.setCell ⟨g, 0, none⟩ (.slice a2 bs2.length c2)) :=
  ⟨rfl, h.setBytes h2 hc, (Fr.refl _ _).setCell (p := ⟨g, 0, none⟩) (.inl h.mem) _, (Fr.refl _ _).setCell (p := ⟨g, 0, none⟩) (.inl (by simp)) _⟩
theorem rd_same {w : World} {L : List Nat} {g : Nat} {bs : List UInt8} {e : Int} (h : RdAt w L g bs e) (v : Value) : R1 w L g v bs e (.returned v) w := ⟨rfl, h, Fr.refl _ _, Fr.refl _ _⟩
set_option maxRecDepth 100000 in
set_option maxHeartbeats 4000000 in
theorem rUint_dead (g : Nat) (most : Int) (bs : List UInt8) (e : Int) (L : List Nat) (w : World) (h : RdAt w L g bs e) (he : e ≠ 0) :
    Calls Try.prog 48 #[.pointer (some ⟨g, 0, none⟩), .int .i64 most] w (R1 w L g (.int .i64 0) bs e) := by
  have HD := Bx.mk (rdead1 h he); have H := Bx.mk h
  clear h he
  go_enter Try.func48, Try.ntmps48
  go_wp2_with fail
  refine HD.out.mono ?_
  rintro r w1 ⟨rfl, rfl⟩
  go_wp2
  go_ret
  exact rd_same H.out _
set_option maxRecDepth 100000 in
set_option maxHeartbeats 4000000 in
theorem rUint_err (g : Nat) (most : Int) (bs : List UInt8) (L : List Nat) (w : World) (h : RdAt w L g bs 0) (hl : bs.length ≤ 100000000) (u n : Nat) (e0 : Int) (he : e0 ≠ 0) (hr : tk 9 0 0 bs = (u, n, e0)) :
    Calls Try.prog 48 #[.pointer (some ⟨g, 0, none⟩), .int .i64 most] w (R1 w L g (.int .i64 0) bs e0) := by
  have HD := Bx.mk (rdead0 h); have H := Bx.mk h
  have HC := Bx.mk (rtake_err (by omega) (by omega) h hl he hr)
  have he2 : (e0 != 0) = true := by simpa using he
  obtain ⟨⟨a, c, k1, _, _⟩, _, _⟩ := h
  have c1 : (w.setCell ⟨g, 1, none⟩ (.int .i64 e0)).cell? ⟨g, 1, none⟩ = some (.int .i64 e0) := by rw [(k1.setCell 1 (.int .i64 e0)).cell]; rfl
  clear k1 hl he hr
  go_enter Try.func48, Try.ntmps48
  go_wp2_with fail
  refine HD.out.mono ?_
  rintro r w1 ⟨rfl, rfl⟩
  go_wp2_with fail
  refine HC.out.mono ?_
  rintro r w2 ⟨rfl, hw⟩
  rw [← hw] at c1
  have HW := Bx.mk hw; clear hw
  go_wp2
  go_ret
  rw [HW.out]
  exact rd_err H.out _ _
set_option maxRecDepth 100000 in
set_option maxHeartbeats 4000000 in
theorem rUint_ok (g : Nat) (most : Int) (hm : most ≤ 9223372036854775807) (hm2 : -9223372036854775808 ≤ most) (bs : List UInt8) (L : List Nat) (w : World) (h : RdAt w L g bs 0) (hl : bs.length ≤ 100000000) (u n : Nat) (hr : tk 9 0 0 bs = (u, n, 0)) :
    Calls Try.prog 48 #[.pointer (some ⟨g, 0, none⟩), .int .i64 most] w fun r w' =>
      (most < 0 ∨ most < u → R1 w L g (.int .i64 0) bs 5 r w') ∧ (¬ (most < 0 ∨ most < u) → R1 w L g (.int .i64 u) (bs.drop n) 0 r w') := by
  have HD := Bx.mk (rdead0 h); have H := Bx.mk h
  have HC := Bx.mk (rtake_ok (by omega) (by omega) h hl hr)
  have hu := tk9_lt hr
  have hn := (tk_enc0 hr).2.1
  obtain ⟨⟨a, c, k1, k2, k3⟩, _, _⟩ := h
  have c0 : w.cell? ⟨g, 0, none⟩ = some (.slice a bs.length c) := by rw [k1.cell]; rfl
  have c1 : w.cell? ⟨g, 1, none⟩ = some (.int .i64 0) := by rw [k1.cell]; rfl
  have d0 : w.frozen? ⟨g, 0, none⟩ = false := k1.frozen 0
  have d1 : w.frozen? ⟨g, 1, none⟩ = false := k1.frozen 1
  obtain ⟨a2, c2, hsl, hI, hc2⟩ := slice_from (n := n) hn k3 k2
  have RB := fun v => Bx.mk (rd_bytes H.out hI hc2 v)
  have RE := fun v => Bx.mk (rd_err H.out 5 v)
  have f1 : wrap64 (u : Int) = (u : Int) := by unfold wrap64; omega
  have HU := Bx.mk (show (0 : Int) ≤ (u : Int) ∧ (u : Int) ≤ 9223372036854775807 by omega)
  have HM := Bx.mk (And.intro hm hm2)
  clear k1 k2 k3 hI hc2 hr hn hl hu hm hm2 H
  generalize (bs.drop n).length = m at *
  generalize (u : Int) = u at *
  by_cases hm0 : most < 0
  · go_enter Try.func48, Try.ntmps48
    go_wp2_with fail
    refine HD.out.mono ?_
    rintro r w1 ⟨rfl, rfl⟩
    go_wp2_with fail
    refine HC.out.mono ?_
    rintro r w2 ⟨rfl, rfl⟩
    go_wp2
    go_ret
    exact ⟨fun _ => (RE _).out, fun h => absurd (.inl hm0) h⟩
  · have f2 : IntKind.u64.wrap most = most := by rw [IntKind.wrap_u64]; have := HM.out; omega
    by_cases hmu : most < u
    · go_enter Try.func48, Try.ntmps48
      go_wp2_with fail
      refine HD.out.mono ?_
      rintro r w1 ⟨rfl, rfl⟩
      go_wp2_with fail
      refine HC.out.mono ?_
      rintro r w2 ⟨rfl, rfl⟩
      go_wp2
      go_ret
      exact ⟨fun _ => (RE _).out, fun h => absurd (.inr hmu) h⟩
    · go_enter Try.func48, Try.ntmps48
      go_wp2_with fail
      refine HD.out.mono ?_
      rintro r w1 ⟨rfl, rfl⟩
      go_wp2_with fail
      refine HC.out.mono ?_
      rintro r w2 ⟨rfl, rfl⟩
      go_wp2
      go_ret
      exact ⟨fun h => by omega, fun _ => by show R1 _ _ _ (.int .i64 u) _ 0 (.returned (.int .i64 (wrap64 u))) _; rw [f1]; exact (RB _).out⟩
theorem rUint_any (g : Nat) (most : Int) (hm : most ≤ 9223372036854775807) (hm2 : -9223372036854775808 ≤ most) (bs : List UInt8) (e : Int) (L : List Nat) (w : World) (h : RdAt w L g bs e) (hl : bs.length ≤ 100000000) :
    Calls Try.prog 48 #[.pointer (some ⟨g, 0, none⟩), .int .i64 most] w (R1 w L g (.int .i64 (rdUint most bs e).1) (rdUint most bs e).2.1 (rdUint most bs e).2.2) := by
  unfold rdUint
  by_cases he : e = 0
  · subst he
    rw [if_neg (by simp)]
    obtain ⟨u, n, e1, hr⟩ : ∃ u n e1, tk 9 0 0 bs = (u, n, e1) := ⟨_, _, _, rfl⟩
    rw [hr]
    dsimp only
    by_cases he1 : e1 = 0
    · subst he1
      rw [if_neg (by simp)]
      have hC := rUint_ok g most hm hm2 bs L w h hl u n hr
      by_cases hc : most < 0 ∨ most < (u : Int)
      · rw [if_pos hc]; exact hC.mono fun r w' h => h.1 hc
      · rw [if_neg hc]; exact hC.mono fun r w' h => h.2 hc
    · rw [if_pos he1]; exact rUint_err g most bs L w h hl u n e1 he1 hr
  · rw [if_pos he]; exact rUint_dead g most bs e L w h he
/-- What 'End' tells. -/
def rdEnd (bs : List UInt8) (e : Int) : Int := if e = 0 ∧ bs ≠ [] then 4 else e
theorem rEnd_any (g : Nat) (bs : List UInt8) (e : Int) (L : List Nat) (w : World) (h : RdAt w L g bs e) (hl : bs.length ≤ 100000000) :
    Calls Try.prog 50 #[.pointer (some ⟨g, 0, none⟩)] w fun r w' => r = .returned (.int .i64 (rdEnd bs e)) ∧ w' = w := by
  obtain ⟨⟨a, c, k1, k2, k3⟩, _, _⟩ := h
  have c0 : w.cell? ⟨g, 0, none⟩ = some (.slice a bs.length c) := by rw [k1.cell]; rfl
  have c1 : w.cell? ⟨g, 1, none⟩ = some (.int .i64 e) := by rw [k1.cell]; rfl
  clear k1 k2 k3
  unfold rdEnd
  by_cases he : e = 0
  · subst he
    by_cases hb : bs = []
    · subst hb
      rw [if_neg (by simp)]
      have c0' : w.cell? ⟨g, 0, none⟩ = some (.slice a 0 c) := c0
      clear c0 hl
      go_enter Try.func50, Try.ntmps50
      go_wp2
      go_ret
      exact ⟨rfl, rfl⟩
    · rw [if_pos ⟨rfl, hb⟩]
      have hlen : (0 : Int) < (bs.length : Int) := by have := List.length_pos_iff.2 hb; omega
      clear hb
      go_enter Try.func50, Try.ntmps50
      go_wp2
      go_ret
      exact ⟨rfl, rfl⟩
  · rw [if_neg (fun h => he h.1)]
    have heb : (e == 0) = false := by simpa using he
    clear he
    go_enter Try.func50, Try.ntmps50
    go_wp2
    go_ret
    exact ⟨rfl, rfl⟩
theorem rdInt_range (bs : List UInt8) (e : Int) : -9223372036854775808 ≤ (rdInt bs e).1 ∧ (rdInt bs e).1 ≤ 9223372036854775807 := by
  unfold rdInt
  split
  · simp
  · obtain ⟨u, n, e1, hr⟩ : ∃ u n e1, tk 10 0 0 bs = (u, n, e1) := ⟨_, _, _, rfl⟩
    rw [hr]
    dsimp only
    split
    · simp
    · rename_i h
      have h0 : e1 = 0 := Classical.not_not.1 h
      subst h0
      exact zag_range (tk_lt 10 bs 0 0 u n (by omega) (by omega) hr)
theorem rdUint_range (most : Int) (bs : List UInt8) (e : Int) : 0 ≤ (rdUint most bs e).1 ∧ (rdUint most bs e).1 ≤ 9223372036854775807 := by
  unfold rdUint
  split
  · simp
  · obtain ⟨u, n, e1, hr⟩ : ∃ u n e1, tk 9 0 0 bs = (u, n, e1) := ⟨_, _, _, rfl⟩
    rw [hr]
    dsimp only
    split
    · simp
    · rename_i h
      have h0 : e1 = 0 := Classical.not_not.1 h
      subst h0
      split
      · simp
      · have := tk9_lt hr
        show 0 ≤ (u : Int) ∧ (u : Int) ≤ _
        omega
theorem rdLen (bs : List UInt8) (e : Int) : (rdInt bs e).2.1.length ≤ bs.length := by
  unfold rdInt
  split
  · simp
  · dsimp only; split
    · simp
    · simp
theorem rdLenU (most : Int) (bs : List UInt8) (e : Int) : (rdUint most bs e).2.1.length ≤ bs.length := by
  unfold rdUint
  split
  · simp
  · dsimp only; split
    · simp
    · split
      · simp
      · simp
end Go.Proofs.Ytecmpjccdhmeeaa
end
section
/- The reader's flag and text, walked. -/
namespace Go.Proofs.Ytecmpjccdhmeeaa
open Go.RowKit
def rdFlag (bs : List UInt8) (e : Int) : Bool × List UInt8 × Int :=
  if e ≠ 0 then (false, bs, e) else match bs with
  | [] => (false, [], 3)
  | x :: r => if 1 < x.toNat then (false, x :: r, 2) else (decide (x.toNat = 1), r, 0)
def rdText (most : Int) (bs : List UInt8) (e : Int) : List UInt8 × List UInt8 × Int :=
  if e ≠ 0 then ([], bs, e) else
  let r := rdUint most bs 0
  if r.2.2 ≠ 0 then ([], r.2.1, r.2.2) else if (r.2.1.length : Int) < r.1 then ([], bs, 3) else (r.2.1.take r.1.toNat, r.2.1.drop r.1.toNat, 0)
theorem in_fr {w w' : World} {L : List Nat} {a a0 : Option Addr} {bs : List UInt8} {n0 c0 g : Nat} {e : Int} (hb : Bk w g #[.slice a0 n0 c0, .int .i64 e] 130) (h : In w L a bs) (hu : Under L w.heap.size) (hf : Fr [g] w w') : In w' L a bs := by
  refine ⟨?_, h.2⟩
  rcases h.1 with h1 | ⟨b, off, rfl, h1⟩
  · exact .inl h1
  · cases bs with
    | nil => exact .inl rfl
    | cons x r =>
      have hbg : b ≠ g := by
        rintro rfl
        have := h1 0 (bV x) rfl
        rw [hb.cell] at this
        generalize off + 0 = j at this
        match j with
        | 0 => cases this
        | 1 => cases this
        | j + 2 => simp at this
      have hbL := h.2 _ rfl (by simp)
      refine .inr ⟨b, off, rfl, fun i v hv => ?_⟩
      rw [← h1 i v hv]
      exact World.cell?_of_block (a := ⟨b, off + i, none⟩) (hf.block b (hu b hbL) (by simpa using hbg))
/-- What 'Text' does. -/
def T1 (w : World) (L : List Nat) (g : Nat) (ts bs : List UInt8) (e : Int) (r : Ending) (w' : World) : Prop :=
  ∃ v, r = .returned v ∧ Own w' w.heap.size 5 1 v ts.length (ts.map bV) ∧ RdAt w' L g bs e ∧ Fr L w w'
end Go.Proofs.Ytecmpjccdhmeeaa
end
section
/- What is read is what was written, and what is written is read: plain laws of the parts. No program in sight. -/
namespace Go.Proofs.Ytecmpjccdhmeeaa
theorem dead_uint {most : Int} {bs : List UInt8} {e : Int} (he : e ≠ 0) : rdUint most bs e = (0, bs, e) := by unfold rdUint; rw [if_pos he]
theorem dead_int {bs : List UInt8} {e : Int} (he : e ≠ 0) : rdInt bs e = (0, bs, e) := by unfold rdInt; rw [if_pos he]
theorem dead_flag {bs : List UInt8} {e : Int} (he : e ≠ 0) : rdFlag bs e = (false, bs, e) := by unfold rdFlag; rw [if_pos he]
theorem dead_text {most : Int} {bs : List UInt8} {e : Int} (he : e ≠ 0) : rdText most bs e = ([], bs, e) := by unfold rdText; rw [if_pos he]
theorem un_uint {most : Int} {bs : List UInt8} {e : Int} (h : (rdUint most bs e).2.2 = 0) : e = 0 ∧ 0 ≤ (rdUint most bs e).1 ∧ (rdUint most bs e).1 ≤ most ∧ bs = uintB (rdUint most bs e).1 ++ (rdUint most bs e).2.1 := by
  by_cases he : e = 0
  · refine ⟨he, ?_⟩
    subst he
    revert h
    unfold rdUint
    rw [if_neg (by simp)]
    obtain ⟨u, n, e1, hr⟩ : ∃ u n e1, tk 9 0 0 bs = (u, n, e1) := ⟨_, _, _, rfl⟩
    rw [hr]
    dsimp only
    split
    · rename_i h; intro h1; exact absurd h1 h
    rename_i h
    split
    · intro h1; cases h1
    rename_i hm
    intro _
    have h0 : e1 = 0 := Classical.not_not.1 h
    subst h0
    obtain ⟨_, h3, h4⟩ := tk_enc0 hr
    refine ⟨by dsimp only; omega, by dsimp only; omega, ?_⟩
    dsimp only
    unfold uintB
    rw [if_neg (by omega), Int.toNat_natCast, ← h4, List.take_append_drop]
  · rw [dead_uint he] at h; exact absurd h he
theorem un_int {bs : List UInt8} {e : Int} (h : (rdInt bs e).2.2 = 0) : e = 0 ∧ bs = intB (rdInt bs e).1 ++ (rdInt bs e).2.1 := by
  by_cases he : e = 0
  · refine ⟨he, ?_⟩
    subst he
    revert h
    unfold rdInt
    rw [if_neg (by simp)]
    obtain ⟨u, n, e1, hr⟩ : ∃ u n e1, tk 10 0 0 bs = (u, n, e1) := ⟨_, _, _, rfl⟩
    rw [hr]
    dsimp only
    split
    · rename_i h; intro h1; exact absurd h1 h
    rename_i h
    intro _
    have h0 : e1 = 0 := Classical.not_not.1 h
    subst h0
    obtain ⟨_, h3, h4⟩ := tk_enc0 hr
    dsimp only
    unfold intB
    rw [zig_zag, ← h4, List.take_append_drop]
  · rw [dead_int he] at h; exact absurd h he
theorem un_flag {bs : List UInt8} {e : Int} (h : (rdFlag bs e).2.2 = 0) : e = 0 ∧ bs = flagB (rdFlag bs e).1 ++ (rdFlag bs e).2.1 := by
  by_cases he : e = 0
  · refine ⟨he, ?_⟩
    subst he
    revert h
    unfold rdFlag
    rw [if_neg (by simp)]
    cases bs with
    | nil => intro h; cases h
    | cons x r =>
      dsimp only
      split
      · intro h; cases h
      rename_i hx
      intro _
      unfold flagB
      by_cases h1 : x.toNat = 1
      · rw [if_pos (decide_eq_true h1)]
        rw [show x = 1 from UInt8.toNat_inj.1 h1]
        rfl
      · rw [if_neg (by simp [h1])]
        rw [show x = 0 from UInt8.toNat_inj.1 (by show x.toNat = 0; omega)]
        rfl
  · rw [dead_flag he] at h; exact absurd h he
theorem uint_nat {z : Int} (h : 0 ≤ z) : uintB z = grp z.toNat := by unfold uintB; rw [if_neg (by omega)]
theorem un_text {most : Int} {bs : List UInt8} {e : Int} (h : (rdText most bs e).2.2 = 0) : e = 0 ∧ ((rdText most bs e).1.length : Int) ≤ most ∧ bs = textB (rdText most bs e).1 ++ (rdText most bs e).2.1 := by
  by_cases he : e = 0
  · refine ⟨he, ?_⟩
    subst he
    revert h
    unfold rdText
    rw [if_neg (by simp)]
    have hu := un_uint (most := most) (bs := bs) (e := 0)
    revert hu
    generalize rdUint most bs 0 = q
    obtain ⟨z, cs, e1⟩ := q
    dsimp only
    intro hu
    split
    · rename_i h; intro h1; exact absurd h1 h
    rename_i h
    have h0 : e1 = 0 := Classical.not_not.1 h
    obtain ⟨_, k1, k2, k3⟩ := hu h0
    split
    · intro h1; cases h1
    rename_i h2
    intro _
    dsimp only
    have hl : (cs.take z.toNat).length = z.toNat := by rw [List.length_take]; omega
    refine ⟨by rw [hl]; omega, ?_⟩
    unfold textB
    rw [hl, List.append_assoc, List.take_append_drop, ← uint_nat k1]
    exact k3
  · rw [dead_text he] at h; exact absurd h he
theorem ck_grp {m : Nat} {most : Int} (h : (m : Int) ≤ most) (h1 : m < 9223372036854775808) (rest : List UInt8) : rdUint most (grp m ++ rest) 0 = ((m : Int), rest, 0) := by
  unfold rdUint
  rw [if_neg (by simp), tk_dec0 rest (by omega) (grp_len 8 m (by omega))]
  dsimp only
  rw [if_neg (by simp), if_neg (by omega), List.drop_left]
theorem ck_uint {n most : Int} (h0 : 0 ≤ n) (h1 : n ≤ 9223372036854775807) (h2 : n ≤ most) (rest : List UInt8) : rdUint most (uintB n ++ rest) 0 = (n, rest, 0) := by
  rw [uint_nat h0, ck_grp (by omega) (by omega), Int.toNat_of_nonneg h0]
theorem ck_int {n : Int} (h0 : -9223372036854775808 ≤ n) (h1 : n ≤ 9223372036854775807) (rest : List UInt8) : rdInt (intB n ++ rest) 0 = (n, rest, 0) := by
  unfold rdInt intB
  rw [if_neg (by simp), tk_dec0 rest (zig_lt h0 h1) (grp_len64 (zig_lt h0 h1))]
  dsimp only
  rw [if_neg (by simp), List.drop_left, zag_zig]
theorem ck_flag (y : Bool) (rest : List UInt8) : rdFlag (flagB y ++ rest) 0 = (y, rest, 0) := by
  cases y <;> rfl
theorem ck_text {ts : List UInt8} {most : Int} (h : (ts.length : Int) ≤ most) (h2 : ts.length ≤ 100000000) (rest : List UInt8) : rdText most (textB ts ++ rest) 0 = (ts, rest, 0) := by
  unfold rdText textB
  rw [if_neg (by simp), List.append_assoc, ck_grp h (by omega)]
  dsimp only
  rw [if_neg (by simp), if_neg (by rw [List.length_append]; omega), Int.toNat_natCast, List.take_left, List.drop_left]
theorem end_zero {bs : List UInt8} {e : Int} (h : rdEnd bs e = 0) : e = 0 ∧ bs = [] := by
  unfold rdEnd at h
  split at h
  · cases h
  · rename_i h2
    subst h
    exact ⟨rfl, Classical.byContradiction fun h3 => h2 ⟨rfl, h3⟩⟩
theorem end_dead {bs : List UInt8} {e : Int} (h : e ≠ 0) : rdEnd bs e = e := by unfold rdEnd; rw [if_neg (fun h2 => h h2.1)]
theorem end_nil : rdEnd [] 0 = 0 := rfl
theorem uint_le {most : Int} {bs : List UInt8} {e : Int} (h : 0 ≤ most) : (rdUint most bs e).1 ≤ most := by
  unfold rdUint
  split
  · exact h
  dsimp only
  split
  · exact h
  split
  · exact h
  · dsimp only; omega
theorem text_le {most : Int} {bs : List UInt8} {e : Int} (h : 0 ≤ most) : ((rdText most bs e).1.length : Int) ≤ most := by
  unfold rdText
  split
  · exact h
  have hu := uint_le (bs := bs) (e := 0) h
  have hr := (rdUint_range most bs 0).1
  generalize rdUint most bs 0 = q at *
  dsimp only
  split
  · exact h
  split
  · exact h
  · rw [List.length_take]; omega
theorem text_len {most : Int} {bs : List UInt8} {e : Int} : (rdText most bs e).1.length ≤ bs.length ∧ (rdText most bs e).2.1.length ≤ bs.length := by
  have hu := rdLenU most bs 0
  unfold rdText
  split
  · exact ⟨Nat.zero_le _, Nat.le_refl _⟩
  dsimp only
  split
  · exact ⟨Nat.zero_le _, hu⟩
  split
  · exact ⟨Nat.zero_le _, Nat.le_refl _⟩
  · dsimp only
    rw [List.length_take, List.length_drop]
    omega
theorem uint_len10 {n : Int} (h : n ≤ 9223372036854775807) : (uintB n).length ≤ 10 := by
  unfold uintB
  split
  · exact Nat.zero_le _
  · exact grp_len64 (by omega)
theorem int_len10 {n : Int} (h1 : -9223372036854775808 ≤ n) (h2 : n ≤ 9223372036854775807) : (intB n).length ≤ 10 := grp_len64 (zig_lt h1 h2)
theorem textB_len {ts : List UInt8} (h : ts.length ≤ 100000000) : (textB ts).length ≤ ts.length + 10 := by
  unfold textB
  rw [List.length_append]
  have := grp_len64 (u := ts.length) (by omega)
  omega
theorem flag_len {bs : List UInt8} {e : Int} : (rdFlag bs e).2.1.length ≤ bs.length := by
  unfold rdFlag
  split
  · exact Nat.le_refl _
  cases bs with
  | nil => exact Nat.le_refl _
  | cons x r =>
    dsimp only
    split
    · exact Nat.le_refl _
    · simp
end Go.Proofs.Ytecmpjccdhmeeaa
end
section
/- Tariffs and plans as bytes, in plain lists. No program in sight. -/
namespace Go.Proofs.Ytecmpjccdhmeeaa
def tirB (t : Tr) : List UInt8 := uintB t.upto ++ uintB t.price
def tarHd (t : Tar) : List UInt8 := uintB t.grp ++ uintB t.mode ++ uintB t.block ++ uintB (t.ts.length : Int)
def tarB (t : Tar) : List UInt8 := tarHd t ++ t.ts.flatMap tirB
def planHd (p : Pl) : List UInt8 := uintB p.day ++ uintB p.frm ++ uintB p.til
def planB (p : Pl) : List UInt8 := planHd p ++ tarB p.base ++ (if p.day ≠ 0 then tarB p.other else [])
structure RdT where
  ts : List Tr
  bs : List UInt8
  e : Int
/-- One tier more. -/
def rdTr (s : RdT) : RdT :=
  let a := rdUint 1099511627776 s.bs s.e
  let b := rdUint 1099511627776 a.2.1 a.2.2
  ⟨s.ts ++ [⟨a.1, b.1⟩], b.2.1, b.2.2⟩
def rdTs (s : RdT) : Nat → RdT
  | 0 => s
  | n + 1 => rdTr (rdTs s n)
/-- A tariff; its bytes, and what is wrong. -/
def rdTar (bs : List UInt8) (e : Int) : Tar × List UInt8 × Int :=
  let a := rdUint 1099511627776 bs e
  let b := rdUint 1099511627776 a.2.1 a.2.2
  let c := rdUint 1099511627776 b.2.1 b.2.2
  let n := rdUint 6 c.2.1 c.2.2
  let s := rdTs ⟨[], n.2.1, n.2.2⟩ n.1.toNat
  (⟨a.1, b.1, c.1, s.ts⟩, s.bs, s.e)
/-- A plan, before it is asked whether it is one. -/
def rdPl (bs : List UInt8) : Pl × List UInt8 × Int :=
  let a := rdUint 1099511627776 bs 0
  let b := rdUint 1099511627776 a.2.1 a.2.2
  let c := rdUint 1099511627776 b.2.1 b.2.2
  let t := rdTar c.2.1 c.2.2
  let u := if a.1 ≠ 0 then rdTar t.2.1 t.2.2 else (⟨0, 0, 0, []⟩, t.2.1, t.2.2)
  (⟨a.1, b.1, c.1, t.1, u.1⟩, u.2.1, u.2.2)
def rdPlE (bs : List UInt8) : Int := if rdEnd (rdPl bs).2.1 (rdPl bs).2.2 ≠ 0 then 2 else planE (rdPl bs).1
def zeroPl : Pl := ⟨0, 0, 0, ⟨0, 0, 0, []⟩, ⟨0, 0, 0, []⟩⟩
def rdPlan (bs : List UInt8) : Pl := if rdPlE bs = 0 then (rdPl bs).1 else zeroPl
theorem rdTs_len (s : RdT) : ∀ n, (rdTs s n).ts.length = s.ts.length + n
  | 0 => rfl
  | n + 1 => by simp [rdTs, rdTr, rdTs_len s n]; omega
theorem rdTs_bs (s : RdT) : ∀ n, (rdTs s n).bs.length ≤ s.bs.length
  | 0 => Nat.le_refl _
  | n + 1 => by
    have h1 := rdTs_bs s n
    have h2 := rdLenU 1099511627776 (rdTs s n).bs (rdTs s n).e
    have h3 := rdLenU 1099511627776 (rdUint 1099511627776 (rdTs s n).bs (rdTs s n).e).2.1 (rdUint 1099511627776 (rdTs s n).bs (rdTs s n).e).2.2
    show (rdTr (rdTs s n)).bs.length ≤ _
    simp only [rdTr]
    omega
theorem rdTs_dead {s : RdT} (h : s.e ≠ 0) : ∀ n, (rdTs s n).e = s.e ∧ (rdTs s n).bs = s.bs
  | 0 => ⟨rfl, rfl⟩
  | n + 1 => by
    obtain ⟨h1, h2⟩ := rdTs_dead h n
    have e1 : rdUint 1099511627776 (rdTs s n).bs (rdTs s n).e = (0, s.bs, s.e) := by rw [h1, h2]; exact dead_uint h
    show (rdTr (rdTs s n)).e = _ ∧ (rdTr (rdTs s n)).bs = _
    simp only [rdTr, e1, dead_uint h]
    exact ⟨trivial, trivial⟩
theorem un_tr {s : RdT} (h : (rdTr s).e = 0) : s.e = 0 ∧ ∃ t, (rdTr s).ts = s.ts ++ [t] ∧ s.bs = tirB t ++ (rdTr s).bs := by
  simp only [rdTr] at h ⊢
  obtain ⟨h1, _, _, h2⟩ := un_uint h
  obtain ⟨h3, _, _, h4⟩ := un_uint h1
  refine ⟨h3, _, rfl, ?_⟩
  unfold tirB
  rw [List.append_assoc, ← h2, ← h4]
theorem un_ts (s : RdT) : ∀ n, (rdTs s n).e = 0 → s.e = 0 ∧ ∃ ts, (rdTs s n).ts = s.ts ++ ts ∧ ts.length = n ∧ s.bs = ts.flatMap tirB ++ (rdTs s n).bs
  | 0, h => ⟨h, [], by simp [rdTs], rfl, by simp [rdTs]⟩
  | n + 1, h => by
    obtain ⟨h1, t, h2, h3⟩ := un_tr (s := rdTs s n) h
    obtain ⟨h4, ts, h5, h6, h7⟩ := un_ts s n h1
    refine ⟨h4, ts ++ [t], ?_, by simp [h6], ?_⟩
    · show (rdTr (rdTs s n)).ts = _
      rw [h2, h5, List.append_assoc]
    · show _ = _ ++ (rdTr (rdTs s n)).bs
      rw [h7, h3]
      simp
theorem un_tar {bs : List UInt8} {e : Int} (h : (rdTar bs e).2.2 = 0) : e = 0 ∧ bs = tarB (rdTar bs e).1 ++ (rdTar bs e).2.1 := by
  unfold rdTar at h ⊢
  dsimp only at h ⊢
  obtain ⟨h1, ts, h2, h3, h4⟩ := un_ts _ _ h
  dsimp only at h1 h2 h4
  obtain ⟨k1, k0, _, k2⟩ := un_uint h1
  obtain ⟨k3, _, _, k4⟩ := un_uint k1
  obtain ⟨k5, _, _, k6⟩ := un_uint k3
  obtain ⟨k7, _, _, k8⟩ := un_uint k5
  refine ⟨k7, ?_⟩
  unfold tarB tarHd
  dsimp only
  rw [h2, List.nil_append, h3, Int.toNat_of_nonneg k0]
  simp only [List.append_assoc]
  rw [← h4, ← k2, ← k4, ← k6, ← k8]
theorem un_pl {bs : List UInt8} (h : (rdPl bs).2.2 = 0) : bs = planB (rdPl bs).1 ++ (rdPl bs).2.1 := by
  unfold rdPl at h ⊢
  dsimp only at h ⊢
  unfold planB planHd
  dsimp only
  by_cases hd : (rdUint 1099511627776 bs 0).1 ≠ 0
  · rw [if_pos hd] at h ⊢
    rw [if_pos hd]
    obtain ⟨h1, h2⟩ := un_tar h
    obtain ⟨h3, h4⟩ := un_tar h1
    obtain ⟨k3, _, _, k4⟩ := un_uint h3
    obtain ⟨k5, _, _, k6⟩ := un_uint k3
    obtain ⟨_, _, _, k8⟩ := un_uint k5
    simp only [List.append_assoc]
    rw [← h2, ← h4, ← k4, ← k6, ← k8]
  · rw [if_neg hd] at h ⊢
    rw [if_neg hd]
    dsimp only at h ⊢
    obtain ⟨h3, h4⟩ := un_tar h
    obtain ⟨k3, _, _, k4⟩ := un_uint h3
    obtain ⟨k5, _, _, k6⟩ := un_uint k3
    obtain ⟨_, _, _, k8⟩ := un_uint k5
    simp only [List.append_assoc, List.nil_append]
    rw [← h4, ← k4, ← k6, ← k8]
/-- Numbers that a writer takes, and a reader. -/
def NumOk (z : Int) : Prop := 0 ≤ z ∧ z ≤ 1099511627776
structure TarIo (t : Tar) : Prop where
  g : NumOk t.grp
  m : NumOk t.mode
  b : NumOk t.block
  l : t.ts.length ≤ 6
  ts : ∀ x ∈ t.ts, NumOk x.upto ∧ NumOk x.price
theorem tarIo_of {t : Tar} (h : chkE t = 0) : TarIo t := by
  obtain ⟨⟨h1, h2⟩, h3, h4, h5⟩ := chk_ok h
  refine ⟨⟨by omega, by omega⟩, ⟨by omega, by omega⟩, ⟨by omega, by omega⟩, h4.2, fun x hx => ?_⟩
  have a := good0_price h5 x hx
  have b := good_far t.ts 0 h5 x hx
  exact ⟨⟨a.2, by omega⟩, a.1.1, by omega⟩
theorem ck_num {z : Int} (h : NumOk z) (rest : List UInt8) : rdUint 1099511627776 (uintB z ++ rest) 0 = (z, rest, 0) := ck_uint h.1 (by have := h.2; omega) h.2 rest
theorem ck_ts (rest : List UInt8) : ∀ (ts : List Tr) (s : List Tr), (∀ x ∈ ts, NumOk x.upto ∧ NumOk x.price) → rdTs ⟨s, ts.flatMap tirB ++ rest, 0⟩ ts.length = ⟨s ++ ts, rest, 0⟩ := by
  have one : ∀ (n : Nat) (s : RdT), rdTs s (n + 1) = rdTs (rdTr s) n := by
    intro n
    induction n with
    | zero => intro s; rfl
    | succ n ih => intro s; show rdTr (rdTs s (n + 1)) = rdTr (rdTs (rdTr s) n); rw [ih]
  intro ts
  induction ts with
  | nil => intro s _; simp [rdTs]
  | cons t r ih =>
    intro s h
    have ht := h t (by simp)
    rw [List.length_cons, one]
    have e : rdTr ⟨s, (t :: r).flatMap tirB ++ rest, 0⟩ = ⟨s ++ [t], r.flatMap tirB ++ rest, 0⟩ := by
      simp only [rdTr, List.flatMap_cons, tirB, List.append_assoc, ck_num ht.1, ck_num ht.2]
    rw [e, ih (s ++ [t]) fun x hx => h x (by simp [hx])]
    simp
theorem ck_tar {t : Tar} (h : TarIo t) (rest : List UInt8) : rdTar (tarB t ++ rest) 0 = (t, rest, 0) := by
  have hl := h.l
  unfold rdTar tarB tarHd
  simp only [List.append_assoc, ck_num h.g, ck_num h.m, ck_num h.b]
  rw [ck_uint (n := (t.ts.length : Int)) (by omega) (by omega) (by omega)]
  simp only [Int.toNat_natCast]
  rw [ck_ts rest t.ts [] h.ts]
  rfl
theorem plan_io {p : Pl} (h : planE p = 0) : NumOk p.day ∧ NumOk p.frm ∧ NumOk p.til ∧ TarIo p.base ∧ (p.day ≠ 0 → TarIo p.other) ∧ (p.day = 0 → p.other = ⟨0, 0, 0, []⟩) := by
  obtain ⟨h1, h2⟩ := plan_ok h
  rcases h2 with ⟨a, b, c, d⟩ | ⟨a, b, c, d⟩
  · refine ⟨⟨by omega, by omega⟩, ⟨by omega, by omega⟩, ⟨by omega, by omega⟩, tarIo_of h1, fun k => absurd a k, fun _ => ?_⟩
    obtain ⟨d1, d2, d3, d4⟩ := d
    cases ho : p.other
    rw [ho] at d1 d2 d3 d4
    simp only at d1 d2 d3 d4
    rw [d1, d2, d3, d4]
  · obtain ⟨b1, b2, b3, b4⟩ := b
    exact ⟨⟨by omega, by omega⟩, ⟨by omega, by omega⟩, ⟨by omega, by omega⟩, tarIo_of h1, fun _ => tarIo_of c, fun k => absurd k a⟩
theorem ck_pl {p : Pl} (h : planE p = 0) : rdPl (planB p) = (p, [], 0) := by
  obtain ⟨h1, h2, h3, h4, h5, h6⟩ := plan_io h
  unfold rdPl planB planHd
  simp only [List.append_assoc, ck_num h1, ck_num h2, ck_num h3, ck_tar h4]
  by_cases hd : p.day ≠ 0
  · rw [if_pos hd, if_pos hd]
    have := ck_tar (h5 hd) []
    rw [List.append_nil] at this
    rw [this]
  · rw [if_neg hd, if_neg hd]
    rw [← h6 (Decidable.not_not.1 hd)]
theorem rd_back {p : Pl} (h : planE p = 0) : rdPlE (planB p) = 0 ∧ rdPlan (planB p) = p := by
  have e : rdPlE (planB p) = 0 := by
    unfold rdPlE
    rw [ck_pl h]
    simp [rdEnd, h]
  refine ⟨e, ?_⟩
  unfold rdPlan
  rw [if_pos e, ck_pl h]
theorem rd_ok {bs : List UInt8} (h : rdPlE bs = 0) : planE (rdPlan bs) = 0 ∧ bs = planB (rdPlan bs) ∧ rdPlan bs = (rdPl bs).1 := by
  have hp : rdPlan bs = (rdPl bs).1 := by unfold rdPlan; rw [if_pos h]
  unfold rdPlE at h
  split at h
  · cases h
  · rename_i hn
    obtain ⟨h1, h2⟩ := end_zero (Decidable.not_not.1 hn)
    have := un_pl h1
    rw [h2, List.append_nil] at this
    rw [hp]
    exact ⟨h, this, rfl⟩
end Go.Proofs.Ytecmpjccdhmeeaa
end
section
/- Conditions of functions, printed by a program of this claim's own (vcgen.py) out of the loaded code; each is proved to be enough. -/
set_option maxRecDepth 100000
namespace Go.Proofs.Ytecmpjccdhmeeaa
open Go.RowKit
namespace GRefRd
def env : Env := ⟨[(3, ⟨.int .i64, 1, .int .i64 0, 8, [.int .i64]⟩), (5, ⟨.int .u8, 1, .int .u8 0, 1, [.int .u8]⟩), (9, ⟨.str, 1, .string ByteArray.empty, 16, [.str]⟩), (29, ⟨.int .i64, 1, .int .i64 0, 8, [.int .i64]⟩), (50, ⟨.int .u64, 1, .int .u64 0, 8, [.int .u64]⟩), (104, ⟨.struct [(0, 9), (1, 29)], 2, .agg #[.string ByteArray.empty, .int .i64 0], 24, [.str, .int .i64]⟩)], [(83, [.lf (.int .u64), .lf (.int .i64)])], []⟩
theorem ty3 : TyOk Try.prog 3 ⟨.int .i64, 1, .int .i64 0, 8, [.int .i64]⟩ := tyok (by kernel_rfl) (by kernel_rfl)
theorem ty5 : TyOk Try.prog 5 ⟨.int .u8, 1, .int .u8 0, 1, [.int .u8]⟩ := tyok (by kernel_rfl) (by kernel_rfl)
theorem ty9 : TyOk Try.prog 9 ⟨.str, 1, .string ByteArray.empty, 16, [.str]⟩ := tyok (by kernel_rfl) (by kernel_rfl)
theorem ty29 : TyOk Try.prog 29 ⟨.int .i64, 1, .int .i64 0, 8, [.int .i64]⟩ := tyok (by kernel_rfl) (by kernel_rfl)
theorem ty50 : TyOk Try.prog 50 ⟨.int .u64, 1, .int .u64 0, 8, [.int .u64]⟩ := tyok (by kernel_rfl) (by kernel_rfl)
theorem ty104 : TyOk Try.prog 104 ⟨.struct [(0, 9), (1, 29)], 2, .agg #[.string ByteArray.empty, .int .i64 0], 24, [.str, .int .i64]⟩ := tyok (by kernel_rfl) (by kernel_rfl)
theorem fn83 : FnOk Try.prog 83 := fnok Try.func83 (by kernel_rfl) (by kernel_rfl)
theorem envOk : EOk Try.prog env := ⟨(by simp only [env, List.forall_mem_cons, List.not_mem_nil, false_implies, implies_true, and_true]; exact ⟨ty3, ty5, ty9, ty29, ty50, ty104⟩), (by simp only [env, List.forall_mem_cons, List.not_mem_nil, false_implies, implies_true, and_true]; exact fn83), by kernel_rfl, (fun _ h => by cases h)⟩
/-- (*purser/purserref03.Reader).groups -/
def grp_vc (p0 : Option Addr) (x1 : Int) (w : World) (K : Value → World → Prop) : Prop :=
  ∃ (I : Int → Int → World → Prop) (μ : Int → Int → World → Nat),
  I 0 0 w ∧
  ∀ (x6 : Int) (x7 : Int) (w_2 : World), I x6 x7 w_2 →
  withP p0 fun g13 o13 =>
  ∃ (s15 : ByteArray), w_2.cell? ⟨g13, o13, none⟩ = some (.string s15) ∧
  br (decide (x7 ≥ ((s15.size : Nat) : Int))) (
    withP p0 fun g19 o19 =>
    stO [] w_2 g19 (o19 + 1) [.int .i64 3] fun w_3 =>
    K (.tuple #[.int .u64 0, .int .i64 0]) w_3
  ) (
    withP p0 fun g22 o22 =>
    ∃ (s24 : ByteArray), w_2.cell? ⟨g22, o22, none⟩ = some (.string s24) ∧
    (0 : Int) ≤ x7 ∧ x7 < (((s24.size : Nat) : Int) : Int) ∧
    ∃ (J : Bool → World → Prop), (
      br (decide (x7 ≥ x1)) (
        J true w_2
      ) (
        br (decide (x7 = 9)) (
          br (decide ((byteAt s24 x7) > 1)) (
            J true w_2
          ) (
            br (decide ((byteAt s24 x7) = 0)) (
              J (decide (x7 > 0)) w_2
            ) (
              J false w_2
            )
          )
        ) (
          br (decide ((byteAt s24 x7) = 0)) (
            J (decide (x7 > 0)) w_2
          ) (
            J false w_2
          )
        )
      )
    ) ∧
    ∀ (b45 : Bool) (w_4 : World), J b45 w_4 →
    br b45 (
      withP p0 fun g47 o47 =>
      stO [] w_4 g47 (o47 + 1) [.int .i64 2] fun w_5 =>
      K (.tuple #[.int .u64 0, .int .i64 0]) w_5
    ) (
      (128 : Int) ≠ 0 ∧
      (0 : Int) ≤ (IntKind.i64.wrap (7 * x7)) ∧
      br (decide ((byteAt s24 x7) < 128)) (
        K (.tuple #[.int .u64 (IntKind.u64.wrap (x6 + (IntKind.u64.wrap ((IntKind.u64.wrap (Int.tmod (byteAt s24 x7) 128)) * 2 ^ (min (IntKind.i64.wrap (7 * x7)).toNat (IntKind.bits .u64)))))), .int .i64 (IntKind.i64.wrap (x7 + 1))]) w_4
      ) (
        I (IntKind.u64.wrap (x6 + (IntKind.u64.wrap ((IntKind.u64.wrap (Int.tmod (byteAt s24 x7) 128)) * 2 ^ (min (IntKind.i64.wrap (7 * x7)).toNat (IntKind.bits .u64)))))) (IntKind.i64.wrap (x7 + 1)) w_4 ∧ μ (IntKind.u64.wrap (x6 + (IntKind.u64.wrap ((IntKind.u64.wrap (Int.tmod (byteAt s24 x7) 128)) * 2 ^ (min (IntKind.i64.wrap (7 * x7)).toNat (IntKind.bits .u64)))))) (IntKind.i64.wrap (x7 + 1)) w_4 < μ x6 x7 w_2
      )
    )
  )
def grp_notes : Notes := ⟨[], [(4, ⟨[(6, .lf (.int .u64)), (7, .lf (.int .i64))], [], [11, 12, 13, 14, 15, 16, 17, 18, 19, 20, 4, 5, 21, 22, 23, 24, 25, 26, 8, 27, 28, 29, 30, 31, 32, 33, 34, 35, 36, 37, 38, 39, 40, 41, 42, 43, 44, 45, 46, 47, 48, 49, 50, 51, 52, 53, 54, 55, 56, 6, 57, 58, 59, 60, 61, 9, 10, 7], []⟩)], [((0, 8), ⟨[(45, .lf (.bool))], [], [27, 28, 29, 30, 31, 32, 33, 34, 35, 36, 37, 38, 39, 40, 41, 42, 43, 44, 45], []⟩)]⟩
theorem grp_calls (p0 : Option Addr) (x1 : Int) (w : World) (K : Value → World → Prop) (h : grp_vc p0 x1 w K) : Calls Try.prog 83 #[.pointer p0, .int .i64 x1] w fun e w' => ∃ v, e = .returned v ∧ K v w' :=
  calls_of_fvc envOk Try.func83 grp_notes [] [.pointer p0, .int .i64 x1] w K (use_vc h (by as_aux_lemma => kernel_rfl))
/-- (*purser/purserref03.Reader).Uint -/
def uint_vc (p0 : Option Addr) (x1 : Int) (w : World) (K : Value → World → Prop) : Prop :=
  withP p0 fun g8 o8 =>
  ∃ (x10 : Int), w.cell? ⟨g8, o8 + 1, none⟩ = some (.int .i64 x10) ∧
  br (decide (x10 ≠ 0)) (
    K (.int .i64 0) w
  ) (
    Calls Try.prog 83 #[.pointer p0, .int .i64 9] w fun e w_2 => KeepG [] w w_2 ∧
    ∃ (x14_0 : Int) (x14_1 : Int),
    e = .returned (.tuple #[.int .u64 x14_0, .int .i64 x14_1]) ∧
    withP p0 fun g18 o18 =>
    ∃ (x20 : Int), w_2.cell? ⟨g18, o18 + 1, none⟩ = some (.int .i64 x20) ∧
    br (decide (x20 ≠ 0)) (
      K (.int .i64 0) w_2
    ) (
      br (decide (x1 < 0)) (
        withP p0 fun g31 o31 =>
        stO [] w_2 g31 (o31 + 1) [.int .i64 5] fun w_3 =>
        K (.int .i64 0) w_3
      ) (
        br (decide (x14_0 > (IntKind.u64.wrap x1))) (
          withP p0 fun g31_2 o31_2 =>
          stO [] w_2 g31_2 (o31_2 + 1) [.int .i64 5] fun w_4 =>
          K (.int .i64 0) w_4
        ) (
          withP p0 fun g35 o35 =>
          ∃ (s37 : ByteArray), w_2.cell? ⟨g35, o35, none⟩ = some (.string s37) ∧
          (0 : Int) ≤ x14_1 ∧ x14_1 ≤ (((s37.size : Nat) : Int) : Int) ∧
          withP p0 fun g40 o40 =>
          stO [] w_2 g40 o40 [.string (s37.extract x14_1.toNat s37.size)] fun w_5 =>
          K (.int .i64 (IntKind.i64.wrap x14_0)) w_5
        )
      )
    )
  )
def uint_notes : Notes := ⟨[], [], []⟩
theorem uint_calls (p0 : Option Addr) (x1 : Int) (w : World) (K : Value → World → Prop) (h : uint_vc p0 x1 w K) : Calls Try.prog 54 #[.pointer p0, .int .i64 x1] w fun e w' => ∃ v, e = .returned v ∧ K v w' :=
  calls_of_fvc envOk Try.func54 uint_notes [] [.pointer p0, .int .i64 x1] w K (use_vc h (by as_aux_lemma => kernel_rfl))
/-- (*purser/purserref03.Reader).End -/
def end_vc (p0 : Option Addr) (w : World) (K : Value → World → Prop) : Prop :=
  withP p0 fun g4 o4 =>
  ∃ (x6 : Int), w.cell? ⟨g4, o4 + 1, none⟩ = some (.int .i64 x6) ∧
  br (decide (x6 = 0)) (
    withP p0 fun g10 o10 =>
    ∃ (s12 : ByteArray), w.cell? ⟨g10, o10, none⟩ = some (.string s12) ∧
    br (decide (s12 ≠ (⟨#[]⟩))) (
      K (.int .i64 4) w
    ) (
      withP p0 fun g16 o16 =>
      ∃ (x18 : Int), w.cell? ⟨g16, o16 + 1, none⟩ = some (.int .i64 x18) ∧
      K (.int .i64 x18) w
    )
  ) (
    withP p0 fun g16_2 o16_2 =>
    ∃ (x18_2 : Int), w.cell? ⟨g16_2, o16_2 + 1, none⟩ = some (.int .i64 x18_2) ∧
    K (.int .i64 x18_2) w
  )
def end_notes : Notes := ⟨[], [], []⟩
theorem end_calls (p0 : Option Addr) (w : World) (K : Value → World → Prop) (h : end_vc p0 w K) : Calls Try.prog 56 #[.pointer p0] w fun e w' => ∃ v, e = .returned v ∧ K v w' :=
  calls_of_fvc envOk Try.func56 end_notes [] [.pointer p0] w K (use_vc h (by as_aux_lemma => kernel_rfl))
end GRefRd
end Go.Proofs.Ytecmpjccdhmeeaa
end
section
/- Small words for using printed conditions. No program in sight. -/
namespace Go.Proofs.Ytecmpjccdhmeeaa
open Go.RowKit
theorem keepG_nil (w w1 : World) : KeepG [] w w1 := fun _ g hg => by cases hg
theorem keepG_below {gs : List Nat} {w w1 : World} (h : Below w.heap.size w w1) : KeepG gs w w1 := fun hu g hg => h.block g (hu g hg)
theorem keepG_fr {gs L : List Nat} {w w1 : World} (h : Fr L w w1) (ha : ∀ g ∈ gs, g ∉ L) : KeepG gs w w1 := fun hu g hg => h.block g (hu g hg) (ha g hg)
/-- A call whose contract tells one value. -/
theorem wr64 {z : Int} (h1 : -9223372036854775808 ≤ z) (h2 : z ≤ 9223372036854775807) : IntKind.i64.wrap z = z := IntWalk.i64_in z ⟨h1, h2⟩
theorem wru64 {z : Int} (h1 : 0 ≤ z) (h2 : z ≤ 18446744073709551615) : IntKind.u64.wrap z = z := by rw [IntKind.wrap_u64]; omega
theorem wru8 {z : Int} (h1 : 0 ≤ z) (h2 : z ≤ 255) : IntKind.u8.wrap z = z := by rw [IntKind.wrap_u8]; omega
theorem u64_mod (z : Int) (k : Nat) (hk : 0 < k) : ∃ m : Nat, m < k ∧ Int.tmod (IntKind.u64.wrap z) (k : Int) = (m : Int) := by
  have h0 : 0 ≤ IntKind.u64.wrap z := by rw [IntKind.wrap_u64]; omega
  have h1 := Int.emod_nonneg (IntKind.u64.wrap z) (show (k : Int) ≠ 0 by omega)
  have h2 := Int.emod_lt_of_pos (IntKind.u64.wrap z) (show (0 : Int) < (k : Int) by omega)
  exact ⟨(IntKind.u64.wrap z % (k : Int)).toNat, by omega, by rw [Int.tmod_eq_emod_of_nonneg h0]; omega⟩
theorem br_t {b : Bool} {A B : Prop} (hb : b = true) (h : A) : br b A B := by rw [br_true hb]; exact h
theorem br_f {b : Bool} {A B : Prop} (hb : b = false) (h : B) : br b A B := by rw [br_false hb]; exact h
theorem br_y {p : Prop} [Decidable p] {A B : Prop} (hp : p) (h : A) : br (decide p) A B := br_t (decide_eq_true hp) h
theorem br_n {p : Prop} [Decidable p] {A B : Prop} (hp : ¬ p) (h : B) : br (decide p) A B := br_f (decide_eq_false hp) h
theorem br_not {b : Bool} {A B : Prop} (h : br b B A) : br (!b) A B := by cases b <;> exact h
/-- A new block. -/
theorem newO_mk {w : World} {o : Obj} {K : Nat → World → Prop} (h : K w.heap.size (w.alloc o)) : newO w o K := by rintro g w1 rfl rfl; exact h
theorem newO_in {w : World} {o : Obj} {K : Nat → World → Prop} (h : ∀ w1, w1.heap[w.heap.size]? = some o → Below w.heap.size w w1 → w1.heap.size = w.heap.size + 1 → K w.heap.size w1) : newO w o K := by
  rintro g w1 rfl rfl; exact h _ (al_new rfl) (Below_one o) (by simp)
theorem drewO_in {w : World} {K : World → Prop} (h : ∀ w1, Below w.heap.size w w1 → w1.heap = w.heap → K w1) : drewO w K := fun w1 h1 h2 => h w1 h2 h1
theorem cellsAt_row {w : World} {g : Nat} {cs : Array Value} {t : TypeId} {fr : Nat × Nat} (h : w.heap[g]? = some (.cells cs t fr)) {off : Nat} {vs : List Value} (hv : (cs.toList.drop off).take vs.length = vs) : cellsAt w g off vs :=
  cellsAt_of fun j v hj => by
    rw [cell_of_row _ _ _ _ _ _ h]
    rw [← hv, List.getElem?_take] at hj
    split at hj
    · rw [List.getElem?_drop] at hj; simpa using hj
    · cases hj
theorem row_of_block {w : World} {g : Nat} {bs : List UInt8} {t : TypeId} {fr : Nat × Nat} (h : w.heap[g]? = some (.cells (bs.map bV).toArray t fr)) : RowAt w (some ⟨g, 0, none⟩) (bs.map bV) := RowAt.ofWhole h
/-- A block's cells, as what is appended. -/
theorem src_block {P : Program} {W : World} {tx e' : TypeId} (hk : P.underlying tx = some (.slice e')) {g n c size : Nat} {cs : List Value} {t : TypeId} {fr : Nat × Nat} (h : W.heap[g]? = some (.cells cs.toArray t fr)) (hl : cs.length = n * size) (h1 : allOne cs = true) :
    Src P size tx (.slice (some ⟨g, 0, none⟩) n c) n cs W :=
  Src.ofSlice _ hk _ n c _ hl (fun j u hj => by
    rw [Addr.add_lit, Nat.zero_add, cell_of_row _ _ _ _ _ _ h]
    simpa using hj) (allOne_spec h1)
theorem own_cell {w : World} {b : Nat} {e : TypeId} {a : Option Addr} {n c : Nat} {xs : List Value} (h : Own w b e 1 (.slice a n c) n xs) {i : Nat} {v : Value} (hi : xs[i]? = some v) : ∃ g off, a = some ⟨g, off, none⟩ ∧ w.cell? ⟨g, off + i * 1, none⟩ = some v := by
  have hlt : i < xs.length := (List.getElem?_eq_some_iff.1 hi).1
  have hl := h.1
  rcases h.2 with ⟨h0, h1⟩ | ⟨g, off, cap, cur, hv, _⟩
  · omega
  · injection hv with h1 h2 h3
    subst h1
    exact ⟨g, off, rfl, by rw [Nat.mul_one]; exact h.cells g off _ rfl i v hi⟩
theorem Bk.there {w : World} {g : Nat} {cs : Array Value} {t : TypeId} (h : Bk w g cs t) {i n : Nat} (hi : i + n ≤ cs.size) : w.there g i n := fun j hj => by
  refine ⟨?_, h.frozen _⟩
  rw [h.cell]
  rw [Array.getElem?_eq_getElem (by omega)]
  rfl
theorem stO_bk {gs : List Nat} {w : World} {g i : Nat} {cs : Array Value} {t : TypeId} {v : Value} {K : World → Prop} (h : Bk w g cs t) (hi : i < cs.size) (hg : ∀ x ∈ gs, x ≠ g) (hk : ∀ w1, Bk w1 g (cs.setIfInBounds i v) t → Fr [g] w w1 → w1.heap.size = w.heap.size → K w1) : stO gs w g i [v] K :=
  ⟨hg, h.there (by simp; omega), fun w1 e => by
    subst e
    exact hk _ (h.setCell i v) ((Fr.refl [g] w).setCell (p := ⟨g, i, none⟩) (.inl (by simp)) v) (by simp [World.setCells, World.setCell])⟩
theorem stO_set {gs : List Nat} {w : World} {g i : Nat} {cs : Array Value} {t : TypeId} {v : Value} {K : World → Prop} (h : Bk w g cs t) (hi : i < cs.size) (hg : ∀ x ∈ gs, x ≠ g) (hk : K (w.setCell ⟨g, i, none⟩ v)) : stO gs w g i [v] K :=
  ⟨hg, h.there (by simp; omega), fun w1 e => by subst e; exact hk⟩
theorem sliceBase_cell {w : World} {b off c l s j : Nat} {v : Value} (hlt : l ≠ c) (h : w.cell? ⟨b, off + l * s + j, none⟩ = some v) : ∃ b' off', sliceBase (some ⟨b, off, none⟩) c l s = some ⟨b', off', none⟩ ∧ w.cell? ⟨b', off' + j, none⟩ = some v := by
  refine ⟨b, off + l * s, ?_, h⟩
  unfold sliceBase
  rw [if_neg (fun e => hlt e.symm)]
  simp [Addr.add_lit]
theorem own_empty {w : World} {g : Nat} {e : TypeId} (s : Nat) (h : w.heap[g]? = some (.cells #[] e (0, 0))) : Own w 0 e s (.slice (some ⟨g, 0, none⟩) 0 0) 0 [] :=
  ⟨by simp, .inr ⟨g, 0, 0, #[], rfl, Nat.zero_le _, h, Nat.le_refl _, Nat.zero_le _, by simp, by simp⟩⟩
theorem Own.store {w : World} {b : Nat} {e : TypeId} {a : Option Addr} {n c : Nat} {xs : List Value} (h : Own w b e 1 (.slice a n c) n xs) {i : Nat} (hi : i < n) {gs : List Nat} {v : Value} {K : World → Prop} (hgs : ∀ k, (Value.slice a n c).ownBlock = some k → ∀ x ∈ gs, x ≠ k)
    (hk : ∀ w1, Own w1 b e 1 (.slice a n c) n (xs.set i v) → Fr (Value.slice a n c).ownBlock.toList w w1 → w1.heap.size = w.heap.size → K w1) : ∃ g off, a = some ⟨g, off, none⟩ ∧ stO gs w g (off + i * 1) [v] K := by
  rcases h.2 with ⟨h0, h1⟩ | ⟨g, off, cap, cur, hv, hb, hg, hn, hm, hs, ht⟩
  · omega
  · injection hv with h1 h2 h3
    subst h1; subst h3
    have hB : Bk w g cur e := hg
    refine ⟨g, off, rfl, ?_⟩
    rw [Nat.mul_one]
    refine stO_bk hB (by omega) (fun x hx => hgs g rfl x hx) fun w1 hb1 hf hsz => ?_
    refine hk w1 ⟨by rw [List.length_set]; exact h.1, .inr ⟨g, off, c, _, rfl, hb, hb1, hn, hm, by simpa using hs, ?_⟩⟩ hf hsz
    rw [← ht, Array.toList_setIfInBounds, List.drop_set]
    rw [if_neg (by omega), show off + i - off = i by omega, List.take_set]
theorem Own.storeAt {w : World} {b : Nat} {e : TypeId} {g off n c : Nat} {xs : List Value} (h : Own w b e 1 (.slice (some ⟨g, off, none⟩) n c) n xs) {i : Nat} (hi : i < n) {gs : List Nat} {v : Value} {K : World → Prop} (hgs : ∀ x ∈ gs, x ≠ g)
    (hk : ∀ w1, Own w1 b e 1 (.slice (some ⟨g, off, none⟩) n c) n (xs.set i v) → Fr [g] w w1 → w1.heap.size = w.heap.size → K w1) : stO gs w g (off + i * 1) [v] K := by
  obtain ⟨g', off', he, hst⟩ := Own.store (K := K) (v := v) h hi (fun k hk x hx => by injection hk with hk; subst hk; exact hgs x hx) hk
  injection he with he
  injection he with e1 e2
  subst e1; subst e2
  exact hst
/-- One byte more or other. -/
theorem bits_byte (op : BinOp) (x y : Int) : ∃ b : UInt8, bitsV op .u8 x y = (b.toNat : Int) := by
  have key : ∀ z : Int, ∃ b : UInt8, IntKind.u8.wrap z = (b.toNat : Int) := fun z => by
    have h : 0 ≤ IntKind.u8.wrap z ∧ IntKind.u8.wrap z < 256 := by rw [IntKind.wrap_u8]; omega
    refine ⟨UInt8.ofNat (IntKind.u8.wrap z).toNat, ?_⟩
    rw [show (UInt8.ofNat (IntKind.u8.wrap z).toNat).toNat = (IntKind.u8.wrap z).toNat % 256 from rfl, Nat.mod_eq_of_lt (by omega)]
    omega
  unfold bitsV
  cases op <;> exact key _
theorem strOf_cat (xs ys : List UInt8) : strOf xs ++ strOf ys = strOf (xs ++ ys) := by
  apply ByteArray.ext
  simp [strOf, ByteArray.data_append]
theorem strOf_extract (xs : List UInt8) (i j : Nat) : (strOf xs).extract i j = strOf ((xs.drop i).take (j - i)) := by
  apply ByteArray.ext
  simp [strOf, ByteArray.data_extract, List.take_drop]
theorem byteAt_strOf (xs : List UInt8) (i : Nat) : byteAt (strOf xs) (i : Int) = ((xs.getD i 0).toNat : Int) := by unfold byteAt; rw [strOf_list]; rfl
end Go.Proofs.Ytecmpjccdhmeeaa
end
section
/- The document's reader: what it takes. -/
namespace Go.Proofs.Ytecmpjccdhmeeaa
open Go.RowKit
def RfAt (w : World) (g : Nat) (bs : List UInt8) (e : Int) : Prop := Bk w g #[.string (strOf bs), .int .i64 e] 104
theorem RfAt.c0 {w : World} {g : Nat} {bs : List UInt8} {e : Int} (h : RfAt w g bs e) : w.cell? ⟨g, 0, none⟩ = some (.string (strOf bs)) := by rw [Bk.cell h]; rfl
theorem RfAt.c1 {w : World} {g : Nat} {bs : List UInt8} {e : Int} (h : RfAt w g bs e) : w.cell? ⟨g, 0 + 1, none⟩ = some (.int .i64 e) := by rw [Bk.cell h]; rfl
/-- The reader's block alone is written. -/
def F1 (w : World) (g : Nat) (v : Value) (bs : List UInt8) (e : Int) (r : Ending) (w' : World) : Prop :=
  r = .returned v ∧ RfAt w' g bs e ∧ Fr [g] w w' ∧ w'.heap.size = w.heap.size
theorem rf_err {w : World} {g : Nat} {bs : List UInt8} {e : Int} (h : RfAt w g bs e) (k : Int) {K : World → Prop} (hk : ∀ w1, RfAt w1 g bs k → Fr [g] w w1 → w1.heap.size = w.heap.size → K w1) : stO [] w g (0 + 1) [.int .i64 k] K :=
  stO_bk h (by simp) (by simp) fun w1 h1 h2 h3 => hk w1 h1 h2 h3
theorem rf_bytes {w : World} {g : Nat} {bs : List UInt8} {e : Int} (h : RfAt w g bs e) (cs : List UInt8) {K : World → Prop} (hk : ∀ w1, RfAt w1 g cs e → Fr [g] w w1 → w1.heap.size = w.heap.size → K w1) : stO [] w g 0 [.string (strOf cs)] K :=
  stO_bk h (by simp) (by simp) fun w1 h1 h2 h3 => hk w1 h1 h2 h3
theorem grp_shift {i : Nat} (hi : i ≤ 9) : (2 : Int) ^ (min (IntKind.i64.wrap (7 * (i : Int))).toNat (IntKind.bits .u64)) = ((128 ^ i : Nat) : Int) := by
  have H : ∀ i : Fin 10, (2 : Int) ^ (min (IntKind.i64.wrap (7 * (i.val : Int))).toNat (IntKind.bits .u64)) = ((128 ^ i.val : Nat) : Int) := by decide +kernel
  exact H ⟨i, by omega⟩
theorem tk_zero {most : Nat} : ∀ (bs : List UInt8) (i u a n : Nat) (e : Int), tk most i u bs = (a, n, e) → e ≠ 0 → a = 0 ∧ n = 0
  | [], i, u, a, n, e, h, _ => by cases h; exact ⟨rfl, rfl⟩
  | x :: r, i, u, a, n, e, h, he => by
    by_cases hb : i = most ∨ (x.toNat = 0 ∧ 0 < i) ∨ (i = 9 ∧ 1 < x.toNat)
    · rw [tk_bad hb] at h; cases h; exact ⟨rfl, rfl⟩
    · by_cases h2 : 128 ≤ x.toNat
      · rw [tk_more hb h2] at h; exact tk_zero r _ _ _ _ _ h he
      · rw [tk_last hb h2] at h; cases h; exact absurd rfl he
set_option maxRecDepth 100000 in
theorem fgrp_any (g most : Nat) (hm0 : 0 < most) (hm : most ≤ 10) (bs : List UInt8) (w : World) (h : RfAt w g bs 0) (hl : bs.length ≤ 100000000) (u0 n0 : Nat) (e0 : Int) (hr : tk most 0 0 bs = (u0, n0, e0)) :
    Calls Try.prog 83 #[.pointer (some ⟨g, 0, none⟩), .int .i64 most] w (F1 w g (.tuple #[.int .u64 u0, .int .i64 n0]) bs e0) := by
  refine (GRefRd.grp_calls (some ⟨g, 0, none⟩) most w (fun v w' => v = .tuple #[.int .u64 u0, .int .i64 n0] ∧ RfAt w' g bs e0 ∧ Fr [g] w w' ∧ w'.heap.size = w.heap.size) ?_).mono (by rintro e w' ⟨v, rfl, rfl, hb⟩; exact ⟨rfl, hb⟩)
  unfold GRefRd.grp_vc
  refine ⟨fun x y wx => ∃ u i : Nat, x = u ∧ y = i ∧ u < 128 ^ i ∧ i ≤ 9 ∧ i ≤ most ∧ i ≤ bs.length ∧ tk most i u (bs.drop i) = (u0, n0, e0) ∧ w = wx, fun _ y _ => bs.length - y.toNat, ⟨0, 0, rfl, rfl, by decide, by omega, by omega, by omega, hr, rfl⟩, ?_⟩
  rintro x y wx ⟨u, i, rfl, rfl, hu, hi, him, hib, ht, rfl⟩
  have hsz := strOf_size bs
  have fail : ∀ k : Int, (u0, n0, e0) = (0, 0, k) → stO [] w g (0 + 1) [.int .i64 k] fun w3 => Value.tuple #[.int .u64 0, .int .i64 0] = .tuple #[.int .u64 u0, .int .i64 n0] ∧ RfAt w3 g bs e0 ∧ Fr [g] w w3 ∧ w3.heap.size = w.heap.size := by
    intro k hk; cases hk
    exact rf_err h _ fun w1 h1 h2 h3 => ⟨rfl, h1, h2, h3⟩
  refine ⟨_, h.c0, br_dec (fun h1 => fail 3 (by rw [← ht, List.drop_eq_nil_of_le (by omega)]; rfl)) fun h1 => ?_⟩
  have hlt : i < bs.length := by omega
  refine ⟨_, h.c0, by omega, by omega, ?_⟩
  rw [List.drop_eq_getElem_cons hlt] at ht
  have hx : byteAt (strOf bs) (i : Int) = (bs[i].toNat : Int) := by rw [byteAt_strOf]; simp [hlt]
  rw [hx]
  generalize bs[i] = x at *
  refine ⟨fun b wx => b = decide (i = most ∨ (x.toNat = 0 ∧ 0 < i) ∨ (i = 9 ∧ 1 < x.toNat)) ∧ w = wx, ?_, ?_⟩
  · refine br_dec (fun h1 => ⟨(decide_eq_true (by omega)).symm, rfl⟩) fun h1 => br_dec (fun h2 => br_dec (fun h3 => ⟨(decide_eq_true (by omega)).symm, rfl⟩) fun h3 => br_dec (fun h4 => ⟨?_, rfl⟩) fun h4 => ⟨(decide_eq_false (by omega)).symm, rfl⟩) fun h2 => br_dec (fun h4 => ⟨?_, rfl⟩) fun h4 => ⟨(decide_eq_false (by omega)).symm, rfl⟩
    · exact decide_eq_decide.2 (by omega)
    · exact decide_eq_decide.2 (by omega)
  rintro b wx ⟨rfl, rfl⟩
  refine br_dec (fun hb => fail 2 (by rw [← ht, tk_bad hb])) fun hb => ⟨by omega, by rw [wr64 (by omega) (by omega)]; omega, ?_⟩
  rw [grp_shift hi]
  have hx8 : x.toNat < 256 := x.toNat_lt
  have hy : IntKind.u64.wrap (Int.tmod (x.toNat : Int) 128) = ((x.toNat % 128 : Nat) : Int) := by
    rw [Int.tmod_eq_emod_of_nonneg (by omega), wru64 (by omega) (by omega)]; omega
  rw [hy]
  have key : u + x.toNat % 128 * 128 ^ i < 18446744073709551616 ∧ (i ≤ 8 → u + x.toNat % 128 * 128 ^ i < 128 ^ (i + 1)) := by
    have e1 : 128 ^ (i + 1) = 128 * 128 ^ i := by rw [Nat.pow_succ, Nat.mul_comm]
    have k8 : i ≤ 8 → 128 ^ i ≤ 128 ^ 8 := fun h => Nat.pow_le_pow_right (by decide) h
    have k9 : i = 9 → 128 ^ i = 9223372036854775808 := fun h => by subst h; decide
    generalize 128 ^ i = P at *
    have m1 : x.toNat % 128 * P ≤ 127 * P := Nat.mul_le_mul_right _ (by omega)
    refine ⟨?_, fun h8 => by omega⟩
    by_cases h9 : i = 9
    · have := k9 h9
      have m2 : x.toNat % 128 * P ≤ 1 * P := Nat.mul_le_mul_right _ (by omega)
      omega
    · have := k8 (by omega)
      have : (128 : Nat) ^ 8 = 72057594037927936 := by decide
      omega
  have hs : IntKind.u64.wrap (((x.toNat % 128 : Nat) : Int) * ((128 ^ i : Nat) : Int)) = ((x.toNat % 128 * 128 ^ i : Nat) : Int) := by
    rw [← Int.natCast_mul, wru64 (by omega) (by omega)]
  rw [hs]
  have hS : IntKind.u64.wrap ((u : Int) + ((x.toNat % 128 * 128 ^ i : Nat) : Int)) = ((u + x.toNat % 128 * 128 ^ i : Nat) : Int) := by
    rw [wru64 (by omega) (by omega)]; omega
  rw [hS, wr64 (z := (i : Int) + 1) (by omega) (by omega)]
  refine br_dec (fun h2 => ?_) fun h2 => ?_
  · rw [tk_last hb (by omega)] at ht
    cases ht
    exact ⟨rfl, h, Fr.refl _ _, rfl⟩
  · rw [tk_more hb (by omega)] at ht
    exact ⟨⟨_, i + 1, rfl, by omega, key.2 (by omega), by omega, by omega, by omega, ht, rfl⟩, by dsimp only; omega⟩
theorem F1.of {g : Nat} {w : World} {bs : List UInt8} {e : Int} {v : Value} {r : Ending} {w' : World} (h : F1 w g v bs e r w') : r = .returned v ∧ RfAt w' g bs e ∧ Fr [g] w w' ∧ w'.heap.size = w.heap.size := h
theorem fRuint_any (g : Nat) (most : Int) (hm : most ≤ 9223372036854775807) (hm2 : -9223372036854775808 ≤ most) (bs : List UInt8) (e : Int) (w : World) (h : RfAt w g bs e) (hl : bs.length ≤ 100000000) :
    Calls Try.prog 54 #[.pointer (some ⟨g, 0, none⟩), .int .i64 most] w (F1 w g (.int .i64 (rdUint most bs e).1) (rdUint most bs e).2.1 (rdUint most bs e).2.2) := by
  refine (GRefRd.uint_calls (some ⟨g, 0, none⟩) most w (fun v w' => v = .int .i64 (rdUint most bs e).1 ∧ RfAt w' g (rdUint most bs e).2.1 (rdUint most bs e).2.2 ∧ Fr [g] w w' ∧ w'.heap.size = w.heap.size) ?_).mono (by rintro e w' ⟨v, rfl, rfl, hb⟩; exact ⟨rfl, hb⟩)
  unfold GRefRd.uint_vc rdUint
  refine ⟨_, h.c1, br_dec (fun he => ?_) fun he => ?_⟩
  · rw [if_pos he]; exact ⟨rfl, h, Fr.refl _ _, rfl⟩
  rw [if_neg he]
  have he : e = 0 := by omega
  subst he
  obtain ⟨u, n, e0, ht⟩ : ∃ u n e0, tk 9 0 0 bs = (u, n, e0) := ⟨_, _, _, rfl⟩
  refine (fgrp_any g 9 (by decide) (by decide) bs w h hl u n e0 ht).mono ?_
  rintro r w2 ⟨rfl, h2, f2, z2⟩
  refine ⟨keepG_nil _ _, _, _, rfl, _, h2.c1, ?_⟩
  rw [ht]
  refine br_dec (fun h0 => ?_) fun h0 => ?_
  · rw [if_pos h0]; exact ⟨rfl, h2, f2, z2⟩
  rw [if_neg h0]
  have h0 : e0 = 0 := by omega
  subst h0
  have hu := tk9_lt ht
  have hn := tk_enc0 ht
  refine br_dec (fun hneg => ?_) fun hneg => ?_
  · rw [if_pos (.inl hneg)]
    exact rf_err h2 _ fun w3 h3 f3 z3 => ⟨rfl, h3, f2.trans f3 (Gr.refl _ _), by omega⟩
  rw [wru64 (by omega) (by omega)]
  refine br_dec (fun hbig => ?_) fun hbig => ?_
  · rw [if_pos (.inr hbig)]
    exact rf_err h2 _ fun w3 h3 f3 z3 => ⟨rfl, h3, f2.trans f3 (Gr.refl _ _), by omega⟩
  rw [if_neg (by omega)]
  refine ⟨_, h2.c0, by omega, by rw [strOf_size]; omega, ?_⟩
  rw [strOf_extract, strOf_size, List.take_of_length_le (by rw [List.length_drop]; omega), wr64 (by omega) (by omega), Int.toNat_natCast]
  exact rf_bytes h2 _ fun w3 h3 f3 z3 => ⟨rfl, h3, f2.trans f3 (Gr.refl _ _), by omega⟩
theorem strOf_nil (bs : List UInt8) : (strOf bs ≠ (⟨#[]⟩ : ByteArray)) ↔ bs ≠ [] := by
  refine not_congr ⟨fun h => ?_, fun h => by subst h; rfl⟩
  have := congrArg ByteArray.size h
  exact List.eq_nil_of_length_eq_zero this
theorem fRend_any (g : Nat) (bs : List UInt8) (e : Int) (w : World) (h : RfAt w g bs e) :
    Calls Try.prog 56 #[.pointer (some ⟨g, 0, none⟩)] w fun r w' => r = .returned (.int .i64 (rdEnd bs e)) ∧ w = w' := by
  refine (GRefRd.end_calls (some ⟨g, 0, none⟩) w (fun v w' => v = .int .i64 (rdEnd bs e) ∧ w = w') ?_).mono (by rintro e w' ⟨v, rfl, rfl, rfl⟩; exact ⟨rfl, rfl⟩)
  unfold GRefRd.end_vc rdEnd
  refine ⟨_, h.c1, br_dec (fun he => ?_) fun he => ?_⟩
  · refine ⟨_, h.c0, br_dec (fun h1 => ?_) fun h1 => ⟨_, h.c1, ?_, rfl⟩⟩
    · rw [if_pos ⟨he, (strOf_nil bs).1 h1⟩]; exact ⟨rfl, rfl⟩
    · rw [if_neg (fun h2 => h1 ((strOf_nil bs).2 h2.2))]
  · exact ⟨_, h.c1, by rw [if_neg (fun h2 => he h2.1)], rfl⟩
end Go.Proofs.Ytecmpjccdhmeeaa
end
section
/- Data that came in, opened by their shape. No program in sight. -/
namespace Go.Proofs.Ytecmpjccdhmeeaa
open Go.RowKit Go.WideShapes Go.ChangeShapes
/-- What a type looks like; a struct's fields one behind the other: offset, cells, shape. -/
inductive Sh where
  | int (k : IntKind)
  | bool
  | str
  | slice (e : Sh) (n : Nat)
  | arr (len : Nat) (e : Sh) (n : Nat)
  | agg (fs : Sh)
  | fnil
  | fcons (off n : Nat) (f r : Sh)
mutual
def fitsB (P : Program) : Sh → TypeId → Bool
  | .int k, t => match P.underlying t with | some (.int k') => k == k' | _ => false
  | .bool, t => match P.underlying t with | some .bool => true | _ => false
  | .str, t => match P.underlying t with | some .string => true | _ => false
  | .slice e n, t => match P.underlying t with | some (.slice et) => P.cellsOf et == n && fitsB P e et | _ => false
  | .arr len e n, t => match P.underlying t with | some (.array l et) => l == len && P.cellsOf et == n && fitsB P e et | _ => false
  | .agg fs, t => match P.underlying t with | some (.struct fl) => fitsF P fs fl 0 | _ => false
  | .fnil, _ => false
  | .fcons _ _ _ _, _ => false
def fitsF (P : Program) : Sh → Array Field → Nat → Bool
  | .fnil, _, _ => true
  | .fcons off n f r, fl, i => (match fl[i]? with | some fd => fd.offset == off && P.cellsOf fd.type == n && fitsB P f fd.type | none => false) && fitsF P r fl (i + 1)
  | _, _, _ => false
end
/-- What the cells of a shape hold, in a world. -/
def Sh.Has (w : World) : Sh → List Value → Prop
  | .int k, cs => ∃ z, cs = [.int k z] ∧ (Lit.int k z).wf = true
  | .bool, cs => ∃ b, cs = [.bool b]
  | .str, cs => ∃ s : ByteArray, cs = [.string s] ∧ s.size ≤ maxLen
  | .slice e n, cs => cs = [.slice none 0 0] ∨ ∃ a len cap, cs = [.slice (some a) len cap] ∧ len ≤ cap ∧ cap ≤ maxLen ∧ ∀ i, i < len → ∃ cs', (cs'.length = n ∧ ∀ j, j < n → w.cell? (a.add (i * n + j)) = cs'[j]?) ∧ e.Has w cs'
  | .arr len e n, cs => ∀ i, i < len → e.Has w ((cs.drop (i * n)).take n)
  | .agg fs, cs => fs.Has w cs
  | .fnil, _ => True
  | .fcons off n f r, cs => f.Has w ((cs.drop off).take n) ∧ r.Has w cs
section
variable {H : Type} {enc : TypeId × Value → H} {P : Program} {W : World}
mutual
theorem has_of (sh : Sh) : ∀ (t : TypeId) (fuel : Nat) (cs : List Value) (x : DataW H × List MemPlace), fitsB P sh t = true → DataW.trod enc P W 0 (fun _ => true) true fuel t cs = some x → sh.Has W cs := by
  intro t fuel cs x hf h
  cases sh with
  | int k =>
    simp only [fitsB] at hf
    split at hf
    · rename_i k' hu
      have : k = k' := eq_of_beq hf
      subst this
      obtain ⟨n, h1, _, h2⟩ := DataW.trod_int hu h
      exact ⟨n, h1, h2⟩
    · cases hf
  | bool =>
    simp only [fitsB] at hf
    split at hf
    · rename_i hu
      obtain ⟨b, h1, _⟩ := DataW.trod_bool hu h
      exact ⟨b, h1⟩
    · cases hf
  | str =>
    simp only [fitsB] at hf
    split at hf
    · rename_i hu
      obtain ⟨s, h1, _, h2⟩ := DataW.trod_string hu h
      exact ⟨s, h1, h2⟩
    · cases hf
  | slice e n =>
    simp only [fitsB] at hf
    split at hf
    · rename_i et hu
      rw [Bool.and_eq_true] at hf
      have hn : P.cellsOf et = n := eq_of_beq hf.1
      rcases Deep.open_slice hu h with ⟨h1, _⟩ | ⟨a, len, cap, m, nf, D, Pl, h1, _, hl, hm, hmm, _, hall⟩
      · exact .inl h1
      · refine .inr ⟨a, len, cap, h1, hl, hm, fun i hi => ?_⟩
        simp only [if_true] at hmm
        obtain ⟨cs', hc, ht⟩ := hall i (by omega)
        rw [hn] at hc
        obtain ⟨_, c1, c2⟩ := World.cells?_some hc
        refine ⟨cs', ⟨c1, fun j hj => ?_⟩, has_of e et _ _ _ hf.2 ht⟩
        rw [← c2 j hj, Addr.add_add]
    · cases hf
  | arr len e n =>
    simp only [fitsB] at hf
    split at hf
    · rename_i l et hu
      rw [Bool.and_eq_true, Bool.and_eq_true] at hf
      have hl : l = len := eq_of_beq hf.1.1
      have hn : P.cellsOf et = n := eq_of_beq hf.1.2
      subst hl
      obtain ⟨xs, m, _, _, _, hxl, hall⟩ := DataW.trod_array hu h
      intro i hi
      have := hall i hi
      rw [hn] at this
      rw [List.getElem?_eq_getElem (by omega)] at this
      exact has_of e et _ _ _ hf.2 this
    · cases hf
  | agg fs =>
    simp only [fitsB] at hf
    split at hf
    · rename_i fl hu
      obtain ⟨xs, n, _, _, _, hxl, hall⟩ := DataW.trod_struct hu h
      exact hasF_of fs fl 0 n cs xs hf hxl hall
    · cases hf
  | fnil => simp [fitsB] at hf
  | fcons off n f r => simp [fitsB] at hf
theorem hasF_of (sh : Sh) : ∀ (fl : Array Field) (i n : Nat) (cs : List Value) (xs : List (DataW H × List MemPlace)), fitsF P sh fl i = true → xs.length = fl.size →
    (∀ (i : Nat) (f : Field), fl[i]? = some f → DataW.trod enc P W 0 (fun _ => true) true n f.type ((cs.drop f.offset).take (P.cellsOf f.type)) = xs[i]?) → sh.Has W cs := by
  intro fl i n cs xs hf hl hall
  cases sh with
  | fnil => trivial
  | fcons off m f r =>
    simp only [fitsF, Bool.and_eq_true] at hf
    obtain ⟨h1, h2⟩ := hf
    refine ⟨?_, hasF_of r fl (i + 1) n cs xs h2 hl hall⟩
    split at h1
    · rename_i fd hfd
      rw [Bool.and_eq_true, Bool.and_eq_true] at h1
      have ho : fd.offset = off := eq_of_beq h1.1.1
      have hm : P.cellsOf fd.type = m := eq_of_beq h1.1.2
      have ht := hall i fd hfd
      have hi : i < xs.length := by rw [hl]; exact (Array.getElem?_eq_some_iff.1 hfd).1
      rw [List.getElem?_eq_getElem hi, ho, hm] at ht
      exact has_of f fd.type _ _ _ h1.2 ht
    · cases h1
  | int k => simp [fitsF] at hf
  | bool => simp [fitsF] at hf
  | str => simp [fitsF] at hf
  | slice e n => simp [fitsF] at hf
  | arr l e n => simp [fitsF] at hf
  | agg fs => simp [fitsF] at hf
end
theorem open_sh {sh : Sh} {t : TypeId} {v : Value} {d : DataW H} {p : List MemPlace} (hf : fitsB P sh t = true) (h : DataW.Trod enc P W 0 (fun _ => true) true t v d p) : sh.Has W v.cells.toList := by
  obtain ⟨fuel, hf'⟩ := h
  exact has_of sh t fuel _ _ hf hf'
end
theorem exists_list {α : Type} {p : Nat → α → Prop} : ∀ (n : Nat), (∀ i, i < n → ∃ x, p i x) → ∃ l : List α, l.length = n ∧ ∀ i x, l[i]? = some x → p i x := by
  intro n
  induction n with
  | zero => intro _; exact ⟨[], rfl, fun i x h => by cases h⟩
  | succ n ih =>
    intro h
    obtain ⟨l, hl, hp⟩ := ih fun i hi => h i (by omega)
    obtain ⟨x, hx⟩ := h n (by omega)
    refine ⟨l ++ [x], by simp [hl], fun i y hy => ?_⟩
    by_cases hi : i < l.length
    · rw [List.getElem?_append_left hi] at hy; exact hp i y hy
    · rw [List.getElem?_append_right (by omega)] at hy
      have h0 : i - l.length = 0 := by
        have := (List.getElem?_eq_some_iff.1 hy).1; simp at this; omega
      rw [h0] at hy
      simp at hy
      subst hy
      rw [show i = n by omega]; exact hx
/-- Where a slice's elements lie. -/
theorem slice_addr {w : World} {a : Addr} {v : Value} (h : w.cell? (a.add 0) = some v) : a = ⟨a.block, a.off, none⟩ := addr_plain h
def shBytes : Sh := .slice (.int .u8) 1
theorem has_bytes {w : World} {cs : List Value} (h : shBytes.Has w cs) : ∃ (bs : List UInt8) (a : Option Addr) (c : Nat), cs = [.slice a bs.length c] ∧ bs.length ≤ c ∧ c ≤ maxLen ∧ RowAt w a (bs.map bV) := by
  rcases h with rfl | ⟨a, len, cap, rfl, hl, hm, hall⟩
  · exact ⟨[], none, 0, rfl, Nat.le_refl _, by decide, .inl rfl⟩
  · obtain ⟨zs, hz, hp⟩ := exists_list (p := fun i z => w.cell? (a.add i) = some (.int .u8 z) ∧ (Lit.int .u8 z).wf = true) len (fun i hi => by
      obtain ⟨cs', ⟨h1, h2⟩, z, rfl, hw⟩ := hall i hi
      have := h2 0 (by omega)
      simp at this
      exact ⟨z, this, hw⟩)
    obtain ⟨h1, h2⟩ := row_of_cells (W := w) (a := a) (zs := zs) (len := len) (by omega) (fun i hi => by
      have := (hp i zs[i] (List.getElem?_eq_getElem hi)).1
      rw [this]; congr 2; simp [List.getD, List.getElem?_eq_getElem hi]) (fun n hn => by
      obtain ⟨i, hi⟩ := List.getElem?_of_mem hn
      exact (hp i n hi).2)
    exact ⟨ofI (zs.take len), some a, cap, by rw [h1], by rw [h1]; exact hl, hm, h2⟩
theorem has_int {w : World} {k : IntKind} {cs : List Value} (h : (Sh.int k).Has w cs) : ∃ z, cs = [.int k z] ∧ (Lit.int k z).wf = true := h
end Go.Proofs.Ytecmpjccdhmeeaa
end
section
/- Slices of structs that came in: their elements, one behind the other. No program in sight. -/
namespace Go.Proofs.Ytecmpjccdhmeeaa
open Go.RowKit Go.WideShapes Go.ChangeShapes
/-- Elements of n cells each, of which R tells where they lie. -/
def RowsAt {α : Type} (R : World → Nat → Nat → α → Prop) (n : Nat) (w : World) (a : Option Addr) (xs : List α) : Prop := xs = [] ∨ ∃ b off, a = some ⟨b, off, none⟩ ∧ ∀ i x, xs[i]? = some x → R w b (off + i * n) x
theorem RowsAt.mono {α : Type} {R : World → Nat → Nat → α → Prop} {n : Nat} {w w' : World} {a : Option Addr} {xs : List α} (h : RowsAt R n w a xs) (hm : ∀ b off x, R w b off x → R w' b off x) : RowsAt R n w' a xs := by
  rcases h with h | ⟨b, off, ha, h⟩
  · exact .inl h
  · exact .inr ⟨b, off, ha, fun i x hx => hm _ _ _ (h i x hx)⟩
theorem RowsAt.get {α : Type} {R : World → Nat → Nat → α → Prop} {n : Nat} {w : World} {a : Option Addr} {xs : List α} (h : RowsAt R n w a xs) {i : Nat} (hi : i < xs.length) : ∃ b off, a = some ⟨b, off, none⟩ ∧ R w b (off + i * n) xs[i] := by
  rcases h with rfl | ⟨b, off, ha, h⟩
  · simp at hi
  · exact ⟨b, off, ha, h i _ (List.getElem?_eq_getElem hi)⟩
theorem has_rows {α : Type} {e : Sh} {n : Nat} (hn : 0 < n) {R : World → Nat → Nat → α → Prop} {w : World} (elem : ∀ (cs' : List Value) (b off : Nat), cs'.length = n → cellsAt w b off cs' → e.Has w cs' → ∃ x, R w b off x) {cs : List Value} (h : (Sh.slice e n).Has w cs) :
    ∃ (xs : List α) (a : Option Addr) (c : Nat), cs = [.slice a xs.length c] ∧ xs.length ≤ c ∧ c ≤ maxLen ∧ RowsAt R n w a xs := by
  rcases h with rfl | ⟨a, len, cap, rfl, hl, hm, hall⟩
  · exact ⟨[], none, 0, rfl, Nat.le_refl _, by decide, .inl rfl⟩
  · obtain ⟨xs, hz, hp⟩ := exists_list (p := fun i (x : α) => R w a.block (a.off + i * n) x ∧ a = ⟨a.block, a.off, none⟩) len (fun i hi => by
      obtain ⟨cs0, ⟨h01, h02⟩, _⟩ := hall 0 (by omega)
      have ha : a = ⟨a.block, a.off, none⟩ := by
        have := h02 0 (by omega)
        rw [List.getElem?_eq_getElem (by omega)] at this
        simp only [Nat.zero_mul, Nat.zero_add] at this
        exact addr_plain this
      obtain ⟨cs', ⟨h1, h2⟩, h3⟩ := hall i hi
      obtain ⟨x, hx⟩ := elem cs' a.block (a.off + i * n) h1 (cellsAt_of fun j v hj => by
        have hjn : j < n := by have := (List.getElem?_eq_some_iff.1 hj).1; omega
        have := h2 j hjn
        rw [ha, Addr.add_lit, ← Nat.add_assoc, hj] at this
        exact this) h3
      exact ⟨x, hx, ha⟩)
    refine ⟨xs, some a, cap, by rw [hz], by omega, hm, ?_⟩
    by_cases h0 : xs = []
    · exact .inl h0
    · have h1 : 0 < xs.length := List.length_pos_iff.2 h0
      have ha := (hp 0 _ (List.getElem?_eq_getElem h1)).2
      exact .inr ⟨a.block, a.off, by rw [← ha], fun i p hi => (hp i p hi).1⟩
theorem cellsAt_below {w w' : World} {b off : Nat} {vs : List Value} (h : cellsAt w b off vs) {B : Nat} (hb : Below B w w') (hB : w.heap.size ≤ B) : cellsAt w' b off vs :=
  cellsAt_of fun j v hj => by
    have h1 := cellsAt_get h j v hj
    exact (hb.cell (p := ⟨b, off + j, none⟩) (Nat.lt_of_lt_of_le (block_lt_of_cell h1) hB)).trans h1
theorem open_rows {P : Program} {α : Type} {e : Sh} {n : Nat} {R : World → Nat → Nat → α → Prop} {H : Type} {enc : TypeId × Value → H} {W : World} {t : TypeId} {v : Value} {d : DataW H} {p : List MemPlace} (hn : 0 < n) (elem : ∀ (cs' : List Value) (b off : Nat), cs'.length = n → cellsAt W b off cs' → e.Has W cs' → ∃ x, R W b off x)
    (hf : fitsB P (.slice e n) t = true) (hv : ∃ a l c, v = .slice a l c) (h : DataW.Trod enc P W 0 (fun _ => true) true t v d p) : ∃ (xs : List α) (a : Option Addr) (c : Nat), v = .slice a xs.length c ∧ RowsAt R n W a xs ∧ xs.length ≤ c ∧ c ≤ maxLen := by
  obtain ⟨a, l, c, rfl⟩ := hv
  obtain ⟨xs, a', c', h1, h2, h3, h4⟩ := has_rows hn elem (open_sh hf h)
  simp [Value.cells] at h1
  obtain ⟨rfl, rfl, rfl⟩ := h1
  exact ⟨xs, a, c, rfl, h4, h2, h3⟩
end Go.Proofs.Ytecmpjccdhmeeaa
end
section
/- An object with a list of its own: each element so many cells, what an element refers to in blocks that the object owns. No program in sight. -/
namespace Go.Proofs.Ytecmpjccdhmeeaa
open Go.RowKit
theorem cell_keep {w w' : World} {b : Nat} (hk : w'.heap[b]? = w.heap[b]?) (o : Nat) : w'.cell? ⟨b, o, none⟩ = w.cell? ⟨b, o, none⟩ := by unfold World.cell?; simp only [hk]
theorem cellsAt_keep {w w' : World} {b : Nat} (hk : w'.heap[b]? = w.heap[b]?) : ∀ {vs : List Value} {off : Nat}, cellsAt w b off vs → cellsAt w' b off vs
  | [], _, _ => trivial
  | _ :: _, _, h => ⟨(cell_keep hk _).trans h.1, cellsAt_keep hk h.2⟩
theorem cellsAt_list {w : World} {b : Nat} : ∀ {vs : List Value} {off : Nat}, (∀ j v, vs[j]? = some v → w.cell? ⟨b, off + j, none⟩ = some v) → cellsAt w b off vs
  | [], _, _ => trivial
  | v :: r, off, h => ⟨by simpa using h 0 v rfl, cellsAt_list fun j u hu => by have := h (j + 1) u (by simpa using hu); rwa [show off + (j + 1) = off + 1 + j by omega] at this⟩
structure RStable {α : Type} (R : World → List Nat → α → List Value → Prop) (k : Nat) : Prop where
  len : ∀ {w : World} {M : List Nat} {e : α} {cs : List Value}, R w M e cs → cs.length = k
  keep : ∀ {w w' : World} {M : List Nat} {e : α} {cs : List Value}, R w M e cs → (∀ b ∈ M, w'.heap[b]? = w.heap[b]?) → R w' M e cs
  mono : ∀ {w : World} {M K : List Nat} {e : α} {cs : List Value}, R w M e cs → (∀ b ∈ M, b ∈ K) → R w K e cs
def ElsOk {α : Type} (R : World → List Nat → α → List Value → Prop) (k : Nat) (w : World) (M : List Nat) (es : List α) (xs : List Value) : Prop :=
  xs.length = es.length * k ∧ ∀ (i : Nat) (e : α), es[i]? = some e → R w M e ((xs.drop (i * k)).take k)
section
variable {α : Type} {R : World → List Nat → α → List Value → Prop} {k : Nat} {w w' : World} {M K : List Nat} {es : List α} {xs : List Value}
theorem ElsOk.nil : ElsOk R k w M [] [] := ⟨by simp, fun i e h => by cases h⟩
theorem ElsOk.keep (hR : RStable R k) (h : ElsOk R k w M es xs) (hk : ∀ b ∈ M, w'.heap[b]? = w.heap[b]?) : ElsOk R k w' M es xs := ⟨h.1, fun i e he => hR.keep (h.2 i e he) hk⟩
theorem ElsOk.mono (hR : RStable R k) (h : ElsOk R k w M es xs) (hs : ∀ b ∈ M, b ∈ K) : ElsOk R k w K es xs := ⟨h.1, fun i e he => hR.mono (h.2 i e he) hs⟩
theorem ElsOk.app (hR : RStable R k) (h : ElsOk R k w M es xs) {e : α} {cs : List Value} (he : R w M e cs) : ElsOk R k w M (es ++ [e]) (xs ++ cs) := by
  have hc := hR.len he
  refine ⟨by rw [List.length_append, List.length_append, h.1, hc, List.length_singleton, Nat.add_mul, Nat.one_mul], fun i x hx => ?_⟩
  by_cases hi : i < es.length
  · rw [List.getElem?_append_left hi] at hx
    have := h.2 i x hx
    have hm : i * k + k ≤ xs.length := by
      rw [h.1]
      have := Nat.mul_le_mul_right k (show i + 1 ≤ es.length from hi)
      rw [Nat.add_mul, Nat.one_mul] at this
      exact this
    rwa [List.drop_append_of_le_length (by omega), List.take_append_of_le_length (by rw [List.length_drop]; omega)]
  · have hlt := (List.getElem?_eq_some_iff.1 hx).1
    rw [List.length_append, List.length_singleton] at hlt
    obtain rfl : i = es.length := by omega
    rw [List.getElem?_append_right (Nat.le_refl _), Nat.sub_self] at hx
    injection hx with hx; subst hx
    rw [← h.1, List.drop_left, List.take_of_length_le (by omega)]
    exact he
theorem ElsOk.erase (h : ElsOk R k w M es xs) {i : Nat} (hi : i < es.length) : ElsOk R k w M (es.eraseIdx i) (xs.take (i * k) ++ xs.drop ((i + 1) * k)) := by
  have e1 : (i + 1) * k = i * k + k := by rw [Nat.add_mul, Nat.one_mul]
  have e2 : (es.length - 1) * k + k = es.length * k := by
    rw [← Nat.add_one_mul]; congr 1; omega
  have hm : i * k + k ≤ xs.length := by
    rw [h.1]
    have := Nat.mul_le_mul_right k (show i + 1 ≤ es.length from hi)
    omega
  have hxl := h.1
  refine ⟨by rw [List.length_append, List.length_take, List.length_drop, List.length_eraseIdx_of_lt hi]; omega, fun j x hx => ?_⟩
  rw [List.getElem?_eraseIdx] at hx
  split at hx
  · rename_i hj
    have := h.2 j x hx
    have hjk : j * k + k ≤ i * k := by
      have := Nat.mul_le_mul_right k (show j + 1 ≤ i from hj)
      rw [Nat.add_mul, Nat.one_mul] at this; exact this
    rw [List.drop_append_of_le_length (by rw [List.length_take]; omega), List.take_append_of_le_length (by rw [List.length_drop, List.length_take]; omega), List.drop_take, List.take_take]
    rwa [Nat.min_eq_left (by omega)]
  · rename_i hj
    have := h.2 (j + 1) x hx
    have hjk : i * k ≤ j * k := Nat.mul_le_mul_right k (by omega)
    have e3 : (j + 1) * k = j * k + k := by rw [Nat.add_mul, Nat.one_mul]
    have hlt : (xs.take (i * k)).length = i * k := by rw [List.length_take]; omega
    rw [List.drop_append, hlt, List.drop_eq_nil_of_le (by omega), List.nil_append, List.drop_drop]
    rwa [show (i + 1) * k + (j * k - i * k) = (j + 1) * k by omega]
theorem ElsOk.cells (hR : RStable R k) (h : ElsOk R k w M es xs) {te : TypeId} {b0 c : Nat} {a : Option Addr} (hO : Own w b0 te k (.slice a es.length c) es.length xs) {i : Nat} {e : α} (he : es[i]? = some e) :
    ∃ cs, R w M e cs ∧ ∃ b off, a = some ⟨b, off, none⟩ ∧ (b0 ≤ b ∧ b < w.heap.size) ∧ cellsAt w b (off + i * k) cs := by
  have hr := h.2 i e he
  refine ⟨_, hr, ?_⟩
  have hlt := (List.getElem?_eq_some_iff.1 he).1
  rcases hO.2 with ⟨_, h0⟩ | ⟨g, off, cap, cur, hv, hb, hg, _⟩
  · omega
  · injection hv with q1 q2 q3
    subst q1
    refine ⟨g, off, rfl, ⟨hb, heap_lt hg⟩, cellsAt_list fun j v hv => ?_⟩
    rw [List.getElem?_take] at hv
    split at hv
    · rw [List.getElem?_drop] at hv
      rw [Nat.add_assoc]
      exact hO.cells g off c rfl _ v hv
    · cases hv
/-- The object under way: what it owns lies in L, or is new. -/
structure LRaw (R : World → List Nat → α → List Value → Prop) (k : Nat) (te tp : TypeId) (w : World) (L : List Nat) (n0 p : Nat) (f : Value → Array Value) (es : List α) (kv : Value) (xs : List Value) (M : List Nat) : Prop where
  bk : Bk w p (f kv) tp
  own : Own w 0 te k kv es.length xs
  els : ElsOk R k w M es xs
  far : ∀ b ∈ M, (b ∈ L ∨ n0 ≤ b) ∧ b ≠ p ∧ kv.ownBlock ≠ some b
  mine : ∀ b, kv.ownBlock = some b → b ∈ L ∨ n0 ≤ b
  under : Under M w.heap.size
variable {te tp : TypeId} {L : List Nat} {n0 p : Nat} {f : Value → Array Value} {kv : Value}
theorem own_apart {g : Nat} {cs : Array Value} {t e : TypeId} {size n b0 : Nat} {v : Value} {xs : List Value} (h1 : Bk w g cs t) (h2 : Own w b0 e size v n xs) (hne : t ≠ e) : v.ownBlock ≠ some g := by
  intro h
  rcases h2.2 with ⟨rfl, _⟩ | ⟨g', off, cap, cur, rfl, hb, hg, _⟩
  · cases h
  · simp [Value.ownBlock] at h
    subst h
    unfold Bk at h1
    rw [h1] at hg
    injection hg with hg
    injection hg with h3 h4 h5
    exact hne h4
theorem LRaw.keep (hR : RStable R k) (h : LRaw R k te tp w L n0 p f es kv xs M) (hk : ∀ b, (b = p ∨ kv.ownBlock = some b ∨ b ∈ M) → w'.heap[b]? = w.heap[b]?) (hs : w.heap.size ≤ w'.heap.size) : LRaw R k te tp w' L n0 p f es kv xs M :=
  ⟨h.bk.keep (hk p (.inl rfl)), h.own.keep fun b hb => hk b (.inr (.inl hb)), h.els.keep hR fun b hb => hk b (.inr (.inr hb)), h.far, h.mine, h.under.mono hs⟩
theorem LRaw.lt (h : LRaw R k te tp w L n0 p f es kv xs M) {b : Nat} (hb : b = p ∨ kv.ownBlock = some b ∨ b ∈ M) : b < w.heap.size := by
  rcases hb with rfl | hb | hb
  · exact h.bk.lt
  · exact (h.own.lt b hb).2
  · exact h.under b hb
theorem LRaw.below (hR : RStable R k) (h : LRaw R k te tp w L n0 p f es kv xs M) (hb : Below w.heap.size w w') : LRaw R k te tp w' L n0 p f es kv xs M := h.keep hR (fun b hb' => hb.block b (h.lt hb')) hb.size
theorem LRaw.more (hR : RStable R k) (h : LRaw R k te tp w L n0 p f es kv xs M) (B : List Nat) (hB : ∀ b ∈ B, (b ∈ L ∨ n0 ≤ b) ∧ b < w.heap.size ∧ b ≠ p ∧ kv.ownBlock ≠ some b) : LRaw R k te tp w L n0 p f es kv xs (M ++ B) :=
  ⟨h.bk, h.own, h.els.mono hR fun _ hk => List.mem_append_left _ hk, fun b hb => (List.mem_append.1 hb).elim (h.far b) fun hb => ⟨(hB b hb).1, (hB b hb).2.2⟩, h.mine, fun b hb => (List.mem_append.1 hb).elim (h.under b) fun hb => (hB b hb).2.1⟩
theorem LRaw.wider (h : LRaw R k te tp w L n0 p f es kv xs M) (hs : ∀ b ∈ L, b ∈ K) : LRaw R k te tp w K n0 p f es kv xs M :=
  ⟨h.bk, h.own, h.els, fun b hb => ⟨(h.far b hb).1.imp (hs b) id, (h.far b hb).2⟩, fun b hb => (h.mine b hb).imp (hs b) id, h.under⟩
/-- The list has turned, and is stored: appended to, cut, or new. -/
theorem LRaw.turn (hR : RStable R k) (hne : tp ≠ te) (h : LRaw R k te tp w L n0 p f es kv xs M) (hn : n0 ≤ w.heap.size) {es' : List α} {xs' : List Value} (he : ElsOk R k w M es' xs') {v1 : Value} (ho : Own w' 0 te k v1 es'.length xs') (hp : w'.heap[p]? = w.heap[p]?) (hM : ∀ b ∈ M, w'.heap[b]? = w.heap[b]?) (hs : w.heap.size ≤ w'.heap.size)
    (hn1 : v1.ownBlock = kv.ownBlock ∨ ∃ g, v1.ownBlock = some g ∧ w.heap.size ≤ g) {j : Nat} (hj : (f kv).setIfInBounds j v1 = f v1) : LRaw R k te tp (w'.setCell ⟨p, j, none⟩ v1) L n0 p f es' v1 xs' M := by
  have b1 := h.bk.keep hp
  have hk1 : ∀ b, b ≠ p → (w'.setCell ⟨p, j, none⟩ v1).heap[b]? = w'.heap[b]? := fun b hb => Below.heap_setCell _ _ _ _ hb
  have hfar : ∀ b ∈ M, v1.ownBlock ≠ some b := fun b hb e => by
    rcases hn1 with h1 | ⟨g, h1, hg1⟩
    · exact (h.far b hb).2.2 (h1 ▸ e)
    · rw [h1] at e; injection e with e; have := h.under b hb; omega
  refine ⟨hj ▸ b1.setCell j v1, ho.keep fun b hb => hk1 b fun e2 => own_apart b1 ho hne (e2 ▸ hb), (he.keep hR hM).keep hR fun b hb => hk1 b (h.far b hb).2.1, fun b hb => ⟨(h.far b hb).1, (h.far b hb).2.1, hfar b hb⟩, fun b hb => ?_, (h.under.mono hs).mono (by simp)⟩
  rcases hn1 with h1 | ⟨g, h1, hg1⟩
  · exact h.mine b (h1 ▸ hb)
  · rw [h1] at hb; injection hb with hb; exact .inr (by omega)
/-- Another cell of the object is stored. -/
theorem LRaw.cell (hR : RStable R k) (hne : tp ≠ te) (h : LRaw R k te tp w L n0 p f es kv xs M) {j : Nat} {v : Value} {f' : Value → Array Value} (hj : (f kv).setIfInBounds j v = f' kv) : LRaw R k te tp (w.setCell ⟨p, j, none⟩ v) L n0 p f' es kv xs M := by
  have hk1 : ∀ b, b ≠ p → (w.setCell ⟨p, j, none⟩ v).heap[b]? = w.heap[b]? := fun b hb => Below.heap_setCell _ _ _ _ hb
  exact ⟨hj ▸ h.bk.setCell j v, h.own.keep fun b hb => hk1 b fun e2 => own_apart h.bk h.own hne (e2 ▸ hb), h.els.keep hR fun b hb => hk1 b (h.far b hb).2.1, h.far, h.mine, h.under.mono (by simp)⟩
/-- The object, with all that it owns. -/
structure LAt (R : World → List Nat → α → List Value → Prop) (k : Nat) (te tp : TypeId) (w : World) (L : List Nat) (p : Nat) (f : Value → Array Value) (es : List α) : Prop where
  ex : ∃ kv xs M, Bk w p (f kv) tp ∧ Own w 0 te k kv es.length xs ∧ ElsOk R k w M es xs ∧ (∀ b ∈ M, b ∈ L ∧ b ≠ p ∧ kv.ownBlock ≠ some b) ∧ ∀ b, kv.ownBlock = some b → b ∈ L
  mem : p ∈ L
  under : Under L w.heap.size
theorem LAt.raw (h : LAt R k te tp w L p f es) (n0 : Nat) : ∃ kv xs M, LRaw R k te tp w L n0 p f es kv xs M := by
  obtain ⟨⟨kv, xs, M, h1, h2, h3, h4, h5⟩, hm, hu⟩ := h
  exact ⟨kv, xs, M, h1, h2, h3, fun b hb => ⟨.inl (h4 b hb).1, (h4 b hb).2⟩, fun b hb => .inl (h5 b hb), fun b hb => hu b (h4 b hb).1⟩
theorem LRaw.at (h : LRaw R k te tp w L n0 p f es kv xs M) (hp : p ∈ L) : ∃ L', LAt R k te tp w L' p f es ∧ Gr L L' n0 := by
  refine ⟨p :: (kv.ownBlock.toList ++ M), ⟨⟨kv, xs, M, h.bk, h.own, h.els, fun b hb => ⟨by simp [hb], (h.far b hb).2⟩, fun b hb => by simp [hb]⟩, by simp, fun b hb => ?_⟩, fun b hb => ?_⟩
  · rcases List.mem_cons.1 hb with rfl | hb
    · exact h.bk.lt
    · rcases List.mem_append.1 hb with hb | hb
      · exact (h.own.lt b (by simpa using hb)).2
      · exact h.under b hb
  · rcases List.mem_cons.1 hb with rfl | hb
    · exact .inl hp
    · rcases List.mem_append.1 hb with hb | hb
      · exact h.mine b (by simpa using hb)
      · exact (h.far b hb).1
theorem LAt.keep (hR : RStable R k) (h : LAt R k te tp w L p f es) (hk : ∀ b ∈ L, w'.heap[b]? = w.heap[b]?) (hs : w.heap.size ≤ w'.heap.size) : LAt R k te tp w' L p f es := by
  obtain ⟨⟨kv, xs, M, h1, h2, h3, h4, h5⟩, hm, hu⟩ := h
  exact ⟨⟨kv, xs, M, h1.keep (hk p hm), h2.keep (fun b e => hk b (h5 b e)), h3.keep hR (fun b e => hk b (h4 b e).1), h4, h5⟩, hm, hu.mono hs⟩
theorem LAt.fr (hR : RStable R k) (h : LAt R k te tp w L p f es) (hf : Fr K w w') (ha : Apart L K) : LAt R k te tp w' L p f es := h.keep hR (hf.keep ha h.under) hf.size
theorem LAt.below (hR : RStable R k) (h : LAt R k te tp w L p f es) (hb : Below w.heap.size w w') : LAt R k te tp w' L p f es := h.keep hR (fun b hk => hb.block b (h.under b hk)) hb.size
end
end Go.Proofs.Ytecmpjccdhmeeaa
end
section
/- One element less: what 'slices.Delete' does to a list that is owned. No program in sight. -/
namespace Go.Proofs.Ytecmpjccdhmeeaa
open Go.RowKit
variable {P : Program} {w : World} {b : Nat} {e : TypeId} {k : Nat} {xs : List Value}
theorem Own.pre {a : Option Addr} {n c i : Nat} (h : Own w b e k (.slice a n c) n xs) (hi : i ≤ n) : Own w b e k (.slice a i c) i (xs.take (i * k)) := by
  obtain ⟨hl, h⟩ := h
  have hm : i * k ≤ n * k := Nat.mul_le_mul_right k hi
  refine ⟨by rw [List.length_take]; omega, ?_⟩
  rcases h with ⟨h0, h1⟩ | ⟨g, off, cap, cur, hv, hb, hg, hn, hm2, hs, ht⟩
  · injection h0 with q1 q2 q3
    subst q1; subst q3
    obtain rfl : i = 0 := by omega
    exact .inl ⟨rfl, rfl⟩
  · injection hv with q1 q2 q3
    subst q1; subst q3
    refine .inr ⟨g, off, c, cur, rfl, hb, hg, by omega, hm2, hs, ?_⟩
    rw [← ht, List.take_take, Nat.min_eq_left hm]
theorem own_somewhere {a : Option Addr} {n c : Nat} (h : Own w b e k (.slice a n c) n xs) (hn : 0 < n) : ∃ g off, a = some ⟨g, off, none⟩ ∧ n ≤ c := by
  rcases h.2 with ⟨_, h0⟩ | ⟨g, off, cap, cur, hv, _, _, hc, _⟩
  · omega
  · injection hv with q1 q2 q3
    subst q1; subst q3
    exact ⟨g, off, rfl, hc⟩
theorem Own.tail {a : Option Addr} {n c i : Nat} (h : Own w b e k (.slice a n c) n xs) (hi : i < n) {tx e' : TypeId} (hk : P.underlying tx = some (.slice e')) (h1 : ∀ v ∈ xs, v.oneCell' = true) :
    Src P k tx (.slice (sliceBase a c (i + 1) k) (n - (i + 1)) (c - (i + 1))) (n - (i + 1)) (xs.drop ((i + 1) * k)) w := by
  obtain ⟨g, off, rfl, hc⟩ := own_somewhere h (by omega)
  have hx := h.1
  have e1 : (n - (i + 1)) * k + (i + 1) * k = n * k := by rw [← Nat.add_mul]; congr 1; omega
  have hl : (xs.drop ((i + 1) * k)).length = (n - (i + 1)) * k := by rw [List.length_drop]; omega
  have h1' : ∀ v ∈ xs.drop ((i + 1) * k), v.oneCell' = true := fun v hv => h1 v (List.mem_of_mem_drop hv)
  unfold sliceBase
  split
  · rename_i hce
    have h0 : n - (i + 1) = 0 := by omega
    have hd : xs.drop ((i + 1) * k) = [] := List.eq_nil_of_length_eq_zero (by rw [hl, h0, Nat.zero_mul])
    rw [hd] at hl h1' ⊢
    exact Src.ofSlice w hk _ _ _ _ hl (fun j u hu => by cases hu) h1'
  · refine Src.ofSlice w hk _ _ _ _ hl (fun j u hu => ?_) h1'
    rw [List.getElem?_drop] at hu
    have := h.cells g off c rfl _ u hu
    show w.cell? (((⟨g, off, none⟩ : Addr).add ((i + 1) * k)).add j) = some u
    rw [Addr.add_lit, Addr.add_lit, Nat.add_assoc]
    exact this
theorem own_beyond1 {g off n c j : Nat} (h : Own w b e k (.slice (some ⟨g, off, none⟩) n c) n xs) (hj : n * k ≤ j) (hc : j < c * k) (v : Value) :
    (w.cell? ⟨g, off + j, none⟩).isSome = true ∧ w.frozen? ⟨g, off + j, none⟩ = false ∧ Own (w.setCell ⟨g, off + j, none⟩ v) b e k (.slice (some ⟨g, off, none⟩) n c) n xs := by
  obtain ⟨hl, h⟩ := h
  rcases h with ⟨h0, h1⟩ | ⟨g', off', cap, cur, hv, hb, hg, hn, hm2, hs, ht⟩
  · cases h0
  · injection hv with q1 q2 q3
    injection q1 with q1
    injection q1 with q1 q4
    subst q1; subst q3; subst q4
    have hB : Bk w g cur e := hg
    refine ⟨?_, hB.frozen _, hl, .inr ⟨g, off, c, _, rfl, hb, hB.setCell (off + j) v, hn, hm2, by simpa using hs, ?_⟩⟩
    · rw [hB.cell, Array.getElem?_eq_getElem (by omega)]; rfl
    · rw [← ht, Array.toList_setIfInBounds, List.drop_set]
      rw [if_neg (by omega), show off + j - off = j by omega, List.take_set, List.set_eq_of_length_le (by rw [List.length_take]; omega)]
theorem own_beyond {g off n c : Nat} : ∀ (vs : List Value) (j : Nat) (w : World), Own w b e k (.slice (some ⟨g, off, none⟩) n c) n xs → n * k ≤ j → j + vs.length ≤ c * k →
    w.there g (off + j) vs.length ∧ Own (w.setCells g (off + j) vs) b e k (.slice (some ⟨g, off, none⟩) n c) n xs ∧ Fr [g] w (w.setCells g (off + j) vs) ∧ (w.setCells g (off + j) vs).heap.size = w.heap.size
  | [], j, w, h, _, _ => ⟨fun i hi => by simp at hi, h, Fr.refl _ _, rfl⟩
  | v :: r, j, w, h, hj, hc => by
    rw [List.length_cons] at hc
    obtain ⟨h1, h2, h3⟩ := own_beyond1 h hj (by omega) v
    obtain ⟨k1, k2, k3, k4⟩ := own_beyond r (j + 1) _ h3 (by omega) (by omega)
    rw [← Nat.add_assoc] at k1 k2 k3 k4
    refine ⟨fun i hi => ?_, k2, ((Fr.refl [g] w).setCell (p := ⟨g, off + j, none⟩) (.inl (by simp)) v).trans k3 (Gr.refl _ _), k4.trans (by simp)⟩
    rw [List.length_cons] at hi
    refine ⟨?_, ?_⟩
    · obtain ⟨a1, a2, _⟩ := own_beyond1 h (j := j + i) (by omega) (by omega) v
      rw [Nat.add_assoc]; exact a1
    · obtain ⟨a1, a2, _⟩ := own_beyond1 h (j := j + i) (by omega) (by omega) v
      rw [Nat.add_assoc]; exact a2
theorem els_one {α : Type} {R : World → List Nat → α → List Value → Prop} {M : List Nat} {es : List α} (h : ElsOk R k w M es xs) (hR : ∀ w M e cs, R w M e cs → ∀ v ∈ cs, v.oneCell' = true) : ∀ v ∈ xs, v.oneCell' = true := by
  intro v hv
  obtain ⟨j, hj⟩ := List.getElem?_of_mem hv
  have hlt := (List.getElem?_eq_some_iff.1 hj).1
  have hl := h.1
  have hk : 0 < k := by
    rcases Nat.eq_zero_or_pos k with h0 | h0
    · subst h0; omega
    · exact h0
  have hi : j / k < es.length := Nat.div_lt_of_lt_mul (by rw [Nat.mul_comm]; omega)
  have := h.2 _ _ (List.getElem?_eq_getElem hi)
  refine hR _ _ _ _ this v ?_
  have hm : j = j / k * k + j % k := by rw [Nat.mul_comm]; exact (Nat.div_add_mod j k).symm
  have hmod := Nat.mod_lt j hk
  refine List.mem_iff_getElem?.2 ⟨j % k, ?_⟩
  rw [List.getElem?_take, if_pos hmod, List.getElem?_drop, ← hm]
  exact hj
end Go.Proofs.Ytecmpjccdhmeeaa
end
section
/- One element of an owned list is written over. No program in sight. -/
namespace Go.Proofs.Ytecmpjccdhmeeaa
open Go.RowKit
variable {w : World} {b : Nat} {e : TypeId} {k : Nat} {xs : List Value}
def setL : List Value → Nat → List Value → List Value
  | xs, _, [] => xs
  | xs, j, v :: r => setL (xs.set j v) (j + 1) r
theorem setL_len : ∀ (vs : List Value) (xs : List Value) (j : Nat), (setL xs j vs).length = xs.length
  | [], _, _ => rfl
  | v :: r, xs, j => by rw [setL, setL_len r, List.length_set]
theorem setL_get : ∀ (vs : List Value) (xs : List Value) (j i : Nat), j + vs.length ≤ xs.length → (setL xs j vs)[i]? = if j ≤ i ∧ i < j + vs.length then vs[i - j]? else xs[i]?
  | [], xs, j, i, _ => by rw [setL, if_neg (by simp only [List.length_nil]; omega)]
  | v :: r, xs, j, i, h => by
    rw [List.length_cons] at h
    rw [setL, setL_get r (xs.set j v) (j + 1) i (by rw [List.length_set]; omega), List.length_cons]
    by_cases h1 : i = j
    · subst h1
      rw [if_neg (by omega), if_pos (by omega), Nat.sub_self, List.getElem?_set_self (by omega)]
      rfl
    · by_cases h2 : j + 1 ≤ i ∧ i < j + 1 + r.length
      · rw [if_pos h2, if_pos (by omega), show i - j = (i - (j + 1)) + 1 by omega, List.getElem?_cons_succ]
      · rw [if_neg h2, if_neg (by omega), List.getElem?_set_ne (by omega)]
theorem own_in1 {g off n c j : Nat} (h : Own w b e k (.slice (some ⟨g, off, none⟩) n c) n xs) (hj : j < n * k) (v : Value) :
    (w.cell? ⟨g, off + j, none⟩).isSome = true ∧ w.frozen? ⟨g, off + j, none⟩ = false ∧ Own (w.setCell ⟨g, off + j, none⟩ v) b e k (.slice (some ⟨g, off, none⟩) n c) n (xs.set j v) := by
  obtain ⟨hl, h⟩ := h
  rcases h with ⟨h0, h1⟩ | ⟨g', off', cap, cur, hv, hb, hg, hn, hm2, hs, ht⟩
  · cases h0
  · injection hv with q1 q2 q3
    injection q1 with q1
    injection q1 with q1 q4
    subst q1; subst q3; subst q4
    have hB : Bk w g cur e := hg
    have hm : n * k ≤ c * k := Nat.mul_le_mul_right k hn
    refine ⟨?_, hB.frozen _, by rw [List.length_set]; exact hl, .inr ⟨g, off, c, _, rfl, hb, hB.setCell (off + j) v, hn, hm2, by simpa using hs, ?_⟩⟩
    · rw [hB.cell, Array.getElem?_eq_getElem (by omega)]; rfl
    · rw [← ht, Array.toList_setIfInBounds, List.drop_set]
      rw [if_neg (by omega), show off + j - off = j by omega, List.take_set]
theorem own_setL {g off n c : Nat} : ∀ (vs : List Value) (j : Nat) (w : World) (xs : List Value), Own w b e k (.slice (some ⟨g, off, none⟩) n c) n xs → j + vs.length ≤ n * k →
    w.there g (off + j) vs.length ∧ Own (w.setCells g (off + j) vs) b e k (.slice (some ⟨g, off, none⟩) n c) n (setL xs j vs) ∧ Fr [g] w (w.setCells g (off + j) vs) ∧ (w.setCells g (off + j) vs).heap.size = w.heap.size
  | [], j, w, xs, h, _ => ⟨fun i hi => by simp at hi, h, Fr.refl _ _, rfl⟩
  | v :: r, j, w, xs, h, hc => by
    rw [List.length_cons] at hc
    obtain ⟨h1, h2, h3⟩ := own_in1 h (j := j) (by omega) v
    obtain ⟨k1, k2, k3, k4⟩ := own_setL r (j + 1) _ _ h3 (by omega)
    rw [← Nat.add_assoc] at k1 k2 k3 k4
    refine ⟨fun i hi => ?_, k2, ((Fr.refl [g] w).setCell (p := ⟨g, off + j, none⟩) (.inl (by simp)) v).trans k3 (Gr.refl _ _), k4.trans (by simp)⟩
    rw [List.length_cons] at hi
    obtain ⟨a1, a2, _⟩ := own_in1 h (j := j + i) (by omega) v
    rw [Nat.add_assoc]
    exact ⟨a1, a2⟩
/-- An element of so many cells is stored. -/
theorem Own.storeK {g off n c i : Nat} (h : Own w b e k (.slice (some ⟨g, off, none⟩) n c) n xs) (hi : i < n) {vs : List Value} (hv : vs.length = k) {gs : List Nat} (hgs : ∀ x ∈ gs, x ≠ g) {K : World → Prop}
    (hk : ∀ w1, Own w1 b e k (.slice (some ⟨g, off, none⟩) n c) n (setL xs (i * k) vs) → Fr [g] w w1 → w1.heap.size = w.heap.size → K w1) : stO gs w g (off + i * k) vs K := by
  have hm : i * k + k ≤ n * k := by
    have := Nat.mul_le_mul_right k (show i + 1 ≤ n from hi)
    rw [Nat.add_mul, Nat.one_mul] at this; exact this
  obtain ⟨k1, k2, k3, k4⟩ := own_setL vs (i * k) w xs h (by omega)
  exact ⟨hgs, k1, fun w1 e1 => by subst e1; exact hk _ k2 k3 k4⟩
theorem ElsOk.set {α : Type} {R : World → List Nat → α → List Value → Prop} {M : List Nat} {es : List α} (hR : RStable R k) (h : ElsOk R k w M es xs) {i : Nat} (hi : i < es.length) {x : α} {cs : List Value} (hx : R w M x cs) : ElsOk R k w M (es.set i x) (setL xs (i * k) cs) := by
  have hl := h.1
  have hc := hR.len hx
  have hm : ∀ j, j < es.length → j * k + k ≤ xs.length := fun j hj => by
    rw [hl]
    have := Nat.mul_le_mul_right k (show j + 1 ≤ es.length from hj)
    rw [Nat.add_mul, Nat.one_mul] at this; exact this
  refine ⟨by rw [setL_len, List.length_set, hl], fun j y hy => ?_⟩
  have hj : j < es.length := by have := (List.getElem?_eq_some_iff.1 hy).1; rwa [List.length_set] at this
  have key : ((setL xs (i * k) cs).drop (j * k)).take k = if i = j then cs else (xs.drop (j * k)).take k := by
    apply List.ext_getElem?
    intro q
    rw [List.getElem?_take]
    by_cases hq : q < k
    · rw [if_pos hq, List.getElem?_drop, setL_get _ _ _ _ (by have := hm i hi; omega)]
      by_cases hij : i = j
      · subst hij
        rw [if_pos rfl, if_pos (by omega)]
        congr 1; omega
      · rw [if_neg hij]
        have hne : ¬ (i * k ≤ j * k + q ∧ j * k + q < i * k + cs.length) := by
          rintro ⟨h1, h2⟩
          rcases Nat.lt_or_gt_of_ne hij with h3 | h3
          · have := Nat.mul_le_mul_right k (show i + 1 ≤ j from h3)
            rw [Nat.add_mul, Nat.one_mul] at this; omega
          · have := Nat.mul_le_mul_right k (show j + 1 ≤ i from h3)
            rw [Nat.add_mul, Nat.one_mul] at this; omega
        rw [if_neg hne, List.getElem?_take, if_pos hq, List.getElem?_drop]
    · rw [if_neg hq]
      symm
      split
      · rw [List.getElem?_eq_none (by omega)]
      · rw [List.getElem?_take, if_neg hq]
  rw [key]
  by_cases hij : i = j
  · subst hij
    rw [List.getElem?_set_self hi] at hy
    injection hy with hy; subst hy
    rw [if_pos rfl]; exact hx
  · rw [List.getElem?_set_ne hij] at hy
    rw [if_neg hij]
    exact h.2 j y hy
end Go.Proofs.Ytecmpjccdhmeeaa
end
section
/- Functions that write nothing but blocks of their own: their steps, seen from the world that they began in. No program in sight. -/
namespace Go.Proofs.Ytecmpjccdhmeeaa
open Go.RowKit
theorem box_below {w w1 w2 : World} {g : Nat} (h : Below w.heap.size w w1) (hg : w.heap.size ≤ g) (hb : BoxSt g w1 w2) : Below w.heap.size w w2 := h.trans (hb.1.below (fun k hk => by rw [List.mem_singleton] at hk; omega) h.size)
/-- One value comes back, and what was there is as it was. -/
def Ret (v : Value) (w : World) : Ending → World → Prop := fun e w' => e = .returned v ∧ Below w.heap.size w w'
theorem ret_in {P : Program} {f : FuncId} {av : Array Value} {w : World} {v : Value} (h : Calls P f av w fun e w' => ∃ u, e = .returned u ∧ (u = v ∧ Below w.heap.size w w')) : Calls P f av w (Ret v w) :=
  h.mono (by rintro e w' ⟨u, rfl, rfl, b⟩; exact ⟨rfl, b⟩)
theorem ret_same {P : Program} {f : FuncId} {av : Array Value} {w : World} {v : Value} (h : Calls P f av w fun e w' => e = .returned v ∧ w' = w) : Calls P f av w (Ret v w) :=
  h.mono (by rintro e w' ⟨rfl, rfl⟩; exact ⟨rfl, Below.refl _ _⟩)
section
variable {w0 w : World}
abbrev Bs (w0 w : World) : Prop := Below w0.heap.size w0 w
theorem Bs.refl (w : World) : Bs w w := Below.refl _ _
theorem Bs.to {w1 : World} (B : Bs w0 w) (b : Below w.heap.size w w1) : Bs w0 w1 := Below.trans B (b.mono B.size)
theorem Bs.box {g : Nat} {w1 : World} (B : Bs w0 w) (hg : w0.heap.size ≤ g) (h : BoxSt g w w1) : Bs w0 w1 := box_below B hg h
theorem newB (B : Bs w0 w) {o : Obj} {K : Nat → World → Prop} (h : ∀ g w1, w0.heap.size ≤ g → w.heap.size = g → w1.heap[g]? = some o → w1.heap.size = g + 1 → Below w.heap.size w w1 → Bs w0 w1 → K g w1) : newO w o K := by
  rintro g w1 rfl rfl
  exact h _ _ B.size rfl (al_new rfl) (by simp) (Below_one o) (B.to (Below_one o))
theorem drewB (B : Bs w0 w) {K : World → Prop} (h : ∀ w1, Below w.heap.size w w1 → Bs w0 w1 → w1.heap = w.heap → K w1) : drewO w K := fun w1 h1 h2 => h w1 h2 (B.to h2) h1
theorem boxB {g : Nat} (B : Bs w0 w) (hg : w0.heap.size ≤ g) {K : World → Prop} (h : ∀ w1, BoxSt g w w1 → Bs w0 w1 → w1.heap.size = w.heap.size → K w1) : ∀ w1, BoxSt g w w1 → K w1 := fun w1 h1 => h w1 h1 (B.box hg h1) h1.2
theorem callB {P : Program} {f : FuncId} {av : Array Value} {v : Value} {gs : List Nat} {R : Ending → World → Prop} (B : Bs w0 w) (h : Calls P f av w (Ret v w)) (k : ∀ w1, Below w.heap.size w w1 → Bs w0 w1 → R (.returned v) w1) :
    Calls P f av w (fun e w1 => KeepG gs w w1 ∧ R e w1) := h.mono (by rintro e w1 ⟨rfl, b⟩; exact ⟨keepG_below b, k w1 b (B.to b)⟩)
theorem callQ {P : Program} {f : FuncId} {av : Array Value} {gs : List Nat} {Q R : Ending → World → Prop} (B : Bs w0 w) (h : Calls P f av w (fun e w1 => Q e w1 ∧ Below w.heap.size w w1)) (k : ∀ e w1, Q e w1 → Below w.heap.size w w1 → Bs w0 w1 → R e w1) :
    Calls P f av w (fun e w1 => KeepG gs w w1 ∧ R e w1) := h.mono (by rintro e w1 ⟨q, b⟩; exact ⟨keepG_below b, k e w1 q b (B.to b)⟩)
end
/-- Elements of k cells each, one behind the other, in a block from n0 on. -/
def Rws {α : Type} (enc : α → List Value) (k n0 : Nat) (w : World) (a : Option Addr) (xs : List α) : Prop := xs = [] ∨ ∃ b off, a = some ⟨b, off, none⟩ ∧ n0 ≤ b ∧ ∀ i x, xs[i]? = some x → cellsAt w b (off + i * k) (enc x)
section
variable {α : Type} {enc : α → List Value} {k n0 : Nat} {w w' : World} {a : Option Addr} {xs : List α}
theorem Rws.nil : Rws enc k n0 w a [] := .inl rfl
theorem Rws.ofRows (h : RowsAt (fun w b off x => cellsAt w b off (enc x)) k w a xs) : Rws enc k 0 w a xs := h.elim .inl fun ⟨b, off, h1, h2⟩ => .inr ⟨b, off, h1, Nat.zero_le _, h2⟩
theorem Rws.low {n1 : Nat} (h : Rws enc k n0 w a xs) (hn : n1 ≤ n0) : Rws enc k n1 w a xs := h.elim .inl fun ⟨b, off, h1, h2, h3⟩ => .inr ⟨b, off, h1, Nat.le_trans hn h2, h3⟩
theorem Rws.keep (h : Rws enc k n0 w a xs) (hk : ∀ b, n0 ≤ b → b < w.heap.size → w'.heap[b]? = w.heap[b]?) : Rws enc k n0 w' a xs := by
  rcases h with h | ⟨b, off, ha, hb, h⟩
  · exact .inl h
  · refine .inr ⟨b, off, ha, hb, fun i x hx => cellsAt_of fun j v hj => ?_⟩
    have h1 := cellsAt_get (h i x hx) j v hj
    have h2 := block_lt_of_cell h1
    rw [cell_keep (hk b hb h2)]
    exact h1
theorem Rws.below (h : Rws enc k n0 w a xs) (hb : Below w.heap.size w w') : Rws enc k n0 w' a xs := h.keep fun b _ h2 => hb.block b h2
theorem Rws.box {g : Nat} (h : Rws enc k n0 w a xs) (hb : BoxSt g w w') (hg : g < n0) : Rws enc k n0 w' a xs := h.keep fun b h1 h2 => hb.1.block b h2 (by rw [List.mem_singleton]; omega)
theorem Rws.newbox {g : Nat} {w1 w2 : World} (h : Rws enc k n0 w a xs) (hb : Below w.heap.size w w1) (sg : w.heap.size = g) (hx : BoxSt g w1 w2) : Rws enc k n0 w2 a xs := h.keep fun b _ h2 => (hx.1.block b (by have := hb.size; omega) (by rw [List.mem_singleton]; omega)).trans (hb.block b h2)
theorem Rws.grown {r : Option Nat} (h : Rws enc k n0 w a xs) (hg : w.grownBy w' r) (hr : ∀ b, r = some b → b < n0) : Rws enc k n0 w' a xs := h.keep fun b h1 h2 => hg.block b h2 fun e => by have := hr b e.symm; omega
theorem Rws.get (h : Rws enc k n0 w a xs) {i : Nat} (hi : i < xs.length) : ∃ b off, a = some ⟨b, off, none⟩ ∧ cellsAt w b (off + i * k) (enc xs[i]) := by
  rcases h with rfl | ⟨b, off, ha, _, h⟩
  · simp at hi
  · exact ⟨b, off, ha, h i _ (List.getElem?_eq_getElem hi)⟩
theorem Rws.take (h : Rws enc k n0 w a xs) (n : Nat) : Rws enc k n0 w a (xs.take n) := by
  rcases h with rfl | ⟨b, off, ha, h0, h⟩
  · exact .inl (by simp)
  · refine .inr ⟨b, off, ha, h0, fun i x hx => h i x ?_⟩
    rw [List.getElem?_take] at hx
    split at hx
    · exact hx
    · cases hx
theorem flatK_len (hk : ∀ x, (enc x).length = k) : ∀ es : List α, (es.flatMap enc).length = es.length * k
  | [] => by simp
  | e :: r => by rw [List.flatMap_cons, List.length_append, flatK_len hk r, hk, List.length_cons, Nat.add_mul]; omega
theorem flatK_get (hk : ∀ x, (enc x).length = k) : ∀ (es : List α) (i : Nat) (e : α) (j : Nat), es[i]? = some e → j < k → (es.flatMap enc)[i * k + j]? = (enc e)[j]?
  | x :: r, 0, e, j, h, hj => by
    cases h
    rw [List.flatMap_cons, List.getElem?_append_left (by rw [hk]; omega)]
    congr 1; omega
  | x :: r, i + 1, e, j, h, hj => by
    have e1 : (i + 1) * k = i * k + k := by rw [Nat.add_mul, Nat.one_mul]
    rw [List.flatMap_cons, List.getElem?_append_right (by rw [hk]; omega), hk, show (i + 1) * k + j - k = i * k + j by omega]
    exact flatK_get hk r i e j (by simpa using h) hj
theorem Rws.ofOwn {t : TypeId} {n c : Nat} (hkp : 0 < k) (hk : ∀ x, (enc x).length = k) (h : Own w n0 t k (.slice a n c) n (xs.flatMap enc)) : Rws enc k n0 w a xs := by
  by_cases h0 : xs = []
  · exact .inl h0
  rcases h.2 with ⟨h1, h2⟩ | ⟨g, off, cap, cur, hv, hb, hg, hn, hm, hs, ht⟩
  · have h3 := h.1
    rw [flatK_len hk, h2, Nat.zero_mul] at h3
    exact absurd (List.length_eq_zero_iff.1 ((Nat.mul_eq_zero.1 h3).resolve_right (by omega))) h0
  · injection hv with h1 h2 h3
    subst h1; subst h3
    refine .inr ⟨g, off, rfl, hb, fun i x hx => cellsAt_list fun j v hv => ?_⟩
    have hj : j < k := by have := (List.getElem?_eq_some_iff.1 hv).1; rw [hk] at this; exact this
    have := flatK_get hk xs i x j hx hj
    rw [Nat.add_assoc]
    exact h.cells g off c rfl _ v (by rw [this]; exact hv)
theorem Rws.src {P : Program} {tx e' : TypeId} {c : Nat} (hT : P.underlying tx = some (.slice e')) (hkp : 0 < k) (hk : ∀ x, (enc x).length = k) (h1 : ∀ x, ∀ v ∈ enc x, v.oneCell' = true) (h : Rws enc k n0 w a xs) : Src P k tx (.slice a xs.length c) xs.length (xs.flatMap enc) w := by
  have hone : ∀ v ∈ xs.flatMap enc, v.oneCell' = true := fun v hv => by
    obtain ⟨x, _, hx⟩ := List.mem_flatMap.1 hv
    exact h1 x v hx
  cases a with
  | none =>
    rcases h with rfl | ⟨b, off, ha, _⟩
    · exact Src.ofNil w hT c
    · cases ha
  | some ad =>
    refine Src.ofSlice w hT ad _ _ _ (flatK_len hk xs) (fun j u hu => ?_) hone
    rcases h with rfl | ⟨b, off, ha, _, h⟩
    · cases hu
    · injection ha with ha; subst ha
      have hlt := (List.getElem?_eq_some_iff.1 hu).1
      rw [flatK_len hk] at hlt
      have hi : j / k < xs.length := (Nat.div_lt_iff_lt_mul hkp).2 hlt
      have hm : j % k < k := Nat.mod_lt _ hkp
      have hx := List.getElem?_eq_getElem hi
      have h1 := flatK_get hk xs (j / k) _ (j % k) hx hm
      have hd : j / k * k + j % k = j := by rw [Nat.mul_comm]; exact Nat.div_add_mod j k
      rw [hd, hu] at h1
      have := cellsAt_get (h _ _ hx) (j % k) u h1.symm
      rw [Addr.add_lit]
      rwa [Nat.add_assoc, hd] at this
end
theorem Rws.one {α : Type} {enc : α → List Value} {k n0 g : Nat} {w : World} {x : α} {t : TypeId} {fr : Nat × Nat} (h : w.heap[g]? = some (.cells (enc x).toArray t fr)) (hg : n0 ≤ g) : Rws enc k n0 w (some ⟨g, 0, none⟩) [x] := by
  refine .inr ⟨g, 0, rfl, hg, fun i y hy => ?_⟩
  have hi : i = 0 := by have := (List.getElem?_eq_some_iff.1 hy).1; simp at this; omega
  subst hi
  simp at hy
  subst hy
  rw [Nat.zero_mul]
  exact cellsAt_row h (by simp)
theorem Own.box {w w1 : World} {n1 size n g : Nat} {e : TypeId} {v : Value} {xs : List Value} (h : Own w n1 e size v n xs) (hb : BoxSt g w w1) (hg : ∀ k, v.ownBlock = some k → k ≠ g) : Own w1 n1 e size v n xs := h.keep fun k hk => hb.1.block k (h.lt k hk).2 (by rw [List.mem_singleton]; exact hg k hk)
/-- A new box was made and filled. -/
theorem Own.newbox {w w1 w2 : World} {n1 size n g : Nat} {e : TypeId} {v : Value} {xs : List Value} (h : Own w n1 e size v n xs) (hb : Below w.heap.size w w1) (sg : w.heap.size = g) (hx : BoxSt g w1 w2) : Own w2 n1 e size v n xs := (h.below hb (Nat.le_refl _)).box hx fun k hk => by have := (h.lt k hk).2; omega
/-- What is appended to, is one's own. -/
theorem appB {P : Program} {gs : List Nat} {w0 w : World} {e : TypeId} {size bytes n1 n c m : Nat} {tx : TypeId} {a : Option Addr} {x : Value} {xs news : List Value} {K : Nat → Option Addr → Nat → World → Prop}
    (B : Bs w0 w) (o : Own w n1 e size (.slice a n c) n xs) (hn1 : w0.heap.size ≤ n1) (hn2 : n1 ≤ w.heap.size) (s : Src P size tx x m news w) (h1 : n + m ≤ maxLen) (h2 : (n + m) * bytes ≤ 140737488355328)
    (hg : ∀ g ∈ gs, (Value.slice a n c).ownBlock ≠ some g)
    (k : ∀ a' c' w1, Own w1 n1 e size (.slice a' (n + m) c') (n + m) (xs ++ news) → w.grownBy w1 (Value.slice a n c).ownBlock → Bs w0 w1 → w.heap.size ≤ w1.heap.size → K m a' c' w1) :
    appO P gs w e size bytes tx a n c x K := by
  refine ⟨m, xs, news, o.base_le fun _ _ => Nat.zero_le _, s, h1, h2, hg, fun a' c' w1 o1 g1 or1 _ => k a' c' w1 (o1.base_le fun q hq => ?_) g1 ?_ g1.size⟩
  · rcases or1 with h | ⟨g, h, h3⟩
    · exact (o.lt q (h ▸ hq)).1
    · rw [h] at hq; injection hq with hq; omega
  · exact ⟨g1.os.trans B.os, g1.tape.trans B.tape, g1.output.trans B.output, Nat.le_trans B.size g1.size, fun q hq => (g1.block q (by have := B.size; omega) fun e => by have := (o.lt q e.symm).1; omega).trans (B.block q hq)⟩
end Go.Proofs.Ytecmpjccdhmeeaa
end
section
/- A writer, and a reader, at work since a world: what else has turned. -/
namespace Go.Proofs.Ytecmpjccdhmeeaa
open Go.RowKit
/-- Since w0 only the writer's blocks, and new ones, have turned. -/
structure WP (w0 : World) (K0 : List Nat) (w : World) (g : Nat) (bs : List UInt8) (bad : Bool) : Prop where
  ex : ∃ K, WAt w K g bs bad ∧ Gr K0 K w0.heap.size
  fr : Fr K0 w0 w
  un : Under K0 w0.heap.size
section
variable {w0 w w1 w2 : World} {K0 : List Nat} {g : Nat} {bs bs' : List UInt8} {bad bad' : Bool}
theorem WP.start (h : WAt w K0 g bs bad) : WP w K0 w g bs bad := ⟨⟨K0, h, Gr.refl _ _⟩, Fr.refl _ _, h.under⟩
theorem WP.make {t : TypeId} (h : w.heap[g]? = some (.cells #[.slice none 0 0, .bool false] 83 (0, 0))) (ht : t = 83) : WP w [g] w g [] false :=
  WP.start (by have := WAt.make (v := .slice none 0 0) (bs := []) h (Own.nil _ _ _ _); simpa [Value.ownBlock] using this)
theorem WP.below (h : WP w0 K0 w g bs bad) (b : Below w.heap.size w w1) : WP w0 K0 w1 g bs bad := by
  obtain ⟨⟨K, h1, h2⟩, h3, h4⟩ := h
  exact ⟨⟨K, h1.keep (fun k hk => b.block k (h1.under k hk)) b.size, h2⟩, h3.trans (Fr.ofBelow (L := K0) b) (Gr.refl _ _), h4⟩
/-- A box that is newer than the base was written. -/
theorem WP.newbox (h : WP w0 K0 w g bs bad) (b : Below w.heap.size w w1) {x : Nat} (sx : w.heap.size = x) (hx : BoxSt x w1 w2) : WP w0 K0 w2 g bs bad := by
  obtain ⟨⟨K, h1, h2⟩, h3, h4⟩ := h
  have z := b.size
  have z2 := hx.2
  have z3 := h3.size
  refine ⟨⟨K, h1.keep (fun k hk => (hx.1.block k (by have := h1.under k hk; omega) (by rw [List.mem_singleton]; have := h1.under k hk; omega)).trans (b.block k (h1.under k hk))) (by omega), h2⟩, ?_, h4⟩
  exact (h3.trans (Fr.ofBelow (L := K0) b) (Gr.refl _ _)).trans hx.1 (fun k hk => by rw [List.mem_singleton] at hk; exact .inr (by omega))
theorem WP.keep (h : WP w0 K0 w g bs bad) {b : Nat} (hb : b < w0.heap.size) (hn : b ∉ K0) : w.heap[b]? = w0.heap[b]? := h.fr.block b hb hn
theorem WP.old {wb : World} (h : WP w0 K0 w g bs bad) (B : Bs wb w0) (hf : From wb.heap.size K0) : Bs wb w := B.trans (h.fr.below hf B.size)
theorem WP.call (h : WP w0 K0 w g bs bad) {P : Program} {f : FuncId} {av : Array Value} {gs : List Nat} {R : Ending → World → Prop} (hc : ∀ K, WAt w K g bs bad → Gr K0 K w0.heap.size → Calls P f av w (W1 w K g bs' bad')) (hg : ∀ x ∈ gs, x < w0.heap.size ∧ x ∉ K0)
    (k : ∀ w1, WP w0 K0 w1 g bs' bad' → w.heap.size ≤ w1.heap.size → R (.returned (.tuple #[])) w1) : Calls P f av w fun e w1 => KeepG gs w w1 ∧ R e w1 := by
  obtain ⟨⟨K, h1, h2⟩, h3, h4⟩ := h
  refine (hc K h1 h2).mono ?_
  rintro e w1 ⟨rfl, K', h5, f5, g5⟩
  refine ⟨keepG_fr f5 fun x hx hm => ?_, k w1 ⟨⟨K', h5, h2.trans g5 h3.size⟩, h3.trans f5 h2, h4⟩ f5.size⟩
  rcases h2 x hm with h | h
  · exact (hg x hx).2 h
  · have := (hg x hx).1; omega
/-- The same, with boxes that are newer than the base: told of the writer's blocks. -/
theorem WP.out {K : List Nat} (h : WP w K w1 g bs bad) : W1 w K g bs bad (.returned (.tuple #[])) w1 := by
  obtain ⟨⟨K', h1, h2⟩, h3, h4⟩ := h
  exact ⟨rfl, K', h1, h3, h2⟩
/-- A new base. -/
theorem WP.rebase (h : WP w0 K0 w g bs bad) : ∃ K, WP w K w g bs bad ∧ Gr K0 K w0.heap.size := by
  obtain ⟨⟨K, h1, h2⟩, h3, h4⟩ := h
  exact ⟨K, WP.start h1, h2⟩
/-- A new base behind a box that was made and filled. -/
theorem WP.rebox (h : WP w0 K0 w g bs bad) (b : Below w.heap.size w w1) {x : Nat} (sx : w.heap.size = x) (hs : w1.heap.size = x + 1) (hx : BoxSt x w1 w2) :
    ∃ K, WP w2 K w2 g bs bad ∧ Gr K0 K w0.heap.size ∧ x ∉ K ∧ x < w2.heap.size := by
  obtain ⟨⟨K, h1, h2⟩, h3, h4⟩ := h
  have z2 := hx.2
  have z3 := h3.size
  refine ⟨K, WP.start (h1.keep (fun k hk => (hx.1.block k (by have := h1.under k hk; omega) (by rw [List.mem_singleton]; have := h1.under k hk; omega)).trans (b.block k (h1.under k hk))) (by omega)), h2, fun hm => ?_, by omega⟩
  have := h1.under x hm
  omega
theorem WP.join {K : List Nat} (h : WP w0 K0 w g bs bad) (h2 : WP w K w1 g bs' bad') (hg : Gr K0 K w0.heap.size) : WP w0 K0 w1 g bs' bad' := by
  obtain ⟨⟨K', k1, k2⟩, k3, k4⟩ := h2
  exact ⟨⟨K', k1, hg.trans k2 h.fr.size⟩, h.fr.trans k3 hg, h.un⟩
end
theorem WP.uint {w0 w : World} {K0 : List Nat} {g : Nat} {bs : List UInt8} {bad : Bool} (h : WP w0 K0 w g bs bad) {gs : List Nat} {R : Ending → World → Prop} (z : Int) (hz : 0 ≤ z) (hz2 : z ≤ 9223372036854775807) (hl : bs.length ≤ 100000000) (hg : ∀ x ∈ gs, x < w0.heap.size ∧ x ∉ K0)
    (k : ∀ w1, WP w0 K0 w1 g (bs ++ uintB z) bad → w.heap.size ≤ w1.heap.size → R (.returned (.tuple #[])) w1) : Calls Try.prog 40 #[.pointer (some ⟨g, 0, none⟩), .int .i64 z] w fun e w1 => KeepG gs w w1 ∧ R e w1 :=
  h.call (fun K h1 _ => by
    have := wUint_any g z hz2 bs bad K w h1 hl
    rw [decide_eq_false (show ¬ z < 0 by omega), Bool.or_false] at this
    exact this) hg k
/-- Since w0 only the reader's blocks, and new ones, have turned. -/
structure RP (w0 : World) (L : List Nat) (w : World) (g : Nat) (bs : List UInt8) (e : Int) : Prop where
  at' : RdAt w L g bs e
  fr : Fr L w0 w
  un : Under L w0.heap.size
section
variable {w0 w w1 w2 : World} {L : List Nat} {g : Nat} {bs : List UInt8} {e : Int}
theorem RP.start (h : RdAt w L g bs e) : RP w L w g bs e := ⟨h, Fr.refl _ _, h.under⟩
theorem RP.below (h : RP w0 L w g bs e) (b : Below w.heap.size w w1) : RP w0 L w1 g bs e := ⟨h.at'.below b, h.fr.trans (Fr.ofBelow (L := L) b) (Gr.refl _ _), h.un⟩
theorem RP.newbox (h : RP w0 L w g bs e) (b : Below w.heap.size w w1) {x : Nat} (sx : w.heap.size = x) (hx : BoxSt x w1 w2) : RP w0 L w2 g bs e := by
  have z := b.size
  have z3 := h.fr.size
  exact ⟨(h.at'.below b).fr hx.1 (fun k h1 h2 => by rw [List.mem_singleton] at h2; have := h.at'.under k h1; omega), (h.fr.trans (Fr.ofBelow (L := L) b) (Gr.refl _ _)).trans hx.1 (fun k hk => by rw [List.mem_singleton] at hk; exact .inr (by omega)), h.un⟩
theorem RP.box (h : RP w0 L w g bs e) {x : Nat} (hx : BoxSt x w w1) (hn : x ∉ L) (hz : w0.heap.size ≤ x) : RP w0 L w1 g bs e :=
  ⟨h.at'.fr hx.1 (fun k h1 h2 => by rw [List.mem_singleton] at h2; exact hn (h2 ▸ h1)), h.fr.trans hx.1 (fun k hk => by rw [List.mem_singleton] at hk; exact .inr (by omega)), h.un⟩
theorem RP.keep (h : RP w0 L w g bs e) {b : Nat} (hb : b < w0.heap.size) (hn : b ∉ L) : w.heap[b]? = w0.heap[b]? := h.fr.block b hb hn
theorem RP.old {wb : World} (h : RP w0 L w g bs e) (B : Bs wb w0) (hf : From wb.heap.size L) : Bs wb w := B.trans (h.fr.below hf B.size)
theorem RP.uint (h : RP w0 L w g bs e) {gs : List Nat} {R : Ending → World → Prop} (most : Int) (hm : most ≤ 9223372036854775807) (hm2 : 0 ≤ most) (hl : bs.length ≤ 100000000) (hg : ∀ x ∈ gs, x ∉ L)
    (k : ∀ w1, RP w0 L w1 g (rdUint most bs e).2.1 (rdUint most bs e).2.2 → Fr L w w1 → w.heap.size ≤ w1.heap.size → R (.returned (.int .i64 (rdUint most bs e).1)) w1) :
    Calls Try.prog 48 #[.pointer (some ⟨g, 0, none⟩), .int .i64 most] w fun r w1 => KeepG gs w w1 ∧ R r w1 :=
  (rUint_any g most hm (by omega) bs e L w h.at' hl).mono (by
    rintro r w1 ⟨rfl, h1, f1, _⟩
    exact ⟨keepG_fr f1 hg, k w1 ⟨h1, h.fr.trans f1 (Gr.refl _ _), h.un⟩ f1 f1.size⟩)
end
end Go.Proofs.Ytecmpjccdhmeeaa
end
