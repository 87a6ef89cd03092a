import Derived.Test.YtecmpjccdhmeeaaMPRt3
import Derived.Test.YtecmpjccdhmeeaaRows
import Derived.Test.YtecmpjccdhmeeaaMPRt1
import Derived.Laws.BitsAllLaws
import Derived.Deep.Cut
import Derived.Lib.Mul64
import Derived.Laws.Bits64b
import Derived.Laws.Externs
set_option linter.unusedVariables false
section
/- Tariffs, lines and what they cost, in plain numbers. No program in sight. -/
namespace Go.Proofs.Ytecmpjccdhmeeaa
structure Tr where
  upto : Int
  price : Int
deriving DecidableEq
structure Tar where
  grp : Int
  mode : Int
  block : Int
  ts : List Tr
deriving DecidableEq
structure Pl where
  day : Int
  frm : Int
  til : Int
  base : Tar
  other : Tar
deriving DecidableEq
structure Ln where
  tier : Int
  blocks : Int
  price : Int
deriving DecidableEq
def far : Int := 1099511627776
def tiersE : Int → List Tr → Int
  | _, [] => 0
  | ahead, t :: r => if ¬ (0 ≤ t.price ∧ t.price ≤ 1048576) then 1 else if r = [] then (if t.upto ≠ 0 then 15 else 0) else if ¬ (ahead + 1 ≤ t.upto ∧ t.upto ≤ 1099511627776) then 15 else tiersE t.upto r
def chkE (t : Tar) : Int := if ¬ ((1 ≤ t.grp ∧ t.grp ≤ 8) ∧ 1 ≤ t.block ∧ t.block ≤ 1073741824) then 1 else if t.mode ≠ 1 ∧ t.mode ≠ 2 then 21 else if ¬ (1 ≤ t.ts.length ∧ t.ts.length ≤ 6) then 5 else tiersE 0 t.ts
def nothingT (t : Tar) : Prop := t.grp = 0 ∧ t.mode = 0 ∧ t.block = 0 ∧ t.ts = []
instance (t : Tar) : Decidable (nothingT t) := by unfold nothingT; infer_instance
def dayOk (p : Pl) : Prop := (2 ≤ p.day ∧ p.day ≤ 1073741824) ∧ (0 ≤ p.frm ∧ p.frm ≤ p.day - 1) ∧ (0 ≤ p.til ∧ p.til ≤ p.day - 1) ∧ p.frm ≠ p.til
instance (p : Pl) : Decidable (dayOk p) := by unfold dayOk; infer_instance
def planE (p : Pl) : Int := if chkE p.base ≠ 0 then chkE p.base else if p.day = 0 then (if p.frm = 0 ∧ p.til = 0 ∧ nothingT p.other then 0 else 2) else if ¬ dayOk p then 1 else if chkE p.other ≠ 0 then chkE p.other else if p.base.grp ≠ p.other.grp ∨ p.base.block ≠ p.other.block then 20 else 0
/-- Whether it is the other one. -/
def isOther (p : Pl) (now : Int) : Prop := p.day ≠ 0 ∧ if p.frm < p.til then p.frm ≤ Int.tmod now p.day ∧ Int.tmod now p.day < p.til else p.frm ≤ Int.tmod now p.day ∨ Int.tmod now p.day < p.til
instance (p : Pl) (now : Int) : Decidable (isOther p now) := by unfold isOther; infer_instance
def atT (p : Pl) (now : Int) : Tar := if isOther p now then p.other else p.base
/-- Tiers that are in order. -/
def Good : Int → List Tr → Prop
  | _, [] => False
  | ahead, t :: r => (0 ≤ t.price ∧ t.price ≤ 1048576) ∧ (if r = [] then t.upto = 0 else (ahead < t.upto ∧ t.upto ≤ 1099511627776) ∧ Good t.upto r)
theorem good_of : ∀ (ts : List Tr) (ahead : Int), ts ≠ [] → tiersE ahead ts = 0 → Good ahead ts
  | [], _, h, _ => absurd rfl h
  | t :: r, ahead, _, h => by
    unfold tiersE at h
    unfold Good
    split at h
    · cases h
    · rename_i h1
      have h1 := Decidable.not_not.1 h1
      by_cases hr : r = []
      · rw [if_pos hr] at h
        rw [if_pos hr]
        split at h
        · cases h
        · rename_i h2; exact ⟨h1, Decidable.not_not.1 h2⟩
      · rw [if_neg hr] at h
        rw [if_neg hr]
        split at h
        · cases h
        · rename_i h2
          have h2 := Decidable.not_not.1 h2
          exact ⟨h1, ⟨by omega, h2.2⟩, good_of r _ hr h⟩
theorem chk_ok {t : Tar} (h : chkE t = 0) : ((1 ≤ t.grp ∧ t.grp ≤ 8) ∧ 1 ≤ t.block ∧ t.block ≤ 1073741824) ∧ (t.mode = 1 ∨ t.mode = 2) ∧ (1 ≤ t.ts.length ∧ t.ts.length ≤ 6) ∧ Good 0 t.ts := by
  unfold chkE at h
  split at h
  · cases h
  · rename_i h1
    split at h
    · cases h
    · rename_i h2
      split at h
      · cases h
      · rename_i h3
        have h3 := Decidable.not_not.1 h3
        exact ⟨Decidable.not_not.1 h1, by omega, h3, good_of _ _ (fun e => by rw [e] at h3; simp at h3) h⟩
theorem plan_ok {p : Pl} (h : planE p = 0) : chkE p.base = 0 ∧ ((p.day = 0 ∧ p.frm = 0 ∧ p.til = 0 ∧ nothingT p.other) ∨ (p.day ≠ 0 ∧ dayOk p ∧ chkE p.other = 0 ∧ p.base.grp = p.other.grp ∧ p.base.block = p.other.block)) := by
  unfold planE at h
  split at h
  · rename_i h1; exact absurd h h1
  · rename_i h1
    refine ⟨Decidable.not_not.1 h1, ?_⟩
    split at h
    · rename_i h2
      split at h
      · rename_i h3; exact .inl ⟨h2, h3⟩
      · cases h
    · rename_i h2
      split at h
      · cases h
      · rename_i h3
        split at h
        · rename_i h4; exact absurd h h4
        · rename_i h4
          split at h
          · cases h
          · rename_i h5
            exact .inr ⟨h2, Decidable.not_not.1 h3, Decidable.not_not.1 h4, by omega, by omega⟩
theorem at_ok {p : Pl} (h : planE p = 0) (now : Int) : chkE (atT p now) = 0 ∧ (atT p now).block = p.base.block ∧ (atT p now).grp = p.base.grp := by
  obtain ⟨h1, h2⟩ := plan_ok h
  unfold atT
  split
  · rename_i h3
    rcases h2 with ⟨h2, _⟩ | ⟨_, _, h4, h5, h6⟩
    · exact absurd h2 h3.1
    · exact ⟨h4, h6.symm, h5.symm⟩
  · exact ⟨h1, rfl, rfl⟩
/-- In which tier a block is. -/
def idx (b : Int) : List Tr → Nat
  | [] => 0
  | t :: r => if t.upto = 0 ∨ b ≤ t.upto then 0 else idx b r + 1
theorem idx_lt (b : Int) : ∀ (ts : List Tr) (ahead : Int), Good ahead ts → idx b ts < ts.length
  | [], _, h => h.elim
  | t :: r, ahead, h => by
    unfold idx
    unfold Good at h
    split
    · simp
    · rename_i h1
      by_cases hr : r = []
      · rw [if_pos hr] at h; exact absurd (.inl h.2) h1
      · rw [if_neg hr] at h
        have := idx_lt b r _ h.2.2
        simp; omega
/-- Of each tier the blocks from lo on up to hi. -/
def splitG (k : Int) (prev : Int) : List Tr → Int → Int → List Ln
  | [], _, _ => []
  | t :: r, lo, hi => (if max lo prev < (if 0 < t.upto then min hi t.upto else hi) then [⟨k, (if 0 < t.upto then min hi t.upto else hi) - max lo prev, t.price⟩] else []) ++ splitG (k + 1) t.upto r lo hi
theorem splitG_none : ∀ (ts : List Tr) (k prev lo hi : Int), Good prev ts → hi ≤ max lo prev → splitG k prev ts lo hi = []
  | [], _, _, _, _, h, _ => h.elim
  | t :: r, k, prev, lo, hi, h, hle => by
    unfold splitG
    unfold Good at h
    rw [if_neg (by split <;> omega), List.nil_append]
    by_cases hr : r = []
    · subst hr; rfl
    · rw [if_neg hr] at h
      exact splitG_none r _ _ _ _ h.2.2 (by omega)
theorem splitG_from : ∀ (ts : List Tr) (k prev lo lo2 hi : Int), Good prev ts → max lo prev = max lo2 prev → splitG k prev ts lo hi = splitG k prev ts lo2 hi
  | [], _, _, _, _, _, h, _ => h.elim
  | t :: r, k, prev, lo, lo2, hi, h, hle => by
    unfold splitG
    unfold Good at h
    rw [hle]
    by_cases hr : r = []
    · subst hr; rfl
    · rw [if_neg hr] at h
      rw [splitG_from r _ _ lo lo2 _ h.2.2 (by omega)]
/-- What is taken of the first tier that there is. -/
def takeN (t : Tr) (lo hi : Int) : Int := if 0 < t.upto then min (hi - lo) (t.upto - lo) else hi - lo
theorem splitG_step : ∀ (ts : List Tr) (k prev lo hi : Int), Good prev ts → 0 ≤ prev → prev ≤ lo → lo < hi → ∀ t, ts[idx (lo + 1) ts]? = some t →
    splitG k prev ts lo hi = ⟨k + idx (lo + 1) ts, takeN t lo hi, t.price⟩ :: splitG k prev ts (lo + takeN t lo hi) hi ∧ 0 < takeN t lo hi ∧ takeN t lo hi ≤ hi - lo
  | [], _, _, _, _, h, _, _, _ => h.elim
  | x :: r, k, prev, lo, hi, h, h0, hlo, hlt => by
    intro t ht
    unfold Good at h
    by_cases hx : x.upto = 0 ∨ lo + 1 ≤ x.upto
    · have hi0 : idx (lo + 1) (x :: r) = 0 := by unfold idx; rw [if_pos hx]
      rw [hi0] at ht ⊢
      simp at ht
      subst ht
      have hb : 0 < takeN x lo hi ∧ takeN x lo hi ≤ hi - lo := by
        unfold takeN
        by_cases hr : r = []
        · rw [if_pos hr] at h; split <;> omega
        · rw [if_neg hr] at h; split <;> omega
      refine ⟨?_, hb⟩
      have e1 : (if 0 < x.upto then min hi x.upto else hi) = lo + takeN x lo hi := by unfold takeN; split <;> omega
      conv => lhs; unfold splitG
      conv => rhs; rhs; unfold splitG
      rw [e1, show max lo prev = lo by omega, show max (lo + takeN x lo hi) prev = lo + takeN x lo hi by omega, if_pos (by omega), if_neg (by omega)]
      simp only [List.nil_append, List.singleton_append]
      rw [show lo + takeN x lo hi - lo = takeN x lo hi by omega, show k + ((0 : Nat) : Int) = k by omega]
      congr 1
      by_cases hr : r = []
      · subst hr; rfl
      · rw [if_neg hr] at h
        by_cases hc : hi ≤ x.upto
        · rw [splitG_none _ _ _ _ _ h.2.2 (by omega), splitG_none _ _ _ _ _ h.2.2 (by omega)]
        · exact splitG_from _ _ _ _ _ _ h.2.2 (by rw [show takeN x lo hi = x.upto - lo by unfold takeN; rw [if_pos (by omega)]; omega]; omega)
    · have hr : r ≠ [] := by rintro rfl; simp at h; exact hx (.inl h.2)
      rw [if_neg hr] at h
      have hi1 : idx (lo + 1) (x :: r) = idx (lo + 1) r + 1 := by conv => lhs; unfold idx; rw [if_neg hx]
      rw [hi1] at ht ⊢
      have ht' : r[idx (lo + 1) r]? = some t := by simpa using ht
      obtain ⟨g1, g2, g3⟩ := splitG_step r (k + 1) x.upto lo hi h.2.2 (by omega) (by omega) hlt t ht'
      refine ⟨?_, g2, g3⟩
      conv => lhs; unfold splitG
      conv => rhs; rhs; unfold splitG
      rw [if_neg (by rw [if_pos (by omega)]; omega), if_neg (by rw [if_pos (by omega)]; omega), List.nil_append, List.nil_append, g1]
      congr 2
      push_cast
      omega
def blocksOf : List Ln → Int
  | [] => 0
  | l :: r => l.blocks + blocksOf r
def costOf : List Ln → Int
  | [] => 0
  | l :: r => l.blocks * l.price + costOf r
theorem blocksOf_app : ∀ (a b : List Ln), blocksOf (a ++ b) = blocksOf a + blocksOf b
  | [], b => by simp [blocksOf]
  | l :: r, b => by simp [blocksOf, blocksOf_app r b]; omega
theorem costOf_app : ∀ (a b : List Ln), costOf (a ++ b) = costOf a + costOf b
  | [], b => by simp [costOf]
  | l :: r, b => by simp [costOf, costOf_app r b]; omega
def dearT : List Tr → Int
  | [] => 0
  | t :: r => max t.price (dearT r)
theorem dearT_nn : ∀ ts, 0 ≤ dearT ts
  | [] => by simp [dearT]
  | t :: r => by have := dearT_nn r; simp only [dearT]; omega
theorem dearT_mem : ∀ (ts : List Tr) (t : Tr), t ∈ ts → t.price ≤ dearT ts
  | x :: r, t, h => by
    simp only [dearT]
    rcases List.mem_cons.1 h with rfl | h
    · omega
    · have := dearT_mem r t h; omega
theorem good_price : ∀ (ts : List Tr) (ahead : Int), Good ahead ts → ∀ t ∈ ts, (0 ≤ t.price ∧ t.price ≤ 1048576) ∧ 0 ≤ t.upto ∨ ahead < 0
  | [], _, h, _, _ => h.elim
  | x :: r, ahead, h, t, ht => by
    by_cases hn : ahead < 0
    · exact .inr hn
    · unfold Good at h
      rcases List.mem_cons.1 ht with rfl | ht
      · by_cases hr : r = []
        · rw [if_pos hr] at h; exact .inl ⟨h.1, by omega⟩
        · rw [if_neg hr] at h; exact .inl ⟨h.1, by omega⟩
      · have hr : r ≠ [] := by rintro rfl; cases ht
        rw [if_neg hr] at h
        rcases good_price r _ h.2.2 t ht with h1 | h1
        · exact .inl h1
        · omega
theorem dearT_le (ts : List Tr) (m : Int) (hm : 0 ≤ m) (h : ∀ t ∈ ts, t.price ≤ m) : dearT ts ≤ m := by
  induction ts with
  | nil => simpa [dearT] using hm
  | cons t r ih =>
    have h1 := h t (by simp)
    have h2 := ih fun t ht => h t (by simp [ht])
    simp only [dearT]; omega
/-- The blocks of a tier. -/
theorem splitG_blocks : ∀ (ts : List Tr) (k prev lo hi : Int), Good prev ts → 0 ≤ prev → blocksOf (splitG k prev ts lo hi) = max 0 (hi - max lo prev)
  | [], _, _, _, _, h, _ => h.elim
  | t :: r, k, prev, lo, hi, h, h0 => by
    unfold Good at h
    unfold splitG
    rw [blocksOf_app]
    by_cases hr : r = []
    · subst hr
      simp at h
      rw [if_neg (show ¬ 0 < t.upto by omega)]
      split
      · simp [blocksOf, splitG]; omega
      · simp [blocksOf, splitG]; omega
    · rw [if_neg hr] at h
      rw [splitG_blocks r _ _ _ _ h.2.2 (by omega), if_pos (show 0 < t.upto by omega)]
      split
      · simp [blocksOf]; omega
      · simp [blocksOf]; omega
theorem splitG_mem : ∀ (ts : List Tr) (k prev lo hi : Int) (l : Ln), Good prev ts → 0 ≤ prev → l ∈ splitG k prev ts lo hi → (0 < l.blocks ∧ l.blocks ≤ hi - max lo prev) ∧ (∃ t ∈ ts, l.price = t.price)
  | [], _, _, _, _, _, h, _, _ => h.elim
  | t :: r, k, prev, lo, hi, l, hg, h0, h => by
    unfold Good at hg
    unfold splitG at h
    rcases List.mem_append.1 h with h | h
    · by_cases hm : max lo prev < (if 0 < t.upto then min hi t.upto else hi)
      · rw [if_pos hm, List.mem_singleton] at h
        subst h
        refine ⟨⟨by dsimp only; omega, ?_⟩, t, by simp, rfl⟩
        dsimp only
        split <;> omega
      · rw [if_neg hm] at h; cases h
    · by_cases hr : r = []
      · subst hr; cases h
      · rw [if_neg hr] at hg
        obtain ⟨⟨h1, h3⟩, x, hx, h2⟩ := splitG_mem r _ _ _ _ l hg.2.2 (by omega) h
        exact ⟨⟨h1, by omega⟩, x, by simp [hx], h2⟩
theorem mul_le_mul_i {a b c d : Int} (h1 : a ≤ b) (h2 : c ≤ d) (h3 : 0 ≤ c) (h4 : 0 ≤ b) : a * c ≤ b * d :=
  Int.le_trans (Int.mul_le_mul_of_nonneg_right h1 h3) (Int.mul_le_mul_of_nonneg_left h2 h4)
theorem costOf_le (m : Int) (hm : 0 ≤ m) : ∀ (ls : List Ln), (∀ l ∈ ls, 0 ≤ l.blocks ∧ 0 ≤ l.price ∧ l.price ≤ m) → 0 ≤ costOf ls ∧ costOf ls ≤ blocksOf ls * m ∧ 0 ≤ blocksOf ls
  | [], _ => by simp [costOf, blocksOf]
  | l :: r, h => by
    obtain ⟨h1, h2, h3⟩ := h l (by simp)
    obtain ⟨i1, i2, i3⟩ := costOf_le m hm r fun x hx => h x (by simp [hx])
    simp only [costOf, blocksOf]
    have e1 := Int.mul_nonneg h1 h2
    have e2 := Int.mul_le_mul_of_nonneg_left h3 h1
    rw [Int.add_mul]
    omega
/-- What was split at mid costs as much as the whole. -/
theorem splitG_apart : ∀ (ts : List Tr) (k k1 k2 prev lo mid hi : Int), Good prev ts → lo ≤ mid → mid ≤ hi → costOf (splitG k1 prev ts lo mid) + costOf (splitG k2 prev ts mid hi) = costOf (splitG k prev ts lo hi)
  | [], _, _, _, _, _, _, _, h, _, _ => h.elim
  | t :: r, k, k1, k2, prev, lo, mid, hi, h, h1, h2 => by
    unfold Good at h
    unfold splitG
    simp only [costOf_app]
    have ih : costOf (splitG (k1 + 1) t.upto r lo mid) + costOf (splitG (k2 + 1) t.upto r mid hi) = costOf (splitG (k + 1) t.upto r lo hi) := by
      by_cases hr : r = []
      · subst hr; rfl
      · rw [if_neg hr] at h; exact splitG_apart r _ _ _ _ _ _ _ h.2.2 h1 h2
    have key : ∀ a b : Int, costOf (if a < b then [⟨k, b - a, t.price⟩] else []) = max 0 (b - a) * t.price := fun a b => by
      split
      · simp only [costOf]; rw [show max 0 (b - a) = b - a by omega]; omega
      · simp only [costOf]; rw [show max 0 (b - a) = 0 by omega]; omega
    have key1 : ∀ a b : Int, costOf (if a < b then [⟨k1, b - a, t.price⟩] else []) = max 0 (b - a) * t.price := fun a b => by
      split
      · simp only [costOf]; rw [show max 0 (b - a) = b - a by omega]; omega
      · simp only [costOf]; rw [show max 0 (b - a) = 0 by omega]; omega
    have key2 : ∀ a b : Int, costOf (if a < b then [⟨k2, b - a, t.price⟩] else []) = max 0 (b - a) * t.price := fun a b => by
      split
      · simp only [costOf]; rw [show max 0 (b - a) = b - a by omega]; omega
      · simp only [costOf]; rw [show max 0 (b - a) = 0 by omega]; omega
    rw [key, key1, key2]
    have e : max 0 ((if 0 < t.upto then min mid t.upto else mid) - max lo prev) + max 0 ((if 0 < t.upto then min hi t.upto else hi) - max mid prev) = max 0 ((if 0 < t.upto then min hi t.upto else hi) - max lo prev) := by
      split <;> omega
    rw [← e, Int.add_mul]
    omega
/-- Blocks that begun ones count as. -/
def blk (n b : Int) : Int := (n + b - 1) / b
theorem blk_le (n b c : Int) (hb : 0 < b) (hn : 0 ≤ n) : blk n b ≤ c ↔ n ≤ c * b := by
  unfold blk
  rw [← Int.lt_add_one_iff, Int.ediv_lt_iff_lt_mul hb, Int.add_mul]
  omega
theorem blk_nn (n b : Int) (hb : 0 < b) (hn : 0 ≤ n) : 0 ≤ blk n b := Int.ediv_nonneg (by omega) (by omega)
theorem blk_self (n b : Int) (hb : 0 < b) (hn : 0 ≤ n) : blk n b ≤ n := (blk_le n b n hb hn).2 (by
  have := Int.mul_le_mul_of_nonneg_left (show 1 ≤ b by omega) hn
  omega)
theorem blk_mono {n m b : Int} (hb : 0 < b) (h : n ≤ m) : blk n b ≤ blk m b := Int.ediv_le_ediv hb (by omega)
theorem blk_whole (k b : Int) (hb : 0 < b) : blk (k * b) b = k := by
  unfold blk
  rw [show k * b + b - 1 = (b - 1) + k * b by omega, Int.add_mul_ediv_right _ _ (by omega), Int.ediv_eq_zero_of_lt (by omega) (by omega)]
  omega
def dear (p : Pl) : Int := max (dearT p.base.ts) (dearT p.other.ts)
/-- How many fit. -/
def fitN (b price credit want : Int) : Int := if 0 < price then min want (credit / price * b) else want
theorem fitN_le (b price credit want n : Int) (hb : 0 < b) (hp : 0 ≤ price) (hc : 0 ≤ credit) (hn : 0 ≤ n) (hw : n ≤ want) : blk n b * price ≤ credit ↔ n ≤ fitN b price credit want := by
  unfold fitN
  split
  · rename_i h
    rw [← Int.le_ediv_iff_mul_le h, blk_le n b _ hb hn]
    omega
  · rename_i h
    rw [show price = 0 by omega]
    omega
theorem fitN_nn (b price credit want : Int) (hb : 0 < b) (hc : 0 ≤ credit) (hw : 0 ≤ want) : 0 ≤ fitN b price credit want ∧ fitN b price credit want ≤ want := by
  unfold fitN
  split
  · rename_i h
    have := Int.mul_nonneg (Int.ediv_nonneg hc (Int.le_of_lt h)) (Int.le_of_lt hb)
    omega
  · omega
theorem good_far : ∀ (ts : List Tr) (ahead : Int), Good ahead ts → ∀ t ∈ ts, t.upto ≤ 1099511627776 ∨ t.upto = 0
  | [], _, h, _, _ => h.elim
  | x :: r, ahead, h, t, ht => by
    unfold Good at h
    rcases List.mem_cons.1 ht with rfl | ht
    · by_cases hr : r = []
      · rw [if_pos hr] at h; exact .inr h.2
      · rw [if_neg hr] at h; exact .inl h.2.1.2
    · have hr : r ≠ [] := by rintro rfl; cases ht
      rw [if_neg hr] at h
      exact good_far r _ h.2.2 t ht
def priceAt (ts : List Tr) (i : Nat) : Int := match ts[i]? with | some t => t.price | none => 0
/-- The lines of so many blocks behind a position. -/
def splitL (t : Tar) (pos n : Int) : List Ln := if t.mode = 2 ∧ 0 < n then [⟨idx (pos + n) t.ts, n, priceAt t.ts (idx (pos + n) t.ts)⟩] else splitG 0 0 t.ts pos (pos + n)
def posOk (pos : Int) : Prop := 0 ≤ pos ∧ pos ≤ 1099511627776
instance (pos : Int) : Decidable (posOk pos) := by unfold posOk; infer_instance
def splitO (t : Tar) (pos n : Int) : List Ln := if posOk pos then splitL t pos n else []
theorem splitG_len : ∀ (ts : List Tr) (k prev lo hi : Int), (splitG k prev ts lo hi).length ≤ ts.length
  | [], _, _, _, _ => by simp [splitG]
  | t :: r, k, prev, lo, hi => by
    have := splitG_len r (k + 1) t.upto lo hi
    unfold splitG
    have one : ∀ (b : Prop) [Decidable b] (l : Ln), (if b then [l] else []).length ≤ 1 := fun b _ l => by split <;> simp
    rw [List.length_append, List.length_cons]
    exact Nat.le_trans (Nat.add_le_add (one _ _) this) (by omega)
theorem good0_price {ts : List Tr} (h : Good 0 ts) : ∀ t ∈ ts, (0 ≤ t.price ∧ t.price ≤ 1048576) ∧ 0 ≤ t.upto := fun t ht => (good_price ts 0 h t ht).elim id fun k => by omega
theorem splitL_ok {t : Tar} (h : chkE t = 0) {pos n : Int} (hp : 0 ≤ pos) (hn : 0 ≤ n) :
    (∀ l ∈ splitL t pos n, (0 < l.blocks ∧ l.blocks ≤ n) ∧ (0 ≤ l.price ∧ l.price ≤ 1048576) ∧ l.price ≤ dearT t.ts) ∧ blocksOf (splitL t pos n) = n ∧ (splitL t pos n).length ≤ 6 := by
  obtain ⟨_, _, hl, hg⟩ := chk_ok h
  unfold splitL
  split
  · rename_i hm
    have hi := idx_lt (pos + n) t.ts 0 hg
    have hx := List.getElem?_eq_getElem hi
    refine ⟨fun l hl => ?_, by simp [blocksOf], by simp⟩
    rw [List.mem_singleton] at hl
    subst hl
    have hmem := List.getElem_mem hi
    have he : priceAt t.ts (idx (pos + n) t.ts) = (t.ts[idx (pos + n) t.ts]'hi).price := by unfold priceAt; rw [hx]
    refine ⟨⟨hm.2, Int.le_refl _⟩, ?_, ?_⟩
    · show 0 ≤ priceAt _ _ ∧ priceAt _ _ ≤ _
      rw [he]; exact (good0_price hg _ hmem).1
    · show priceAt _ _ ≤ _
      rw [he]; exact dearT_mem _ _ hmem
  · refine ⟨fun l hl => ?_, ?_, Nat.le_trans (splitG_len _ _ _ _ _) hl.2⟩
    · obtain ⟨⟨h1, h2⟩, x, hx, h3⟩ := splitG_mem t.ts 0 0 pos (pos + n) l hg (by omega) hl
      have := good0_price hg x hx
      refine ⟨⟨h1, by omega⟩, by omega, ?_⟩
      rw [h3]; exact dearT_mem _ _ hx
    · rw [splitG_blocks _ _ _ _ _ hg (by omega)]; omega
theorem splitL_cost {t : Tar} (h : chkE t = 0) {pos n : Int} (hp : 0 ≤ pos) (hn : 0 ≤ n) : 0 ≤ costOf (splitL t pos n) ∧ costOf (splitL t pos n) ≤ n * dearT t.ts := by
  obtain ⟨h1, h2, h3⟩ := splitL_ok h hp hn
  have := costOf_le (dearT t.ts) (dearT_nn _) (splitL t pos n) fun l hl => ⟨by have := (h1 l hl).1; omega, (h1 l hl).2.1.1, (h1 l hl).2.2⟩
  rw [h2] at this
  exact ⟨this.1, this.2.1⟩
theorem dear_small {t : Tar} (h : chkE t = 0) : 0 ≤ dearT t.ts ∧ dearT t.ts ≤ 1048576 := ⟨dearT_nn _, dearT_le _ _ (by omega) fun x hx => (good0_price (chk_ok h).2.2.2 x hx).1.2⟩
structure Rtd where
  ls : List Ln
  blocks : Int
  cost : Int
  pos : Int
def rateE (p : Pl) (now pos n : Int) : Int := if planE p ≠ 0 ∨ now < 0 ∨ ¬ (0 ≤ n ∧ n ≤ 1073741824) ∨ ¬ posOk pos then 1 else 0
def rateR (p : Pl) (now pos n : Int) : Rtd := if rateE p now pos n = 0 then ⟨splitL (atT p now) pos (blk n p.base.block), blk n p.base.block, costOf (splitL (atT p now) pos (blk n p.base.block)), pos + blk n p.base.block⟩ else ⟨[], 0, 0, 0⟩
theorem rateE_ok {p : Pl} {now pos n : Int} (h : rateE p now pos n = 0) : planE p = 0 ∧ 0 ≤ now ∧ (0 ≤ n ∧ n ≤ 1073741824) ∧ posOk pos := by
  unfold rateE at h
  split at h
  · cases h
  · rename_i h1
    refine ⟨Decidable.not_not.1 fun k => h1 (.inl k), by omega, by omega, Decidable.not_not.1 fun k => h1 (.inr (.inr (.inr k)))⟩
theorem rateE_01 (p : Pl) (now pos n : Int) : rateE p now pos n = 0 ∨ rateE p now pos n = 1 := by unfold rateE; split <;> simp
def worstE (p : Pl) (n : Int) : Int := if planE p ≠ 0 ∨ ¬ (0 ≤ n ∧ n ≤ 1073741824) then 1 else 0
def worstN (p : Pl) (n : Int) : Int := if worstE p n = 0 then blk n p.base.block * dear p else 0
def fitE (p : Pl) (credit want : Int) : Int := if planE p ≠ 0 ∨ ¬ (0 ≤ want ∧ want ≤ 1073741824) ∨ credit < 0 then 1 else 0
def fitU (p : Pl) (credit want : Int) : Int := if fitE p credit want = 0 then fitN p.base.block (dear p) credit want else 0
def fitC (p : Pl) (credit want : Int) : Int := if fitE p credit want = 0 then blk (fitU p credit want) p.base.block * dear p else 0
theorem dear_plan {p : Pl} (h : planE p = 0) : 0 ≤ dear p ∧ dear p ≤ 1048576 := by
  obtain ⟨h1, h2⟩ := plan_ok h
  have a := dear_small h1
  unfold dear
  rcases h2 with ⟨_, _, _, h3⟩ | ⟨_, _, h3, _⟩
  · rw [h3.2.2.2]; simp only [dearT]; omega
  · have b := dear_small h3; omega
theorem worst_small {p : Pl} (h : planE p = 0) {n : Int} (hn : 0 ≤ n ∧ n ≤ 1073741824) : 0 ≤ blk n p.base.block * dear p ∧ blk n p.base.block * dear p ≤ 1125899906842624 := by
  have hb := (chk_ok (plan_ok h).1).1.2
  have h1 := dear_plan h
  have h2 := blk_nn n p.base.block (by omega) hn.1
  have h3 := blk_self n p.base.block (by omega) hn.1
  exact ⟨Int.mul_nonneg h2 h1.1, mul_le_mul_i (show blk n p.base.block ≤ 1073741824 by omega) h1.2 h1.1 (by omega)⟩
end Go.Proofs.Ytecmpjccdhmeeaa
end
section
/- Tariffs and plans: are they ones; which is it; the dearest; walked. -/
namespace Go.Proofs.Ytecmpjccdhmeeaa
open Go.RowKit
def trCells (t : Tr) : List Value := [.int .i64 t.upto, .int .i64 t.price]
theorem tr_len (t : Tr) : (trCells t).length = 2 := rfl
theorem tr_one (t : Tr) : ∀ v ∈ trCells t, v.oneCell' = true := by
  intro v hv
  simp [trCells] at hv
  rcases hv with rfl | rfl <;> rfl
abbrev TsAt (n0 : Nat) (w : World) (a : Option Addr) (ts : List Tr) : Prop := Rws trCells 2 n0 w a ts
def tarV (t : Tar) (a : Option Addr) (c : Nat) : Value := .agg #[.int .i64 t.grp, .int .i64 t.mode, .int .i64 t.block, .slice a t.ts.length c]
def planV (p : Pl) (a : Option Addr) (c : Nat) (a2 : Option Addr) (c2 : Nat) : Value :=
  .agg #[.int .i64 p.day, .int .i64 p.frm, .int .i64 p.til, .int .i64 p.base.grp, .int .i64 p.base.mode, .int .i64 p.base.block, .slice a p.base.ts.length c, .int .i64 p.other.grp, .int .i64 p.other.mode, .int .i64 p.other.block, .slice a2 p.other.ts.length c2]
/-- A plan's tiers lie in memory, not too many. -/
structure PlAt (w : World) (p : Pl) (a a2 : Option Addr) : Prop where
  base : TsAt 0 w a p.base.ts
  other : TsAt 0 w a2 p.other.ts
  lb : p.base.ts.length ≤ 1000
  lo : p.other.ts.length ≤ 1000
theorem PlAt.to {w w' : World} {p : Pl} {a a2 : Option Addr} (h : PlAt w p a a2) (b : Below w.heap.size w w') : PlAt w' p a a2 := ⟨h.base.below b, h.other.below b, h.lb, h.lo⟩
theorem within_ret (x lo hi : Int) (w : World) : Calls Try.prog 60 #[.int .i64 x, .int .i64 lo, .int .i64 hi] w (Ret (.bool (decide (lo ≤ x ∧ x ≤ hi))) w) := by
  refine ret_in (GTar.within_calls x lo hi w (fun u w' => u = .bool (decide (lo ≤ x ∧ x ≤ hi)) ∧ Below w.heap.size w w') ?_)
  unfold GTar.within_vc
  refine br_dec (fun h => ⟨?_, Bs.refl _⟩) fun h => ⟨?_, Bs.refl _⟩
  · congr 1; exact decide_eq_decide.2 (by omega)
  · congr 1; exact (decide_eq_false (by omega)).symm
theorem tiersE_cons (ahead : Int) (t : Tr) (r : List Tr) : tiersE ahead (t :: r) = if ¬ (0 ≤ t.price ∧ t.price ≤ 1048576) then 1 else if r = [] then (if t.upto ≠ 0 then 15 else 0) else if ¬ (ahead + 1 ≤ t.upto ∧ t.upto ≤ 1099511627776) then 15 else tiersE t.upto r := rfl
theorem tiers_ret (a : Option Addr) (c : Nat) (ts : List Tr) (w : World) (h : TsAt 0 w a ts) (hl : ts.length ≤ 1000) : Calls Try.prog 85 #[.slice a ts.length c] w (Ret (.int .i64 (tiersE 0 ts)) w) := by
  refine ret_in (GTar.tiers_calls a ts.length c w (fun u w' => u = .int .i64 (tiersE 0 ts) ∧ Below w.heap.size w w') ?_)
  unfold GTar.tiers_vc
  refine ⟨fun x y wx => ∃ i : Nat, y = i ∧ i ≤ ts.length ∧ tiersE 0 ts = tiersE x (ts.drop i) ∧ 0 ≤ x ∧ x ≤ 1099511627776 ∧ Bs w wx, fun _ y _ => ts.length - y.toNat, ⟨0, rfl, by omega, by simp, by omega, by omega, Bs.refl _⟩, ?_⟩
  rintro x y wx ⟨i, rfl, hi, he, hx0, hx1, B⟩
  refine br_dec (fun hlt => ?_) fun hge => ?_
  · have hil : i < ts.length := by omega
    obtain ⟨b, off, rfl, hc⟩ := (h.below B).get hil
    have hlast : (ts.drop (i + 1) = []) ↔ i = ts.length - 1 := by rw [List.drop_eq_nil_iff]; omega
    rw [List.drop_eq_getElem_cons hil, tiersE_cons] at he
    refine ⟨by omega, by omega, ts[i].upto, ts[i].price, by rw [Int.toNat_natCast]; exact hc, newB B fun g w3 g0 sg n3 z3 b3 B3 => boxB B3 g0 fun w4 h4 B4 z4 => callB B4 (within_ret _ _ _ _) fun w5 b5 B5 => ⟨_, rfl, ?_⟩⟩
    refine br_not (br_dec (fun hp => ?_) fun hp => ⟨by rw [he, if_pos hp], B5⟩)
    rw [if_neg (not_not_intro hp)] at he
    rw [wr64 (show -9223372036854775808 ≤ ((ts.length : Nat) : Int) - 1 by omega) (by omega), wr64 (show -9223372036854775808 ≤ ((i : Nat) : Int) + 1 by omega) (by omega), wr64 (show -9223372036854775808 ≤ x + 1 by omega) (by omega)]
    have next : ∀ wy, Bs w wy → 0 ≤ ts[i].upto → ts[i].upto ≤ 1099511627776 → tiersE 0 ts = tiersE ts[i].upto (ts.drop (i + 1)) → (∃ j : Nat, ((i : Nat) : Int) + 1 = j ∧ j ≤ ts.length ∧ tiersE 0 ts = tiersE ts[i].upto (ts.drop j) ∧ 0 ≤ ts[i].upto ∧ ts[i].upto ≤ 1099511627776 ∧ Bs w wy) ∧ ts.length - (((i : Nat) : Int) + 1).toNat < ts.length - ((i : Nat) : Int).toNat :=
      fun wy By h0 h1 h2 => ⟨⟨i + 1, by omega, by omega, h2, h0, h1, By⟩, by omega⟩
    by_cases hla : i = ts.length - 1
    · rw [if_pos (hlast.2 hla)] at he
      refine br_y (by omega) (br_dec (fun hu => ⟨by rw [he, if_pos hu], B5⟩) fun hu => br_f (by simp; omega) ?_)
      have hu := Decidable.not_not.1 hu
      exact next w5 B5 (by omega) (by omega) (by rw [he, if_neg (not_not_intro hu), hlast.2 hla]; rfl)
    · rw [if_neg (fun h => hla (hlast.1 h))] at he
      refine br_n (by omega) (br_t (by simp; omega) (callB B5 (within_ret _ _ _ _) fun w6 b6 B6 => ⟨_, rfl, br_not (br_dec (fun hu => ?_) fun hu => ⟨by rw [he, if_pos hu], B6⟩)⟩))
      exact next w6 B6 (by omega) (by omega) (by rw [he, if_neg (not_not_intro hu)])
  · obtain rfl : i = ts.length := by omega
    refine ⟨?_, B⟩
    rw [he, List.drop_length]; rfl
theorem check_ret (t : Tar) (a : Option Addr) (c : Nat) (w : World) (h : TsAt 0 w a t.ts) (hl : t.ts.length ≤ 1000) : Calls Try.prog 58 #[tarV t a c] w (Ret (.int .i64 (chkE t)) w) := by
  refine ret_in (GTar.check_calls t.grp t.mode t.block a t.ts.length c w (fun u w' => u = .int .i64 (chkE t) ∧ Below w.heap.size w w') ?_)
  unfold GTar.check_vc chkE
  refine newB (Bs.refl w) fun g w2 g0 sg n2 z2 b2 B2 => callB B2 (within_ret _ _ _ _) fun w3 b3 B3 => ⟨_, rfl, br_not (br_dec (fun h1 => ?_) fun h1 => ⟨by rw [if_pos (by omega)], B3⟩)⟩
  refine callB B3 (within_ret _ _ _ _) fun w4 b4 B4 => ⟨_, rfl, br_not (br_dec (fun h2 => ?_) fun h2 => ⟨by rw [if_pos (by omega)], B4⟩)⟩
  rw [if_neg (by omega)]
  have rest : ∀ w4, Bs w w4 → ¬ (t.mode ≠ 1 ∧ t.mode ≠ 2) → Calls Try.prog 60 #[.int .i64 ((t.ts.length : Nat) : Int), .int .i64 1, .int .i64 6] w4 fun e w5 => KeepG [g] w4 w5 ∧ ∃ b : Bool, e = .returned (.bool b) ∧ br (!b) (Value.int .i64 5 = .int .i64 (if t.mode ≠ 1 ∧ t.mode ≠ 2 then 21 else if ¬ (1 ≤ t.ts.length ∧ t.ts.length ≤ 6) then 5 else tiersE 0 t.ts) ∧ Below w.heap.size w w5)
      (Calls Try.prog 85 #[.slice a t.ts.length c] w5 fun e w6 => KeepG [g] w5 w6 ∧ ∃ x : Int, e = .returned (.int .i64 x) ∧ (Value.int .i64 x = .int .i64 (if t.mode ≠ 1 ∧ t.mode ≠ 2 then 21 else if ¬ (1 ≤ t.ts.length ∧ t.ts.length ≤ 6) then 5 else tiersE 0 t.ts) ∧ Below w.heap.size w w6)) := by
    intro w4 B4 hm
    refine callB B4 (within_ret _ _ _ _) fun w5 b5 B5 => ⟨_, rfl, br_not (br_dec (fun h3 => ?_) fun h3 => ⟨by rw [if_neg hm, if_pos (by omega)], B5⟩)⟩
    exact callB B5 (tiers_ret a c t.ts w5 (h.below B5) hl) fun w6 b6 B6 => ⟨_, rfl, by rw [if_neg hm, if_neg (by omega)], B6⟩
  refine br_dec (fun h3 => br_dec (fun h4 => ⟨by rw [if_pos ⟨h3, h4⟩], B4⟩) fun h4 => rest w4 B4 (by omega)) fun h3 => rest w4 B4 (by omega)
theorem nothing_ret (t : Tar) (a : Option Addr) (c : Nat) (w : World) : Calls Try.prog 59 #[tarV t a c] w (Ret (.bool (decide (nothingT t))) w) := by
  refine ret_in (GTar.nothing_calls t.grp t.mode t.block a t.ts.length c w (fun u w' => u = .bool (decide (nothingT t)) ∧ Below w.heap.size w w') ?_)
  unfold GTar.nothing_vc nothingT
  refine newB (Bs.refl w) fun g w2 g0 sg n2 z2 b2 B2 => br_dec (fun h1 => br_dec (fun h2 => br_dec (fun h3 => ⟨?_, B2⟩) fun h => ⟨?_, B2⟩) fun h => ⟨?_, B2⟩) fun h => ⟨?_, B2⟩
  · congr 1
    exact decide_eq_decide.2 ⟨fun h => ⟨h1, h2, h3, List.length_eq_zero_iff.1 (by omega)⟩, fun h => by rw [h.2.2.2]; rfl⟩
  · congr 1; exact (decide_eq_false fun k => h k.2.2.1).symm
  · congr 1; exact (decide_eq_false fun k => h k.2.1).symm
  · congr 1; exact (decide_eq_false fun k => h k.1).symm
theorem cplan_ret (p : Pl) (a a2 : Option Addr) (c c2 : Nat) (w : World) (h : PlAt w p a a2) (hd : -9223372036854775808 ≤ p.day) (hd2 : p.day ≤ 9223372036854775807) : Calls Try.prog 22 #[planV p a c a2 c2] w (Ret (.int .i64 (planE p)) w) := by
  refine ret_in (GTar.cplan_calls p.day p.frm p.til p.base.grp p.base.mode p.base.block a p.base.ts.length c p.other.grp p.other.mode p.other.block a2 p.other.ts.length c2 w (fun u w' => u = .int .i64 (planE p) ∧ Below w.heap.size w w') ?_)
  unfold GTar.cplan_vc planE
  refine newB (Bs.refl w) fun g w2 g0 sg n2 z2 b2 B2 => callB B2 (check_ret p.base a c w2 (h.base.below B2) h.lb) fun w3 b3 B3 => ⟨_, rfl, br_dec (fun h1 => ⟨by rw [if_pos h1], B3⟩) fun h1 => ?_⟩
  rw [if_neg h1]
  refine br_dec (fun h0 => ?_) fun h0 => ?_
  · rw [if_pos h0]
    refine br_dec (fun h2 => ⟨by rw [if_neg (fun k => h2 k.1)], B3⟩) fun h2 => br_dec (fun h3 => ⟨by rw [if_neg (fun k => h3 k.2.1)], B3⟩) fun h3 => callB B3 (nothing_ret p.other a2 c2 w3) fun w4 b4 B4 => ⟨_, rfl, br_not (br_dec (fun h4 => ⟨?_, B4⟩) fun h4 => ⟨by rw [if_neg (fun k => h4 k.2.2)], B4⟩)⟩
    rw [if_pos ⟨Decidable.not_not.1 h2, Decidable.not_not.1 h3, h4⟩]
  · rw [if_neg h0]
    have no : ∀ {q : Prop}, ¬ q → (dayOk p → q) → ∀ z : Int, (1 : Int) = if ¬ dayOk p then 1 else z := fun hq hk z => by rw [if_pos fun k => hq (hk k)]
    refine callB B3 (within_ret _ _ _ _) fun w4 b4 B4 => ⟨_, rfl, br_not (br_dec (fun h2 => ?_) fun h2 => ⟨by rw [← no h2 fun k => k.1], B4⟩)⟩
    rw [wr64 (show -9223372036854775808 ≤ p.day - 1 by omega) (by omega)]
    refine callB B4 (within_ret _ _ _ _) fun w5 b5 B5 => ⟨_, rfl, br_not (br_dec (fun h3 => ?_) fun h3 => ⟨by rw [← no h3 fun k => k.2.1], B5⟩)⟩
    refine callB B5 (within_ret _ _ _ _) fun w6 b6 B6 => ⟨_, rfl, br_not (br_dec (fun h4 => ?_) fun h4 => ⟨by rw [← no h4 fun k => k.2.2.1], B6⟩)⟩
    refine br_dec (fun h5 => ⟨by rw [← no (not_not_intro h5) fun k => k.2.2.2], B6⟩) fun h5 => ?_
    rw [if_neg (not_not_intro (show dayOk p from ⟨h2, h3, h4, h5⟩))]
    refine callB B6 (check_ret p.other a2 c2 w6 (h.other.below B6) h.lo) fun w7 b7 B7 => ⟨_, rfl, br_dec (fun h6 => ⟨by rw [if_pos h6], B7⟩) fun h6 => ?_⟩
    rw [if_neg h6]
    exact br_dec (fun h7 => ⟨by rw [if_pos (.inl h7)], B7⟩) fun h7 => br_dec (fun h8 => ⟨by rw [if_pos (.inr h8)], B7⟩) fun h8 => ⟨by rw [if_neg (by omega)], B7⟩
theorem isOther_day {p : Pl} {now : Int} (h : p.day ≠ 0) : isOther p now ↔ if p.frm < p.til then p.frm ≤ Int.tmod now p.day ∧ Int.tmod now p.day < p.til else p.frm ≤ Int.tmod now p.day ∨ Int.tmod now p.day < p.til := ⟨fun k => k.2, fun k => ⟨h, k⟩⟩
theorem other_ret (p : Pl) (a a2 : Option Addr) (c c2 : Nat) (now : Int) (w : World) : Calls Try.prog 78 #[planV p a c a2 c2, .int .i64 now] w (Ret (.bool (decide (isOther p now))) w) := by
  refine ret_in (GTar.other_calls p.day p.frm p.til p.base.grp p.base.mode p.base.block a p.base.ts.length c p.other.grp p.other.mode p.other.block a2 p.other.ts.length c2 now w (fun u w' => u = .bool (decide (isOther p now)) ∧ Below w.heap.size w w') ?_)
  unfold GTar.other_vc
  refine newB (Bs.refl w) fun g w2 g0 sg n2 z2 b2 B2 => br_dec (fun h0 => ⟨by rw [decide_eq_false fun k => k.1 h0], B2⟩) fun h0 => ⟨h0, drewB B2 fun w3 b3 B3 _ => ?_⟩
  refine br_dec (fun h1 => br_dec (fun h2 => ⟨?_, B3⟩) fun h2 => ⟨?_, B3⟩) fun h1 => br_dec (fun h2 => ⟨?_, B3⟩) fun h2 => ⟨?_, B3⟩
  · congr 1; exact decide_eq_decide.2 (by rw [isOther_day h0, if_pos h1]; omega)
  · congr 1; exact (decide_eq_false (by rw [isOther_day h0, if_pos h1]; omega)).symm
  · congr 1; exact (decide_eq_true (by rw [isOther_day h0, if_neg h1]; omega)).symm
  · congr 1; exact decide_eq_decide.2 (by rw [isOther_day h0, if_neg h1]; omega)
theorem clone_new (a : Option Addr) (c : Nat) (ts : List Tr) (w : World) (h : TsAt 0 w a ts) (hl : ts.length ≤ 1000) :
    Calls Try.prog 96 #[.slice a ts.length c] w fun e w' => (∃ a' c', e = .returned (.slice a' ts.length c') ∧ TsAt w.heap.size w' a' ts) ∧ Below w.heap.size w w' := by
  refine (GTar.clone_calls a ts.length c w (fun u w' => (∃ a' c', u = .slice a' ts.length c' ∧ TsAt w.heap.size w' a' ts) ∧ Below w.heap.size w w') ?_).mono (by rintro e w' ⟨v, rfl, ⟨a', c', rfl, h⟩, h2⟩; exact ⟨⟨a', c', rfl, h⟩, h2⟩)
  unfold GTar.clone_vc
  cases a with
  | none =>
    have h0 : ts = [] := by
      rcases h with h | ⟨b, off, ha, _⟩
      · exact h
      · cases ha
    subst h0
    exact br_t rfl ⟨⟨none, 0, rfl, Rws.nil⟩, Bs.refl _⟩
  | some ad =>
    refine br_f rfl (newB (Bs.refl w) fun g w2 g0 sg n2 z2 b2 B2 => ?_)
    have o2 : Own w2 w.heap.size 120 2 (.slice (some ⟨g, 0, none⟩) 0 0) 0 [] := (own_empty 2 n2).base_le fun k hk => by simp [Value.ownBlock] at hk; omega
    refine appB B2 o2 (Nat.le_refl _) B2.size ((h.below B2).src (c := c) Try.underlying22 (by decide) tr_len tr_one) (by unfold maxLen; omega) (by omega) (by simp) fun a' c' w3 o3 g3 B3 z3 => ?_
    rw [Nat.zero_add, List.nil_append] at o3
    rw [Nat.zero_add]
    exact ⟨⟨a', c', rfl, Rws.ofOwn (by decide) tr_len o3⟩, B3⟩
theorem copy_new (t : Tar) (a : Option Addr) (c : Nat) (w : World) (h : TsAt 0 w a t.ts) (hl : t.ts.length ≤ 1000) :
    Calls Try.prog 79 #[tarV t a c] w fun e w' => (∃ a' c', e = .returned (tarV t a' c') ∧ TsAt w.heap.size w' a' t.ts) ∧ Below w.heap.size w w' := by
  refine (GTar.copy_calls t.grp t.mode t.block a t.ts.length c w (fun u w' => (∃ a' c', u = tarV t a' c' ∧ TsAt w.heap.size w' a' t.ts) ∧ Below w.heap.size w w') ?_).mono (by rintro e w' ⟨v, rfl, ⟨a', c', rfl, h⟩, h2⟩; exact ⟨⟨a', c', rfl, h⟩, h2⟩)
  unfold GTar.copy_vc
  refine newB (Bs.refl w) fun g w2 g0 sg n2 z2 b2 B2 => newB B2 fun g' w3 g0' sg' n3 z3 b3 B3 => callQ B3 (clone_new a c t.ts w3 (h.below B3) hl) ?_
  rintro e w4 ⟨a4, c4, rfl, h4⟩ b4 B4
  refine ⟨_, _, _, rfl, boxB B4 g0 fun w5 h5 B5 z5 => boxB B5 g0' fun w6 h6 B6 z6 => ⟨⟨a4, c4, rfl, ?_⟩, B6⟩⟩
  exact ((h4.box h5 (by omega)).box h6 (by omega)).low (by omega)
theorem at_new (p : Pl) (a a2 : Option Addr) (c c2 : Nat) (now : Int) (w : World) (h : PlAt w p a a2) (hd : -9223372036854775808 ≤ p.day) (hd2 : p.day ≤ 9223372036854775807) (hn : 0 ≤ now) (hp : planE p = 0) :
    Calls Try.prog 45 #[planV p a c a2 c2, .int .i64 now] w fun e w' => (∃ a' c', e = .returned (.tuple #[tarV (atT p now) a' c', .bool (decide (isOther p now))]) ∧ TsAt w.heap.size w' a' (atT p now).ts) ∧ Below w.heap.size w w' := by
  refine (GTar.at_calls p.day p.frm p.til p.base.grp p.base.mode p.base.block a p.base.ts.length c p.other.grp p.other.mode p.other.block a2 p.other.ts.length c2 now w (fun u w' => (∃ a' c', u = .tuple #[tarV (atT p now) a' c', .bool (decide (isOther p now))] ∧ TsAt w.heap.size w' a' (atT p now).ts) ∧ Below w.heap.size w w') ?_).mono (by rintro e w' ⟨v, rfl, ⟨a', c', rfl, h⟩, h2⟩; exact ⟨⟨a', c', rfl, h⟩, h2⟩)
  unfold GTar.at_vc atT
  refine newB (Bs.refl w) fun g w2 g0 sg n2 z2 b2 B2 => newB B2 fun g' w3 g0' sg' n3 z3 b3 B3 => br_n (by omega) (callB B3 (cplan_ret p a a2 c c2 w3 (h.to B3) hd hd2) fun w5 b5 B5 => ⟨_, rfl, br_n (by omega) (callB B5 (other_ret p a a2 c c2 now w5) fun w7 b7 B7 => ⟨_, rfl, br_dec (fun ho => ?_) fun ho => ?_⟩)⟩)
  · rw [if_pos ho]
    have b5s := b5.size
    have b7s := b7.size
    refine callQ B7 (copy_new p.other a2 c2 w7 (h.other.below B7) h.lo) ?_
    rintro e w8 ⟨a8, c8, rfl, h8⟩ b8 B8
    exact ⟨_, _, _, _, _, _, rfl, boxB B8 g0' fun w9 h9 B9 z9 => ⟨⟨a8, c8, by rw [decide_eq_true ho]; rfl, (h8.box h9 (by omega)).low (by omega)⟩, B9⟩⟩
  · rw [if_neg ho]
    have b5s := b5.size
    have b7s := b7.size
    refine callQ B7 (copy_new p.base a c w7 (h.base.below B7) h.lb) ?_
    rintro e w8 ⟨a8, c8, rfl, h8⟩ b8 B8
    exact ⟨_, _, _, _, _, _, rfl, boxB B8 g0' fun w9 h9 B9 z9 => ⟨⟨a8, c8, by rw [decide_eq_false ho]; rfl, (h8.box h9 (by omega)).low (by omega)⟩, B9⟩⟩
theorem dearest_ret (t : Tar) (a : Option Addr) (c : Nat) (w : World) (h : TsAt 0 w a t.ts) (hl : t.ts.length ≤ 1000) : Calls Try.prog 46 #[tarV t a c] w (Ret (.int .i64 (dearT t.ts)) w) := by
  refine ret_in (GTar.dearest_calls t.grp t.mode t.block a t.ts.length c w (fun u w' => u = .int .i64 (dearT t.ts) ∧ Below w.heap.size w w') ?_)
  unfold GTar.dearest_vc
  have nn := dearT_nn t.ts
  refine newB (Bs.refl w) fun g w2 g0 sg n2 z2 b2 B2 => ⟨fun x y wx => ∃ i : Nat, y = i ∧ i ≤ t.ts.length ∧ dearT t.ts = max x (dearT (t.ts.drop i)) ∧ 0 ≤ x ∧ Bs w wx, fun _ y _ => t.ts.length - y.toNat, ⟨0, rfl, by omega, by simp; omega, by omega, B2⟩, ?_⟩
  rintro x y wx ⟨i, rfl, hi, he, hx, B⟩
  refine br_dec (fun hlt => ?_) fun hge => ?_
  · have hil : i < t.ts.length := by omega
    obtain ⟨b, off, rfl, hc⟩ := (h.below B).get hil
    rw [List.drop_eq_getElem_cons hil, dearT] at he
    refine ⟨by omega, by omega, t.ts[i].upto, t.ts[i].price, by rw [Int.toNat_natCast]; exact hc, newB B fun g' w4 g0' sg' n4 z4 b4 B4 => boxB B4 g0' fun w5 h5 B5 z5 => ?_⟩
    rw [wr64 (by omega) (by omega)]
    exact ⟨⟨i + 1, by omega, by omega, by omega, by omega, B5⟩, by dsimp only; omega⟩
  · obtain rfl : i = t.ts.length := by omega
    refine ⟨?_, B⟩
    rw [List.drop_length] at he
    congr 1
    simp only [dearT] at he
    omega
end Go.Proofs.Ytecmpjccdhmeeaa
end
section
/- Numbers in ten parts of 32 bits: what one part of a sum, a difference, a product is. No program in sight. -/
namespace Go.Proofs.Ytecmpjccdhmeeaa
open Go.RowKit
def limb (n i : Nat) : Nat := n / 2 ^ (32 * i) % 4294967296
def uV (n : Nat) : Value := .int .u64 n
def arr (f : Nat → Nat) (neg : Bool) : Array Value := #[uV (f 0), uV (f 1), uV (f 2), uV (f 3), uV (f 4), uV (f 5), uV (f 6), uV (f 7), uV (f 8), uV (f 9), .bool neg]
def bigM (n : Nat) (neg : Bool) : Value := .agg (arr (limb n) neg)
def bigOf (z : Int) : Value := bigM z.natAbs (decide (z < 0))
theorem limb_lt (n i : Nat) : limb n i < 4294967296 := Nat.mod_lt _ (by omega)
theorem cases10 {P : Nat → Prop} (h0 : P 0) (h1 : P 1) (h2 : P 2) (h3 : P 3) (h4 : P 4) (h5 : P 5) (h6 : P 6) (h7 : P 7) (h8 : P 8) (h9 : P 9) : ∀ i, i < 10 → P i := by
  intro i hi
  match i, hi with
  | 0, _ => exact h0
  | 1, _ => exact h1
  | 2, _ => exact h2
  | 3, _ => exact h3
  | 4, _ => exact h4
  | 5, _ => exact h5
  | 6, _ => exact h6
  | 7, _ => exact h7
  | 8, _ => exact h8
  | 9, _ => exact h9
  | n + 10, h => omega
theorem arr_get (f : Nat → Nat) (neg : Bool) : ∀ i, i < 10 → (arr f neg)[i]? = some (.int .u64 (f i)) := cases10 rfl rfl rfl rfl rfl rfl rfl rfl rfl rfl
theorem arr_neg (f : Nat → Nat) (neg : Bool) : (arr f neg)[10]? = some (.bool neg) := rfl
theorem arr_size (f : Nat → Nat) (neg : Bool) : (arr f neg).size = 11 := rfl
theorem arr_congr {f g : Nat → Nat} (neg : Bool) (h : ∀ i, i < 10 → f i = g i) : arr f neg = arr g neg := by
  unfold arr
  rw [h 0 (by omega), h 1 (by omega), h 2 (by omega), h 3 (by omega), h 4 (by omega), h 5 (by omega), h 6 (by omega), h 7 (by omega), h 8 (by omega), h 9 (by omega)]
theorem arr_set (f : Nat → Nat) (neg : Bool) (v : Nat) : ∀ i, i < 10 → (arr f neg).setIfInBounds i (.int .u64 v) = arr (fun k => if k = i then v else f k) neg := cases10 rfl rfl rfl rfl rfl rfl rfl rfl rfl rfl
theorem arr_setNeg (f : Nat → Nat) (neg b : Bool) : (arr f neg).setIfInBounds 10 (.bool b) = arr f b := rfl
theorem arr_one (f : Nat → Nat) (neg : Bool) : (arr f neg).all (·.oneCell') = true := by simp [arr, uV, Value.oneCell']
theorem arr_zero : arr (fun _ => 0) false = #[.int .u64 0, .int .u64 0, .int .u64 0, .int .u64 0, .int .u64 0, .int .u64 0, .int .u64 0, .int .u64 0, .int .u64 0, .int .u64 0, .bool false] := rfl
theorem limb_zero (i : Nat) : limb 0 i = 0 := by unfold limb; rw [Nat.zero_div]
theorem bigOf_zero : bigOf 0 = .agg (arr (fun _ => 0) false) := by
  show Value.agg (arr (limb 0) false) = _
  rw [arr_congr false (g := fun _ => 0) (fun i _ => limb_zero i)]

/-! One step of a sum. -/
def carry (n m i : Nat) : Nat := (n % 2 ^ (32 * i) + m % 2 ^ (32 * i)) / 2 ^ (32 * i)
theorem pow_succ32 (i : Nat) : 2 ^ (32 * (i + 1)) = 2 ^ (32 * i) * 4294967296 := by rw [Nat.mul_add, Nat.pow_add]
theorem mod_limb (n i : Nat) : n % 2 ^ (32 * (i + 1)) = n % 2 ^ (32 * i) + 2 ^ (32 * i) * limb n i := by
  rw [pow_succ32, Nat.mod_mul]; rfl
theorem carry_zero (n m : Nat) : carry n m 0 = 0 := by unfold carry; simp [Nat.mod_one]
theorem carry_le (n m i : Nat) : carry n m i ≤ 1 := by
  unfold carry
  have hp : 0 < 2 ^ (32 * i) := Nat.pow_pos (by omega)
  have h1 := Nat.mod_lt n hp
  have h2 := Nat.mod_lt m hp
  have : (n % 2 ^ (32 * i) + m % 2 ^ (32 * i)) / 2 ^ (32 * i) < 2 := by rw [Nat.div_lt_iff_lt_mul hp]; omega
  omega
theorem add_step (n m i : Nat) : (limb n i + limb m i + carry n m i) / 4294967296 = carry n m (i + 1) ∧ (limb n i + limb m i + carry n m i) % 4294967296 = limb (n + m) i := by
  have hp : 0 < 2 ^ (32 * i) := Nat.pow_pos (by omega)
  constructor
  · unfold carry
    rw [mod_limb, mod_limb, pow_succ32]
    generalize 2 ^ (32 * i) = p at *
    rw [← Nat.div_div_eq_div_mul]
    congr 1
    rw [show n % p + p * limb n i + (m % p + p * limb m i) = (n % p + m % p) + p * (limb n i + limb m i) by rw [Nat.mul_add]; omega, Nat.add_mul_div_left _ _ hp]
    omega
  · unfold carry limb
    generalize 2 ^ (32 * i) = p at *
    have h : (n + m) / p = n / p + m / p + (n % p + m % p) / p := by
      conv => lhs; rw [← Nat.div_add_mod n p, ← Nat.div_add_mod m p]
      rw [show p * (n / p) + n % p + (p * (m / p) + m % p) = (n % p + m % p) + p * (n / p + m / p) by rw [Nat.mul_add]; omega, Nat.add_mul_div_left _ _ hp]
      omega
    rw [h]
    omega
theorem u64_mask (s : Nat) (h : s < 18446744073709551616) : bits BinOp.and IntKind.u64 (s : Int) 4294967295 = ((s % 4294967296 : Nat) : Int) := by
  rw [show (4294967295 : Int) = ((4294967295 : Nat) : Int) from rfl, u64_and_nat _ _ h (by omega), show (4294967295 : Nat) = 2 ^ 32 - 1 from rfl, Nat.and_two_pow_sub_one_eq_mod]
/-! One step of a difference. -/
def borrow (n m i : Nat) : Nat := if n % 2 ^ (32 * i) < m % 2 ^ (32 * i) then 1 else 0
theorem borrow_zero (n m : Nat) : borrow n m 0 = 0 := by unfold borrow; simp [Nat.mod_one]
theorem borrow_le (n m i : Nat) : borrow n m i ≤ 1 := by unfold borrow; split <;> omega
theorem sub_step (n m i : Nat) (h : m ≤ n) : 1 - (limb n i + 4294967296 - limb m i - borrow n m i) / 4294967296 = borrow n m (i + 1) ∧ (limb n i + 4294967296 - limb m i - borrow n m i) % 4294967296 = limb (n - m) i := by
  have hp : 0 < 2 ^ (32 * i) := Nat.pow_pos (by omega)
  constructor
  · unfold borrow
    rw [mod_limb, mod_limb]
    have lx := limb_lt n i
    have ly := limb_lt m i
    have r1 := Nat.mod_lt n hp
    have r2 := Nat.mod_lt m hp
    generalize limb n i = x at *
    generalize limb m i = y at *
    generalize 2 ^ (32 * i) = p at *
    generalize n % p = r at *
    generalize m % p = s at *
    rcases Nat.lt_trichotomy x y with hxy | hxy | hxy
    · have h1 : p * (x + 1) ≤ p * y := Nat.mul_le_mul_left p hxy
      rw [Nat.mul_add, Nat.mul_one] at h1
      rw [if_pos (show r + p * x < s + p * y by omega)]
      split <;> omega
    · subst hxy
      by_cases hrs : r < s
      · rw [if_pos hrs, if_pos (by omega)]; omega
      · rw [if_neg hrs, if_neg (by omega)]; omega
    · have h1 : p * (y + 1) ≤ p * x := Nat.mul_le_mul_left p hxy
      rw [Nat.mul_add, Nat.mul_one] at h1
      rw [if_neg (show ¬ (r + p * x < s + p * y) by omega)]
      split <;> omega
  · unfold borrow limb
    have r1 := Nat.mod_lt n hp
    have r2 := Nat.mod_lt m hp
    generalize 2 ^ (32 * i) = p at *
    have e1 := Nat.div_add_mod n p
    have e2 := Nat.div_add_mod m p
    have hd : m / p ≤ n / p := Nat.div_le_div_right h
    have key : (n - m) / p = n / p - m / p - (if n % p < m % p then 1 else 0) := by
      split
      · rename_i hlt
        have hne : m / p < n / p := by
          rcases Nat.lt_or_ge (m / p) (n / p) with h1 | h1
          · exact h1
          · have : n / p = m / p := by omega
            rw [this] at e1
            omega
        have hm : p * (m / p + 1) ≤ p * (n / p) := Nat.mul_le_mul_left p hne
        rw [Nat.mul_add, Nat.mul_one] at hm
        have e3 : n - m = (p + n % p - m % p) + p * (n / p - m / p - 1) := by
          rw [Nat.mul_sub, Nat.mul_sub]
          omega
        rw [e3, Nat.add_mul_div_left _ _ hp, Nat.div_eq_of_lt (by omega)]
        omega
      · have hm : p * (m / p) ≤ p * (n / p) := Nat.mul_le_mul_left p hd
        have e3 : n - m = (n % p - m % p) + p * (n / p - m / p) := by
          rw [Nat.mul_sub]
          omega
        rw [e3, Nat.add_mul_div_left _ _ hp, Nat.div_eq_of_lt (by omega)]
        omega
    rw [key]
    have hb : n % p < m % p → m / p < n / p := fun hlt => by
      rcases Nat.lt_or_ge (m / p) (n / p) with h1 | h1
      · exact h1
      · have : n / p = m / p := by omega
        rw [this] at e1
        omega
    generalize n / p = a at *
    generalize m / p = b at *
    split
    · rename_i hlt
      have := hb hlt
      omega
    · omega
/-! From the top: the first part that parts them decides. -/
theorem div_limb (n i : Nat) : n / 2 ^ (32 * i) = 4294967296 * (n / 2 ^ (32 * (i + 1))) + limb n i := by
  rw [pow_succ32, ← Nat.div_div_eq_div_mul]
  unfold limb
  omega
theorem less_same {n m i : Nat} (h : n / 2 ^ (32 * (i + 1)) = m / 2 ^ (32 * (i + 1))) (h2 : limb n i = limb m i) : n / 2 ^ (32 * i) = m / 2 ^ (32 * i) := by rw [div_limb n, div_limb m, h, h2]
theorem less_apart {n m i : Nat} (h : n / 2 ^ (32 * (i + 1)) = m / 2 ^ (32 * (i + 1))) (h2 : limb n i ≠ limb m i) : decide (limb n i < limb m i) = decide (n < m) := by
  have e1 := div_limb n i
  have e2 := div_limb m i
  rw [h] at e1
  have hp : 0 < 2 ^ (32 * i) := Nat.pow_pos (by omega)
  have f1 := Nat.div_add_mod n (2 ^ (32 * i))
  have f2 := Nat.div_add_mod m (2 ^ (32 * i))
  have r1 := Nat.mod_lt n hp
  have r2 := Nat.mod_lt m hp
  generalize 2 ^ (32 * i) = p at *
  generalize limb n i = x at *
  generalize limb m i = y at *
  rcases Nat.lt_or_gt_of_ne h2 with hxy | hxy
  · have h3 : n / p + 1 ≤ m / p := by omega
    have h4 := Nat.mul_le_mul_left p h3
    rw [Nat.mul_add, Nat.mul_one] at h4
    rw [decide_eq_true hxy, decide_eq_true (by omega)]
  · have h3 : m / p + 1 ≤ n / p := by omega
    have h4 := Nat.mul_le_mul_left p h3
    rw [Nat.mul_add, Nat.mul_one] at h4
    rw [decide_eq_false (by omega), decide_eq_false (by omega)]
/-- More than all ten parts hold. (A name: the number itself is never to be reckoned.) -/
def lim : Nat := 2 ^ (32 * 10)
theorem lim_eq : lim = 2 ^ (32 * 10) := by unfold lim; rfl
theorem lim_div {n : Nat} (h : n < lim) : n / 2 ^ (32 * 10) = 0 := by rw [← lim_eq]; exact Nat.div_eq_of_lt h
theorem lim_big {n k : Nat} (hk : k ≤ 32 * 10) (h : n < 2 ^ k) : n < lim := by
  have h2 := Nat.pow_le_pow_right (n := 2) (by omega) hk
  rw [← lim_eq] at h2
  exact Nat.lt_of_lt_of_le h h2
theorem top_zero {n : Nat} (h : n < lim) : n / 2 ^ (32 * (9 + 1)) = 0 := by
  rw [show 9 + 1 = 10 from rfl]; exact lim_div h
theorem all_same {n m : Nat} (h : n / 2 ^ (32 * 0) = m / 2 ^ (32 * 0)) : n = m := by simpa using h
/-- Nought has no part. -/
theorem limb_all_zero {n : Nat} (h : n < lim) (h0 : ∀ i, i < 10 → limb n i = 0) : n = 0 := by
  have e : ∀ k, k ≤ 10 → n / 2 ^ (32 * (10 - k)) = 0 := by
    intro k
    induction k with
    | zero => intro _; rw [Nat.sub_zero]; exact lim_div h
    | succ k ih =>
      intro hk
      have h1 := ih (by omega)
      rw [div_limb, show 10 - (k + 1) + 1 = 10 - k by omega, h1, h0 _ (by omega)]
  have := e 10 (by omega)
  simpa using this
theorem limb_small {n i : Nat} (h : n < 2 ^ (32 * i)) : limb n i = 0 := by unfold limb; rw [Nat.div_eq_of_lt h]
end Go.Proofs.Ytecmpjccdhmeeaa
end
section
/- 'add' of the reference, walked. -/
namespace Go.Proofs.Ytecmpjccdhmeeaa
open Go.RowKit
/-- A block that holds a row, whole. -/
def Blk (w : World) (g : Nat) (cs : Array Value) (t : TypeId) : Prop := w.heap[g]? = some (.cells cs t (0, 0))
theorem Blk.cell {w : World} {g : Nat} {cs : Array Value} {t : TypeId} (h : Blk w g cs t) (i : Nat) : w.cell? ⟨g, i, none⟩ = cs[i]? := cell_of_row _ _ _ _ _ _ h
theorem Blk.frozen {w : World} {g : Nat} {cs : Array Value} {t : TypeId} (h : Blk w g cs t) (i : Nat) : w.frozen? ⟨g, i, none⟩ = false := frozen_of_row _ _ _ _ _ h
theorem Blk.setCell {w : World} {g : Nat} {cs : Array Value} {t : TypeId} (h : Blk w g cs t) (i : Nat) (v : Value) : Blk (w.setCell ⟨g, i, none⟩ v) g (cs.setIfInBounds i v) t := heap_setCell_same _ _ _ _ _ _ h
theorem Blk.other {w : World} {g k i : Nat} {cs : Array Value} {t : TypeId} {v : Value} (h : Blk w g cs t) (hne : g ≠ k) : Blk (w.setCell ⟨k, i, none⟩ v) g cs t := (heap_setCell_other _ _ _ _ hne).trans h
theorem Blk.new {w : World} {cs : Array Value} {t : TypeId} {k : Nat} (h : k = w.heap.size) : Blk (w.alloc (.cells cs t)) k cs t := al_new h
theorem Blk.alloc {w : World} {g : Nat} {cs : Array Value} {t : TypeId} (h : Blk w g cs t) (o : Obj) : Blk (w.alloc o) g cs t := al_old h
theorem Blk.setRow {w : World} {g : Nat} {cs : Array Value} {t : TypeId} (h : Blk w g cs t) (ds : Array Value) : Blk (w.setRow g ds) g ds t := setRow_heap _ _ _ _ _ _ h
theorem Blk.otherRow {w : World} {g k : Nat} {cs : Array Value} {t : TypeId} (h : Blk w g cs t) (ds : Array Value) (hne : g ≠ k) : Blk (w.setRow k ds) g cs t := by
  unfold Blk at *
  simp only [World.setRow, Array.getElem?_modify]
  rw [if_neg (fun e => hne e.symm)]
  exact h
theorem Blk.lt {w : World} {g : Nat} {cs : Array Value} {t : TypeId} (h : Blk w g cs t) : g < w.heap.size := heap_lt h
theorem Blk.below {w w' : World} {g B : Nat} {cs : Array Value} {t : TypeId} (h : Blk w g cs t) (hb : Below B w w') (hB : w.heap.size ≤ B) : Blk w' g cs t := Below.kept hb (Nat.lt_of_lt_of_le h.lt hB) h
theorem al3 (w : World) (A B C : Obj) : ((w.alloc A).alloc B |>.alloc C).heap[w.heap.size]? = some A ∧ ((w.alloc A).alloc B |>.alloc C).heap[w.heap.size + 1]? = some B ∧ ((w.alloc A).alloc B |>.alloc C).heap[w.heap.size + 1 + 1]? = some C ∧
    Below w.heap.size w ((w.alloc A).alloc B |>.alloc C) :=
  ⟨al_old (al_old (al_new rfl)), al_old (al_new (by simp)), al_new (by simp), ((Below_one A).alloc (by simp) B).alloc (by simp; omega) C⟩
def mix (n m i k : Nat) : Nat := if k < i then limb (n + m) k else limb n k
set_option maxRecDepth 100000 in
set_option maxHeartbeats 1000000 in
theorem radd_any (n m : Nat) (na nb : Bool) (w : World) :
    Calls Try.prog 93 #[bigM n na, bigM m nb] w fun e w' => e = .returned (bigM (n + m) na) ∧ Below w.heap.size w w' := by
  unfold bigM
  go_enter Try.func93, Try.ntmps93
  go_wp2
  rw [← arr_zero]
  obtain ⟨h1, h2, h3, hb⟩ := al3 w (.cells (arr (limb n) na) 123) (.cells (arr (limb m) nb) 123) (.cells (arr (fun _ => 0) false) 123)
  generalize ((w.alloc (.cells (arr (limb n) na) 123)).alloc (.cells (arr (limb m) nb) 123)).alloc (.cells (arr (fun _ => 0) false) 123) = W at *
  have H1 := hid h1; have H2 := hid h2; have H3 := hid h3; have HB := hid hb
  clear h1 h2 h3 hb
  go_loopw [5,6,7,8,9,10,11,12,13,14,15,16,17,18,19,20,21,22,23,24,25,26,27,28,29] (fun t5 t6 _ _ _ _ _ _ _ _ _ _ _ _ _ _ _ _ _ _ _ _ _ _ _ wr => ∃ i : Nat, i ≤ 10 ∧ t6 = .int .i64 i ∧ t5 = uV (carry n m i) ∧ Blk wr w.heap.size (arr (mix n m i) na) 123 ∧ Blk wr (w.heap.size + 1) (arr (limb m) nb) 123 ∧ Blk wr (w.heap.size + 1 + 1) (arr (fun _ => 0) false) 123 ∧ Below w.heap.size w wr) (fun t5 t6 _ _ _ _ _ _ _ _ _ _ _ _ _ _ _ _ _ _ _ _ _ _ _ wr => 10 - (intOf t6).toNat)
  case atStart => exact ⟨0, by omega, rfl, by rw [carry_zero]; rfl, by rw [arr_congr (g := limb n) na (fun i _ => by unfold mix; rw [if_neg (by omega)])]; exact H1.out, H2.out, H3.out, HB.out⟩
  case round =>
    obtain ⟨i, hi, rfl, rfl, hA, hB, hC, hW⟩ := hrel
    have HA := hid hA; have HBb := hid hB; have HC := hid hC; have HW := hid hW
    clear hA hB hC hW
    by_cases hlt : i < 10
    · have c1 : wr.cell? ⟨w.heap.size, i, none⟩ = some (.int .u64 (limb n i : Nat)) := by rw [HA.out.cell, arr_get _ _ i hlt]; unfold mix; rw [if_neg (by omega)]
      have c2 : wr.cell? ⟨w.heap.size + 1, i, none⟩ = some (.int .u64 (limb m i : Nat)) := by rw [HBb.out.cell, arr_get _ _ i hlt]
      have hst := add_step n m i
      have l1 := limb_lt n i
      have l2 := limb_lt m i
      have l3 := carry_le n m i
      generalize limb n i = x at *
      generalize limb m i = y at *
      generalize carry n m i = o at *
      obtain ⟨s1, s2⟩ := hst
      have S1 := hid s1; have S2 := hid s2
      clear s1 s2
      have q1 : IntKind.u64.wrap ((x : Int) + (y : Int)) = (x : Int) + (y : Int) := by rw [IntKind.wrap_u64]; omega
      have q2 : IntKind.u64.wrap ((x : Int) + (y : Int) + (o : Int)) = (x : Int) + (y : Int) + (o : Int) := by rw [IntKind.wrap_u64]; omega
      have q3 : bits BinOp.and IntKind.u64 ((x : Int) + (y : Int) + (o : Int)) 4294967295 = (((x + y + o) % 4294967296 : Nat) : Int) := by rw [← u64_mask (x + y + o) (by omega)]; simp
      have i0 : (0 : Int) ≤ (i : Int) := by omega
      have i1 : (i : Int) < 10 := by omega
      unfold uV
      go_wp2
      refine wp_region_early [0, 1, 2, 3, 4, 5, 6, 7, 8, 9, 10, 11] [] [] (fun wx => wx.cell? ⟨w.heap.size, i, none⟩ = some (.int .u64 (x : Int)) ∧ wx.cell? ⟨w.heap.size + 1, i, none⟩ = some (.int .u64 (y : Int))) (by kernel_rfl) (by kernel_rfl) (by kernel_rfl) (by rfl) ⟨c1, c2⟩ ?_
      apply Exists.intro
      refine ⟨fun wx hx => ?_, ?_⟩
      · obtain ⟨x1, x2⟩ := hx
        repeat (refine seI_step rfl (fun K hK => ?_); go_simp; refine hK _ ?_; clear hK K)
        exact seI_nil rfl
      refine wpTA_nil .nil ?_
      go_wp2
      refine NoPanic.normal ?_
      have f1 : wr.frozen? ⟨w.heap.size, i, none⟩ = false := HA.out.frozen i
      go_wp2
      go_roundw
      case rel =>
        refine ⟨i + 1, by omega, by go_num, by rw [← S1.out]; rfl, ?_, HBb.out.other (by omega), HC.out.other (by omega), (HW.out.setCell (p := ⟨w.heap.size, i, none⟩) (Nat.le_refl _) _).drew⟩
        have h1 := HA.out.setCell i (.int .u64 (((x + y + o) % 4294967296 : Nat) : Int))
        rw [arr_set _ _ _ i hlt, S2.out] at h1
        rw [arr_congr (g := fun k => if k = i then limb (n + m) i else mix n m i k) na (fun k _ => by
          unfold mix
          by_cases hk : k = i
          · subst hk; simp
          · by_cases hk2 : k < i
            · simp [hk, hk2, show k < i + 1 by omega]
            · simp [hk, hk2, show ¬ k < i + 1 by omega])]
        have q4 : ((x : Int) + (y : Int) + (o : Int)) % 4294967296 = ((limb (n + m) i : Nat) : Int) := by rw [← S2.out]; omega
        rw [q4]
        exact h1
      case measure => simp [intOf]; omega
    · obtain rfl : i = 10 := by omega
      have hA : Blk wr w.heap.size (arr (limb (n + m)) na) 123 := by
        have := HA.out
        rw [arr_congr (g := limb (n + m)) na (fun k hk => by unfold mix; rw [if_pos hk])] at this
        exact this
      have HA := hid hA
      clear hA
      go_wp2_with (first | (refine wpList_load_row rfl 123 (.tmp 2) rfl w.heap.size rfl 123 (arr (limb (n + m)) na) (0, 0) _ HA.out Try.underlying123 rfl (by kernel_rfl) ?_) | (refine wpList_store_row rfl 123 (.tmp 4) (.tmp 30) rfl (w.heap.size + 1 + 1) (arr (limb (n + m)) na) rfl rfl 123 (arr (fun _ => 0) false) HC.out (by kernel_rfl) rfl (arr_one _ _) ?_))
      refine bodyPost_ret (results_cell_row rfl _ _ (w.heap.size + 1 + 1) 123 (arr (limb (n + m)) na) (0, 0) _ rfl (HC.out.setRow _) Try.underlying123 rfl (by kernel_rfl)) rfl ⟨rfl, ?_⟩
      exact HW.out.trans (Below_setRow (Below.refl _ _) (by omega) _)
end Go.Proofs.Ytecmpjccdhmeeaa
end
section
/- '==' of two arrays of integers. No program in sight. -/
namespace Go.Proofs.Ytecmpjccdhmeeaa
open Go.RowKit
variable {P : Program}
theorem run_part1 {e : TypeId} {k : IntKind} (he : P.underlying e = some (.int k)) (w : World) (cs : Array Value) (i : Nat) (v : Value) (h : cs[i]? = some v) : (part e cs i).run P w = .ok v w := by
  simp [part, isAgg, run_underlying he, h]
theorem run_eqRange {e : TypeId} {k : IntKind} (he : P.underlying e = some (.int k)) (w : World) (xs ys : Array Value) (d : Nat) (f g : Nat → Int) : ∀ (l : List Nat), (∀ i ∈ l, xs[i]? = some (.int k (f i)) ∧ ys[i]? = some (.int k (g i))) →
    (forIn (m := Sem) l ((none, ()) : Option Bool × Unit) fun i (_ : Option Bool × Unit) => do
      let a ← part e xs (i * 1)
      let b ← part e ys (i * 1)
      let r ← Op.equalIn (d + 1) e a b
      if (!r) = true then pure (ForInStep.done (some false, ())) else pure (ForInStep.yield (none, ()))).run P w =
      .ok (if l.all (fun i => f i == g i) then (none, ()) else (some false, ())) w := by
  intro l
  induction l with
  | nil => intro _; rfl
  | cons i l ih =>
    intro h
    obtain ⟨h1, h2⟩ := h i (by simp)
    have e1 := run_part1 he w xs (i * 1) _ (by rw [Nat.mul_one]; exact h1)
    have e2 := run_part1 he w ys (i * 1) _ (by rw [Nat.mul_one]; exact h2)
    have e3 := run_equalIn_int (P := P) w d e k k (f i) (g i) he
    simp only [List.forIn_cons, Sem.run_bind, e1, e2, e3, Result.andThen_ok]
    cases hq : (f i == g i)
    · simp [hq]
    · simp only [Bool.not_true, Bool.false_eq_true, if_false, Sem.run_pure, Result.andThen_ok, List.all_cons, hq, Bool.true_and]
      exact ih fun j hj => h j (by simp [hj])
theorem run_equalIn_arr {t e : TypeId} {k : IntKind} {n : Nat} (d : Nat) (ht : P.underlying t = some (.array n e)) (he : P.underlying e = some (.int k)) (hs : ∀ w, (sizeOf e).run P w = .ok 1 w) (xs ys : Array Value) (f g : Nat → Int)
    (h : ∀ i, i < n → xs[i]? = some (.int k (f i)) ∧ ys[i]? = some (.int k (g i))) (w : World) : (Op.equalIn (d + 2) t (.agg xs) (.agg ys)).run P w = .ok ((List.range n).all fun i => f i == g i) w := by
  unfold Op.equalIn
  simp only [Sem.run_bind, run_underlying ht, Result.andThen_ok, hs]
  rw [Std.Legacy.Range.forIn_eq_forIn_range']
  have hr := run_eqRange (P := P) he w xs ys d f g (List.range n) (fun i hi => h i (List.mem_range.1 hi))
  simp only [Std.Legacy.Range.size, Nat.sub_zero, Nat.add_sub_cancel, Nat.div_one, ← List.range_eq_range']
  rw [hr]
  split
  · rename_i hq
    simp [hq]
  · rename_i hq
    simp [hq]
end Go.Proofs.Ytecmpjccdhmeeaa
end
section
/- 'sub', 'less', 'zero' of the reference, walked. -/
namespace Go.Proofs.Ytecmpjccdhmeeaa
open Go.RowKit
def mixS (n m i k : Nat) : Nat := if k < i then limb (n - m) k else limb n k
set_option maxRecDepth 100000 in
set_option maxHeartbeats 1000000 in
theorem rsub_any (n m : Nat) (na nb : Bool) (hmn : m ≤ n) (w : World) :
    Calls Try.prog 95 #[bigM n na, bigM m nb] w fun e w' => e = .returned (bigM (n - m) na) ∧ Below w.heap.size w w' := by
  unfold bigM
  have HMN := hid hmn; clear hmn
  go_enter Try.func95, Try.ntmps95
  go_wp2
  rw [← arr_zero]
  obtain ⟨h1, h2, h3, hb⟩ := al3 w (.cells (arr (limb n) na) 123) (.cells (arr (limb m) nb) 123) (.cells (arr (fun _ => 0) false) 123)
  generalize ((w.alloc (.cells (arr (limb n) na) 123)).alloc (.cells (arr (limb m) nb) 123)).alloc (.cells (arr (fun _ => 0) false) 123) = W at *
  have H1 := hid h1; have H2 := hid h2; have H3 := hid h3; have HB := hid hb
  clear h1 h2 h3 hb
  go_loopw [5,6,7,8,9,10,11,12,13,14,15,16,17,18,19,20,21,22,23,24,25,26,27,28,29,30,31] (fun t5 t6 _ _ _ _ _ _ _ _ _ _ _ _ _ _ _ _ _ _ _ _ _ _ _ _ _ wr => ∃ i : Nat, i ≤ 10 ∧ t6 = .int .i64 i ∧ t5 = uV (borrow n m i) ∧ Blk wr w.heap.size (arr (mixS n m i) na) 123 ∧ Blk wr (w.heap.size + 1) (arr (limb m) nb) 123 ∧ Blk wr (w.heap.size + 1 + 1) (arr (fun _ => 0) false) 123 ∧ Below w.heap.size w wr) (fun t5 t6 _ _ _ _ _ _ _ _ _ _ _ _ _ _ _ _ _ _ _ _ _ _ _ _ _ wr => 10 - (intOf t6).toNat)
  case atStart => exact ⟨0, by omega, rfl, by rw [borrow_zero]; rfl, by rw [arr_congr (g := limb n) na (fun i _ => by unfold mixS; rw [if_neg (by omega)])]; exact H1.out, H2.out, H3.out, HB.out⟩
  case round =>
    obtain ⟨i, hi, rfl, rfl, hA, hB, hC, hW⟩ := hrel
    have HA := hid hA; have HBb := hid hB; have HC := hid hC; have HW := hid hW
    clear hA hB hC hW
    by_cases hlt : i < 10
    · have c1 : wr.cell? ⟨w.heap.size, i, none⟩ = some (.int .u64 (limb n i : Nat)) := by rw [HA.out.cell, arr_get _ _ i hlt]; unfold mixS; rw [if_neg (by omega)]
      have c2 : wr.cell? ⟨w.heap.size + 1, i, none⟩ = some (.int .u64 (limb m i : Nat)) := by rw [HBb.out.cell, arr_get _ _ i hlt]
      have hst := sub_step n m i HMN.out
      have l1 := limb_lt n i
      have l2 := limb_lt m i
      have l3 := borrow_le n m i
      generalize limb n i = x at *
      generalize limb m i = y at *
      generalize borrow n m i = o at *
      obtain ⟨s1, s2⟩ := hst
      have S1 := hid s1; have S2 := hid s2
      clear s1 s2
      have q0 : IntKind.u64.wrap ((x : Int) + 4294967296) = (x : Int) + 4294967296 := by rw [IntKind.wrap_u64]; omega
      have q1 : IntKind.u64.wrap ((x : Int) + 4294967296 - (y : Int)) = (x : Int) + 4294967296 - (y : Int) := by rw [IntKind.wrap_u64]; omega
      have q2 : IntKind.u64.wrap ((x : Int) + 4294967296 - (y : Int) - (o : Int)) = (x : Int) + 4294967296 - (y : Int) - (o : Int) := by rw [IntKind.wrap_u64]; omega
      have i0 : (0 : Int) ≤ (i : Int) := by omega
      have i1 : (i : Int) < 10 := by omega
      unfold uV
      go_wp2
      refine wp_region_early [0, 1, 2, 3, 4, 5, 6, 7, 8, 9, 10, 11, 12] [] [] (fun wx => wx.cell? ⟨w.heap.size, i, none⟩ = some (.int .u64 (x : Int)) ∧ wx.cell? ⟨w.heap.size + 1, i, none⟩ = some (.int .u64 (y : Int))) (by kernel_rfl) (by kernel_rfl) (by kernel_rfl) (by rfl) ⟨c1, c2⟩ ?_
      apply Exists.intro
      refine ⟨fun wx hx => ?_, ?_⟩
      · obtain ⟨x1, x2⟩ := hx
        repeat (refine seI_step rfl (fun K hK => ?_); go_simp; refine hK _ ?_; clear hK K)
        exact seI_nil rfl
      refine wpTA_nil .nil ?_
      go_wp2
      refine NoPanic.normal ?_
      have f1 : wr.frozen? ⟨w.heap.size, i, none⟩ = false := HA.out.frozen i
      clear q0 q1 q2
      go_wp2
      go_roundw
      case rel =>
        refine ⟨i + 1, by omega, by go_num, by rw [← S1.out]; congr 1; omega, ?_, HBb.out.other (by omega), HC.out.other (by omega), (HW.out.setCell (p := ⟨w.heap.size, i, none⟩) (Nat.le_refl _) _).drew⟩
        have h1 := HA.out.setCell i (.int .u64 (((x + 4294967296 - y - o) % 4294967296 : Nat) : Int))
        rw [arr_set _ _ _ i hlt, S2.out] at h1
        rw [arr_congr (g := fun k => if k = i then limb (n - m) i else mixS n m i k) na (fun k _ => by
          unfold mixS
          by_cases hk : k = i
          · subst hk; simp
          · by_cases hk2 : k < i
            · simp [hk, hk2, show k < i + 1 by omega]
            · simp [hk, hk2, show ¬ k < i + 1 by omega])]
        have q4 : bits BinOp.and IntKind.u64 ((x : Int) + 4294967296 - (y : Int) - (o : Int)) 4294967295 = ((limb (n - m) i : Nat) : Int) := by rw [show (x : Int) + 4294967296 - (y : Int) - (o : Int) = ((x + 4294967296 - y - o : Nat) : Int) by omega, u64_mask _ (by omega), S2.out]
        rw [q4]
        exact h1
      case measure => simp [intOf]; omega
    · obtain rfl : i = 10 := by omega
      have hA : Blk wr w.heap.size (arr (limb (n - m)) na) 123 := by
        have := HA.out
        rw [arr_congr (g := limb (n - m)) na (fun k hk => by unfold mixS; rw [if_pos hk])] at this
        exact this
      have HA := hid hA
      clear hA
      go_wp2_with (first | (refine wpList_load_row rfl 123 (.tmp 2) rfl w.heap.size rfl 123 (arr (limb (n - m)) na) (0, 0) _ HA.out Try.underlying123 rfl (by kernel_rfl) ?_) | (refine wpList_store_row rfl 123 (.tmp 4) (.tmp 32) rfl (w.heap.size + 1 + 1) (arr (limb (n - m)) na) rfl rfl 123 (arr (fun _ => 0) false) HC.out (by kernel_rfl) rfl (arr_one _ _) ?_))
      refine bodyPost_ret (results_cell_row rfl _ _ (w.heap.size + 1 + 1) 123 (arr (limb (n - m)) na) (0, 0) _ rfl (HC.out.setRow _) Try.underlying123 rfl (by kernel_rfl)) rfl ⟨rfl, ?_⟩
      exact HW.out.trans (Below_setRow (Below.refl _ _) (by omega) _)
theorem al2 (w : World) (A B : Obj) : ((w.alloc A).alloc B).heap[w.heap.size]? = some A ∧ ((w.alloc A).alloc B).heap[w.heap.size + 1]? = some B ∧ Below w.heap.size w ((w.alloc A).alloc B) :=
  ⟨al_old (al_new rfl), al_new (by simp), (Below_one A).alloc (by simp) B⟩
set_option maxRecDepth 100000 in
set_option maxHeartbeats 1000000 in
theorem rless_any (n m : Nat) (na nb : Bool) (hn : n < lim) (hm : m < lim) (w : World) :
    Calls Try.prog 94 #[bigM n na, bigM m nb] w fun e w' => e = .returned (.bool (decide (n < m))) ∧ Below w.heap.size w w' := by
  unfold bigM
  have HT := hid (show n / 2 ^ (32 * (9 + 1)) = m / 2 ^ (32 * (9 + 1)) by rw [top_zero hn, top_zero hm])
  clear hn hm
  go_enter Try.func94, Try.ntmps94
  go_wp2
  obtain ⟨h1, h2, hb⟩ := al2 w (.cells (arr (limb n) na) 123) (.cells (arr (limb m) nb) 123)
  generalize (w.alloc (.cells (arr (limb n) na) 123)).alloc (.cells (arr (limb m) nb) 123) = W at *
  have H1 := hid h1; have H2 := hid h2; have HB := hid hb
  clear h1 h2 hb
  go_loopw [5,6,7,8,9,10,11,12,13,14,15,16,17,18,19,20,21,22,23,24,25,26,27] (fun t5 _ _ _ _ _ _ _ _ _ _ _ _ _ _ _ _ _ _ _ _ _ _ wr => ∃ j : Int, -1 ≤ j ∧ j ≤ 9 ∧ t5 = .int .i64 j ∧ n / 2 ^ (32 * (j + 1).toNat) = m / 2 ^ (32 * (j + 1).toNat) ∧ Blk wr w.heap.size (arr (limb n) na) 123 ∧ Blk wr (w.heap.size + 1) (arr (limb m) nb) 123 ∧ Below w.heap.size w wr) (fun t5 _ _ _ _ _ _ _ _ _ _ _ _ _ _ _ _ _ _ _ _ _ _ wr => (intOf t5 + 1).toNat)
  case atStart => exact ⟨9, by omega, by omega, rfl, (by rw [show ((9 : Int) + 1).toNat = 9 + 1 from rfl]; exact HT.out), H1.out, H2.out, HB.out⟩
  case round =>
    obtain ⟨j, hj1, hj2, rfl, hup, hA, hB, hW⟩ := hrel
    have HU := hid hup; have HA := hid hA; have HBb := hid hB; have HW := hid hW
    clear hup hA hB hW
    by_cases hlt : 0 ≤ j
    · obtain ⟨i, rfl⟩ := Int.eq_ofNat_of_zero_le hlt
      have hU := HU.out
      rw [show ((i : Int) + 1).toNat = i + 1 by omega] at hU
      have hlt : i < 10 := by omega
      have c1 : wr.cell? ⟨w.heap.size, i, none⟩ = some (.int .u64 (limb n i : Nat)) := by rw [HA.out.cell, arr_get _ _ i hlt]
      have c2 : wr.cell? ⟨w.heap.size + 1, i, none⟩ = some (.int .u64 (limb m i : Nat)) := by rw [HBb.out.cell, arr_get _ _ i hlt]
      have i0 : (0 : Int) ≤ (i : Int) := by omega
      have i1 : (i : Int) < 10 := by omega
      have HU2 := hid hU
      clear hU HU
      by_cases hxy : limb n i = limb m i
      · have hs := hid (less_same HU2.out hxy)
        rw [hxy] at c1
        clear hxy
        generalize limb m i = y at *
        have hne : ((y : Int) != (y : Int)) = false := by simp
        go_wp2
        refine wp_region_early [0, 1, 2, 3, 4, 5, 6, 7, 8] [] [] (fun wx => wx.cell? ⟨w.heap.size, i, none⟩ = some (.int .u64 (y : Int)) ∧ wx.cell? ⟨w.heap.size + 1, i, none⟩ = some (.int .u64 (y : Int))) (by kernel_rfl) (by kernel_rfl) (by kernel_rfl) (by rfl) ⟨c1, c2⟩ ?_
        apply Exists.intro
        refine ⟨fun wx hx => ?_, ?_⟩
        · obtain ⟨x1, x2⟩ := hx
          repeat (refine seI_step rfl (fun K hK => ?_); go_simp; refine hK _ ?_; clear hK K)
          exact seI_nil rfl
        refine wpTA_nil .nil ?_
        go_wp2
        refine NoPanic.normal ?_
        go_wp2
        go_roundw
        case rel => exact ⟨(i : Int) - 1, by omega, by omega, rfl, by rw [show ((i : Int) - 1 + 1).toNat = i by omega]; exact hs.out, HA.out, HBb.out, HW.out.drew⟩
        case measure => simp [intOf]
      · have hs := hid (less_apart HU2.out hxy)
        have hne : ((limb n i : Int) != (limb m i : Int)) = true := by simp; omega
        generalize limb n i = x at *
        generalize limb m i = y at *
        clear hxy
        go_wp2
        refine wp_region_early [0, 1, 2, 3, 4, 5, 6, 7, 8] [] [] (fun wx => wx.cell? ⟨w.heap.size, i, none⟩ = some (.int .u64 (x : Int)) ∧ wx.cell? ⟨w.heap.size + 1, i, none⟩ = some (.int .u64 (y : Int))) (by kernel_rfl) (by kernel_rfl) (by kernel_rfl) (by rfl) ⟨c1, c2⟩ ?_
        apply Exists.intro
        refine ⟨fun wx hx => ?_, ?_⟩
        · obtain ⟨x1, x2⟩ := hx
          repeat (refine seI_step rfl (fun K hK => ?_); go_simp; refine hK _ ?_; clear hK K)
          exact seI_nil rfl
        refine wpTA_nil .nil ?_
        go_wp2
        refine NoPanic.normal ?_
        go_wp2
        refine wp_region_early [0, 1, 2, 3, 4, 5, 6, 7, 8, 9] [] [] (fun wx => wx.cell? ⟨w.heap.size, i, none⟩ = some (.int .u64 (x : Int)) ∧ wx.cell? ⟨w.heap.size + 1, i, none⟩ = some (.int .u64 (y : Int))) (by kernel_rfl) (by kernel_rfl) (by kernel_rfl) (by rfl) ⟨c1, c2⟩ ?_
        apply Exists.intro
        refine ⟨fun wx hx => ?_, ?_⟩
        · obtain ⟨x1, x2⟩ := hx
          repeat (refine seI_step rfl (fun K hK => ?_); go_simp; refine hK _ ?_; clear hK K)
          exact seI_nil rfl
        refine wpTA_nil .nil ?_
        go_wp2
        refine NoPanic.normal ?_
        go_wp2
        go_ret
        exact ⟨by rw [← hs.out]; simp, HW.out.drew.drew⟩
    · obtain rfl : j = -1 := by omega
      have hs := hid (show n = m from all_same HU.out)
      go_wp2
      go_ret
      exact ⟨by rw [hs.out]; simp, HW.out⟩
theorem all_limbs (n : Nat) (hn : n < lim) : ((List.range 10).all fun i => ((limb n i : Nat) : Int) == 0) = decide (n = 0) := by
  by_cases h : n = 0
  · subst h
    rw [decide_eq_true rfl, List.all_eq_true]
    intro i _
    rw [limb_zero]; rfl
  · rw [decide_eq_false h, List.all_eq_false]
    refine Classical.byContradiction fun hc => h (limb_all_zero hn fun i hi => Classical.byContradiction fun h0 => hc ⟨i, List.mem_range.2 hi, ?_⟩)
    simp; omega
set_option maxRecDepth 100000 in
set_option maxHeartbeats 1000000 in
theorem rzero_any (n : Nat) (na : Bool) (hn : n < lim) (w : World) :
    Calls Try.prog 92 #[bigM n na] w fun e w' => e = .returned (.bool (decide (n = 0))) ∧ Below w.heap.size w w' := by
  have heq : ∀ W : World, (Op.equalIn 10000 121 (.agg #[uV (limb n 0), uV (limb n 1), uV (limb n 2), uV (limb n 3), uV (limb n 4), uV (limb n 5), uV (limb n 6), uV (limb n 7), uV (limb n 8), uV (limb n 9)])
      (.agg #[.int .u64 0, .int .u64 0, .int .u64 0, .int .u64 0, .int .u64 0, .int .u64 0, .int .u64 0, .int .u64 0, .int .u64 0, .int .u64 0])).run Try.prog W = .ok (decide (n = 0)) W := fun W => by
    have h := run_equalIn_arr (P := Try.prog) 9998 Try.underlying121 Try.underlying50 (fun w => by kernel_rfl) #[uV (limb n 0), uV (limb n 1), uV (limb n 2), uV (limb n 3), uV (limb n 4), uV (limb n 5), uV (limb n 6), uV (limb n 7), uV (limb n 8), uV (limb n 9)]
      #[.int .u64 0, .int .u64 0, .int .u64 0, .int .u64 0, .int .u64 0, .int .u64 0, .int .u64 0, .int .u64 0, .int .u64 0, .int .u64 0] (fun i => ((limb n i : Nat) : Int)) (fun _ => 0) (cases10 ⟨rfl, rfl⟩ ⟨rfl, rfl⟩ ⟨rfl, rfl⟩ ⟨rfl, rfl⟩ ⟨rfl, rfl⟩ ⟨rfl, rfl⟩ ⟨rfl, rfl⟩ ⟨rfl, rfl⟩ ⟨rfl, rfl⟩ ⟨rfl, rfl⟩) W
    rw [all_limbs n hn] at h
    exact h
  unfold bigM arr
  clear hn
  generalize decide (n = 0) = r at *
  go_enter Try.func92, Try.ntmps92
  go_wp2
  go_ret
  exact ⟨by simp, Below_one _⟩
end Go.Proofs.Ytecmpjccdhmeeaa
end
section
/- 'Plus', 'Of', 'Minus', 'Int' of the reference, walked. -/
namespace Go.Proofs.Ytecmpjccdhmeeaa
open Go.RowKit
theorem loadBig {ops : Array Oper} {rest : List Oper} {o : Oper} {a : Act} {w : World} {Q : Exit → Act → World → Prop} (hgd : o.guard = none) (x : Operand) (ho : o.op = .load 123 x) (g : Nat) (hx : a.eval x = .pointer (some ⟨g, 0, none⟩))
    (f : Nat → Nat) (neg : Bool) (hg : Blk w g (arr f neg) 123) (h : wpList Try.prog ops Q rest (a.put o.dst (.agg (arr f neg))) w) : wpList Try.prog ops Q (o :: rest) a w :=
  wpList_load_row hgd 123 x ho g hx 123 (arr f neg) (0, 0) _ hg Try.underlying123 rfl (by kernel_rfl) h
theorem storeBig {ops : Array Oper} {rest : List Oper} {o : Oper} {a : Act} {w : World} {Q : Exit → Act → World → Prop} (hgd : o.guard = none) (x y : Operand) (ho : o.op = .store 123 x y) (g : Nat) (f : Nat → Nat) (neg : Bool) (hx : a.eval x = .pointer (some ⟨g, 0, none⟩)) (hy : a.eval y = .agg (arr f neg))
    (old : Array Value) (hg : Blk w g old 123) (ho2 : old.size = 11) (h : wpList Try.prog ops Q rest (a.put o.dst undef) (w.setRow g (arr f neg))) : wpList Try.prog ops Q (o :: rest) a w :=
  wpList_store_row hgd 123 x y ho g (arr f neg) hx hy 123 old hg (by kernel_rfl) ho2 (arr_one _ _) h
theorem retBig {fn : Func} {p : Tmp} (h : fn.results = #[.cell p 123]) (tmps : Array Value) (w : World) (g : Nat) (f : Nat → Nat) (neg : Bool) (hp : tmps.getD p undef = .pointer (some ⟨g, 0, none⟩)) (hg : Blk w g (arr f neg) 123) : (results fn tmps).run Try.prog w = .ok (.agg (arr f neg)) w :=
  results_cell_row h tmps w g 123 (arr f neg) (0, 0) _ hp hg Try.underlying123 rfl (by kernel_rfl)
set_option maxRecDepth 100000 in
set_option maxHeartbeats 1000000 in
theorem plus_same (n m : Nat) (na : Bool) (w : World) :
    Calls Try.prog 75 #[bigM n na, bigM m na] w fun e w' => e = .returned (bigM (n + m) na) ∧ Below w.heap.size w w' := by
  unfold bigM
  have hn := arr_neg (limb n) na
  have hm := arr_neg (limb m) na
  go_enter Try.func75, Try.ntmps75
  have hbool : ((na == na) = true) := by simp
  obtain ⟨h1, h2, h3, hb⟩ := al3 w (.cells (arr (limb n) na) 123) (.cells (arr (limb m) na) 123) (.cells (arr (fun _ => 0) false) 123)
  rw [arr_zero] at h1 h2 h3 hb
  have H1 := hid h1; have H2 := hid h2; have H3 := hid h3; have HB := hid hb
  clear h1 h2 h3 hb
  go_wp2_with (first
    | (refine loadBig rfl (.tmp 2) rfl w.heap.size rfl (limb n) na H1.out ?_)
    | (refine loadBig rfl (.tmp 3) rfl (w.heap.size + 1) rfl (limb m) na H2.out ?_))
  refine (radd_any n m na na _).mono ?_
  rintro e W1 ⟨rfl, hb1⟩
  have K3 := hid (Blk.below (show Blk _ (w.heap.size + 1 + 1) _ 123 from H3.out) hb1 (Nat.le_refl _))
  have B1 := hid (HB.out.trans (hb1.mono HB.out.size))
  clear hb1 hn hm hbool H1 H2 H3 HB
  go_wp2_with (refine storeBig rfl (.tmp 4) (.tmp 13) rfl (w.heap.size + 1 + 1) (limb (n + m)) na rfl rfl _ (K3.out) rfl ?_)
  refine bodyPost_ret (retBig rfl _ _ (w.heap.size + 1 + 1) (limb (n + m)) na rfl (K3.out.setRow _)) rfl ⟨rfl, ?_⟩
  exact B1.out.trans (Below_setRow (Below.refl _ _) (by omega) _)
/-- What is left of two numbers of unlike signs. -/
def diffM (n m : Nat) (na nb : Bool) : Value := if n < m then bigM (m - n) nb else bigM (n - m) (if n = m then false else na)
set_option maxRecDepth 100000 in
set_option maxHeartbeats 2000000 in
theorem plus_less (n m : Nat) (na nb : Bool) (hne : na ≠ nb) (hn3 : n < lim) (hm3 : m < lim) (hlt : n < m) (w : World) :
    Calls Try.prog 75 #[bigM n na, bigM m nb] w fun e w' => e = .returned (bigM (m - n) nb) ∧ Below w.heap.size w w' := by
  unfold bigM
  have hn := arr_neg (limb n) na
  have hm := arr_neg (limb m) nb
  have hbool : ((na == nb) = false) := by simpa using hne
  have HN := hid hn3; have HM := hid hm3; have HL := hid hlt
  clear hn3 hm3 hne hlt
  go_enter Try.func75, Try.ntmps75
  obtain ⟨h1, h2, h3, hb⟩ := al3 w (.cells (arr (limb n) na) 123) (.cells (arr (limb m) nb) 123) (.cells (arr (fun _ => 0) false) 123)
  rw [arr_zero] at h1 h2 h3 hb
  have H1 := hid h1; have H2 := hid h2; have H3 := hid h3; have HB := hid hb
  clear h1 h2 h3 hb
  go_wp2_with (first
    | (refine loadBig rfl (.tmp 2) rfl w.heap.size rfl (limb n) na H1.out ?_)
    | (refine loadBig rfl (.tmp 3) rfl (w.heap.size + 1) rfl (limb m) nb H2.out ?_))
  refine (rless_any n m na nb HN.out HM.out _).mono ?_
  rintro e W1 ⟨rfl, hb1⟩
  rw [decide_eq_true HL.out]
  have K1 := hid (Blk.below (show Blk _ w.heap.size _ 123 from H1.out) hb1 (Nat.le_refl _))
  have K2 := hid (Blk.below (show Blk _ (w.heap.size + 1) _ 123 from H2.out) hb1 (Nat.le_refl _))
  have K3 := hid (Blk.below (show Blk _ (w.heap.size + 1 + 1) _ 123 from H3.out) hb1 (Nat.le_refl _))
  have B1 := hid (HB.out.trans (hb1.mono HB.out.size))
  clear hb1 hn hm hbool H1 H2 H3 HB
  have L2 := hid ((K2.out.otherRow (k := w.heap.size) (arr (limb m) nb) (by omega)).setRow (arr (limb n) na))
  have L1 := hid ((K1.out.setRow (arr (limb m) nb)).otherRow (k := w.heap.size + 1) (arr (limb n) na) (by omega))
  have L3 := hid ((K3.out.otherRow (k := w.heap.size) (arr (limb m) nb) (by omega)).otherRow (k := w.heap.size + 1) (arr (limb n) na) (by omega))
  have LB := hid (Below_setRow (Below_setRow B1.out (Nat.le_refl _) (arr (limb m) nb)) (show w.heap.size ≤ w.heap.size + 1 by omega) (arr (limb n) na))
  go_wp2_with (first
    | (refine loadBig rfl (.tmp 3) rfl (w.heap.size + 1) rfl (limb m) nb K2.out ?_)
    | (refine loadBig rfl (.tmp 2) rfl w.heap.size rfl (limb n) na K1.out ?_)
    | (refine storeBig rfl (.tmp 2) (.tmp 17) rfl w.heap.size (limb m) nb rfl rfl _ (K1.out) rfl ?_)
    | (refine storeBig rfl (.tmp 3) (.tmp 18) rfl (w.heap.size + 1) (limb n) na rfl rfl _ ((K2.out.otherRow _ (by omega))) rfl ?_)
    | (refine loadBig rfl (.tmp 2) rfl w.heap.size rfl (limb m) nb L1.out ?_)
    | (refine loadBig rfl (.tmp 3) rfl (w.heap.size + 1) rfl (limb n) na L2.out ?_))
  generalize (W1.setRow w.heap.size (arr (limb m) nb)).setRow (w.heap.size + 1) (arr (limb n) na) = W2 at *
  refine (rsub_any m n nb na (Nat.le_of_lt HL.out) _).mono ?_
  rintro e W3 ⟨rfl, hb3⟩
  clear K1 K2 K3 L1 L2
  have M3 := hid (L3.out.below hb3 (Nat.le_refl _))
  have MB := hid (LB.out.trans (hb3.mono LB.out.size))
  clear hb3 L3
  have hsz : ∀ k, k < w.heap.size + 1 + 1 + 1 → k < W3.heap.size ∨ k = w.heap.size + 1 + 1 := fun k hk => by have := M3.out.lt; omega
  have HS := hid hsz; clear hsz
  go_wp2_with (first
    | (refine storeBig rfl (.tmp 5) (.tmp 21) rfl W3.heap.size (limb (m - n)) nb rfl rfl _ (.new rfl) rfl ?_)
    | (refine loadBig rfl (.tmp 5) rfl W3.heap.size rfl (limb (m - n)) nb ((Blk.new rfl).setRow _) ?_))
  refine (rzero_any (m - n) nb (by have := HM.out; omega) _).mono ?_
  rintro e W4 ⟨rfl, hb4⟩
  rw [decide_eq_false (show ¬ (m - n = 0) by have := HL.out; omega)]
  have N5 := hid (Blk.below ((Blk.new (w := W3) rfl).setRow (arr (limb (m - n)) nb)) hb4 (Nat.le_refl _))
  have N3 := hid (Blk.below ((M3.out.alloc _).otherRow (arr (limb (m - n)) nb) (by have := M3.out.lt; omega)) hb4 (Nat.le_refl _))
  have NB := hid ((Below_setRow (MB.out.alloc MB.out.size _) (g := W3.heap.size) MB.out.size (arr (limb (m - n)) nb)).trans (hb4.mono (by have := MB.out.size; simp; omega)))
  clear hb4
  go_wp2_with (first
    | (refine loadBig rfl (.tmp 5) rfl W3.heap.size rfl (limb (m - n)) nb N5.out ?_)
    | (refine storeBig rfl (.tmp 4) (.tmp 25) rfl (w.heap.size + 1 + 1) (limb (m - n)) nb rfl rfl _ N3.out rfl ?_))
  refine bodyPost_ret (retBig rfl _ _ (w.heap.size + 1 + 1) (limb (m - n)) nb rfl (N3.out.setRow _)) rfl ⟨rfl, ?_⟩
  exact NB.out.trans (Below_setRow (Below.refl _ _) (by omega) _)
set_option maxRecDepth 100000 in
set_option maxHeartbeats 2000000 in
theorem plus_ge (n m : Nat) (na nb : Bool) (hne : na ≠ nb) (hn3 : n < lim) (hm3 : m < lim) (hlt : m ≤ n) (r : Bool) (hr0 : r = if n = m then false else na) (w : World) :
    Calls Try.prog 75 #[bigM n na, bigM m nb] w fun e w' => e = .returned (bigM (n - m) r) ∧ Below w.heap.size w w' := by
  unfold bigM
  have hn := arr_neg (limb n) na
  have hm := arr_neg (limb m) nb
  have hbool : ((na == nb) = false) := by simpa using hne
  have HN := hid hn3; have HM := hid hm3; have HL := hid hlt; have HR := hid hr0
  clear hn3 hm3 hne hlt hr0
  go_enter Try.func75, Try.ntmps75
  obtain ⟨h1, h2, h3, hb⟩ := al3 w (.cells (arr (limb n) na) 123) (.cells (arr (limb m) nb) 123) (.cells (arr (fun _ => 0) false) 123)
  rw [arr_zero] at h1 h2 h3 hb
  have H1 := hid h1; have H2 := hid h2; have H3 := hid h3; have HB := hid hb
  clear h1 h2 h3 hb
  go_wp2_with (first
    | (refine loadBig rfl (.tmp 2) rfl w.heap.size rfl (limb n) na H1.out ?_)
    | (refine loadBig rfl (.tmp 3) rfl (w.heap.size + 1) rfl (limb m) nb H2.out ?_))
  refine (rless_any n m na nb HN.out HM.out _).mono ?_
  rintro e W1 ⟨rfl, hb1⟩
  rw [decide_eq_false (show ¬ n < m by have := HL.out; omega)]
  have K1 := hid (Blk.below (show Blk _ w.heap.size _ 123 from H1.out) hb1 (Nat.le_refl _))
  have K2 := hid (Blk.below (show Blk _ (w.heap.size + 1) _ 123 from H2.out) hb1 (Nat.le_refl _))
  have K3 := hid (Blk.below (show Blk _ (w.heap.size + 1 + 1) _ 123 from H3.out) hb1 (Nat.le_refl _))
  have B1 := hid (HB.out.trans (hb1.mono HB.out.size))
  clear hb1 hn hm hbool H1 H2 H3 HB
  go_wp2_with (first
    | (refine loadBig rfl (.tmp 2) rfl w.heap.size rfl (limb n) na K1.out ?_)
    | (refine loadBig rfl (.tmp 3) rfl (w.heap.size + 1) rfl (limb m) nb K2.out ?_))
  refine (rsub_any n m na nb HL.out _).mono ?_
  rintro e W3 ⟨rfl, hb3⟩
  have M3 := hid (K3.out.below hb3 (Nat.le_refl _))
  have MB := hid (B1.out.trans (hb3.mono B1.out.size))
  clear hb3 K1 K2 K3
  go_wp2_with (first
    | (refine storeBig rfl (.tmp 5) (.tmp 21) rfl W3.heap.size (limb (n - m)) na rfl rfl _ (.new rfl) rfl ?_)
    | (refine loadBig rfl (.tmp 5) rfl W3.heap.size rfl (limb (n - m)) na ((Blk.new rfl).setRow _) ?_))
  refine (rzero_any (n - m) na (by have := HN.out; omega) _).mono ?_
  rintro e W4 ⟨rfl, hb4⟩
  have N5 := hid (Blk.below ((Blk.new (w := W3) rfl).setRow (arr (limb (n - m)) na)) hb4 (Nat.le_refl _))
  have N3 := hid (Blk.below ((M3.out.alloc _).otherRow (arr (limb (n - m)) na) (by have := M3.out.lt; omega)) hb4 (Nat.le_refl _))
  have NB := hid ((Below_setRow (MB.out.alloc MB.out.size _) (g := W3.heap.size) MB.out.size (arr (limb (n - m)) na)).trans (hb4.mono (by have := MB.out.size; simp; omega)))
  have hl5 := M3.out.lt
  have HL5 := hid hl5
  clear hb4 hl5
  by_cases heq : n = m
  · have hl := HL.out
    obtain rfl : r = false := by rw [HR.out, if_pos heq]
    rw [decide_eq_true (show n - m = 0 by omega)]
    clear heq hl
    have hc : W4.cell? ⟨W3.heap.size, 10, none⟩ = some (.bool na) := N5.out.cell 10
    have hf := N5.out.frozen 10
    have P5 := hid ((N5.out.setCell 10 (.bool false)))
    have P3 := hid (N3.out.other (k := W3.heap.size) (i := 10) (v := .bool false) (by have := HL5.out; omega))
    have PB := hid (NB.out.setCell (p := ⟨W3.heap.size, 10, none⟩) MB.out.size (.bool false))
    rw [arr_setNeg] at P5
    go_wp2_with (first
      | (refine loadBig rfl (.tmp 5) rfl W3.heap.size rfl (limb (n - m)) false P5.out ?_)
      | (refine storeBig rfl (.tmp 4) (.tmp 25) rfl (w.heap.size + 1 + 1) (limb (n - m)) false rfl rfl _ P3.out rfl ?_))
    refine bodyPost_ret (retBig rfl _ _ (w.heap.size + 1 + 1) (limb (n - m)) false rfl (P3.out.setRow _)) rfl ⟨rfl, ?_⟩
    exact PB.out.trans (Below_setRow (Below.refl _ _) (by omega) _)
  · have hl := HL.out
    obtain rfl : na = r := by rw [HR.out, if_neg heq]
    rw [decide_eq_false (show ¬ n - m = 0 by omega)]
    clear heq hl
    go_wp2_with (first
      | (refine loadBig rfl (.tmp 5) rfl W3.heap.size rfl (limb (n - m)) na N5.out ?_)
      | (refine storeBig rfl (.tmp 4) (.tmp 25) rfl (w.heap.size + 1 + 1) (limb (n - m)) na rfl rfl _ N3.out rfl ?_))
    refine bodyPost_ret (retBig rfl _ _ (w.heap.size + 1 + 1) (limb (n - m)) na rfl (N3.out.setRow _)) rfl ⟨rfl, ?_⟩
    exact NB.out.trans (Below_setRow (Below.refl _ _) (by omega) _)
theorem rPlus_any (x y : Int) (hx : 2 * x.natAbs < lim) (hy : 2 * y.natAbs < lim) (w : World) :
    Calls Try.prog 75 #[bigOf x, bigOf y] w fun e w' => e = .returned (bigOf (x + y)) ∧ Below w.heap.size w w' := by
  have p1 : x.natAbs < lim := by omega
  have p2 : y.natAbs < lim := by omega
  by_cases h : decide (x < 0) = decide (y < 0)
  · refine (show Calls Try.prog 75 #[bigM x.natAbs (decide (x < 0)), bigM y.natAbs (decide (y < 0))] w _ from ?_)
    rw [← h]
    refine (plus_same x.natAbs y.natAbs (decide (x < 0)) w).mono ?_
    rintro e w' ⟨rfl, hb⟩
    refine ⟨?_, hb⟩
    unfold bigOf
    have h2 : (x < 0) ↔ (y < 0) := by simpa using h
    rw [show (x + y).natAbs = x.natAbs + y.natAbs by omega, show decide (x + y < 0) = decide (x < 0) by rw [decide_eq_decide]; omega]
  · have h2 : ¬ ((x < 0) ↔ (y < 0)) := by simpa using h
    by_cases hlt : x.natAbs < y.natAbs
    · refine (plus_less x.natAbs y.natAbs _ _ h p1 p2 hlt w).mono ?_
      rintro e w' ⟨rfl, hb⟩
      refine ⟨?_, hb⟩
      unfold bigOf
      rw [show (x + y).natAbs = y.natAbs - x.natAbs by omega, show decide (x + y < 0) = decide (y < 0) by rw [decide_eq_decide]; omega]
    · refine (plus_ge x.natAbs y.natAbs _ _ h p1 p2 (by omega) _ rfl w).mono ?_
      rintro e w' ⟨rfl, hb⟩
      refine ⟨?_, hb⟩
      unfold bigOf
      rw [show (x + y).natAbs = x.natAbs - y.natAbs by omega]
      split
      · rw [show decide (x + y < 0) = false by rw [decide_eq_false_iff_not]; omega]
      · rw [show decide (x + y < 0) = decide (x < 0) by rw [decide_eq_decide]; omega]
end Go.Proofs.Ytecmpjccdhmeeaa
end
section
/- 'Of', 'Minus', 'Int' of the reference, walked. -/
namespace Go.Proofs.Ytecmpjccdhmeeaa
open Go.RowKit
theorem ofArr (u : Nat) (h : u < 18446744073709551616) (neg : Bool) : arr (limb u) neg = #[.int .u64 ((u % 4294967296 : Nat) : Int), .int .u64 ((u / 4294967296 : Nat) : Int), .int .u64 0, .int .u64 0, .int .u64 0, .int .u64 0, .int .u64 0, .int .u64 0, .int .u64 0, .int .u64 0, .bool neg] := by
  have hz : ∀ i, 2 ≤ i → limb u i = 0 := fun i hi => limb_small (Nat.lt_of_lt_of_le h (Nat.pow_le_pow_right (n := 2) (by omega) (show 64 ≤ 32 * i by omega)))
  have h0 : limb u 0 = u % 4294967296 := by unfold limb; simp
  have h1 : limb u 1 = u / 4294967296 := by unfold limb; rw [show 2 ^ (32 * 1) = 4294967296 from rfl]; omega
  unfold arr uV
  rw [h0, h1, hz 2 (by omega), hz 3 (by omega), hz 4 (by omega), hz 5 (by omega), hz 6 (by omega), hz 7 (by omega), hz 8 (by omega), hz 9 (by omega)]
  rfl
set_option maxRecDepth 100000 in
set_option maxHeartbeats 1000000 in
theorem rOf_any (n : Int) (w : World) (h1 : -9223372036854775808 ≤ n) (h2 : n ≤ 9223372036854775807) :
    Calls Try.prog 72 #[.int .i64 n] w fun e w' => e = .returned (bigOf n) ∧ Below w.heap.size w w' := by
  by_cases hn : 0 ≤ n
  · obtain ⟨u, rfl⟩ := Int.eq_ofNat_of_zero_le hn
    have ha := hid (ofArr u (by omega) false)
    have hm := u64_mask u (by omega)
    have hf : ¬ ((u : Int) < 0) := by omega
    go_enter Try.func72, Try.ntmps72
    go_wp2
    refine bodyPost_ret (retBig rfl _ _ w.heap.size (limb u) false rfl ?_) rfl ⟨?_, (Below_one _).alloc (by simp) _⟩
    · rw [ha.out]
      exact al_old (al_new rfl)
    · unfold bigOf bigM
      rw [show ((u : Int)).natAbs = u by omega, show decide ((u : Int) < 0) = false by simp]
  · obtain ⟨u, rfl⟩ : ∃ u : Nat, n = -(u : Int) := ⟨n.natAbs, by omega⟩
    have ha := hid (ofArr u (by omega) true)
    have hm := u64_mask u (by omega)
    have hw : IntKind.u64.wrap (-(u : Int)) = 18446744073709551616 - (u : Int) := by rw [IntKind.wrap_u64]; omega
    have hw2 : IntKind.u64.wrap (-(18446744073709551616 - (u : Int))) = (u : Int) := by rw [IntKind.wrap_u64]; omega
    have hlt : (-(u : Int) < 0) = True := by simp; omega
    go_enter Try.func72, Try.ntmps72
    go_wp2
    refine bodyPost_ret (retBig rfl _ _ w.heap.size (limb u) true rfl ?_) rfl ⟨?_, (Below_one _).alloc (by simp) _⟩
    · rw [ha.out]
      exact al_old (al_new rfl)
    · unfold bigOf bigM
      rw [show (-(u : Int)).natAbs = u by omega, show decide (-(u : Int) < 0) = true by simp; omega]
def fitB (z : Int) : Bool := decide (-9223372036854775808 ≤ z ∧ z ≤ 9223372036854775807)
/-- A number and whether it is an int. -/
def fitV (z : Int) : Value := .tuple #[.int .i64 (if fitB z = true then z else 0), .bool (fitB z)]
theorem fitV_yes {z : Int} (h1 : -9223372036854775808 ≤ z) (h2 : z ≤ 9223372036854775807) : fitV z = .tuple #[.int .i64 z, .bool true] := by
  have : fitB z = true := by unfold fitB; simp [h1, h2]
  unfold fitV; rw [this]; rfl
theorem fitV_no {z : Int} (h : z < -9223372036854775808 ∨ 9223372036854775807 < z) : fitV z = .tuple #[.int .i64 0, .bool false] := by
  have : fitB z = false := by unfold fitB; simp; omega
  unfold fitV; rw [this]; rfl
theorem high_zero {n : Nat} (hn : n < lim) (h : ∀ k, 2 ≤ k → k < 10 → limb n k = 0) : n < 18446744073709551616 := by
  have e : ∀ k, k ≤ 8 → n / 2 ^ (32 * (10 - k)) = 0 := by
    intro k
    induction k with
    | zero => intro _; rw [Nat.sub_zero]; exact lim_div hn
    | succ k ih =>
      intro hk
      rw [div_limb, show 10 - (k + 1) + 1 = 10 - k by omega, ih (by omega), h _ (by omega) (by omega)]
  have := e 8 (by omega)
  have h2 : n / 18446744073709551616 = 0 := this
  omega
theorem or_limbs (n : Nat) (h : n < 18446744073709551616) : bits BinOp.or IntKind.u64 ((limb n 0 : Nat) : Int) (((limb n 1 : Nat) : Int) * 4294967296) = (n : Int) := by
  have h0 : limb n 0 = n % 4294967296 := by unfold limb; simp
  have h1 : limb n 1 = n / 4294967296 := by unfold limb; rw [show 2 ^ (32 * 1) = 4294967296 from rfl]; omega
  rw [h0, h1, show ((n / 4294967296 : Nat) : Int) * 4294967296 = ((n / 4294967296 * 4294967296 : Nat) : Int) by omega, u64_or_nat _ _ (by omega) (by omega), Nat.or_comm, nat_join 32 _ _ (by omega) (by omega)]
  omega
set_option maxRecDepth 100000 in
set_option maxHeartbeats 1000000 in
theorem rInt_any (n : Nat) (neg : Bool) (hn : n < lim) (w : World) (v : Value) (hv : v = fitV (if neg = true then -(n : Int) else n)) :
    Calls Try.prog 74 #[bigM n neg] w fun e w' => e = .returned v ∧ Below w.heap.size w w' := by
  unfold bigM
  have HV := hid hv; have HN := hid hn
  clear hv hn
  go_enter Try.func74, Try.ntmps74
  go_wp2
  have hB := hid (Blk.new (w := w) (cs := arr (limb n) neg) (t := 123) rfl)
  have hb := hid (Below_one (w := w) (.cells (arr (limb n) neg) 123))
  generalize w.alloc (.cells (arr (limb n) neg) 123) = W at *
  go_loop [4,6,7,8,9,10,11,12,13,14] (fun t4 _ _ _ _ _ _ _ _ _ => ∃ i : Nat, 2 ≤ i ∧ i ≤ 10 ∧ t4 = .int .i64 i ∧ ∀ k, 2 ≤ k → k < i → limb n k = 0) (fun t4 _ _ _ _ _ _ _ _ _ => 10 - (intOf t4).toNat)
  case atStart => exact ⟨2, by omega, by omega, rfl, fun k _ _ => by omega⟩
  case round =>
    obtain ⟨i, hi2, hi, rfl, hz⟩ := hrel
    have HZ := hid hz; clear hz
    by_cases hlt : i < 10
    · have hc : W.cell? ⟨w.heap.size, i, none⟩ = some (.int .u64 (limb n i : Nat)) := by rw [hB.out.cell, arr_get _ _ i hlt]
      by_cases h0 : limb n i = 0
      · rw [h0] at hc
        have H0 := hid h0; clear h0
        go_wp2
        go_round
        case rel => exact ⟨i + 1, by omega, by omega, by go_num, fun k hk hk2 => by
          by_cases hki : k = i
          · rw [hki]; exact H0.out
          · exact HZ.out k hk (by omega)⟩
        case measure => simp [intOf]; omega
      · have hne : (((limb n i : Nat) : Int) != 0) = true := by simp; omega
        have hbig : 18446744073709551616 ≤ n := by
          refine Classical.byContradiction fun hc => h0 (limb_small (Nat.lt_of_lt_of_le (show n < 2 ^ 64 by omega) (Nat.pow_le_pow_right (by omega) (by omega))))
        obtain rfl : v = .tuple #[.int .i64 0, .bool false] := by rw [HV.out]; split <;> exact fitV_no (by omega)
        clear HV h0 hbig
        generalize limb n i = x at *
        go_wp2
        go_ret2
        exact ⟨rfl, hb.out⟩
    · obtain rfl : i = 10 := by omega
      have hsm := high_zero HN.out HZ.out
      have c0 : W.cell? ⟨w.heap.size, 0, none⟩ = some (.int .u64 (limb n 0 : Nat)) := by rw [hB.out.cell, arr_get _ _ 0 (by omega)]
      have c1 : W.cell? ⟨w.heap.size, 1, none⟩ = some (.int .u64 (limb n 1 : Nat)) := by rw [hB.out.cell, arr_get _ _ 1 (by omega)]
      have c2 : W.cell? ⟨w.heap.size, 10, none⟩ = some (.bool neg) := by rw [hB.out.cell, arr_neg]
      have l0 := limb_lt n 0
      have l1 := limb_lt n 1
      have hor := or_limbs n hsm
      have HSM := hid hsm; clear hsm
      generalize limb n 0 = x0 at *
      generalize limb n 1 = x1 at *
      cases neg with
      | true =>
        by_cases hbig : (9223372036854775808 : Int) < (n : Int)
        · obtain rfl : v = .tuple #[.int .i64 0, .bool false] := by rw [HV.out]; simp; exact fitV_no (by omega)
          go_wp2
          go_ret2
          exact ⟨rfl, hb.out⟩
        · obtain rfl : v = .tuple #[.int .i64 (-(n : Int)), .bool true] := by rw [HV.out]; simp; exact fitV_yes (by omega) (by omega)
          have hw : wrap64 (IntKind.u64.wrap (-(n : Int))) = -(n : Int) := by rw [IntKind.wrap_u64]; unfold wrap64; omega
          go_wp2
          go_ret2
          exact ⟨rfl, hb.out⟩
      | false =>
        by_cases hbig : (9223372036854775808 : Int) ≤ (n : Int)
        · obtain rfl : v = .tuple #[.int .i64 0, .bool false] := by rw [HV.out]; simp; exact fitV_no (by omega)
          go_wp2
          go_ret2
          exact ⟨rfl, hb.out⟩
        · obtain rfl : v = .tuple #[.int .i64 (n : Int), .bool true] := by rw [HV.out]; simp; exact fitV_yes (by omega) (by omega)
          go_wp2
          go_ret2
          exact ⟨rfl, hb.out⟩
theorem rIntZ_any (z : Int) (hz : z.natAbs < lim) (w : World) : Calls Try.prog 74 #[bigOf z] w fun e w' => e = .returned (fitV z) ∧ Below w.heap.size w w' :=
  rInt_any z.natAbs (decide (z < 0)) hz w (fitV z) (by
    by_cases h : z < 0
    · rw [decide_eq_true h, if_pos rfl, show -((z.natAbs : Nat) : Int) = z by omega]
    · rw [decide_eq_false h, if_neg (by simp), show ((z.natAbs : Nat) : Int) = z by omega])
/-- The same load behind a guard that lets it run. -/
theorem loadBigG {ops : Array Oper} {rest : List Oper} {o : Oper} {a : Act} {w : World} {Q : Exit → Act → World → Prop} (hgd : Region.wanted o (yielded ops a.tmps) = true) (x : Operand) (ho : o.op = .load 123 x) (g : Nat) (hx : a.eval x = .pointer (some ⟨g, 0, none⟩))
    (f : Nat → Nat) (neg : Bool) (hg : Blk w g (arr f neg) 123) (h : wpList Try.prog ops Q rest (a.put o.dst (.agg (arr f neg))) w) : wpList Try.prog ops Q (o :: rest) a w :=
  wpList_step fun _ hK => by
    rw [if_pos hgd]
    exact wp_load_row 123 x ho g hx 123 (arr f neg) (0, 0) _ hg Try.underlying123 rfl (by kernel_rfl) (hK _ _ h)
end Go.Proofs.Ytecmpjccdhmeeaa
end
section
/- 'Add', 'Sub', 'Mul' of the code, walked. -/
namespace Go.Proofs.Ytecmpjccdhmeeaa
open Go.RowKit
set_option maxHeartbeats 2000000 in
theorem asize_any (a : Int) (ha1 : -9223372036854775808 ≤ a) (ha2 : a ≤ 9223372036854775807) (w : World) :
    Calls Try.prog 91 #[.int .i64 a] w fun e w' => e = .returned (.int .u64 a.natAbs) ∧ w' = w := by
  by_cases hA : a < 0
  · have hw : IntKind.u64.wrap a = a + 18446744073709551616 := by rw [IntKind.wrap_u64]; omega
    have hw2 : IntKind.u64.wrap (-(a + 18446744073709551616)) = ((a.natAbs : Nat) : Int) := by rw [IntKind.wrap_u64]; omega
    go_enter Try.func91, Try.ntmps91
    go_wp2
    go_ret
    exact ⟨rfl, rfl⟩
  · have hw : IntKind.u64.wrap a = ((a.natAbs : Nat) : Int) := by rw [IntKind.wrap_u64]; omega
    go_enter Try.func91, Try.ntmps91
    go_wp2
    go_ret
    exact ⟨rfl, rfl⟩
theorem maskN (a : Nat) (ha : a < 18446744073709551616) : bits .and .u64 (a : Int) 4294967295 = ((a % 4294967296 : Nat) : Int) := u64_mask a ha
theorem divN (a : Nat) : (a : Int) / 4294967296 = ((a / 4294967296 : Nat) : Int) := by omega
theorem mulN (a b : Nat) : (a : Int) * (b : Int) = ((a * b : Nat) : Int) := (Int.natCast_mul a b).symm
theorem addN (a b : Nat) : (a : Int) + (b : Int) = ((a + b : Nat) : Int) := (Int.natCast_add a b).symm
theorem wrapN (a : Nat) (ha : a < 18446744073709551616) : IntKind.u64.wrap (a : Int) = (a : Int) := by rw [IntKind.wrap_u64]; omega
theorem wrapM (a : Nat) : IntKind.u64.wrap (a : Int) = ((a % 18446744073709551616 : Nat) : Int) := by rw [IntKind.wrap_u64]; omega
set_option maxHeartbeats 2000000 in
theorem Mul64_any (x y : Nat) (hx : x < 18446744073709551616) (hy : y < 18446744073709551616) (w : World) :
    Calls Try.prog 90 #[.int .u64 x, .int .u64 y] w fun e w' => e = .returned (.tuple #[.int .u64 ((x * y / 18446744073709551616 : Nat) : Int), .int .u64 ((x * y % 18446744073709551616 : Nat) : Int)]) ∧ w' = w := by
  obtain ⟨bd, bt, bw, hhi⟩ := Lib.mul64_hi x y hx hy
  have ba := Lib.half_mul_le (a := x / 4294967296) (b := y / 4294967296) (by omega) (by omega)
  have bb := Lib.half_mul_le (a := x / 4294967296) (b := y % 4294967296) (by omega) (by omega)
  have bc := Lib.half_mul_le (a := x % 4294967296) (b := y / 4294967296) (by omega) (by omega)
  have ba' : x / 4294967296 * (y / 4294967296) < 18446744073709551616 := by omega
  have bb' : x / 4294967296 * (y % 4294967296) < 18446744073709551616 := by omega
  have bc' : x % 4294967296 * (y / 4294967296) < 18446744073709551616 := by omega
  have bh1 : x / 4294967296 * (y / 4294967296) + (x / 4294967296 * (y % 4294967296) + x % 4294967296 * (y % 4294967296) / 4294967296) / 4294967296 < 18446744073709551616 := by omega
  have bh : x / 4294967296 * (y / 4294967296) + (x / 4294967296 * (y % 4294967296) + x % 4294967296 * (y % 4294967296) / 4294967296) / 4294967296 + ((x / 4294967296 * (y % 4294967296) + x % 4294967296 * (y % 4294967296) / 4294967296) % 4294967296 + x % 4294967296 * (y / 4294967296)) / 4294967296 < 18446744073709551616 := by omega
  go_enter Try.func90, Try.ntmps90
  go_wp2
  simp only [maskN x hx, maskN y hy, divN, mulN, addN, wrapN _ bd, wrapN _ bb', wrapN _ bt, maskN _ bt, wrapN _ bc', wrapN _ bw, wrapN _ ba', wrapN _ bh1, wrapN _ bh, wrapM (x * y)]
  rw [hhi]
  go_ret2
  exact ⟨rfl, rfl⟩
set_option maxRecDepth 100000 in
set_option maxHeartbeats 2000000 in
theorem aMul_any (a b : Int) (ha1 : -9223372036854775808 ≤ a) (ha2 : a ≤ 9223372036854775807) (hb1 : -9223372036854775808 ≤ b) (hb2 : b ≤ 9223372036854775807) (w : World) (v : Value) (hv : v = fitV (a * b)) :
    Calls Try.prog 71 #[.int .i64 a, .int .i64 b] w fun e w' => e = .returned v ∧ w' = w := by
  have HV := hid hv; clear hv
  have HA := hid (show a.natAbs < 18446744073709551616 by omega)
  have HB := hid (show b.natAbs < 18446744073709551616 by omega)
  have HN := hid (Int.natAbs_mul a b)
  have HS : Hid ((a < 0 ∧ 0 ≤ b → a * b ≤ 0) ∧ (0 ≤ a ∧ b < 0 → a * b ≤ 0) ∧ (a < 0 ∧ b < 0 → 0 ≤ a * b) ∧ (0 ≤ a ∧ 0 ≤ b → 0 ≤ a * b)) := by
    refine ⟨fun h => ?_, fun h => ?_, fun h => ?_, fun h => ?_⟩
    · exact Int.mul_nonpos_of_nonpos_of_nonneg (by omega) h.2
    · exact Int.mul_nonpos_of_nonneg_of_nonpos h.1 (by omega)
    · exact Int.mul_nonneg_of_nonpos_of_nonpos (by omega) (by omega)
    · exact Int.mul_nonneg h.1 h.2
  generalize a * b = p at *
  go_enter Try.func71, Try.ntmps71
  go_wp2_with fail
  refine (asize_any a ha1 ha2 w).mono ?_
  rintro e W ⟨rfl, rfl⟩
  go_wp2_with fail
  refine (asize_any b hb1 hb2 _).mono ?_
  rintro e W ⟨rfl, rfl⟩
  go_wp2_with fail
  refine (Mul64_any a.natAbs b.natAbs HA.out HB.out _).mono ?_
  rintro e W ⟨rfl, rfl⟩
  generalize a.natAbs * b.natAbs = m at *
  have mul0 : ((m / 18446744073709551616 : Nat) : Int) = 0 → IntKind.u64.wrap 0 = 0 := fun _ => rfl
  clear mul0
  obtain ⟨H, hH⟩ : ∃ H, H = m / 18446744073709551616 := ⟨_, rfl⟩
  obtain ⟨L, hL⟩ : ∃ L, L = m % 18446744073709551616 := ⟨_, rfl⟩
  rw [← hH, ← hL]
  have M := hid (show m = H * 18446744073709551616 + L ∧ L < 18446744073709551616 by omega)
  clear hH hL HA HB
  by_cases hz : H = 0
  · subst hz
    have T := hid (show p = (m : Int) ∨ p = -(m : Int) by have := HN.out; omega)
    have G := hid (show (a < 0 ∧ 0 ≤ b ∨ 0 ≤ a ∧ b < 0 → p = -(L : Int)) ∧ (¬ (a < 0 ∧ 0 ≤ b ∨ 0 ≤ a ∧ b < 0) → p = (L : Int)) by
      have h1 := HS.out; have h2 := T.out; have h3 := M.out
      obtain ⟨g1, g2, g3, g4⟩ := h1
      constructor <;> intro h <;> omega)
    have HL := hid (show (0 : Int) ≤ ((L : Nat) : Int) by omega)
    clear HN HS T
    obtain ⟨z, hz⟩ : ∃ z : Int, z = ((L : Nat) : Int) := ⟨_, rfl⟩
    rw [← hz] at HL G ⊢
    clear hz
    by_cases hb : (9223372036854775808 : Int) ≤ z
    · by_cases hm : a < 0 ∧ 0 ≤ b ∨ 0 ≤ a ∧ b < 0
      · have P := G.out.1 hm
        by_cases he : z = 9223372036854775808
        · obtain rfl : v = .tuple #[.int .i64 (-9223372036854775808), .bool true] := by rw [HV.out, P, he]; exact fitV_yes (by have := HL.out; omega) (by have := HL.out; omega)
          clear P HV G
          rcases hm with ⟨h1, h2⟩ | ⟨h1, h2⟩
          · have h2' : decide (b < 0) = false := by simp; omega
            go_wp2
            go_ret2
            exact ⟨rfl, rfl⟩
          · have h1' : decide (a < 0) = false := by simp; omega
            go_wp2
            go_ret2
            exact ⟨rfl, rfl⟩
        · obtain rfl : v = .tuple #[.int .i64 0, .bool false] := by rw [HV.out]; exact fitV_no (by omega)
          clear P HV G
          have he2 : (z == 9223372036854775808) = false := by simp; omega
          rcases hm with ⟨h1, h2⟩ | ⟨h1, h2⟩
          · have h2' : decide (b < 0) = false := by simp; omega
            go_wp2
            go_ret2
            exact ⟨rfl, rfl⟩
          · have h1' : decide (a < 0) = false := by simp; omega
            go_wp2
            go_ret2
            exact ⟨rfl, rfl⟩
      · have P := G.out.2 hm
        obtain rfl : v = .tuple #[.int .i64 0, .bool false] := by rw [HV.out]; exact fitV_no (by omega)
        have hm2 : (a < 0 ∧ b < 0) ∨ (¬ a < 0 ∧ ¬ b < 0) := by omega
        clear P HV G hm
        rcases hm2 with ⟨h1, h2⟩ | ⟨h1, h2⟩
        · go_wp2
          go_ret2
          exact ⟨rfl, rfl⟩
        · go_wp2
          go_ret2
          exact ⟨rfl, rfl⟩
    · have hc : wrap64 z = z := by have := HL.out; unfold wrap64; omega
      have HC := hid (show wrap64 (-z) = -z by have := HL.out; unfold wrap64; omega)
      have HD := hid hc
      clear hc
      have hge : decide (9223372036854775808 ≤ z) = false := by simp; omega
      by_cases hm : a < 0 ∧ 0 ≤ b ∨ 0 ≤ a ∧ b < 0
      · have P := G.out.1 hm
        obtain rfl : v = .tuple #[.int .i64 (-z), .bool true] := by rw [HV.out, P]; exact fitV_yes (by have := HL.out; omega) (by have := HL.out; omega)
        have he2 : (z == 9223372036854775808) = false := by simp; omega
        clear P HV G
        rcases hm with ⟨h1, h2⟩ | ⟨h1, h2⟩
        · have h2' : decide (b < 0) = false := by simp; omega
          go_wp2
          go_ret2
          refine ⟨?_, rfl⟩
          show Ending.returned (.tuple #[.int .i64 (wrap64 (-wrap64 z)), .bool true]) = _
          rw [HD.out, HC.out]
        · have h1' : decide (a < 0) = false := by simp; omega
          go_wp2
          go_ret2
          refine ⟨?_, rfl⟩
          show Ending.returned (.tuple #[.int .i64 (wrap64 (-wrap64 z)), .bool true]) = _
          rw [HD.out, HC.out]
      · have P := G.out.2 hm
        obtain rfl : v = .tuple #[.int .i64 z, .bool true] := by rw [HV.out, P]; exact fitV_yes (by have := HL.out; omega) (by have := HL.out; omega)
        have hm2 : (a < 0 ∧ b < 0) ∨ (¬ a < 0 ∧ ¬ b < 0) := by omega
        clear P HV G hm
        rcases hm2 with ⟨h1, h2⟩ | ⟨h1, h2⟩
        · go_wp2
          go_ret2
          refine ⟨?_, rfl⟩
          show Ending.returned (.tuple #[.int .i64 (wrap64 z), .bool true]) = _
          rw [HD.out]
        · go_wp2
          go_ret2
          refine ⟨?_, rfl⟩
          show Ending.returned (.tuple #[.int .i64 (wrap64 z), .bool true]) = _
          rw [HD.out]
  · obtain rfl : v = .tuple #[.int .i64 0, .bool false] := by
      have h2 := HN.out; have h3 := M.out
      rw [HV.out]; exact fitV_no (by omega)
    have hz2 : (((H : Nat) : Int) != 0) = true := by simp; omega
    clear HV HN HS M
    by_cases h1 : a < 0 <;> by_cases h2 : b < 0
    all_goals
      go_wp2
      go_ret2
      exact ⟨rfl, rfl⟩
end Go.Proofs.Ytecmpjccdhmeeaa
end
section
/- 'Times' of the reference, walked. -/
namespace Go.Proofs.Ytecmpjccdhmeeaa
open Go.RowKit
/-- A fact put by so that no search comes upon it. -/
structure Box (p : Prop) : Prop where
  out : p
theorem lim_mul {n m k : Nat} (hn : n < 2 ^ k) (hm : m < 2 ^ k) : n * m < 2 ^ (k + k) := by rw [Nat.pow_add]; exact Nat.mul_lt_mul'' hn hm
/-! One part set to another value. -/
theorem limb_div {n p j : Nat} (h : p ≤ j) : limb n j = limb (n / 2 ^ (32 * p)) (j - p) := by
  unfold limb
  rw [Nat.div_div_eq_div_mul, ← Nat.pow_add, ← Nat.mul_add, show p + (j - p) = j by omega]
theorem limb_mod {n p j : Nat} (h : j < p) : limb (n % 2 ^ (32 * p)) j = limb n j := by
  unfold limb
  rw [show 2 ^ (32 * p) = 2 ^ (32 * j) * (4294967296 * 2 ^ (32 * (p - j - 1))) by
    rw [← Nat.mul_assoc, ← pow_succ32, ← Nat.pow_add, ← Nat.mul_add, show j + 1 + (p - j - 1) = p by omega]]
  rw [Nat.mod_mul_right_div_self, Nat.mod_mul_right_mod]
/-- The number with another part. -/
def put (n p v : Nat) : Nat := (n / 2 ^ (32 * (p + 1)) * 4294967296 + v) * 2 ^ (32 * p) + n % 2 ^ (32 * p)
theorem put_div {n p v : Nat} : put n p v / 2 ^ (32 * p) = n / 2 ^ (32 * (p + 1)) * 4294967296 + v := by
  have hp : 0 < 2 ^ (32 * p) := Nat.pow_pos (by omega)
  unfold put
  rw [Nat.add_comm, Nat.add_mul_div_right _ _ hp, Nat.div_eq_of_lt (Nat.mod_lt _ hp), Nat.zero_add]
theorem put_mod {n p v : Nat} : put n p v % 2 ^ (32 * p) = n % 2 ^ (32 * p) := by
  unfold put
  rw [Nat.add_comm, Nat.add_mul_mod_self_right, Nat.mod_mod]
theorem limb_put {n p v : Nat} (hv : v < 4294967296) (j : Nat) : limb (put n p v) j = if j = p then v else limb n j := by
  by_cases h : j = p
  · subst h
    rw [if_pos rfl]
    unfold limb
    rw [put_div]
    omega
  · rw [if_neg h]
    by_cases hl : j < p
    · rw [← limb_mod hl, put_mod, limb_mod hl]
    · rw [limb_div (show p + 1 ≤ j by omega), limb_div (n := n) (show p + 1 ≤ j by omega)]
      congr 1
      rw [pow_succ32, ← Nat.div_div_eq_div_mul, put_div, ← Nat.div_div_eq_div_mul]
      have : (n / 2 ^ (32 * (p + 1)) * 4294967296 + v) / 4294967296 = n / 2 ^ (32 * (p + 1)) := by omega
      rw [this, pow_succ32, Nat.div_div_eq_div_mul]
theorem put_eq (n p v : Nat) : put n p v + limb n p * 2 ^ (32 * p) = n + v * 2 ^ (32 * p) := by
  have h1 := Nat.div_add_mod n (2 ^ (32 * p))
  have h2 := div_limb n p
  unfold put
  rw [Nat.add_mul]
  have h3 : n = (n / 2 ^ (32 * (p + 1)) * 4294967296) * 2 ^ (32 * p) + limb n p * 2 ^ (32 * p) + n % 2 ^ (32 * p) := by
    conv => lhs; rw [← h1, h2, Nat.mul_add, Nat.mul_comm, Nat.mul_comm 4294967296, Nat.mul_comm (2 ^ (32 * p)) (limb n p)]
  omega
/-- What is in the sum behind i rows and k parts of the next one. -/
def part (n m i k : Nat) : Nat := n % 2 ^ (32 * i) * m + limb n i * 2 ^ (32 * i) * (m % 2 ^ (32 * k))
theorem part_zero (n m i : Nat) : part n m i 0 = n % 2 ^ (32 * i) * m := by unfold part; simp [Nat.mod_one]
theorem part_next (n m i k : Nat) : part n m i (k + 1) = part n m i k + limb n i * limb m k * 2 ^ (32 * (i + k)) := by
  unfold part
  rw [mod_limb m k, Nat.mul_add, Nat.mul_add 32 i k, Nat.pow_add 2 (32 * i)]
  have : limb n i * 2 ^ (32 * i) * (2 ^ (32 * k) * limb m k) = limb n i * limb m k * (2 ^ (32 * i) * 2 ^ (32 * k)) := by
    generalize 2 ^ (32 * i) = a; generalize 2 ^ (32 * k) = b
    rw [Nat.mul_assoc, Nat.mul_assoc]
    congr 1
    rw [← Nat.mul_assoc a b, Nat.mul_comm (a * b)]
  omega
theorem part_row (n m i : Nat) (hm : m < 2 ^ (32 * 5)) : part n m i 5 = n % 2 ^ (32 * (i + 1)) * m := by
  unfold part
  rw [Nat.mod_eq_of_lt hm, mod_limb n i, Nat.add_mul, Nat.mul_comm (limb n i)]
theorem times_step {n m i k C over x : Nat} (hI : C + over * 2 ^ (32 * (i + k)) = part n m i k) (hx : x = limb C (i + k)) :
    put C (i + k) ((x + limb n i * limb m k + over) % 4294967296) + (x + limb n i * limb m k + over) / 4294967296 * 2 ^ (32 * (i + (k + 1))) = part n m i (k + 1) := by
  rw [part_next, ← hI]
  have h := put_eq C (i + k) ((x + limb n i * limb m k + over) % 4294967296)
  rw [← hx] at h
  rw [show i + (k + 1) = i + k + 1 by omega, pow_succ32]
  generalize 2 ^ (32 * (i + k)) = B at *
  generalize hq : limb n i * limb m k = q at *
  have e1 : (x + q + over) / 4294967296 * (B * 4294967296) + (x + q + over) % 4294967296 * B = (x + q + over) * B := by
    rw [Nat.mul_comm B, ← Nat.mul_assoc, ← Nat.add_mul]
    congr 1
    omega
  rw [Nat.add_mul, Nat.add_mul] at e1
  omega
theorem row_lt {n m i : Nat} (hm : m < 2 ^ (32 * 5)) (j : Nat) (hj : i + 5 ≤ j) : limb (n % 2 ^ (32 * i) * m) j = 0 := by
  refine limb_small ?_
  have h1 : n % 2 ^ (32 * i) < 2 ^ (32 * i) := Nat.mod_lt _ (Nat.pow_pos (by omega))
  have h2 : n % 2 ^ (32 * i) * m < 2 ^ (32 * i) * 2 ^ (32 * 5) := Nat.mul_lt_mul'' h1 hm
  rw [← Nat.pow_add, ← Nat.mul_add] at h2
  exact Nat.lt_of_lt_of_le h2 (Nat.pow_le_pow_right (by omega) (by omega))
set_option maxRecDepth 100000 in
set_option maxHeartbeats 4000000 in
theorem rTimes_nat (n m p : Nat) (hp : p = n * m) (na nb : Bool) (r : Bool) (hr : r = ((na != nb) && !(decide (p = 0)))) (hn : n < 2 ^ (32 * 5)) (hm : m < 2 ^ (32 * 5)) (w : World) :
    Calls Try.prog 73 #[bigM n na, bigM m nb] w fun e w' => e = .returned (bigM p r) ∧ Below w.heap.size w w' := by
  have HR := hid hr; have HN := hid hn; have HM := hid hm; have HPP := Box.mk hp; clear hr hn hm hp
  unfold bigM
  go_enter Try.func73, Try.ntmps73
  go_upto_region 2 with (fail)
  rw [← arr_zero]
  obtain ⟨h1, h2, h3, hb⟩ := al3 w (.cells (arr (limb n) na) 123) (.cells (arr (limb m) nb) 123) (.cells (arr (fun _ => 0) false) 123)
  have h4 := Blk.new (w := ((w.alloc (.cells (arr (limb n) na) 123)).alloc (.cells (arr (limb m) nb) 123)).alloc (.cells (arr (fun _ => 0) false) 123)) (cs := arr (fun _ => 0) false) (t := 123) (k := w.heap.size + 1 + 1 + 1) (by simp)
  replace h1 := Blk.alloc h1 (.cells (arr (fun _ => 0) false) 123)
  replace h2 := Blk.alloc h2 (.cells (arr (fun _ => 0) false) 123)
  replace h3 := Blk.alloc h3 (.cells (arr (fun _ => 0) false) 123)
  replace hb := hb.alloc (by simp; omega) (.cells (arr (fun _ => 0) false) 123)
  generalize (((w.alloc (.cells (arr (limb n) na) 123)).alloc (.cells (arr (limb m) nb) 123)).alloc (.cells (arr (fun _ => 0) false) 123)).alloc _ = W at *
  have H1 := hid h1; have H2 := hid h2; have H3 := hid h3; have H4 := hid h4; have HB := hid hb
  clear h1 h2 h3 h4 hb
  go_wp2
  go_loopw [6,7,8,9,10,11,12,13,14,15,16,17,18,19,20,21,22,23,24,25,26,27,28,29,30,31,32,33,34,35,36,37,38,39,40,41,42,43,44,45,46,47,48,49] (fun t6 _ _ _ _ _ _ _ _ _ _ _ _ _ _ _ _ _ _ _ _ _ _ _ _ _ _ _ _ _ _ _ _ _ _ _ _ _ _ _ _ _ _ _ wr => ∃ i : Nat, i ≤ 5 ∧ t6 = .int .i64 i ∧ Blk wr w.heap.size (arr (limb n) na) 123 ∧ Blk wr (w.heap.size + 1) (arr (limb m) nb) 123 ∧ Blk wr (w.heap.size + 1 + 1) (arr (fun _ => 0) false) 123 ∧ Blk wr (w.heap.size + 1 + 1 + 1) (arr (limb (n % 2 ^ (32 * i) * m)) false) 123 ∧ Below w.heap.size w wr) (fun t6 _ _ _ _ _ _ _ _ _ _ _ _ _ _ _ _ _ _ _ _ _ _ _ _ _ _ _ _ _ _ _ _ _ _ _ _ _ _ _ _ _ _ _ wr => 5 - (intOf t6).toNat)
  case atStart => exact ⟨0, by omega, rfl, H1.out, H2.out, H3.out, by rw [show n % 2 ^ (32 * 0) * m = 0 by simp [Nat.mod_one], arr_congr false (g := fun _ => 0) (fun i _ => limb_zero i)]; exact H4.out, HB.out⟩
  case round =>
    obtain ⟨i, hi, rfl, hA, hB, hC, hD, hW⟩ := hrel
    have HA := hid hA; have HBb := hid hB; have HC := hid hC; have HD := hid hD; have HW := hid hW
    clear hA hB hC hD hW
    by_cases hlt : i < 5
    · have ca : wr.cell? ⟨w.heap.size, i, none⟩ = some (.int .u64 (limb n i : Nat)) := by rw [HA.out.cell, arr_get _ _ i (by omega)]
      have CA := hid ca; clear ca
      go_wp2
      rw [show decide ((i : Int) < 5) = true by simp; omega]
      go_loopw [7,8,9,14,15,16,17,18,19,20,21,22,23,24,25,26,27,28,29,30,31,32,33,34,35,36,37,38,39,40,41,42,43,44] (fun t7 t8 _ _ _ _ _ _ _ _ _ _ _ _ _ _ _ _ _ _ _ _ _ _ _ _ _ _ _ _ _ _ _ _ wr => ∃ (k C over : Nat), k ≤ 5 ∧ t8 = .int .i64 k ∧ t7 = .int .u64 over ∧ over < 4294967296 ∧ C + over * 2 ^ (32 * (i + k)) = part n m i k ∧ (∀ j, i + 5 ≤ j → limb C j = 0) ∧ Blk wr w.heap.size (arr (limb n) na) 123 ∧ Blk wr (w.heap.size + 1) (arr (limb m) nb) 123 ∧ Blk wr (w.heap.size + 1 + 1) (arr (fun _ => 0) false) 123 ∧ Blk wr (w.heap.size + 1 + 1 + 1) (arr (limb C) false) 123 ∧ Below w.heap.size w wr) (fun _ t8 _ _ _ _ _ _ _ _ _ _ _ _ _ _ _ _ _ _ _ _ _ _ _ _ _ _ _ _ _ _ _ _ wr => 5 - (intOf t8).toNat)
      case atStart => exact ⟨0, n % 2 ^ (32 * i) * m, 0, by omega, rfl, rfl, by omega, by rw [part_zero]; omega, fun j hj => row_lt HM.out j hj, HA.out, HBb.out, HC.out, HD.out, HW.out⟩
      case round =>
        clear HA HBb HC HD HW CA
        obtain ⟨k, C, over, hk, rfl, rfl, ho, hI, hZ, hA, hB, hC, hD, hW⟩ := hrel
        have HA := hid hA; have HBb := hid hB; have HC := hid hC; have HD := hid hD; have HW := hid hW; have HI := Box.mk hI; have HZ := Box.mk hZ
        clear hA hB hC hD hW hI hZ
        by_cases hlk : k < 5
        · obtain ⟨q, hq⟩ : ∃ q, q = i + k := ⟨_, rfl⟩
          have q10 : (q : Int) < 10 := by omega
          have hqi : (i : Int) + (k : Int) = (q : Int) := by omega
          have e6 : wrap64 (q : Int) = (q : Int) := by unfold wrap64; omega
          have e7 : IntKind.i64.wrap (q : Int) = (q : Int) := by rw [IntKind.wrap_i64]; omega
          have i0 : (0 : Int) ≤ (i : Int) := by omega
          have i1 : (i : Int) < 10 := by omega
          have k0 : (0 : Int) ≤ (k : Int) := by omega
          have k1 : (k : Int) < 10 := by omega
          have q0 : (0 : Int) ≤ (q : Int) := by omega
          have c1 : wr.cell? ⟨w.heap.size, i, none⟩ = some (.int .u64 (limb n i : Nat)) := by rw [HA.out.cell, arr_get _ _ i (by omega)]
          have c2 : wr.cell? ⟨w.heap.size + 1, k, none⟩ = some (.int .u64 (limb m k : Nat)) := by rw [HBb.out.cell, arr_get _ _ k (by omega)]
          have c3 : wr.cell? ⟨w.heap.size + 1 + 1 + 1, q, none⟩ = some (.int .u64 (limb C q : Nat)) := by rw [HD.out.cell, arr_get _ _ q (by omega)]
          have HS := Box.mk (times_step HI.out (show limb C q = limb C (i + k) by rw [hq]))
          have l1 := limb_lt n i
          have l2 := limb_lt m k
          have l3 := limb_lt C q
          have l4 : limb n i * limb m k ≤ 4294967295 * 4294967295 := Nat.mul_le_mul (by omega) (by omega)
          obtain ⟨z, hz⟩ : ∃ z, z = limb n i * limb m k := ⟨_, rfl⟩
          have e1 : ((limb n i : Nat) : Int) * ((limb m k : Nat) : Int) = (z : Int) := by rw [hz]; exact (Int.natCast_mul _ _).symm
          rw [← hz] at HS l4
          rw [← hq] at HS
          have HZ2 := hid hz; have HQ := hid hq
          clear hz hq
          generalize limb n i = x at *
          generalize limb m k = y at *
          generalize limb C q = v at *
          have e2 : IntKind.u64.wrap ((x : Int) * (y : Int)) = (z : Int) := by rw [e1, IntKind.wrap_u64]; omega
          clear e1
          have e3 : IntKind.u64.wrap ((v : Int) + (z : Int)) = (v : Int) + (z : Int) := by rw [IntKind.wrap_u64]; omega
          have e4 : IntKind.u64.wrap ((v : Int) + (z : Int) + (over : Int)) = (v : Int) + (z : Int) + (over : Int) := by rw [IntKind.wrap_u64]; omega
          have e5 : bits BinOp.and IntKind.u64 ((v : Int) + (z : Int) + (over : Int)) 4294967295 = (((v + z + over) % 4294967296 : Nat) : Int) := by rw [← u64_mask (v + z + over) (by omega)]; simp
          have L3 := hid l3; have L4 := hid l4; have LO := hid ho
          have E2 := hid e2; have E3 := hid e3; have E4 := hid e4; have E5 := hid e5
          clear l1 l2 l3 l4 ho e2 e3 e4 e5
          go_wp2
          refine wp_region_early [0, 1, 2, 3, 4, 5, 6, 7, 8, 9, 10, 11, 12, 13, 14, 15, 16, 17, 18] [] [] (fun wx => wx.cell? ⟨w.heap.size, i, none⟩ = some (.int .u64 (x : Int)) ∧ wx.cell? ⟨w.heap.size + 1, k, none⟩ = some (.int .u64 (y : Int)) ∧ wx.cell? ⟨w.heap.size + 1 + 1 + 1, q, none⟩ = some (.int .u64 (v : Int))) (by kernel_rfl) (by kernel_rfl) (by kernel_rfl) (by rfl) ⟨c1, c2, c3⟩ ?_
          apply Exists.intro
          refine ⟨fun wx hx => ?_, ?_⟩
          · obtain ⟨x1, x2, x3⟩ := hx
            have e2 := E2.out; have e3 := E3.out; have e4 := E4.out
            repeat (refine seI_step rfl (fun K hK => ?_); go_simp; refine hK _ ?_; clear hK K)
            exact seI_nil rfl
          refine wpTA_nil .nil ?_
          go_wp2
          refine NoPanic.normal ?_
          have e5 := E5.out
          have f1 : wr.frozen? ⟨w.heap.size + 1 + 1 + 1, q, none⟩ = false := HD.out.frozen q
          go_wp2
          go_roundw
          case rel =>
            refine ⟨k + 1, put C q ((v + z + over) % 4294967296), (v + z + over) / 4294967296, by omega, by go_num, by simp, ?_, HS.out, ?_, HA.out.other (by omega), HBb.out.other (by omega), HC.out.other (by omega), ?_, (HW.out.setCell (p := ⟨w.heap.size + 1 + 1 + 1, q, none⟩) (by simp; omega) _).drew⟩
            · have h3 := L3.out; have h4 := L4.out; have h5 := LO.out; omega
            · intro j hj
              rw [limb_put (Nat.mod_lt _ (by omega)), if_neg (by omega)]
              exact HZ.out j hj
            · have h1 := HD.out.setCell q (.int .u64 (((v + z + over) % 4294967296 : Nat) : Int))
              rw [arr_set _ _ _ q (by omega)] at h1
              rw [arr_congr (g := fun k => if k = q then (v + z + over) % 4294967296 else limb C k) false (fun k _ => limb_put (Nat.mod_lt _ (by omega)) k)]
              have q4 : ((v : Int) + (z : Int) + (over : Int)) % 4294967296 = (((v + z + over) % 4294967296 : Nat) : Int) := by omega
              rw [q4]
              exact h1
          case measure => simp [intOf]; omega
        · obtain rfl : k = 5 := by omega
          have hD2 : limb C (i + 5) = 0 := HZ.out _ (by omega)
          have HP := Box.mk (show put C (i + 5) over = n % 2 ^ (32 * (i + 1)) * m by
            have h1 := put_eq C (i + 5) over
            rw [hD2] at h1
            rw [← part_row n m i HM.out, ← HI.out]
            omega)
          have LO := Box.mk ho
          clear hD2 ho
          obtain ⟨q, hq⟩ : ∃ q, q = i + 5 := ⟨_, rfl⟩
          rw [← hq] at HP
          have q10 : (q : Int) < 10 := by omega
          have e7 : IntKind.i64.wrap ((i : Int) + 5) = (q : Int) := by rw [IntKind.wrap_i64]; omega
          have q0 : (0 : Int) ≤ (q : Int) := by omega
          have HQ := Box.mk hq
          clear hq
          have f1 : wr.frozen? ⟨w.heap.size + 1 + 1 + 1, q, none⟩ = false := HD.out.frozen q
          have c3 : wr.cell? ⟨w.heap.size + 1 + 1 + 1, q, none⟩ = some (.int .u64 (limb C q : Nat)) := by rw [HD.out.cell, arr_get _ _ q (by omega)]
          generalize limb C q = v at *
          go_wp2
          have hq := HQ.out
          go_roundw
          case rel =>
            refine ⟨i + 1, by omega, by go_num, HA.out.other (by omega), HBb.out.other (by omega), HC.out.other (by omega), ?_, HW.out.setCell (p := ⟨w.heap.size + 1 + 1 + 1, q, none⟩) (by simp; omega) _⟩
            have h1 := HD.out.setCell q (.int .u64 ((over : Nat) : Int))
            rw [arr_set _ _ _ q (by omega)] at h1
            rw [← HP.out, arr_congr (g := fun k => if k = q then over else limb C k) false (fun k _ => limb_put LO.out k)]
            exact h1
          case measure => simp [intOf]; omega
    · obtain rfl : i = 5 := by omega
      rw [Nat.mod_eq_of_lt HN.out] at HD
      have hL := lim_mul HN.out HM.out
      rw [show 32 * 5 + 32 * 5 = 32 * 10 from rfl, ← lim_eq, ← HPP.out] at hL
      rw [← HPP.out] at HD
      have HL := Box.mk hL
      clear hL
      have cna : wr.cell? ⟨w.heap.size, 10, none⟩ = some (.bool na) := by rw [HA.out.cell, arr_neg]
      have cnb : wr.cell? ⟨w.heap.size + 1, 10, none⟩ = some (.bool nb) := by rw [HBb.out.cell, arr_neg]
      clear HA HBb HN HM H1 H2 H3 H4 HB
      by_cases hnn : na = nb
      case neg =>
        obtain rfl : na = !nb := by cases na <;> cases nb <;> simp_all
        have hnn : ((!nb) != nb) = true := by cases nb <;> rfl
        have HRR : Box (decide (p = 0) = !r) := ⟨by rw [HR.out, hnn]; simp⟩
        clear HR hnn
        go_wp2_with (refine loadBigG rfl (.tmp 5) rfl (w.heap.size + 1 + 1 + 1) rfl (limb p) false HD.out ?_)
        refine (rzero_any p false HL.out _).mono ?_
        rintro e W1 ⟨rfl, hb1⟩
        have G1 := hid (HD.out.below hb1 (Nat.le_refl _))
        have G2 := hid (HC.out.below hb1 (Nat.le_refl _))
        have GB := hid (HW.out.trans (hb1.mono HW.out.size))
        clear hb1 cna cnb
        have K1 := hid (G1.out.setCell 10 (.bool r))
        have K2 := hid (G2.out.other (k := w.heap.size + 1 + 1 + 1) (i := 10) (v := .bool r) (by omega))
        have KB := hid (GB.out.setCell (p := ⟨w.heap.size + 1 + 1 + 1, 10, none⟩) (by simp; omega) (.bool r))
        rw [arr_setNeg] at K1
        have hf := G1.out.frozen 10
        have hc : W1.cell? ⟨w.heap.size + 1 + 1 + 1, 10, none⟩ = some (.bool false) := G1.out.cell 10
        rw [HRR.out]
        go_wp2_with (first
          | (refine loadBig rfl (.tmp 5) rfl (w.heap.size + 1 + 1 + 1) rfl (limb p) r K1.out ?_)
          | (refine storeBig rfl (.tmp 4) (.tmp 61) rfl (w.heap.size + 1 + 1) (limb p) r rfl rfl _ K2.out rfl ?_))
        refine bodyPost_ret (retBig rfl _ _ (w.heap.size + 1 + 1) (limb p) r rfl (K2.out.setRow _)) rfl ⟨rfl, ?_⟩
        exact KB.out.trans (Below_setRow (Below.refl _ _) (by omega) _)
      case pos =>
        subst hnn
        obtain rfl : r = false := by rw [HR.out]; simp
        have K1 := hid (HD.out.setCell 10 (.bool false))
        have K2 := hid (HC.out.other (k := w.heap.size + 1 + 1 + 1) (i := 10) (v := .bool false) (by omega))
        have KB := hid (HW.out.setCell (p := ⟨w.heap.size + 1 + 1 + 1, 10, none⟩) (by simp; omega) (.bool false))
        rw [arr_setNeg] at K1
        have hf := HD.out.frozen 10
        have hc : wr.cell? ⟨w.heap.size + 1 + 1 + 1, 10, none⟩ = some (.bool false) := HD.out.cell 10
        go_wp2_with (first
          | (refine loadBig rfl (.tmp 5) rfl (w.heap.size + 1 + 1 + 1) rfl (limb p) false K1.out ?_)
          | (refine storeBig rfl (.tmp 4) (.tmp 61) rfl (w.heap.size + 1 + 1) (limb p) false rfl rfl _ K2.out rfl ?_))
        refine bodyPost_ret (retBig rfl _ _ (w.heap.size + 1 + 1) (limb p) false rfl (K2.out.setRow _)) rfl ⟨rfl, ?_⟩
        exact KB.out.trans (Below_setRow (Below.refl _ _) (by omega) _)
end Go.Proofs.Ytecmpjccdhmeeaa
end
section
/- Lists of ints: 'Sum' of the code and of the reference, 'Same'. -/
namespace Go.Proofs.Ytecmpjccdhmeeaa
open Go.RowKit
theorem seI_load_row {P : Program} {ops : Array Oper} {wx : World} {Q : Act → Prop} {i : Nat} {r : List Nat} {a : Act} {o : Oper} (ho : ops[i]? = some o) (hgd : o.guard = none) (ty : TypeId) (x : Operand) (hop : o.op = .load ty x)
    (g : Nat) (hx : a.eval x = .pointer (some ⟨g, 0, none⟩)) (t : TypeId) (cs : Array Value) (fr : Nat × Nat) (d : TypeDesc) (hg : wx.heap[g]? = some (.cells cs t fr))
    (hu : P.underlying ty = some d) (hd : (match d with | .struct _ | .array _ _ => true | _ => false) = true) (hi : (P.info? ty).map (·.size) = some cs.size)
    (h : seI P ops wx Q r (a.put o.dst (.agg cs))) : seI P ops wx Q (i :: r) a := by
  refine seI_step ho fun K hK => ?_
  rw [if_pos (by simp [Region.wanted, hgd])]
  unfold Oper.still execOp
  simp only [hop, hx, Instr.loadAt, Instr.sureAddr, Sem.run_bind, Sem.run_pure, Result.andThen_ok, run_loadVar_row wx g t ty cs fr d hg hu hd hi]
  rw [Oper.stillUpon_value]
  exact hK _ h
theorem seI_loadBig {ops : Array Oper} {wx : World} {Q : Act → Prop} {i : Nat} {r : List Nat} {a : Act} {o : Oper} (ho : ops[i]? = some o) (hgd : o.guard = none) (x : Operand) (hop : o.op = .load 123 x) (g : Nat) (hx : a.eval x = .pointer (some ⟨g, 0, none⟩))
    (f : Nat → Nat) (neg : Bool) (hg : Blk wx g (arr f neg) 123) (h : seI Try.prog ops wx Q r (a.put o.dst (.agg (arr f neg)))) : seI Try.prog ops wx Q (i :: r) a :=
  seI_load_row ho hgd 123 x hop g hx 123 (arr f neg) (0, 0) _ hg Try.underlying123 rfl (by kernel_rfl) h
def total (zs : List Int) : Int := zs.foldl (· + ·) 0
theorem total_take_succ {zs : List Int} {k : Nat} (h : k < zs.length) : total (zs.take (k + 1)) = total (zs.take k) + zs[k] := by
  unfold total
  rw [List.take_succ_eq_append_getElem h, List.foldl_append]
  rfl
theorem total_bound {zs : List Int} (h : ints zs) : ∀ k, k ≤ zs.length → -9223372036854775808 * (k : Int) ≤ total (zs.take k) ∧ total (zs.take k) ≤ 9223372036854775808 * (k : Int) := by
  intro k
  induction k with
  | zero => intro _; simp [total]
  | succ k ih =>
    intro hk
    have := ih (by omega)
    have hz := h zs[k] (List.getElem_mem _)
    rw [total_take_succ (by omega)]
    omega
theorem add64 (x y : Int) (hx : 0 ≤ x) (hy : 0 ≤ y) (w : World) : (callFunc 88 #[.int .u64 x, .int .u64 y, .int .u64 0]).run Try.prog w =
    .ok (.value (.tuple #[.int .u64 ((x + y) % 18446744073709551616), .int .u64 ((x + y) / 18446744073709551616)])) w := by
  rw [run_callFunc_extern Try.func88 (by kernel_rfl) (by kernel_rfl) (by kernel_rfl) (e := add64Entry) (by kernel_rfl), run_add64 x y 0 hx hy (by omega) (by omega)]
  simp [Result.andThen]
def sLo (z : Int) : Int := z % 18446744073709551616
def sHi (z : Int) : Int := z / 18446744073709551616 % 18446744073709551616
theorem lo_step (s n : Int) : (sLo s + IntKind.u64.wrap n) % 18446744073709551616 = sLo (s + n) := by rw [IntKind.wrap_u64]; unfold sLo; omega
theorem hi_step (s n : Int) (h1 : -9223372036854775808 ≤ n) (h2 : n ≤ 9223372036854775807) :
    IntKind.u64.wrap (sHi s + IntKind.u64.wrap (IntKind.u64.wrap (n / 9223372036854775808) + (sLo s + IntKind.u64.wrap n) / 18446744073709551616)) = sHi (s + n) := by
  simp only [IntKind.wrap_u64]
  have e1 : n = n % 18446744073709551616 + 18446744073709551616 * (n / 9223372036854775808) := by omega
  have e2 : s = sLo s + 18446744073709551616 * (s / 18446744073709551616) := by unfold sLo; omega
  have e3 : (s + n) / 18446744073709551616 = s / 18446744073709551616 + n / 9223372036854775808 + (sLo s + n % 18446744073709551616) / 18446744073709551616 := by
    have e4 : s + n = (sLo s + n % 18446744073709551616) + 18446744073709551616 * (s / 18446744073709551616 + n / 9223372036854775808) := by omega
    generalize sLo s + n % 18446744073709551616 = z at *
    generalize s / 18446744073709551616 = q at *
    generalize n / 9223372036854775808 = r at *
    omega
  unfold sHi
  rw [e3]
  generalize (sLo s + n % 18446744073709551616) / 18446744073709551616 = z
  generalize s / 18446744073709551616 = q
  generalize n / 9223372036854775808 = r
  omega
set_option maxRecDepth 100000 in
set_option maxHeartbeats 2000000 in
theorem aSum_any (a : Option Addr) (cap : Nat) (zs : List Int) (w : World) (v : Value) (hv : v = fitV (total zs)) (hi : ints zs) (hl : zs.length ≤ 1000000) (hr : RowAt w a (zs.map iV)) :
    Calls Try.prog 66 #[.slice a zs.length cap] w fun e w' => e = .returned v ∧ w' = w := by
  have HR := hid hr; have HI := hid hi; have HV := hid hv; have HL := hid hl
  clear hr hi hv
  go_enter Try.func66, Try.ntmps66
  go_wp2
  go_loop [4,5,7,8,11,12,13,14,15,16,17,18,19,20,21,22,23,24,25,26,27,28,29] (fun t4 t5 _ _ t11 _ _ _ _ _ _ _ _ _ _ _ _ _ _ _ _ _ _ => ∃ k : Nat, k ≤ zs.length ∧ t11 = .int .i64 k ∧ t4 = .int .u64 (sHi (total (zs.take k))) ∧ t5 = .int .u64 (sLo (total (zs.take k)))) (fun _ _ _ _ t11 _ _ _ _ _ _ _ _ _ _ _ _ _ _ _ _ _ _ => zs.length - (intOf t11).toNat)
  case atStart => exact ⟨0, by omega, rfl, rfl, rfl⟩
  case round =>
    obtain ⟨k, hk, rfl, rfl, rfl⟩ := hrel
    by_cases hlt : k < zs.length
    · obtain ⟨b, off, rfl, hc⟩ := HR.out.int hlt
      have hz := HI.out zs[k] (List.getElem_mem _)
      have HT := hid (total_take_succ hlt)
      have hB := hid (total_bound HI.out k (by omega))
      have hB2 := hid (total_bound HI.out (k + 1) (by omega))
      generalize zs[k] = n at *
      obtain ⟨s, hs⟩ : ∃ s, s = total (zs.take k) := ⟨_, rfl⟩
      rw [← hs] at HT hB ⊢
      clear hs
      obtain ⟨x, hx⟩ : ∃ x, x = sLo s := ⟨_, rfl⟩
      obtain ⟨y, hy⟩ : ∃ y, y = sHi s := ⟨_, rfl⟩
      rw [← hx, ← hy]
      have x1 : 0 ≤ x := by rw [hx]; unfold sLo; omega
      obtain ⟨u, hu⟩ : ∃ u, u = IntKind.u64.wrap n := ⟨_, rfl⟩
      have hn := hu.symm
      have u1 : 0 ≤ u := by rw [hu, IntKind.wrap_u64]; omega
      have HX := hid hx; have HY := hid hy; have HU := hid hu; have HZ := hid hz
      clear hx hy hu hz
      have hadd := fun w => add64 x u x1 u1 w
      go_wp2_with (simp only [hadd])
      go_round
      case rel =>
        refine ⟨k + 1, by omega, by go_num, ?_, ?_⟩
        · rw [HT.out, ← hi_step s n HZ.out.1 HZ.out.2, HX.out, HY.out, HU.out]
        · rw [HT.out, ← lo_step, HX.out, HU.out]
      case measure => simp [intOf]; omega
    · obtain rfl : k = zs.length := by omega
      have hB := hid (total_bound HI.out zs.length (by omega))
      rw [List.take_length] at hB ⊢
      generalize total zs = s at *
      obtain ⟨x, hx⟩ : ∃ x, x = sLo s := ⟨_, rfl⟩
      obtain ⟨y, hy⟩ : ∃ y, y = sHi s := ⟨_, rfl⟩
      rw [← hx, ← hy]
      by_cases hf : fitB s = true
      · have hf2 : -9223372036854775808 ≤ s ∧ s ≤ 9223372036854775807 := by simpa [fitB] using hf
        obtain rfl : v = .tuple #[.int .i64 s, .bool true] := by rw [HV.out]; exact fitV_yes hf2.1 hf2.2
        have hw : wrap64 x = s := by rw [hx]; unfold sLo wrap64; omega
        have hy2 : (y != IntKind.u64.wrap (s / 9223372036854775808)) = false := by rw [hy, IntKind.wrap_u64]; unfold sHi; simp; omega
        clear HV hf hf2 hx hy hB
        have HW := hid hw
        go_wp2
        go_ret2
        exact ⟨rfl, rfl⟩
      · have hf2 : s < -9223372036854775808 ∨ 9223372036854775807 < s := by simp [fitB] at hf; omega
        obtain rfl : v = .tuple #[.int .i64 0, .bool false] := by rw [HV.out]; exact fitV_no hf2
        have hy2 : (y != IntKind.u64.wrap (wrap64 x / 9223372036854775808)) = true := by
          have := hB.out; rw [hy, hx, IntKind.wrap_u64]; unfold sHi sLo wrap64; simp; omega
        clear HV hf hf2 hx hy hB
        go_wp2
        go_ret2
        exact ⟨rfl, rfl⟩
end Go.Proofs.Ytecmpjccdhmeeaa
end
section
/- The law of sums, walked. -/
namespace Go.Proofs.Ytecmpjccdhmeeaa
open Go.RowKit
theorem Try.infoInt : (Try.prog.info? 3).map (fun i => (i.zero, i.size, i.bytes)) = some (some (.int .i64 0), 1, 8) := by kernel_rfl
end Go.Proofs.Ytecmpjccdhmeeaa
end
section
/- The law of pairs, walked. -/
namespace Go.Proofs.Ytecmpjccdhmeeaa
open Go.RowKit
theorem sign_mul (x y : Int) : decide (x * y < 0) = ((decide (x < 0) != decide (y < 0)) && !(decide ((x * y).natAbs = 0))) := by
  rcases Int.lt_trichotomy x 0 with hx | hx | hx <;> rcases Int.lt_trichotomy y 0 with hy | hy | hy
  · have := Int.mul_pos_of_neg_of_neg hx hy
    rw [decide_eq_true hx, decide_eq_true hy, decide_eq_false (by omega)]; rfl
  · subst hy; simp
  · have := Int.mul_neg_of_neg_of_pos hx hy
    rw [decide_eq_true hx, decide_eq_false (show ¬ y < 0 by omega), decide_eq_true this, decide_eq_false (show ¬ (x * y).natAbs = 0 by omega)]; rfl
  · subst hx; simp
  · subst hx; simp
  · subst hx; simp
  · have := Int.mul_neg_of_pos_of_neg hx hy
    rw [decide_eq_false (show ¬ x < 0 by omega), decide_eq_true hy, decide_eq_true this, decide_eq_false (show ¬ (x * y).natAbs = 0 by omega)]; rfl
  · subst hy; simp
  · have := Int.mul_pos hx hy
    rw [decide_eq_false (show ¬ x < 0 by omega), decide_eq_false (show ¬ y < 0 by omega), decide_eq_false (show ¬ x * y < 0 by omega)]; rfl
theorem rTimes_any (x y : Int) (hx : x.natAbs < 2 ^ (32 * 5)) (hy : y.natAbs < 2 ^ (32 * 5)) (w : World) :
    Calls Try.prog 73 #[bigOf x, bigOf y] w fun e w' => e = .returned (bigOf (x * y)) ∧ Below w.heap.size w w' :=
  rTimes_nat x.natAbs y.natAbs (x * y).natAbs (Int.natAbs_mul x y) (decide (x < 0)) (decide (y < 0)) (decide (x * y < 0)) (sign_mul x y) hx hy w
theorem fitV_out (z : Int) : ∃ x o, fitV z = .tuple #[.int .i64 x, .bool o] := ⟨_, _, rfl⟩
end Go.Proofs.Ytecmpjccdhmeeaa
end
section
/- 'Blocks' of both, walked. -/
namespace Go.Proofs.Ytecmpjccdhmeeaa
open Go.RowKit
/-- How many blocks, and whether there are any to be told. -/
def blkB (u b : Int) : Bool := decide (0 ≤ u ∧ 1 ≤ b)
def blkV (u b : Int) : Int := if blkB u b = true then (u + b - 1) / b else 0
def blkT (u b : Int) : Value := .tuple #[.int .i64 (blkV u b), .bool (blkB u b)]
theorem blkT_no {u b : Int} (h : u < 0 ∨ b < 1) : blkT u b = .tuple #[.int .i64 0, .bool false] := by
  have : blkB u b = false := by unfold blkB; simp; omega
  unfold blkT blkV; rw [this]; rfl
theorem blkT_yes {u b : Int} (h1 : 0 ≤ u) (h2 : 1 ≤ b) : blkT u b = .tuple #[.int .i64 ((u + b - 1) / b), .bool true] := by
  have : blkB u b = true := by unfold blkB; simp; omega
  unfold blkT blkV; rw [this]; rfl
theorem blk_one {u b : Int} (h1 : 1 ≤ u) (h2 : 1 ≤ b) : (u - 1).tdiv b + 1 = (u + b - 1) / b ∧ 0 ≤ (u - 1) / b ∧ (u - 1) / b < u := by
  rw [Int.tdiv_eq_ediv_of_nonneg (by omega), show u + b - 1 = (u - 1) + 1 * b by omega, Int.add_mul_ediv_right _ _ (by omega)]
  refine ⟨rfl, Int.ediv_nonneg (by omega) (by omega), ?_⟩
  have := Int.ediv_le_self b (show 0 ≤ u - 1 by omega)
  omega
set_option maxRecDepth 100000 in
set_option maxHeartbeats 2000000 in
theorem aBlocks_any (u b : Int) (hu : u ≤ 9223372036854775807) (hb : b ≤ 9223372036854775807) (hu0 : -9223372036854775808 ≤ u) (hb0 : -9223372036854775808 ≤ b) (w : World) (v : Value) (hv : v = blkT u b) :
    Calls Try.prog 62 #[.int .i64 u, .int .i64 b] w fun e w' => e = .returned v ∧ w' = w := by
  by_cases h1 : u < 0
  · obtain rfl : v = .tuple #[.int .i64 0, .bool false] := by rw [hv]; exact blkT_no (.inl h1)
    clear hv
    go_enter Try.func62, Try.ntmps62
    go_wp2
    go_ret2
    exact ⟨rfl, rfl⟩
  · by_cases h2 : b < 1
    · obtain rfl : v = .tuple #[.int .i64 0, .bool false] := by rw [hv]; exact blkT_no (.inr h2)
      clear hv
      go_enter Try.func62, Try.ntmps62
      go_wp2
      go_ret2
      exact ⟨rfl, rfl⟩
    · by_cases h3 : u = 0
      · subst h3
        obtain rfl : v = .tuple #[.int .i64 0, .bool true] := by
          rw [hv, blkT_yes (by omega) (by omega), show 0 + b - 1 = b - 1 by omega, Int.ediv_eq_zero_of_lt (by omega) (by omega)]
        clear hv
        go_enter Try.func62, Try.ntmps62
        go_wp2
        go_ret2
        exact ⟨rfl, rfl⟩
      · have hk := blk_one (u := u) (b := b) (by omega) (by omega)
        obtain ⟨k1, k2, k3⟩ := hk
        rw [Int.tdiv_eq_ediv_of_nonneg (by omega)] at k1
        obtain ⟨q, hq⟩ : ∃ q, q = (u - 1) / b := ⟨_, rfl⟩
        rw [← hq] at k1 k2 k3
        obtain rfl : v = .tuple #[.int .i64 (q + 1), .bool true] := by rw [hv, blkT_yes (by omega) (by omega), k1]
        have ht : (u - 1).tdiv b = q := by rw [hq]; exact Int.tdiv_eq_ediv_of_nonneg (by omega)
        have h3' : (u == 0) = false := by simp; omega
        have hb0 : (b == 0) = false := by simp; omega
        have HQ := Box.mk hq
        clear hv k1 hq h3
        go_enter Try.func62, Try.ntmps62
        go_wp2
        go_ret2
        exact ⟨rfl, rfl⟩
theorem blk_two {u b : Int} (h1 : 0 ≤ u) (h2 : 1 ≤ b) : (u % b = 0 → (u + b - 1) / b = u / b) ∧ (u % b ≠ 0 → (u + b - 1) / b = u / b + 1) ∧ 0 ≤ u / b ∧ u / b ≤ u ∧ (u % b ≠ 0 → u / b < u) := by
  have hd := Int.mul_ediv_add_emod u b
  have m0 := Int.emod_nonneg u (show b ≠ 0 by omega)
  have m1 := Int.emod_lt_of_pos u (show 0 < b by omega)
  have q0 : 0 ≤ u / b := Int.ediv_nonneg h1 (by omega)
  have q1 := Int.ediv_le_self b h1
  have e : u + b - 1 = (u % b + b - 1) + (u / b) * b := by rw [Int.mul_comm]; omega
  refine ⟨fun h => ?_, fun h => ?_, q0, q1, fun h => ?_⟩
  · rw [e, Int.add_mul_ediv_right _ _ (by omega), h, Int.ediv_eq_zero_of_lt (by omega) (by omega)]; omega
  · rw [e, Int.add_mul_ediv_right _ _ (by omega), show u % b + b - 1 = (u % b - 1) + 1 * b by omega, Int.add_mul_ediv_right _ _ (by omega), Int.ediv_eq_zero_of_lt (by omega) (by omega)]; omega
  · refine Classical.byContradiction fun h3 => ?_
    · have h4 : u / b = u := by omega
      rw [h4] at hd
      have : u ≤ b * u := by
        have := Int.mul_le_mul_of_nonneg_right h2 h1
        omega
      omega
set_option maxRecDepth 100000 in
set_option maxHeartbeats 2000000 in
theorem rBlocks_any (u b : Int) (hu : u ≤ 9223372036854775807) (hb : b ≤ 9223372036854775807) (hu0 : -9223372036854775808 ≤ u) (hb0 : -9223372036854775808 ≤ b) (w : World) (v : Value) (hv : v = blkT u b) :
    Calls Try.prog 68 #[.int .i64 u, .int .i64 b] w fun e w' => e = .returned v ∧ w' = w := by
  by_cases h1 : u < 0
  · obtain rfl : v = .tuple #[.int .i64 0, .bool false] := by rw [hv]; exact blkT_no (.inl h1)
    clear hv
    go_enter Try.func68, Try.ntmps68
    go_wp2
    go_ret2
    exact ⟨rfl, rfl⟩
  · by_cases h2 : b < 1
    · obtain rfl : v = .tuple #[.int .i64 0, .bool false] := by rw [hv]; exact blkT_no (.inr h2)
      clear hv
      go_enter Try.func68, Try.ntmps68
      go_wp2
      go_ret2
      exact ⟨rfl, rfl⟩
    · have hk := blk_two (u := u) (b := b) (by omega) (by omega)
      obtain ⟨k1, k2, k3, k4, k5⟩ := hk
      have hy := blkT_yes (u := u) (b := b) (by omega) (by omega)
      rw [hy] at hv
      have ht : u.tdiv b = u / b := Int.tdiv_eq_ediv_of_nonneg (by omega)
      have hr : u.tmod b = u % b := Int.tmod_eq_emod_of_nonneg (by omega)
      generalize u / b = q at *
      generalize (u + b - 1) / b = n at *
      generalize u % b = r at *
      by_cases h3 : r = 0
      · obtain rfl : v = .tuple #[.int .i64 q, .bool true] := by rw [hv, k1 h3]
        subst h3
        have hb1 : (b == 0) = false := by simp; omega
        clear hv k1 k2 k5 hy
        go_enter Try.func68, Try.ntmps68
        go_wp2
        go_ret2
        exact ⟨rfl, rfl⟩
      · obtain rfl : v = .tuple #[.int .i64 (q + 1), .bool true] := by rw [hv, k2 h3]
        have k6 := k5 h3
        have hb1 : (b == 0) = false := by simp; omega
        have hr1 : (r != 0) = true := by simp; omega
        clear hv k1 k2 k5 hy h3
        go_enter Try.func68, Try.ntmps68
        go_wp2
        go_ret2
        exact ⟨rfl, rfl⟩
end Go.Proofs.Ytecmpjccdhmeeaa
end
section
/- Usage spread over tiers, and what it costs: tier and rate; walked. -/
namespace Go.Proofs.Ytecmpjccdhmeeaa
open Go.RowKit
def lnCells (l : Ln) : List Value := [.int .i64 l.tier, .int .i64 l.blocks, .int .i64 l.price]
theorem ln_len (l : Ln) : (lnCells l).length = 3 := rfl
theorem ln_one (l : Ln) : ∀ v ∈ lnCells l, v.oneCell' = true := by
  intro v hv
  simp [lnCells] at hv
  rcases hv with rfl | rfl | rfl <;> rfl
abbrev LsAt (n0 : Nat) (w : World) (a : Option Addr) (ls : List Ln) : Prop := Rws lnCells 3 n0 w a ls
theorem line_ret (t : Tar) (a : Option Addr) (c i : Nat) (n : Int) (w : World) (h : TsAt 0 w a t.ts) (hi : i < t.ts.length) (hl : t.ts.length ≤ 1000) :
    Calls Try.prog 86 #[tarV t a c, .int .i64 i, .int .i64 n] w (Ret (.agg #[.int .i64 i, .int .i64 n, .int .i64 t.ts[i].price]) w) := by
  refine ret_in (GTar.line_calls t.grp t.mode t.block a t.ts.length c i n w (fun u w' => u = .agg #[.int .i64 i, .int .i64 n, .int .i64 t.ts[i].price] ∧ Below w.heap.size w w') ?_)
  unfold GTar.line_vc
  refine newB (Bs.refl w) fun g w2 g0 sg n2 z2 b2 B2 => newB B2 fun g' w3 g0' sg' n3 z3 b3 B3 => ?_
  obtain ⟨b, off, rfl, hc⟩ := (h.below B3).get hi
  exact ⟨by omega, by omega, t.ts[i].price, by rw [Int.toNat_natCast, Nat.add_assoc]; exact cellsAt_get hc 1 _ rfl, boxB B3 g0' fun w4 h4 B4 z4 => ⟨rfl, B4⟩⟩
theorem index1_ret (t : Tr) (g : Nat) (x : Int) (w : World) (hc : w.cell? ⟨g, 0, none⟩ = some (.int .i64 x)) :
    Calls Try.prog 100 #[.agg #[.int .i64 t.upto, .int .i64 t.price], .pointer (some ⟨g, 0, none⟩)] w (Ret (.bool (decide (t.upto = 0 ∨ x ≤ t.upto))) w) := by
  refine ret_in (GTar.index1_calls t.upto t.price (some ⟨g, 0, none⟩) w (fun u w' => u = .bool (decide (t.upto = 0 ∨ x ≤ t.upto)) ∧ Below w.heap.size w w') ?_)
  unfold GTar.index1_vc
  refine newB (Bs.refl w) fun g' w2 g0 sg n2 z2 b2 B2 => br_dec (fun h => ⟨by rw [decide_eq_true (.inl h)], B2⟩) fun h => ⟨x, ?_, ?_, B2⟩
  · rw [cell_keep (b2.block g (block_lt_of_cell hc))]; exact hc
  · congr 1; exact decide_eq_decide.2 (by omega)
theorem indexf_ret (a : Option Addr) (c g : Nat) (ts : List Tr) (x : Int) (w : World) (h : TsAt 0 w a ts) (hl : ts.length ≤ 1000) (hG : Good 0 ts) (hc : w.cell? ⟨g, 0, none⟩ = some (.int .i64 x)) :
    Calls Try.prog 99 #[.slice a ts.length c, .func (.func 100) #[] #[.pointer (some ⟨g, 0, none⟩)]] w (Ret (.int .i64 (idx x ts : Nat)) w) := by
  refine ret_in (GTar.indexf_calls a ts.length c (some ⟨g, 0, none⟩) w (fun u w' => u = .int .i64 (idx x ts : Nat) ∧ Below w.heap.size w w') ?_)
  unfold GTar.indexf_vc
  have hlt0 := idx_lt x ts 0 hG
  refine ⟨fun y wx => ∃ i : Nat, y = i ∧ i ≤ ts.length ∧ idx x ts = i + idx x (ts.drop i) ∧ Bs w wx, fun y _ => ts.length - y.toNat, ⟨0, rfl, by omega, by simp, Bs.refl _⟩, ?_⟩
  rintro y wx ⟨i, rfl, hi, he, B⟩
  refine br_dec (fun hlt => ?_) fun hge => ?_
  · have hil : i < ts.length := by omega
    obtain ⟨b, off, rfl, hcc⟩ := (h.below B).get hil
    rw [List.drop_eq_getElem_cons hil] at he
    refine ⟨by omega, by omega, ts[i].upto, ts[i].price, by rw [Int.toNat_natCast]; exact hcc, callB B (index1_ret ts[i] g x wx ((cell_keep (B.block g (block_lt_of_cell hc)) 0).trans hc)) fun w3 b3 B3 => ⟨_, rfl, br_dec (fun hy => ⟨?_, B3⟩) fun hy => ?_⟩⟩
    · rw [he]; unfold idx; rw [if_pos hy]; simp
    · rw [wr64 (by omega) (by omega)]
      have he2 : idx x ts = i + (idx x (ts.drop (i + 1)) + 1) := by rw [he]; conv => lhs; unfold idx; rw [if_neg hy]
      exact ⟨⟨i + 1, by omega, by omega, by omega, B3⟩, by dsimp only; omega⟩
  · obtain rfl : i = ts.length := by omega
    omega
theorem index_ret (t : Tar) (a : Option Addr) (c : Nat) (x : Int) (w : World) (h : TsAt 0 w a t.ts) (hl : t.ts.length ≤ 1000) (hk : chkE t = 0) (hx : 1 ≤ x) :
    Calls Try.prog 87 #[tarV t a c, .int .i64 x] w (Ret (.int .i64 (idx x t.ts : Nat)) w) := by
  refine ret_in (GTar.index_calls t.grp t.mode t.block a t.ts.length c x w (fun u w' => u = .int .i64 (idx x t.ts : Nat) ∧ Below w.heap.size w w') ?_)
  unfold GTar.index_vc
  refine newB (Bs.refl w) fun g w2 g0 sg n2 z2 b2 B2 => newB B2 fun g' w3 g0' sg' n3 z3 b3 B3 => ?_
  have hc3 : w3.cell? ⟨g', 0, none⟩ = some (.int .i64 x) := by rw [cell_of_row _ _ _ _ _ _ n3]; rfl
  refine ⟨x, hc3, br_n (by omega) (callB B3 (check_ret t a c w3 (h.below B3) hl) fun w4 b4 B4 => ⟨_, rfl, br_n (by omega) (callB B4 (indexf_ret a c g' t.ts x w4 (h.below B4) hl (chk_ok hk).2.2.2 ?_) fun w5 b5 B5 => ⟨_, rfl, rfl, B5⟩)⟩)⟩
  rw [cell_keep (b4.block g' (by omega))]; exact hc3
set_option maxRecDepth 10000 in
theorem split_new (t : Tar) (a : Option Addr) (c : Nat) (pos n : Int) (w : World) (h : TsAt 0 w a t.ts) (hk : chkE t = 0) (hn : 0 ≤ n ∧ n ≤ 1073741824) :
    Calls Try.prog 63 #[tarV t a c, .int .i64 pos, .int .i64 n] w fun e w' => (∃ a' c', e = .returned (.tuple #[.slice a' (splitO t pos n).length c', .int .i64 (if posOk pos then 0 else 1)]) ∧ LsAt w.heap.size w' a' (splitO t pos n)) ∧ Below w.heap.size w w' := by
  refine (GTar.split_calls t.grp t.mode t.block a t.ts.length c pos n w (fun u w' => (∃ a' c', u = .tuple #[.slice a' (splitO t pos n).length c', .int .i64 (if posOk pos then 0 else 1)] ∧ LsAt w.heap.size w' a' (splitO t pos n)) ∧ Below w.heap.size w w') ?_).mono (by rintro e w' ⟨v, rfl, ⟨a', c', rfl, h⟩, h2⟩; exact ⟨⟨a', c', rfl, h⟩, h2⟩)
  unfold GTar.split_vc splitO
  obtain ⟨_, hmode, hlen, hG⟩ := chk_ok hk
  refine newB (Bs.refl w) fun g w2 g0 sg n2 z2 b2 B2 => callB B2 (check_ret t a c w2 (h.below B2) (by omega)) fun w3 b3 B3 => ⟨_, rfl, br_n (by omega) ?_⟩
  have bad : ¬ posOk pos → (∃ a' c', (Value.tuple #[.slice none 0 0, .int .i64 1]) = .tuple #[.slice a' (if posOk pos then splitL t pos n else []).length c', .int .i64 (if posOk pos then 0 else 1)] ∧ LsAt w.heap.size w3 a' (if posOk pos then splitL t pos n else [])) ∧ Below w.heap.size w w3 := fun hb => by
    rw [if_neg hb, if_neg hb]
    exact ⟨⟨none, 0, rfl, Rws.nil⟩, B3⟩
  refine br_dec (fun h1 => bad fun k => by have := k.1; omega) fun h1 => br_dec (fun h1 => bad fun k => by have := k.2; omega) fun h2 => br_n (by omega) (br_n (by omega) ?_)
  have hpos : posOk pos := ⟨by omega, by omega⟩
  rw [if_pos hpos, if_pos hpos]
  refine ⟨fun b wx => b = decide (t.mode = 2 ∧ 0 < n) ∧ w3 = wx, br_dec (fun hm => ⟨decide_eq_decide.2 (by omega), rfl⟩) fun hm => ⟨(decide_eq_false (by omega)).symm, rfl⟩, ?_⟩
  rintro b wx ⟨rfl, rfl⟩
  unfold splitL
  refine br_dec (fun hm => ?_) fun hm => ?_
  · rw [if_pos hm]
    refine drewB B3 fun w5 b5 B5 _ => ?_
    rw [wr64 (by omega) (by omega)]
    have hi := idx_lt (pos + n) t.ts 0 hG
    refine callB B5 (index_ret t a c (pos + n) w5 (h.below B5) (by omega) hk (by omega)) fun w6 b6 B6 => ⟨_, rfl, callB B6 (line_ret t a c (idx (pos + n) t.ts) n w6 (h.below B6) hi (by omega)) fun w7 b7 B7 => ⟨_, _, _, rfl, newB B7 fun g' w8 g0' sg' n8 z8 b8 B8 => ⟨⟨_, _, rfl, ?_⟩, B8⟩⟩⟩
    have he : priceAt t.ts (idx (pos + n) t.ts) = (t.ts[idx (pos + n) t.ts]'hi).price := by unfold priceAt; rw [List.getElem?_eq_getElem hi]
    rw [he]
    exact Rws.one n8 g0'
  · rw [if_neg hm]
    have B3s := B3.size
    have b3s := b3.size
    refine ⟨fun x1 x2 a8 n8 c8 wx => ∃ out : List Ln, n8 = out.length ∧ pos ≤ x1 ∧ 0 ≤ x2 ∧ x1 + x2 = pos + n ∧ (out.length : Int) ≤ x1 - pos ∧ out ++ splitG 0 0 t.ts x1 (pos + n) = splitG 0 0 t.ts pos (pos + n) ∧ Own wx w3.heap.size 116 3 (.slice a8 n8 c8) n8 (out.flatMap lnCells) ∧ Bs w wx ∧ w3.heap.size ≤ wx.heap.size, fun _ x2 _ _ _ _ => x2.toNat,
      ⟨[], rfl, by omega, by omega, by omega, by simp, by simp, Own.nil _ _ _ _, B3, by omega⟩, ?_⟩
    rintro x1 x2 a8 n8 c8 wx ⟨out, rfl, hx1, hx2, hxe, hol, hsp, hO, B, hsz⟩
    refine br_dec (fun hgt => ?_) fun hle => ?_
    · rw [wr64 (show -9223372036854775808 ≤ x1 + 1 by omega) (by omega)]
      have hi := idx_lt (x1 + 1) t.ts 0 hG
      have hx := List.getElem?_eq_getElem hi
      obtain ⟨hst, ht1, ht2⟩ := splitG_step t.ts 0 0 x1 (pos + n) hG (by omega) (by omega) (by omega) _ hx
      have hup := (good0_price hG _ (List.getElem_mem hi)).2
      have hup2 : (t.ts[idx (x1 + 1) t.ts]'hi).upto ≤ 1099511627776 ∨ (t.ts[idx (x1 + 1) t.ts]'hi).upto = 0 := good_far t.ts 0 hG _ (List.getElem_mem hi)
      have hk1 : ∀ k, (Value.slice a8 out.length c8).ownBlock = some k → w3.heap.size ≤ k ∧ k < wx.heap.size := fun k hk => hO.lt k hk
      refine callB B (index_ret t a c (x1 + 1) wx (h.below B) (by omega) hk (by omega)) fun w10 b10 B10 => ⟨_, rfl, ?_⟩
      obtain ⟨b, off, ha, hc⟩ := (h.below B10).get hi
      have fin : ∀ m : Int, m = takeN (t.ts[idx (x1 + 1) t.ts]'hi) x1 (pos + n) → Calls Try.prog 86 #[tarV t a c, .int .i64 (idx (x1 + 1) t.ts : Nat), .int .i64 m] w10 fun e_5 w_11 => KeepG [g] w10 w_11 ∧
          ∃ (x71_0 : Int) (x71_1 : Int) (x71_2 : Int), e_5 = .returned (.agg #[.int .i64 x71_0, .int .i64 x71_1, .int .i64 x71_2]) ∧
          newO w_11 (.cells #[.int .i64 x71_0, .int .i64 x71_1, .int .i64 x71_2] 116) fun g_3 w_12 =>
          appO Try.prog [g] w_12 116 3 24 51 a8 out.length c8 (.slice (some ⟨g_3, 0, none⟩) 1 1) fun m73 a73 c73 w_13 =>
          (∃ out' : List Ln, out.length + m73 = out'.length ∧ pos ≤ IntKind.i64.wrap (x1 + m) ∧ 0 ≤ IntKind.i64.wrap (x2 - m) ∧ IntKind.i64.wrap (x1 + m) + IntKind.i64.wrap (x2 - m) = pos + n ∧ (out'.length : Int) ≤ IntKind.i64.wrap (x1 + m) - pos ∧ out' ++ splitG 0 0 t.ts (IntKind.i64.wrap (x1 + m)) (pos + n) = splitG 0 0 t.ts pos (pos + n) ∧ Own w_13 w3.heap.size 116 3 (.slice a73 (out.length + m73) c73) (out.length + m73) (out'.flatMap lnCells) ∧ Bs w w_13 ∧ w3.heap.size ≤ w_13.heap.size) ∧ (IntKind.i64.wrap (x2 - m)).toNat < x2.toNat := by
        rintro m rfl
        rw [wr64 (show -9223372036854775808 ≤ x1 + takeN (t.ts[idx (x1 + 1) t.ts]'hi) x1 (pos + n) by omega) (by omega), wr64 (show -9223372036854775808 ≤ x2 - takeN (t.ts[idx (x1 + 1) t.ts]'hi) x1 (pos + n) by omega) (by omega)]
        refine callB B10 (line_ret t a c _ _ w10 (h.below B10) hi (by omega)) fun w11 b11 B11 => ⟨_, _, _, rfl, newB B11 fun g' w12 g0' sg' n12 z12 b12 B12 => ?_⟩
        have b10s := b10.size
        have b11s := b11.size
        refine appB B12 (((hO.below b10 (Nat.le_refl _)).below b11 (Nat.le_refl _)).below b12 (Nat.le_refl _)) B3s (by omega) (src_block (n := 1) (size := 3) Try.underlying51 n12 rfl rfl) (by unfold maxLen; omega) (by omega) (fun x hx e => ?_) fun a' c' w13 o13 g13 B13 z13 => ?_
        · rw [List.mem_singleton] at hx; subst hx
          have := (hk1 _ e).1
          omega
        refine ⟨⟨out ++ [⟨(idx (x1 + 1) t.ts : Nat), takeN (t.ts[idx (x1 + 1) t.ts]'hi) x1 (pos + n), (t.ts[idx (x1 + 1) t.ts]'hi).price⟩], by simp, by omega, by omega, by omega, by simp; omega, ?_, ?_, B13, by omega⟩, by omega⟩
        · rw [← hsp, hst, List.append_assoc, Int.zero_add]; rfl
        · rw [List.flatMap_append]; exact o13
      subst ha
      refine ⟨by omega, by omega, (t.ts[idx (x1 + 1) t.ts]'hi).upto, by rw [Int.toNat_natCast]; exact cellsAt_get hc 0 _ rfl, br_dec (fun hu => ?_) fun hu => ?_⟩
      · rw [wr64 (show -9223372036854775808 ≤ (t.ts[idx (x1 + 1) t.ts]'hi).upto - x1 by omega) (by omega)]
        exact fin _ (by unfold takeN; rw [if_pos hu]; omega)
      · exact fin _ (by unfold takeN; rw [if_neg hu]; omega)
    · obtain rfl : x2 = 0 := by omega
      rw [splitG_none _ _ _ _ _ hG (by omega), List.append_nil] at hsp
      subst hsp
      exact ⟨⟨a8, c8, rfl, (Rws.ofOwn (by decide) ln_len hO).low (by omega)⟩, B⟩
end Go.Proofs.Ytecmpjccdhmeeaa
end
section
/- What lines cost; what units come to, at most, and how many fit: tier.Cost, rate; walked. -/
namespace Go.Proofs.Ytecmpjccdhmeeaa
open Go.RowKit
def prodsL (ls : List Ln) : List Int := ls.map fun l => l.blocks * l.price
def blksL (ls : List Ln) : List Int := ls.map (·.blocks)
theorem total_cons (z : Int) (zs : List Int) : total (z :: zs) = z + total zs := by
  unfold total
  have key : ∀ (l : List Int) (a b : Int), l.foldl (· + ·) (a + b) = a + l.foldl (· + ·) b := by
    intro l
    induction l with
    | nil => intro a b; rfl
    | cons x r ih => intro a b; simp only [List.foldl_cons]; rw [Int.add_assoc, ih]
  rw [List.foldl_cons, Int.zero_add]
  have := key zs z 0
  rwa [Int.add_zero] at this
theorem total_prods : ∀ ls : List Ln, total (prodsL ls) = costOf ls
  | [] => rfl
  | l :: r => by rw [prodsL, List.map_cons, total_cons]; show _ + total (prodsL r) = _; rw [total_prods r]; rfl
theorem total_blks : ∀ ls : List Ln, total (blksL ls) = blocksOf ls
  | [] => rfl
  | l :: r => by rw [blksL, List.map_cons, total_cons]; show _ + total (blksL r) = _; rw [total_blks r]; rfl
theorem prod_fits {l : Ln} (h : (0 ≤ l.blocks ∧ l.blocks ≤ 1073741824) ∧ 0 ≤ l.price ∧ l.price ≤ 1048576) : 0 ≤ l.blocks * l.price ∧ l.blocks * l.price ≤ 1125899906842624 := ⟨Int.mul_nonneg h.1.1 h.2.1, mul_le_mul_i h.1.2 h.2.2 h.2.1 (by omega)⟩
/-- Lines that are small enough. -/
def LsOk (ls : List Ln) : Prop := (∀ l ∈ ls, (0 ≤ l.blocks ∧ l.blocks ≤ 1073741824) ∧ 0 ≤ l.price ∧ l.price ≤ 1048576) ∧ ls.length ≤ 1000
theorem cost_fits {ls : List Ln} (h : LsOk ls) : 0 ≤ costOf ls ∧ costOf ls ≤ 1125899906842624 * ls.length := by
  obtain ⟨h1, h2⟩ := h
  clear h2
  induction ls with
  | nil => simp [costOf]
  | cons l r ih =>
    have h3 := prod_fits (h1 l (by simp))
    have h4 := ih fun x hx => h1 x (by simp [hx])
    simp only [costOf, List.length_cons]
    push_cast
    omega
theorem cost_ret (a : Option Addr) (c : Nat) (ls : List Ln) (w : World) (h : LsAt 0 w a ls) (ho : LsOk ls) : Calls Try.prog 64 #[.slice a ls.length c] w (Ret (.tuple #[.int .i64 (costOf ls), .bool true]) w) := by
  refine ret_in (GTar.cost_calls a ls.length c w (fun u w' => u = .tuple #[.int .i64 (costOf ls), .bool true] ∧ Below w.heap.size w w') ?_)
  unfold GTar.cost_vc
  have hl := ho.2
  refine ⟨fun a4 n4 c4 x wx => ∃ i : Nat, x = i ∧ i ≤ ls.length ∧ n4 = i ∧ Own wx w.heap.size 3 1 (.slice a4 i c4) i ((prodsL (ls.take i)).map iV) ∧ Bs w wx, fun _ _ _ x _ => ls.length - x.toNat, ⟨0, rfl, by omega, rfl, Own.nil _ _ _ _, Bs.refl _⟩, ?_⟩
  rintro a4 n4 c4 x wx ⟨i, rfl, hi, rfl, hO, B⟩
  have Bs' := B.size
  refine br_dec (fun hlt => ?_) fun hge => ?_
  · have hil : n4 < ls.length := by omega
    obtain ⟨b, off, rfl, hc⟩ := (h.below B).get hil
    have hp := ho.1 _ (List.getElem_mem hil)
    have hf := prod_fits hp
    have hk := fun k hk => hO.lt k hk
    refine ⟨by omega, by omega, ls[n4].tier, ls[n4].blocks, ls[n4].price, by rw [Int.toNat_natCast]; exact hc, newB B fun g w3 g0 sg n3 z3 b3 B3 => boxB B3 g0 fun w4 h4 B4 z4 => ?_⟩
    have o4 := hO.newbox b3 sg h4
    refine callB B4 (ret_same (aMul_any ls[n4].blocks ls[n4].price (by omega) (by omega) (by omega) (by omega) w4 (.tuple #[.int .i64 (ls[n4].blocks * ls[n4].price), .bool true]) (fitV_yes (by omega) (by omega)).symm)) fun w5 b5 B5 => ⟨_, _, rfl, br_f rfl (newB B5 fun g' w6 g0' sg' n6 z6 b6 B6 => ?_)⟩
    have b5s := b5.size
    refine appB B6 ((o4.below b5 (Nat.le_refl _)).below b6 (Nat.le_refl _)) (Nat.le_refl _) B6.size (src_block (n := 1) (size := 1) Try.underlying45 n6 rfl rfl) (by unfold maxLen; omega) (by omega) (fun x hx e => ?_) fun a' c' w7 o7 g7 B7 z7 => ?_
    · rw [List.mem_singleton] at hx; subst hx
      have := (hk _ e).2
      omega
    rw [wr64 (by omega) (by omega)]
    refine ⟨⟨n4 + 1, by omega, by omega, rfl, ?_, B7⟩, by dsimp only; omega⟩
    unfold prodsL at o7 ⊢
    rw [List.take_add_one, List.getElem?_eq_getElem hil, List.map_append, List.map_append]
    exact o7
  · obtain rfl : n4 = ls.length := by omega
    rw [List.take_length] at hO
    have hcf := cost_fits ho
    have hpl : (prodsL ls).length = ls.length := List.length_map _
    have hs := aSum_any a4 c4 (prodsL ls) wx (.tuple #[.int .i64 (costOf ls), .bool true]) (by rw [total_prods]; exact (fitV_yes (by omega) (by omega)).symm) (fun z hz => by
      obtain ⟨l, hl, rfl⟩ := List.mem_map.1 hz
      have := prod_fits (ho.1 l hl)
      omega) (by omega) hO.row
    rw [hpl] at hs
    exact callB B (ret_same hs) fun w8 b8 B8 => ⟨_, _, rfl, rfl, B8⟩
theorem tblocks_ret (a : Option Addr) (c : Nat) (ls : List Ln) (w : World) (h : LsAt 0 w a ls) (ho : LsOk ls) : Calls Try.prog 25 #[.slice a ls.length c] w (Ret (.tuple #[.int .i64 (blocksOf ls), .bool true]) w) := by
  refine ret_in (GTar.tblocks_calls a ls.length c w (fun u w' => u = .tuple #[.int .i64 (blocksOf ls), .bool true] ∧ Below w.heap.size w w') ?_)
  unfold GTar.tblocks_vc
  have hl := ho.2
  refine ⟨fun a4 n4 c4 x wx => ∃ i : Nat, x = i ∧ i ≤ ls.length ∧ n4 = i ∧ Own wx w.heap.size 3 1 (.slice a4 i c4) i ((blksL (ls.take i)).map iV) ∧ Bs w wx, fun _ _ _ x _ => ls.length - x.toNat, ⟨0, rfl, by omega, rfl, Own.nil _ _ _ _, Bs.refl _⟩, ?_⟩
  rintro a4 n4 c4 x wx ⟨i, rfl, hi, rfl, hO, B⟩
  have Bs' := B.size
  refine br_dec (fun hlt => ?_) fun hge => ?_
  · have hil : n4 < ls.length := by omega
    obtain ⟨b, off, rfl, hc⟩ := (h.below B).get hil
    have hk := fun k hk => hO.lt k hk
    refine ⟨by omega, by omega, ls[n4].tier, ls[n4].blocks, ls[n4].price, by rw [Int.toNat_natCast]; exact hc, newB B fun g w3 g0 sg n3 z3 b3 B3 => boxB B3 g0 fun w4 h4 B4 z4 => newB B4 fun g' w6 g0' sg' n6 z6 b6 B6 => ?_⟩
    have o4 := hO.newbox b3 sg h4
    refine appB B6 (o4.below b6 (Nat.le_refl _)) (Nat.le_refl _) B6.size (src_block (n := 1) (size := 1) Try.underlying45 n6 rfl rfl) (by unfold maxLen; omega) (by omega) (fun x hx e => ?_) fun a' c' w7 o7 g7 B7 z7 => ?_
    · rw [List.mem_singleton] at hx; subst hx
      have := (hk _ e).2
      omega
    rw [wr64 (by omega) (by omega)]
    refine ⟨⟨n4 + 1, by omega, by omega, rfl, ?_, B7⟩, by dsimp only; omega⟩
    unfold blksL at o7 ⊢
    rw [List.take_add_one, List.getElem?_eq_getElem hil, List.map_append, List.map_append]
    exact o7
  · obtain rfl : n4 = ls.length := by omega
    rw [List.take_length] at hO
    have hbf : 0 ≤ blocksOf ls ∧ blocksOf ls ≤ 1073741824 * ls.length := by
      have h1 := ho.1
      clear hO hge hl hi ho h
      induction ls with
      | nil => simp [blocksOf]
      | cons l r ih =>
        have h3 := (h1 l (by simp)).1
        have h4 := ih fun x hx => h1 x (by simp [hx])
        simp only [blocksOf, List.length_cons]
        push_cast
        omega
    have hpl : (blksL ls).length = ls.length := List.length_map _
    have hs := aSum_any a4 c4 (blksL ls) wx (.tuple #[.int .i64 (blocksOf ls), .bool true]) (by rw [total_blks]; exact (fitV_yes (by omega) (by omega)).symm) (fun z hz => by
      obtain ⟨l, hl, rfl⟩ := List.mem_map.1 hz
      have := (ho.1 l hl).1
      omega) (by omega) hO.row
    rw [hpl] at hs
    exact callB B (ret_same hs) fun w8 b8 B8 => ⟨_, _, rfl, rfl, B8⟩
theorem units_ret (x : Int) (w : World) : Calls Try.prog 61 #[.int .i64 x] w (Ret (.bool (decide (0 ≤ x ∧ x ≤ 1073741824))) w) := by
  refine ret_in (GTar.units_calls x w (fun u w' => u = .bool (decide (0 ≤ x ∧ x ≤ 1073741824)) ∧ Below w.heap.size w w') ?_)
  unfold GTar.units_vc
  refine br_dec (fun h => ⟨?_, Bs.refl _⟩) fun h => ⟨?_, Bs.refl _⟩
  · congr 1; exact decide_eq_decide.2 (by omega)
  · congr 1; exact (decide_eq_false (by omega)).symm
theorem rdearest_ret (p : Pl) (a a2 : Option Addr) (c c2 : Nat) (w : World) (h : PlAt w p a a2) : Calls Try.prog 65 #[planV p a c a2 c2] w (Ret (.int .i64 (dear p)) w) := by
  refine ret_in (GTar.rdearest_calls p.day p.frm p.til p.base.grp p.base.mode p.base.block a p.base.ts.length c p.other.grp p.other.mode p.other.block a2 p.other.ts.length c2 w (fun u w' => u = .int .i64 (dear p) ∧ Below w.heap.size w w') ?_)
  unfold GTar.rdearest_vc
  exact newB (Bs.refl w) fun g w2 g0 sg n2 z2 b2 B2 => drewB B2 fun w3 b3 B3 _ => callB B3 (dearest_ret p.base a c w3 (h.base.below B3) h.lb) fun w4 b4 B4 => ⟨_, rfl, callB B4 (dearest_ret p.other a2 c2 w4 (h.other.below B4) h.lo) fun w5 b5 B5 => ⟨_, rfl, rfl, B5⟩⟩
theorem blocks_ret (n b : Int) (w : World) (hn : 0 ≤ n ∧ n ≤ 1073741824) (hb : 1 ≤ b ∧ b ≤ 1073741824) : Calls Try.prog 62 #[.int .i64 n, .int .i64 b] w (Ret (.tuple #[.int .i64 (blk n b), .bool true]) w) :=
  ret_same (aBlocks_any n b (by omega) (by omega) (by omega) (by omega) w _ (blkT_yes hn.1 hb.1).symm)
theorem worst_ret (p : Pl) (a a2 : Option Addr) (c c2 : Nat) (n : Int) (w : World) (h : PlAt w p a a2) (hd : -9223372036854775808 ≤ p.day ∧ p.day ≤ 9223372036854775807) :
    Calls Try.prog 24 #[planV p a c a2 c2, .int .i64 n] w (Ret (.tuple #[.int .i64 (worstN p n), .int .i64 (worstE p n)]) w) := by
  refine ret_in (GTar.worst_calls p.day p.frm p.til p.base.grp p.base.mode p.base.block a p.base.ts.length c p.other.grp p.other.mode p.other.block a2 p.other.ts.length c2 n w (fun u w' => u = .tuple #[.int .i64 (worstN p n), .int .i64 (worstE p n)] ∧ Below w.heap.size w w') ?_)
  unfold GTar.worst_vc
  have bad : ∀ w', Below w.heap.size w w' → worstE p n = 1 → Value.tuple #[.int .i64 0, .int .i64 1] = .tuple #[.int .i64 (worstN p n), .int .i64 (worstE p n)] ∧ Below w.heap.size w w' := fun w' B hE => by
    unfold worstN
    rw [hE]
    exact ⟨rfl, B⟩
  refine newB (Bs.refl w) fun g w2 g0 sg n2 z2 b2 B2 => callB B2 (cplan_ret p a a2 c c2 w2 (h.to B2) hd.1 hd.2) fun w3 b3 B3 => ⟨_, rfl, br_dec (fun h1 => bad _ B3 (by unfold worstE; rw [if_pos (.inl h1)])) fun h1 => callB B3 (units_ret n w3) fun w4 b4 B4 => ⟨_, rfl, br_not (br_dec (fun h2 => ?_) fun h2 => bad _ B4 (by unfold worstE; rw [if_pos (.inr h2)]))⟩⟩
  have hp : planE p = 0 := Decidable.not_not.1 h1
  have hb := (chk_ok (plan_ok hp).1).1.2
  refine callB B4 (blocks_ret n p.base.block w4 h2 hb) fun w5 b5 B5 => ⟨_, _, rfl, br_f rfl (callB B5 (rdearest_ret p a a2 c c2 w5 (h.to B5)) fun w6 b6 B6 => ⟨_, rfl, ?_, B6⟩)⟩
  have hs := worst_small hp h2
  have hE : worstE p n = 0 := by unfold worstE; rw [if_neg (by omega)]
  unfold worstN
  rw [wr64 (by omega) (by omega), hE, if_pos rfl]
theorem fit_ret (p : Pl) (a a2 : Option Addr) (c c2 : Nat) (cr want : Int) (w : World) (h : PlAt w p a a2) (hd : -9223372036854775808 ≤ p.day ∧ p.day ≤ 9223372036854775807) (hc : cr ≤ 9223372036854775807) :
    Calls Try.prog 33 #[planV p a c a2 c2, .int .i64 cr, .int .i64 want] w (Ret (.tuple #[.int .i64 (fitU p cr want), .int .i64 (fitC p cr want), .int .i64 (fitE p cr want)]) w) := by
  refine ret_in (GTar.fit_calls p.day p.frm p.til p.base.grp p.base.mode p.base.block a p.base.ts.length c p.other.grp p.other.mode p.other.block a2 p.other.ts.length c2 cr want w (fun u w' => u = .tuple #[.int .i64 (fitU p cr want), .int .i64 (fitC p cr want), .int .i64 (fitE p cr want)] ∧ Below w.heap.size w w') ?_)
  unfold GTar.fit_vc
  have bad : ∀ w', Below w.heap.size w w' → fitE p cr want = 1 → Value.tuple #[.int .i64 0, .int .i64 0, .int .i64 1] = .tuple #[.int .i64 (fitU p cr want), .int .i64 (fitC p cr want), .int .i64 (fitE p cr want)] ∧ Below w.heap.size w w' := fun w' B hE => by
    unfold fitU fitC
    rw [hE]
    exact ⟨rfl, B⟩
  refine newB (Bs.refl w) fun g w2 g0 sg n2 z2 b2 B2 => callB B2 (cplan_ret p a a2 c c2 w2 (h.to B2) hd.1 hd.2) fun w3 b3 B3 => ⟨_, rfl, br_dec (fun h1 => bad _ B3 (by unfold fitE; rw [if_pos (.inl h1)])) fun h1 => callB B3 (units_ret want w3) fun w4 b4 B4 => ⟨_, rfl, br_not (br_dec (fun h2 => ?_) fun h2 => bad _ B4 (by unfold fitE; rw [if_pos (.inr (.inl h2))]))⟩⟩
  refine br_dec (fun h3 => bad _ B4 (by unfold fitE; rw [if_pos (.inr (.inr h3))])) fun h3 => callB B4 (rdearest_ret p a a2 c c2 w4 (h.to B4)) fun w5 b5 B5 => ⟨_, rfl, ?_⟩
  have hp : planE p = 0 := Decidable.not_not.1 h1
  have hb := (chk_ok (plan_ok hp).1).1.2
  have hE : fitE p cr want = 0 := by unfold fitE; rw [if_neg (by omega)]
  have hU : fitU p cr want = fitN p.base.block (dear p) cr want := by unfold fitU; rw [if_pos hE]
  have hC : fitC p cr want = blk (fitU p cr want) p.base.block * dear p := by unfold fitC; rw [if_pos hE]
  have hnn := fitN_nn p.base.block (dear p) cr want (by omega) (by omega) h2.1
  refine ⟨fun x wx => x = fitU p cr want ∧ Bs w wx, ?_, ?_⟩
  · refine br_dec (fun hpr => drewB B5 fun w6 b6 B6 _ => ⟨by omega, ?_⟩) fun hpr => ⟨by rw [hU]; unfold fitN; rw [if_neg hpr], B5⟩
    have q0 : 0 ≤ cr / dear p := Int.ediv_nonneg (by omega) (by omega)
    have q1 : cr / dear p ≤ cr := Int.ediv_le_self _ (by omega)
    rw [Int.tdiv_eq_ediv_of_nonneg (show 0 ≤ cr by omega), wr64 (by omega) (by omega)]
    refine callB B6 (ret_same (aMul_any (cr / dear p) p.base.block (by omega) (by omega) (by omega) (by omega) w6 _ rfl)) fun w7 b7 B7 => ?_
    have m0 := Int.mul_nonneg q0 (show 0 ≤ p.base.block by omega)
    by_cases hfit : cr / dear p * p.base.block ≤ 9223372036854775807
    · refine ⟨_, _, by rw [fitV_yes (by omega) hfit], br_t rfl ⟨?_, B7⟩⟩
      rw [hU]; unfold fitN; rw [if_pos hpr]
    · refine ⟨_, _, by rw [fitV_no (by omega)], br_f rfl ⟨?_, B7⟩⟩
      rw [hU]; unfold fitN; rw [if_pos hpr]; omega
  · rintro x wx ⟨rfl, B8⟩
    refine callB B8 (worst_ret p a a2 c c2 _ wx (h.to B8) hd) fun w9 b9 B9 => ⟨_, _, rfl, ?_, B9⟩
    have hw : worstE p (fitU p cr want) = 0 := by unfold worstE; rw [if_neg (by rw [hU]; omega)]
    unfold worstN
    rw [hw, hE, if_pos rfl, hC]
def rtdV (r : Rtd) (a : Option Addr) (c : Nat) : Value := .agg #[.slice a r.ls.length c, .int .i64 r.blocks, .int .i64 r.cost, .int .i64 r.pos]
theorem splitO_ok {t : Tar} (h : chkE t = 0) (pos : Int) {n : Int} (hn : 0 ≤ n ∧ n ≤ 1073741824) : LsOk (splitO t pos n) := by
  unfold splitO
  split
  · rename_i hp
    obtain ⟨h1, _, h3⟩ := splitL_ok h hp.1 hn.1
    exact ⟨fun l hl => by have := h1 l hl; omega, by omega⟩
  · exact ⟨(fun l hl => by cases hl), by simp⟩
set_option maxRecDepth 10000 in
theorem rate_new (p : Pl) (a a2 : Option Addr) (c c2 : Nat) (now pos n : Int) (w : World) (h : PlAt w p a a2) (hd : -9223372036854775808 ≤ p.day ∧ p.day ≤ 9223372036854775807) :
    Calls Try.prog 23 #[planV p a c a2 c2, .int .i64 now, .int .i64 pos, .int .i64 n] w fun e w' => (∃ a' c', e = .returned (.tuple #[rtdV (rateR p now pos n) a' c', .int .i64 (rateE p now pos n)]) ∧ LsAt w.heap.size w' a' (rateR p now pos n).ls) ∧ Below w.heap.size w w' := by
  refine (GTar.rate_calls p.day p.frm p.til p.base.grp p.base.mode p.base.block a p.base.ts.length c p.other.grp p.other.mode p.other.block a2 p.other.ts.length c2 now pos n w (fun u w' => (∃ a' c', u = .tuple #[rtdV (rateR p now pos n) a' c', .int .i64 (rateE p now pos n)] ∧ LsAt w.heap.size w' a' (rateR p now pos n).ls) ∧ Below w.heap.size w w') ?_).mono (by rintro e w' ⟨v, rfl, ⟨a', c', rfl, h⟩, h2⟩; exact ⟨⟨a', c', rfl, h⟩, h2⟩)
  unfold GTar.rate_vc
  have bad : ∀ w', Below w.heap.size w w' → rateE p now pos n = 1 → (∃ a' c', Value.tuple #[.agg #[.slice none 0 0, .int .i64 0, .int .i64 0, .int .i64 0], .int .i64 1] = .tuple #[rtdV (rateR p now pos n) a' c', .int .i64 (rateE p now pos n)] ∧ LsAt w.heap.size w' a' (rateR p now pos n).ls) ∧ Below w.heap.size w w' := fun w' B hE => by
    have hR : rateR p now pos n = ⟨[], 0, 0, 0⟩ := by unfold rateR; rw [if_neg (by rw [hE]; decide)]
    rw [hR, hE]
    exact ⟨⟨none, 0, rfl, Rws.nil⟩, B⟩
  refine newB (Bs.refl w) fun g w2 g0 sg n2 z2 b2 B2 => newB B2 fun g' w3 g0' sg' n3 z3 b3 B3 => callB B3 (cplan_ret p a a2 c c2 w3 (h.to B3) hd.1 hd.2) fun w4 b4 B4 => ⟨_, rfl, br_dec (fun h1 => boxB B4 g0' fun w5 h5 B5 _ => bad _ B5 (by unfold rateE; rw [if_pos (.inl h1)])) fun h1 => ?_⟩
  refine br_dec (fun h2 => boxB B4 g0' fun w5 h5 B5 _ => bad _ B5 (by unfold rateE; rw [if_pos (.inr (.inl h2))])) fun h2 => callB B4 (units_ret n w4) fun w7 b7 B7 => ⟨_, rfl, br_not (br_dec (fun h3 => ?_) fun h3 => boxB B7 g0' fun w5 h5 B5 _ => bad _ B5 (by unfold rateE; rw [if_pos (.inr (.inr (.inl h3)))]))⟩
  have hp : planE p = 0 := Decidable.not_not.1 h1
  obtain ⟨hat, hbl, _⟩ := at_ok hp now
  have hb := (chk_ok (plan_ok hp).1).1.2
  refine callQ B7 (at_new p a a2 c c2 now w7 (h.to B7) hd.1 hd.2 (by omega) hp) ?_
  rintro e w9 ⟨a9, c9, rfl, h9⟩ b9 B9
  have hRR : rateE p now pos n = 0 → rateR p now pos n = ⟨splitL (atT p now) pos (blk n p.base.block), blk n p.base.block, costOf (splitL (atT p now) pos (blk n p.base.block)), pos + blk n p.base.block⟩ := fun hE => by unfold rateR; rw [if_pos hE]
  generalize rateR p now pos n = RR at *
  generalize decide (isOther p now) = oo
  generalize atT p now = tt at *
  refine ⟨_, _, _, _, _, _, _, rfl, newB B9 fun g3 w10 g0'' sg'' n10 z10 b10 B10 => boxB B10 g0'' fun w11 h11 B11 z11 => ?_⟩
  have b9s := b9.size
  have b7s := b7.size
  have b4s := b4.size
  have h11' : TsAt w7.heap.size w11 a9 tt.ts := h9.keep fun b hb1 hb2 => (h11.1.block b (by omega) (by rw [List.mem_singleton]; omega)).trans (b10.block b hb2)
  have hbn := blk_nn n p.base.block (by omega) h3.1
  have hbs := blk_self n p.base.block (by omega) h3.1
  have hbb : 0 ≤ blk n p.base.block ∧ blk n p.base.block ≤ 1073741824 := ⟨hbn, Int.le_trans hbs h3.2⟩
  have hbk := blocks_ret n p.base.block w11 h3 hb
  generalize blk n p.base.block = m at *
  rw [← hbl] at hbk
  refine callB B11 hbk fun w12 b12 B12 => ⟨_, _, rfl, br_f rfl (callQ B12 (split_new tt a9 c9 pos m w12 (Rws.low (h11'.below b12) (Nat.zero_le _)) hat hbb) ?_)⟩
  rintro e w14 ⟨a14, c14, rfl, h14⟩ b14 B14
  have b12s := b12.size
  refine ⟨_, _, _, _, rfl, br_dec (fun h5 => boxB B14 g0' fun w15 h15 B15 _ => bad _ B15 ?_) fun h5 => ?_⟩
  · have : ¬ posOk pos := fun k => h5 (by rw [if_pos k])
    unfold rateE; rw [if_pos (.inr (.inr (.inr this)))]
  have hpos : posOk pos := Decidable.byContradiction fun k => h5 (by rw [if_neg k]; decide)
  have hE : rateE p now pos n = 0 := by
    have hno : ¬ (planE p ≠ 0 ∨ now < 0 ∨ ¬ (0 ≤ n ∧ n ≤ 1073741824) ∨ ¬ posOk pos) := fun k => k.elim (fun k => k hp) fun k => k.elim h2 fun k => k.elim (fun k => k h3) fun k => k hpos
    unfold rateE
    rw [if_neg hno]
  have hso : splitO tt pos m = splitL tt pos m := by unfold splitO; rw [if_pos hpos]
  have hls := splitO_ok hat pos (n := m) hbb
  obtain rfl := hRR hE
  rw [hE]
  rw [hso] at h14 hls ⊢
  refine callB B14 (cost_ret a14 c14 _ w14 (h14.low (Nat.zero_le _)) hls) fun w16 b16 B16 => ⟨_, _, rfl, br_f rfl (boxB B16 g0' fun w18 h18 B18 z18 => ⟨⟨a14, c14, ?_, ?_⟩, B18⟩)⟩
  · rw [wr64 (by have := hpos.1; omega) (by have := hpos.2; omega)]
    rfl
  · exact ((h14.below b16).box h18 (by omega)).low (by omega)
end Go.Proofs.Ytecmpjccdhmeeaa
end
section
/- The document's tariffs, lines and what they cost: references 9, 10, 11; walked. -/
namespace Go.Proofs.Ytecmpjccdhmeeaa
open Go.RowKit
theorem r9check_ret (t : Tar) (a : Option Addr) (c : Nat) (w : World) (h : TsAt 0 w a t.ts) (hl : t.ts.length ≤ 1000) : Calls Try.prog 43 #[tarV t a c] w (Ret (.int .i64 (chkE t)) w) := by
  refine ret_in (GTar.rcheck_calls t.grp t.mode t.block a t.ts.length c w (fun u w' => u = .int .i64 (chkE t) ∧ Below w.heap.size w w') ?_)
  unfold GTar.rcheck_vc chkE
  refine newB (Bs.refl w) fun g w2 g0 sg n2 z2 b2 B2 => br_dec (fun h1 => ⟨by rw [if_pos (by omega)], B2⟩) fun h1 => br_dec (fun h2 => ⟨by rw [if_pos (by omega)], B2⟩) fun h2 => br_dec (fun h3 => ⟨by rw [if_pos (by omega)], B2⟩) fun h3 => br_dec (fun h4 => ⟨by rw [if_pos (by omega)], B2⟩) fun h4 => ?_
  rw [if_neg (by omega)]
  refine ⟨fun b wx => b = decide (t.mode ≠ 1 ∧ t.mode ≠ 2) ∧ w2 = wx, br_dec (fun hm => ⟨decide_eq_decide.2 (by omega), rfl⟩) fun hm => ⟨(decide_eq_false (by omega)).symm, rfl⟩, ?_⟩
  rintro b wx ⟨rfl, rfl⟩
  refine br_dec (fun hm => ⟨by rw [if_pos hm], B2⟩) fun hm => br_dec (fun h5 => ⟨by rw [if_neg hm, if_pos (by omega)], B2⟩) fun h5 => br_dec (fun h6 => ⟨by rw [if_neg hm, if_pos (by omega)], B2⟩) fun h6 => ?_
  rw [if_neg hm, if_neg (by omega)]
  generalize t.ts = ts at *
  refine ⟨fun x y wx => ∃ i : Nat, y = i ∧ i ≤ ts.length ∧ tiersE 0 ts = tiersE x (ts.drop i) ∧ 0 ≤ x ∧ x ≤ 1099511627776 ∧ Bs w wx, fun _ y _ => ts.length - y.toNat, ⟨0, rfl, by omega, by simp, by omega, by omega, B2⟩, ?_⟩
  rintro x y wx ⟨i, rfl, hi, he, hx0, hx1, B⟩
  refine br_dec (fun hlt => ?_) fun hge => ?_
  · have hil : i < ts.length := by omega
    obtain ⟨b, off, rfl, hc⟩ := (h.below B).get hil
    have hlast : (ts.drop (i + 1) = []) ↔ i = ts.length - 1 := by rw [List.drop_eq_nil_iff]; omega
    rw [List.drop_eq_getElem_cons hil, tiersE_cons] at he
    refine ⟨by omega, by omega, ts[i].upto, ts[i].price, by rw [Int.toNat_natCast]; exact hc, newB B fun g w3 g0 sg n3 z3 b3 B3 => boxB B3 g0 fun w4 h4 B4 z4 => ?_⟩
    refine br_dec (fun hp => ⟨by rw [he, if_pos (by omega)], B4⟩) fun hp1 => br_dec (fun hp => ⟨by rw [he, if_pos (by omega)], B4⟩) fun hp2 => ?_
    rw [if_neg (by omega)] at he
    rw [wr64 (show -9223372036854775808 ≤ ((ts.length : Nat) : Int) - 1 by omega) (by omega), wr64 (show -9223372036854775808 ≤ ((i : Nat) : Int) + 1 by omega) (by omega)]
    have next : ∀ wy, Bs w wy → 0 ≤ ts[i].upto → ts[i].upto ≤ 1099511627776 → tiersE 0 ts = tiersE ts[i].upto (ts.drop (i + 1)) → (∃ j : Nat, ((i : Nat) : Int) + 1 = j ∧ j ≤ ts.length ∧ tiersE 0 ts = tiersE ts[i].upto (ts.drop j) ∧ 0 ≤ ts[i].upto ∧ ts[i].upto ≤ 1099511627776 ∧ Bs w wy) ∧ ts.length - (((i : Nat) : Int) + 1).toNat < ts.length - ((i : Nat) : Int).toNat :=
      fun wy By h0 h1 h2 => ⟨⟨i + 1, by omega, by omega, h2, h0, h1, By⟩, by omega⟩
    by_cases hla : i = ts.length - 1
    · rw [if_pos (hlast.2 hla)] at he
      refine br_y (by omega) (br_dec (fun hu => ⟨by rw [he, if_pos hu], B4⟩) fun hu => ?_)
      have hu := Decidable.not_not.1 hu
      exact next w4 B4 (by omega) (by omega) (by rw [he, if_neg (not_not_intro hu), hlast.2 hla]; rfl)
    · rw [if_neg (fun h => hla (hlast.1 h))] at he
      refine br_n (by omega) (br_dec (fun hu => ⟨by rw [he, if_pos (by omega)], B4⟩) fun hu => br_dec (fun hu2 => ⟨by rw [he, if_pos (by omega)], B4⟩) fun hu2 => ?_)
      exact next w4 B4 (by omega) (by omega) (by rw [he, if_neg (by omega)])
  · obtain rfl : i = ts.length := by omega
    refine ⟨?_, B⟩
    rw [he, List.drop_length]; rfl
theorem r9cplan_ret (p : Pl) (a a2 : Option Addr) (c c2 : Nat) (w : World) (h : PlAt w p a a2) : Calls Try.prog 14 #[planV p a c a2 c2] w (Ret (.int .i64 (planE p)) w) := by
  refine ret_in (GTar.rcplan_calls p.day p.frm p.til p.base.grp p.base.mode p.base.block a p.base.ts.length c p.other.grp p.other.mode p.other.block a2 p.other.ts.length c2 w (fun u w' => u = .int .i64 (planE p) ∧ Below w.heap.size w w') ?_)
  unfold GTar.rcplan_vc planE
  refine newB (Bs.refl w) fun g w2 g0 sg n2 z2 b2 B2 => callB B2 (r9check_ret p.base a c w2 (h.base.below B2) h.lb) fun w3 b3 B3 => ⟨_, rfl, br_dec (fun h1 => ⟨by rw [if_pos h1], B3⟩) fun h1 => ?_⟩
  rw [if_neg h1]
  refine br_dec (fun h0 => newB B3 fun g' w4 g0' sg' n4 z4 b4 B4 => boxB B4 g0' fun w5 h5 B5 z5 => ?_) fun h0 => ?_
  · rw [if_pos h0]
    have bad : ¬ (p.frm = 0 ∧ p.til = 0 ∧ nothingT p.other) → Value.int .i64 2 = .int .i64 (if p.frm = 0 ∧ p.til = 0 ∧ nothingT p.other then 0 else 2) ∧ Below w.heap.size w w5 := fun k => ⟨by rw [if_neg k], B5⟩
    refine br_dec (fun k => bad fun q => k q.1) fun k1 => br_dec (fun k => bad fun q => k q.2.1) fun k2 => br_dec (fun k => bad fun q => k q.2.2.1) fun k3 => br_dec (fun k => bad fun q => k q.2.2.2.1) fun k4 => br_dec (fun k => bad fun q => k q.2.2.2.2.1) fun k5 => br_dec (fun k => bad fun q => k (by rw [q.2.2.2.2.2]; rfl)) fun k6 => ⟨?_, B5⟩
    rw [if_pos ⟨Decidable.not_not.1 k1, Decidable.not_not.1 k2, Decidable.not_not.1 k3, Decidable.not_not.1 k4, Decidable.not_not.1 k5, List.length_eq_zero_iff.1 (by omega)⟩]
  · rw [if_neg h0]
    have bad : ¬ dayOk p → ∀ z : Int, Value.int .i64 1 = .int .i64 (if ¬ dayOk p then 1 else z) ∧ Below w.heap.size w w3 := fun k z => ⟨by rw [if_pos k], B3⟩
    refine br_dec (fun k => bad (fun q => by have := q.1; omega) _) fun k1 => br_dec (fun k => bad (fun q => by have := q.1; omega) _) fun k2 => br_dec (fun k => bad (fun q => by have := q.2.1; omega) _) fun k3 => br_dec (fun k => bad (fun q => by have := q.2.1; omega) _) fun k4 => br_dec (fun k => bad (fun q => by have := q.2.2.1; omega) _) fun k5 => br_dec (fun k => bad (fun q => by have := q.2.2.1; omega) _) fun k6 => br_dec (fun k => bad (fun q => q.2.2.2 k) _) fun k7 => ?_
    rw [if_neg (not_not_intro (show dayOk p from ⟨by omega, by omega, by omega, k7⟩))]
    refine callB B3 (r9check_ret p.other a2 c2 w3 (h.other.below B3) h.lo) fun w7 b7 B7 => ⟨_, rfl, br_dec (fun h6 => ⟨by rw [if_pos h6], B7⟩) fun h6 => ?_⟩
    rw [if_neg h6]
    exact br_dec (fun h7 => ⟨by rw [if_pos (.inl h7)], B7⟩) fun h7 => br_dec (fun h8 => ⟨by rw [if_pos (.inr h8)], B7⟩) fun h8 => ⟨by rw [if_neg (by omega)], B7⟩
theorem ris_ret (p : Pl) (a a2 : Option Addr) (c c2 : Nat) (now : Int) (w : World) : Calls Try.prog 38 #[planV p a c a2 c2, .int .i64 now] w (Ret (.bool (decide (isOther p now))) w) := by
  refine ret_in (GTar.ris_calls p.day p.frm p.til p.base.grp p.base.mode p.base.block a p.base.ts.length c p.other.grp p.other.mode p.other.block a2 p.other.ts.length c2 now w (fun u w' => u = .bool (decide (isOther p now)) ∧ Below w.heap.size w w') ?_)
  unfold GTar.ris_vc
  refine newB (Bs.refl w) fun g w2 g0 sg n2 z2 b2 B2 => br_dec (fun h0 => ⟨by rw [decide_eq_false fun k => k.1 h0], B2⟩) fun h0 => ⟨h0, ?_⟩
  refine br_dec (fun h1 => br_dec (fun h2 => ⟨?_, B2⟩) fun h2 => ⟨?_, B2⟩) fun h1 => br_dec (fun h2 => ⟨?_, B2⟩) fun h2 => ⟨?_, B2⟩
  · congr 1; exact decide_eq_decide.2 (by rw [isOther_day h0, if_pos h1]; omega)
  · congr 1; exact (decide_eq_false (by rw [isOther_day h0, if_pos h1]; omega)).symm
  · congr 1; exact (decide_eq_true (by rw [isOther_day h0, if_neg h1]; omega)).symm
  · congr 1; exact decide_eq_decide.2 (by rw [isOther_day h0, if_neg h1]; omega)
theorem r10index_ret (t : Tar) (a : Option Addr) (c : Nat) (x : Int) (w : World) (h : TsAt 0 w a t.ts) (hl : t.ts.length ≤ 1000) (hk : chkE t = 0) (hx : 1 ≤ x) :
    Calls Try.prog 89 #[tarV t a c, .int .i64 x] w (Ret (.int .i64 (idx x t.ts : Nat)) w) := by
  refine ret_in (GTar.rindex_calls t.grp t.mode t.block a t.ts.length c x w (fun u w' => u = .int .i64 (idx x t.ts : Nat) ∧ Below w.heap.size w w') ?_)
  unfold GTar.rindex_vc
  have hlt0 := idx_lt x t.ts 0 (chk_ok hk).2.2.2
  refine newB (Bs.refl w) fun g w2 g0 sg n2 z2 b2 B2 => callB B2 (r9check_ret t a c w2 (h.below B2) hl) fun w3 b3 B3 => ⟨_, rfl, br_n (by omega) (br_n (by omega) ?_)⟩
  refine ⟨fun y wx => ∃ i : Nat, y = i ∧ i ≤ t.ts.length ∧ idx x t.ts = i + idx x (t.ts.drop i) ∧ Bs w wx, fun y _ => t.ts.length - y.toNat, ⟨0, rfl, by omega, by simp, B3⟩, ?_⟩
  rintro y wx ⟨i, rfl, hi, he, B⟩
  refine br_dec (fun hlt => ?_) fun hge => ?_
  · have hil : i < t.ts.length := by omega
    obtain ⟨b, off, rfl, hcc⟩ := (h.below B).get hil
    rw [List.drop_eq_getElem_cons hil] at he
    have hc0 : wx.cell? ⟨b, off + ((i : Nat) : Int).toNat * 2, none⟩ = some (.int .i64 t.ts[i].upto) := by rw [Int.toNat_natCast]; exact cellsAt_get hcc 0 _ rfl
    refine ⟨by omega, by omega, t.ts[i].upto, hc0, br_dec (fun h1 => ⟨?_, B⟩) fun h1 => ⟨by omega, by omega, t.ts[i].upto, hc0, br_dec (fun h2 => ⟨?_, B⟩) fun h2 => ?_⟩⟩
    · rw [he]; unfold idx; rw [if_pos (.inl h1)]; simp
    · rw [he]; unfold idx; rw [if_pos (.inr h2)]; simp
    · rw [wr64 (by omega) (by omega)]
      have he2 : idx x t.ts = i + (idx x (t.ts.drop (i + 1)) + 1) := by rw [he]; conv => lhs; unfold idx; rw [if_neg (by omega)]
      exact ⟨⟨i + 1, by omega, by omega, by omega, B⟩, by dsimp only; omega⟩
  · obtain rfl : i = t.ts.length := by omega
    omega
def prevOf (ts : List Tr) : Nat → Int
  | 0 => 0
  | i + 1 => match ts[i]? with | some t => t.upto | none => 0
set_option maxRecDepth 10000 in
theorem r10split_new (t : Tar) (a : Option Addr) (c : Nat) (pos n : Int) (w : World) (h : TsAt 0 w a t.ts) (hk : chkE t = 0) (hn : 0 ≤ n ∧ n ≤ 1073741824) :
    Calls Try.prog 69 #[tarV t a c, .int .i64 pos, .int .i64 n] w fun e w' => (∃ a' c', e = .returned (.tuple #[.slice a' (splitO t pos n).length c', .int .i64 (if posOk pos then 0 else 1)]) ∧ LsAt w.heap.size w' a' (splitO t pos n)) ∧ Below w.heap.size w w' := by
  refine (GTar.rsplit_calls t.grp t.mode t.block a t.ts.length c pos n w (fun u w' => (∃ a' c', u = .tuple #[.slice a' (splitO t pos n).length c', .int .i64 (if posOk pos then 0 else 1)] ∧ LsAt w.heap.size w' a' (splitO t pos n)) ∧ Below w.heap.size w w') ?_).mono (by rintro e w' ⟨v, rfl, ⟨a', c', rfl, h⟩, h2⟩; exact ⟨⟨a', c', rfl, h⟩, h2⟩)
  unfold GTar.rsplit_vc splitO
  obtain ⟨_, hmode, hlen, hG⟩ := chk_ok hk
  refine newB (Bs.refl w) fun g w2 g0 sg n2 z2 b2 B2 => callB B2 (r9check_ret t a c w2 (h.below B2) (by omega)) fun w3 b3 B3 => ⟨_, rfl, br_n (by omega) ?_⟩
  have bad : ¬ posOk pos → (∃ a' c', (Value.tuple #[.slice none 0 0, .int .i64 1]) = .tuple #[.slice a' (if posOk pos then splitL t pos n else []).length c', .int .i64 (if posOk pos then 0 else 1)] ∧ LsAt w.heap.size w3 a' (if posOk pos then splitL t pos n else [])) ∧ Below w.heap.size w w3 := fun hb => by
    rw [if_neg hb, if_neg hb]
    exact ⟨⟨none, 0, rfl, Rws.nil⟩, B3⟩
  refine br_dec (fun h1 => bad fun k => by have := k.1; omega) fun h1 => br_dec (fun h1 => bad fun k => by have := k.2; omega) fun h2 => br_n (by omega) (br_n (by omega) ?_)
  have hpos : posOk pos := ⟨by omega, by omega⟩
  rw [if_pos hpos, if_pos hpos]
  refine br_dec (fun h0 => ?_) fun h0 => ?_
  · have : splitL t pos n = [] := by
      unfold splitL
      rw [if_neg (by omega), splitG_none _ _ _ _ _ hG (by omega)]
    rw [this]
    exact ⟨⟨none, 0, rfl, Rws.nil⟩, B3⟩
  unfold splitL
  rw [wr64 (show -9223372036854775808 ≤ pos + n by omega) (by omega)]
  refine br_dec (fun hm => ?_) fun hm => ?_
  · rw [if_pos ⟨hm, by omega⟩]
    have hi := idx_lt (pos + n) t.ts 0 hG
    refine callB B3 (r10index_ret t a c (pos + n) w3 (h.below B3) (by omega) hk (by omega)) fun w6 b6 B6 => ⟨_, rfl, ?_⟩
    obtain ⟨b, off, rfl, hc⟩ := (h.below B6).get hi
    refine ⟨by omega, by omega, (t.ts[idx (pos + n) t.ts]'hi).price, by rw [Int.toNat_natCast, Nat.add_assoc]; exact cellsAt_get hc 1 _ rfl, newB B6 fun g' w8 g0' sg' n8 z8 b8 B8 => ⟨⟨_, _, rfl, ?_⟩, B8⟩⟩
    have he : priceAt t.ts (idx (pos + n) t.ts) = (t.ts[idx (pos + n) t.ts]'hi).price := by unfold priceAt; rw [List.getElem?_eq_getElem hi]
    rw [he]
    exact Rws.one n8 g0'
  · rw [if_neg (fun k => hm k.1)]
    have B3s := B3.size
    have b3s := b3.size
    refine ⟨fun a8 n8 c8 x wx => ∃ (i : Nat) (out : List Ln), x = i ∧ i ≤ t.ts.length ∧ n8 = out.length ∧ out.length ≤ i ∧ out ++ splitG i (prevOf t.ts i) (t.ts.drop i) pos (pos + n) = splitG 0 0 t.ts pos (pos + n) ∧ Own wx w3.heap.size 116 3 (.slice a8 n8 c8) n8 (out.flatMap lnCells) ∧ Bs w wx ∧ w3.heap.size ≤ wx.heap.size, fun _ _ _ x _ => t.ts.length - x.toNat,
      ⟨0, [], rfl, by omega, rfl, by simp, by simp [prevOf], Own.nil _ _ _ _, B3, by omega⟩, ?_⟩
    rintro a8 n8 c8 x wx ⟨i, out, rfl, hi, rfl, hol, hsp, hO, B, hsz⟩
    refine br_dec (fun hlt => ?_) fun hge => ?_
    · have hil : i < t.ts.length := by omega
      obtain ⟨b, off, rfl, hc⟩ := (h.below B).get hil
      have hmem := List.getElem_mem hil
      have hup := (good0_price hG _ hmem).2
      have hup2 := good_far t.ts 0 hG _ hmem
      rw [wr64 (show -9223372036854775808 ≤ ((i : Nat) : Int) + 1 by omega) (by omega)]
      have low0 : ¬ ((i : Nat) : Int) > 0 → pos = max pos (prevOf t.ts i) := fun k => by
        obtain rfl : i = 0 := by omega
        have := hpos.1
        simp only [prevOf]; omega
      refine ⟨fun y wy => y = max pos (prevOf t.ts i) ∧ wx = wy, br_dec (fun hi0 => ?_) fun hi0 => ⟨low0 hi0, rfl⟩, ?_⟩
      · have hj : i - 1 < t.ts.length := by omega
        obtain ⟨b', off', e', hc'⟩ := (h.below B).get hj
        injection e' with e'
        injection e' with e1 e2
        subst e1; subst e2
        rw [wr64 (show -9223372036854775808 ≤ ((i : Nat) : Int) - 1 by omega) (by omega)]
        refine ⟨by omega, by omega, t.ts[i - 1].upto, by rw [show (((i : Nat) : Int) - 1).toNat = i - 1 by omega]; exact cellsAt_get hc' 0 _ rfl, ?_, rfl⟩
        obtain ⟨k, rfl⟩ : ∃ k, i = k + 1 := ⟨i - 1, by omega⟩
        simp only [prevOf, Nat.add_sub_cancel]
        rw [List.getElem?_eq_getElem (by omega)]
      rintro x11 wy ⟨rfl, rfl⟩
      have hc0 : wx.cell? ⟨b, off + ((i : Nat) : Int).toNat * 2, none⟩ = some (.int .i64 t.ts[i].upto) := by rw [Int.toNat_natCast]; exact cellsAt_get hc 0 _ rfl
      refine ⟨by omega, by omega, t.ts[i].upto, hc0, fun y wy => y = (if 0 < t.ts[i].upto then min (pos + n) t.ts[i].upto else pos + n) ∧ wx = wy, br_dec (fun hu => ⟨by omega, by omega, t.ts[i].upto, hc0, by rw [if_pos hu], rfl⟩) fun hu => ⟨by rw [if_neg hu], rfl⟩, ?_⟩
      rintro x12 wy ⟨hx12, rfl⟩
      have hst : splitG i (prevOf t.ts i) (t.ts.drop i) pos (pos + n) = (if max pos (prevOf t.ts i) < x12 then [⟨i, x12 - max pos (prevOf t.ts i), t.ts[i].price⟩] else []) ++ splitG ((i + 1 : Nat) : Int) (prevOf t.ts (i + 1)) (t.ts.drop (i + 1)) pos (pos + n) := by
        rw [List.drop_eq_getElem_cons hil, hx12]
        conv => lhs; unfold splitG
        simp only [prevOf, List.getElem?_eq_getElem hil]
        rfl
      rw [hst] at hsp
      have hb12 : 0 ≤ x12 ∧ x12 ≤ pos + n := by rw [hx12]; split <;> omega
      refine br_dec (fun hgt => ?_) fun hle => ?_
      · rw [if_pos hgt] at hsp
        have hmx : 0 ≤ max pos (prevOf t.ts i) := by omega
        generalize max pos (prevOf t.ts i) = m at *
        rw [wr64 (show -9223372036854775808 ≤ x12 - m by omega) (by omega)]
        have hk1 : ∀ k, (Value.slice a8 out.length c8).ownBlock = some k → w3.heap.size ≤ k ∧ k < wx.heap.size := fun k hk => hO.lt k hk
        refine ⟨by omega, by omega, t.ts[i].price, by rw [Int.toNat_natCast, Nat.add_assoc]; exact cellsAt_get hc 1 _ rfl, newB B fun g' w12 g0' sg' n12 z12 b12 B12 => ?_⟩
        refine appB B12 (hO.below b12 (Nat.le_refl _)) B3s (by omega) (src_block (n := 1) (size := 3) Try.underlying51 n12 rfl rfl) (by unfold maxLen; omega) (by omega) (fun x hx e => ?_) fun a' c' w13 o13 g13 B13 z13 => ?_
        · rw [List.mem_singleton] at hx; subst hx
          have := (hk1 _ e).1
          omega
        refine ⟨⟨i + 1, out ++ [⟨i, x12 - m, t.ts[i].price⟩], by omega, by omega, by simp, by simp; omega, by rw [← hsp, List.append_assoc], ?_, B13, by omega⟩, by dsimp only; omega⟩
        rw [List.flatMap_append]; exact o13
      · rw [if_neg hle, List.nil_append] at hsp
        exact ⟨⟨i + 1, out, by omega, by omega, rfl, by omega, hsp, hO, B, hsz⟩, by dsimp only; omega⟩
    · obtain rfl : i = t.ts.length := by omega
      rw [List.drop_length] at hsp
      have hsp : out = splitG 0 0 t.ts pos (pos + n) := by simpa [splitG] using hsp
      subst hsp
      exact ⟨⟨a8, c8, rfl, (Rws.ofOwn (by decide) ln_len hO).low (by omega)⟩, B⟩
end Go.Proofs.Ytecmpjccdhmeeaa
end
