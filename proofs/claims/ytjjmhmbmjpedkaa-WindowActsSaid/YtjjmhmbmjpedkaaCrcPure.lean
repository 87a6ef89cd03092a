/- The sum of 32 bits as plain numbers: bit steps, nibbles, bytes, texts; no program in sight. -/
import Derived.Laws.BitsAllLaws
namespace Go.Proofs.Ytjjmhmbmjpedkaa
def st (n : Nat) : Nat := if n % 2 = 1 then (n / 2) ^^^ 3988292384 else n / 2
def iter (f : Nat → Nat) : Nat → Nat → Nat
  | 0, n => n
  | k + 1, n => f (iter f k n)
def tbl : List Nat := [0, 498536548, 997073096, 651767980, 1994146192, 1802195444, 1303535960, 1342533948, 3988292384, 4027552580, 3604390888, 3412177804, 2607071920, 2262029012, 2685067896, 3183342108]
theorem tbl_ok : ∀ k, k < 16 → iter st 4 k = tbl.getD k 0 := by decide
theorem tbl_lt : ∀ k, tbl.getD k 0 < 4294967296 := by
  intro k
  by_cases h : k < 16
  · exact (by decide : ∀ k, k < 16 → tbl.getD k 0 < 4294967296) k h
  · rw [List.getD_eq_getElem?_getD, List.getElem?_eq_none (by show 16 ≤ k; omega)]; decide
def nib (n : Nat) : Nat := (n / 16) ^^^ (tbl.getD (n % 16) 0)
def cb (n x : Nat) : Nat := nib (nib (n ^^^ x))
def crcL (n : Nat) (bs : List UInt8) : Nat := bs.foldl (fun n x => cb n x.toNat) n
def cpl (n : Nat) : Nat := 4294967295 ^^^ n
/-- 'More'. -/
def more (n : Nat) (bs : List UInt8) : Nat := cpl (crcL (cpl n) bs)
/-- 'Sum' of parts, from a sum on. -/
def crcP (n : Nat) (ps : List (List UInt8)) : Nat := ps.foldl more n

theorem xlt {a b : Nat} (ha : a < 4294967296) (hb : b < 4294967296) : a ^^^ b < 4294967296 := Nat.xor_lt_two_pow (n := 32) ha hb
theorem st_lt {n : Nat} (h : n < 4294967296) : st n < 4294967296 := by
  unfold st
  split
  · exact xlt (by omega) (by omega)
  · omega
theorem iter_lt {n : Nat} (k : Nat) (h : n < 4294967296) : iter st k n < 4294967296 := by
  induction k with
  | zero => exact h
  | succ k ih => exact st_lt ih
theorem nib_lt {n : Nat} (h : n < 4294967296) : nib n < 4294967296 := xlt (by omega) (tbl_lt _)
theorem cb_lt {n : Nat} (x : UInt8) (h : n < 4294967296) : cb n x.toNat < 4294967296 := nib_lt (nib_lt (xlt h (by have := x.toNat_lt; omega)))
theorem crcL_lt (bs : List UInt8) : ∀ {n : Nat}, n < 4294967296 → crcL n bs < 4294967296 := by
  induction bs with
  | nil => intro n h; exact h
  | cons x bs ih => intro n h; exact ih (cb_lt x h)
theorem xself (a b : Nat) : a ^^^ (a ^^^ b) = b := by rw [← Nat.xor_assoc, Nat.xor_self, Nat.zero_xor]
theorem cpl_def (n : Nat) : cpl n = 4294967295 ^^^ n := rfl
theorem cpl_lt {n : Nat} (h : n < 4294967296) : cpl n < 4294967296 := by
  unfold cpl
  exact xlt (by decide) h
theorem more_lt {n : Nat} (bs : List UInt8) (h : n < 4294967296) : more n bs < 4294967296 := cpl_lt (crcL_lt _ (cpl_lt h))
theorem cpl_cpl (n : Nat) : cpl (cpl n) = n := by rw [cpl_def, cpl_def, xself]
theorem crcP_lt (ps : List (List UInt8)) : ∀ {n : Nat}, n < 4294967296 → crcP n ps < 4294967296 := by
  induction ps with
  | nil => intro n h; exact h
  | cons x bs ih => intro n h; exact ih (more_lt _ h)
theorem crcL_append (n : Nat) (a b : List UInt8) : crcL n (a ++ b) = crcL (crcL n a) b := List.foldl_append
theorem more_append {n : Nat} (a b : List UInt8) : more n (a ++ b) = more (more n a) b := by
  unfold more
  rw [crcL_append, cpl_cpl]
theorem more_nil (n : Nat) : more n [] = n := cpl_cpl n
/-- Parts, one behind the other, are all at once. -/
theorem crcP_join (ps : List (List UInt8)) : ∀ n : Nat, crcP n ps = more n ps.flatten := by
  induction ps with
  | nil => intro n; exact (more_nil n).symm
  | cons x bs ih =>
    intro n
    show crcP (more n x) bs = more n (x ++ bs.flatten)
    rw [ih, more_append]

/-! A bit step is linear; four of them are a nibble. -/
theorem xlc (a b c : Nat) : a ^^^ (b ^^^ c) = b ^^^ (a ^^^ c) := by rw [← Nat.xor_assoc, Nat.xor_comm a b, Nat.xor_assoc]
theorem div_xor (a b : Nat) : (a ^^^ b) / 2 = a / 2 ^^^ b / 2 := by
  apply Nat.eq_of_testBit_eq; intro i; simp [Nat.testBit_div_two]
theorem st_xor (a b : Nat) : st (a ^^^ b) = st a ^^^ st b := by
  have h : (a ^^^ b) % 2 = (a % 2 + b % 2) % 2 := by
    have h1 := @Nat.xor_mod_two_eq_one a b
    rcases Nat.mod_two_eq_zero_or_one a with x | x <;> rcases Nat.mod_two_eq_zero_or_one b with y | y <;> rcases Nat.mod_two_eq_zero_or_one (a ^^^ b) with z | z <;> simp [x, y, z] at h1 ⊢
  unfold st
  rw [h, div_xor]
  rcases Nat.mod_two_eq_zero_or_one a with x | x <;> rcases Nat.mod_two_eq_zero_or_one b with y | y <;> simp [x, y]
  · rw [Nat.xor_assoc]
  · rw [Nat.xor_comm (a / 2 ^^^ 3988292384), xlc, Nat.xor_comm (b / 2), Nat.xor_assoc, Nat.xor_comm 3988292384]
  · rw [Nat.xor_assoc, Nat.xor_comm (b / 2), xself]
theorem iter_xor (k a b : Nat) : iter st k (a ^^^ b) = iter st k a ^^^ iter st k b := by
  induction k with
  | zero => rfl
  | succ k ih => show st (iter st k (a ^^^ b)) = _; rw [ih, st_xor]; rfl
theorem iter_add (j k a : Nat) : iter st (j + k) a = iter st j (iter st k a) := by
  induction j with
  | zero => rw [Nat.zero_add]; rfl
  | succ j ih => rw [Nat.succ_add]; show st (iter st (j + k) a) = st (iter st j (iter st k a)); rw [ih]
theorem st_even (a : Nat) : st (2 * a) = a := by unfold st; rw [if_neg (by omega)]; omega
theorem nib_iter (n : Nat) : nib n = iter st 4 n := by
  have e : n = (16 * (n / 16)) ^^^ (n % 16) := by
    apply Nat.eq_of_testBit_eq; intro i
    rw [Nat.testBit_xor, show 16 = 2 ^ 4 from rfl, Nat.testBit_two_pow_mul, Nat.testBit_mod_two_pow, Nat.testBit_div_two_pow]
    by_cases h : 4 ≤ i
    · simp [h, show ¬ i < 4 by omega, show i - 4 + 4 = i by omega]
    · simp [h, show i < 4 by omega]
  have h2 : iter st 4 (16 * (n / 16)) = n / 16 := by
    show st (st (st (st (16 * (n / 16))))) = _
    rw [show 16 * (n / 16) = 2 * (2 * (2 * (2 * (n / 16)))) by omega, st_even, st_even, st_even, st_even]
  conv => rhs; rw [e]
  rw [iter_xor, h2, tbl_ok _ (Nat.mod_lt _ (by omega))]; rfl
theorem cb_iter (n x : Nat) : cb n x = iter st 8 (n ^^^ x) := by
  unfold cb; rw [nib_iter, nib_iter, ← iter_add]

/-! The division of bits: each bit of the byte as it comes. -/
def rst (n x k : Nat) : Nat := if (n % 2 + x / 2 ^ k % 2) % 2 = 1 then (n / 2) ^^^ 3988292384 else n / 2
def rsteps (x : Nat) : Nat → Nat → Nat
  | 0, n => n
  | k + 1, n => rst (rsteps x k n) x k
theorem rst_lt {n : Nat} (x k : Nat) (h : n < 4294967296) : rst n x k < 4294967296 := by
  unfold rst
  split
  · exact xlt (by omega) (by omega)
  · omega
theorem rsteps_lt {n : Nat} (x k : Nat) (h : n < 4294967296) : rsteps x k n < 4294967296 := by
  induction k with
  | zero => exact h
  | succ k ih => exact rst_lt _ _ ih
theorem rsteps_iter (x n k : Nat) : iter st k (n ^^^ x) = rsteps x k n ^^^ (x / 2 ^ k) := by
  induction k with
  | zero => show n ^^^ x = n ^^^ x / 1; rw [Nat.div_one]
  | succ k ih =>
    show st (iter st k (n ^^^ x)) = rst (rsteps x k n) x k ^^^ (x / 2 ^ (k + 1))
    rw [ih, st_xor]
    generalize rsteps x k n = m
    have e : x / 2 ^ (k + 1) = x / 2 ^ k / 2 := by rw [Nat.pow_succ, Nat.div_div_eq_div_mul]
    rw [e]
    unfold rst
    generalize x / 2 ^ k = y
    unfold st
    rcases Nat.mod_two_eq_zero_or_one m with a | a <;> rcases Nat.mod_two_eq_zero_or_one y with b | b <;> simp [a, b]
    · rw [Nat.xor_assoc, Nat.xor_comm (y / 2)]
    · rw [Nat.xor_assoc, Nat.xor_comm (y / 2), xself]
theorem cb_rsteps (n : Nat) (x : UInt8) : cb n x.toNat = rsteps x.toNat 8 n := by
  rw [cb_iter, rsteps_iter, Nat.div_eq_of_lt (by have := x.toNat_lt; omega), Nat.xor_zero]

/-! Two texts whose difference lies within four bytes have unlike sums. -/
theorem st_zero {e : Nat} (h : e < 4294967296) (h0 : st e = 0) : e = 0 := by
  unfold st at h0
  split at h0
  · have h1 : e / 2 = 3988292384 := by
      have h2 := xself 3988292384 (e / 2)
      rw [Nat.xor_comm 3988292384 (e / 2), h0, Nat.xor_zero] at h2
      exact h2.symm
    omega
  · omega
theorem iter_zero (k : Nat) : ∀ {e : Nat}, e < 4294967296 → iter st k e = 0 → e = 0 := by
  induction k with
  | zero => intro e _ h; exact h
  | succ k ih => intro e he h; exact ih he (st_zero (iter_lt k he) h)
theorem cb_xor (n e x d : Nat) : cb (n ^^^ e) (x ^^^ d) = cb n x ^^^ iter st 8 (e ^^^ d) := by
  rw [cb_iter, cb_iter, ← iter_xor]
  congr 1
  rw [Nat.xor_assoc, Nat.xor_assoc, xlc e x d]
theorem crcL_xor (post : List UInt8) : ∀ (n e : Nat), crcL (n ^^^ e) post = crcL n post ^^^ iter st (8 * post.length) e := by
  induction post with
  | nil => intro n e; rfl
  | cons x r ih =>
    intro n e
    show crcL (cb (n ^^^ e) x.toNat) r = crcL (cb n x.toNat) r ^^^ iter st (8 * (r.length + 1)) e
    have h := cb_xor n e x.toNat 0
    rw [Nat.xor_zero, Nat.xor_zero] at h
    rw [h, ih, Nat.mul_add, iter_add]
theorem st_shift (k : Nat) : ∀ e, iter st k (2 ^ k * e) = e := by
  induction k with
  | zero => intro e; show 1 * e = e; rw [Nat.one_mul]
  | succ k ih =>
    intro e
    rw [iter_add k 1, show iter st 1 (2 ^ (k + 1) * e) = 2 ^ k * e from ?_]
    · exact ih e
    · show st (2 ^ (k + 1) * e) = _
      rw [Nat.pow_succ, Nat.mul_comm (2 ^ k) 2, Nat.mul_assoc, st_even]
theorem xeq {a b : Nat} (h : a ^^^ b = 0) : a = b := by rw [← xself a b, h, Nat.xor_zero]
theorem iter8_eq {u v : Nat} (hu : u < 4294967296) (hv : v < 16777216) (h : iter st 8 u = v) : u = 256 * v := by
  have h2 := st_shift 8 v
  have h3 : iter st 8 (u ^^^ 2 ^ 8 * v) = 0 := by rw [iter_xor, h, h2, Nat.xor_self]
  exact xeq (iter_zero 8 (xlt hu (by omega)) h3)
theorem xor_out {a b c : Nat} (h : a ^^^ b = c) : a = b ^^^ c := by rw [← h, Nat.xor_comm a b, xself]
theorem four_zero {d0 d1 d2 d3 : Nat} (h0 : d0 < 256) (h1 : d1 < 256) (h2 : d2 < 256) (h3 : d3 < 256)
    (h : iter st 8 (iter st 8 (iter st 8 (iter st 8 d0 ^^^ d1) ^^^ d2) ^^^ d3) = 0) : d0 = 0 ∧ d1 = 0 ∧ d2 = 0 ∧ d3 = 0 := by
  have l0 : iter st 8 d0 < 4294967296 := iter_lt 8 (by omega)
  have l1 : iter st 8 (iter st 8 d0 ^^^ d1) < 4294967296 := iter_lt 8 (xlt l0 (by omega))
  have l2 : iter st 8 (iter st 8 (iter st 8 d0 ^^^ d1) ^^^ d2) < 4294967296 := iter_lt 8 (xlt l1 (by omega))
  have a3 := iter_zero 8 (xlt l2 (show d3 < 4294967296 by omega)) h
  have a2 := xor_out (iter8_eq (xlt l1 (show d2 < 4294967296 by omega)) (show d3 < 16777216 by omega) (xeq a3))
  have m2 : d2 ^^^ 256 * d3 < 16777216 := Nat.xor_lt_two_pow (n := 24) (by omega) (by omega)
  have a1 := xor_out (iter8_eq (xlt l0 (show d1 < 4294967296 by omega)) m2 a2)
  have m2' : d2 ^^^ 256 * d3 < 65536 := Nat.xor_lt_two_pow (n := 16) (by omega) (by omega)
  generalize hz : d2 ^^^ 256 * d3 = z at *
  have m1 : d1 ^^^ 256 * z < 16777216 := Nat.xor_lt_two_pow (n := 24) (by omega) (by omega)
  have a0 := iter8_eq (show d0 < 4294967296 by omega) m1 a1
  generalize hy : d1 ^^^ 256 * z = y at *
  have y0 : y = 0 := by omega
  subst y0
  have := xeq hy
  have z0 : z = 0 := by omega
  subst z0
  have := xeq hz
  omega
theorem crc_differs (pre post : List UInt8) (x0 x1 x2 x3 y0 y1 y2 y3 : UInt8) (d0 d1 d2 d3 : Nat) (h0 : d0 < 256) (h1 : d1 < 256) (h2 : d2 < 256) (h3 : d3 < 256)
    (e0 : y0.toNat = x0.toNat ^^^ d0) (e1 : y1.toNat = x1.toNat ^^^ d1) (e2 : y2.toNat = x2.toNat ^^^ d2) (e3 : y3.toNat = x3.toNat ^^^ d3) (hd : ¬ (d0 = 0 ∧ d1 = 0 ∧ d2 = 0 ∧ d3 = 0)) :
    more 0 (pre ++ [x0, x1, x2, x3] ++ post) ≠ more 0 (pre ++ [y0, y1, y2, y3] ++ post) := by
  intro h
  unfold more at h
  have h' : crcL (cpl 0) (pre ++ [x0, x1, x2, x3] ++ post) = crcL (cpl 0) (pre ++ [y0, y1, y2, y3] ++ post) := by rw [← cpl_cpl (crcL (cpl 0) (pre ++ [x0, x1, x2, x3] ++ post)), h, cpl_cpl]
  rw [crcL_append, crcL_append, crcL_append, crcL_append] at h'
  generalize crcL (cpl 0) pre = s at h'
  have c0 : cb s y0.toNat = cb s x0.toNat ^^^ iter st 8 d0 := by have := cb_xor s 0 x0.toNat d0; rwa [Nat.xor_zero, Nat.zero_xor, ← e0] at this
  have c1 := cb_xor (cb s x0.toNat) (iter st 8 d0) x1.toNat d1
  have c2 := cb_xor (cb (cb s x0.toNat) x1.toNat) (iter st 8 (iter st 8 d0 ^^^ d1)) x2.toNat d2
  have c3 := cb_xor (cb (cb (cb s x0.toNat) x1.toNat) x2.toNat) (iter st 8 (iter st 8 (iter st 8 d0 ^^^ d1) ^^^ d2)) x3.toNat d3
  rw [← c0, ← e1] at c1
  rw [← c1, ← e2] at c2
  rw [← c2, ← e3] at c3
  rw [show crcL s [y0, y1, y2, y3] = cb (cb (cb (cb s y0.toNat) y1.toNat) y2.toNat) y3.toNat from rfl, c3, crcL_xor] at h'
  rw [show crcL s [x0, x1, x2, x3] = cb (cb (cb (cb s x0.toNat) x1.toNat) x2.toNat) x3.toNat from rfl] at h'
  generalize hE : iter st 8 (iter st 8 (iter st 8 (iter st 8 d0 ^^^ d1) ^^^ d2) ^^^ d3) = E at *
  have hz : iter st (8 * post.length) E = 0 := by
    generalize crcL (cb (cb (cb (cb s x0.toNat) x1.toNat) x2.toNat) x3.toNat) post = c at h'
    have h6 := xself c (iter st (8 * post.length) E)
    rw [← h', Nat.xor_self] at h6
    exact h6.symm
  have l3 : E < 4294967296 := by
    rw [← hE]
    exact iter_lt 8 (xlt (iter_lt 8 (xlt (iter_lt 8 (xlt (iter_lt 8 (by omega)) (by omega))) (by omega))) (by omega))
  have := iter_zero _ l3 hz
  exact hd (four_zero h0 h1 h2 h3 (hE.trans this))
end Go.Proofs.Ytjjmhmbmjpedkaa
