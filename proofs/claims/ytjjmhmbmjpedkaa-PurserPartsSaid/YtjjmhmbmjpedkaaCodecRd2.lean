/- The reader's methods, walked. -/
import Derived.Test.YtjjmhmbmjpedkaaCodecRd
namespace Go.Proofs.Ytjjmhmbmjpedkaa
open Go.RowKit
theorem grp_bound (n : Nat) : ∀ u, (grp u).length ≤ n → u < 128 ^ n := by
  induction n with
  | zero => intro u h; have := grp_pos u; omega
  | succ n ih =>
    intro u h
    by_cases h1 : u < 128
    · have : 1 ≤ 128 ^ n := Nat.pow_pos (by omega)
      rw [Nat.pow_succ]; omega
    · rw [grp_ge (by omega), List.length_cons] at h
      have := ih (u / 128) (by omega)
      rw [Nat.pow_succ]; omega
theorem tk_n (most : Nat) : ∀ (bs : List UInt8) (i a u n : Nat), i ≤ most → tk most i a bs = (u, n, 0) → n ≤ most := by
  intro bs
  induction bs with
  | nil => intro i a u n _ h; rw [tk_nil] at h; injection h with _ h; injection h with _ h; cases h
  | cons x r ih =>
    intro i a u n hi h
    by_cases hb : i = most ∨ (x.toNat = 0 ∧ 0 < i) ∨ (i = 9 ∧ 1 < x.toNat)
    · rw [tk_bad hb] at h; injection h with _ h; injection h with _ h; cases h
    · by_cases h2 : 128 ≤ x.toNat
      · rw [tk_more hb h2] at h; exact ih _ _ _ _ (by omega) h
      · rw [tk_last hb h2] at h; injection h with _ h; injection h with h _; omega
theorem tk_lt (most : Nat) : ∀ (bs : List UInt8) (i a u n : Nat), i ≤ 9 → a < 128 ^ i → tk most i a bs = (u, n, 0) → u < 18446744073709551616 := by
  intro bs
  induction bs with
  | nil => intro i a u n _ _ h; rw [tk_nil] at h; injection h with _ h; injection h with _ h; cases h
  | cons x r ih =>
    intro i a u n hi ha h
    by_cases hb : i = most ∨ (x.toNat = 0 ∧ 0 < i) ∨ (i = 9 ∧ 1 < x.toNat)
    · rw [tk_bad hb] at h; injection h with _ h; injection h with _ h; cases h
    · by_cases h2 : 128 ≤ x.toNat
      · rw [tk_more hb h2] at h
        refine ih _ _ _ _ (by omega) ?_ h
        have h3 : x.toNat % 128 * 128 ^ i ≤ 127 * 128 ^ i := Nat.mul_le_mul_right _ (by omega)
        rw [Nat.pow_succ]; omega
      · rw [tk_last hb h2] at h
        injection h with h _
        by_cases h9 : i = 9
        · subst h9
          have h3 : x.toNat % 128 * 128 ^ 9 ≤ 1 * 128 ^ 9 := Nat.mul_le_mul_right _ (by omega)
          omega
        · have h4 : 128 ^ i ≤ 128 ^ 8 := Nat.pow_le_pow_right (by omega) (by omega)
          have h3 : x.toNat % 128 * 128 ^ i ≤ 127 * 128 ^ i := Nat.mul_le_mul_right _ (by omega)
          omega
theorem tk9_lt {bs : List UInt8} {u n : Nat} (h : tk 9 0 0 bs = (u, n, 0)) : u < 9223372036854775808 := by
  have h1 := tk_n 9 bs 0 0 u n (by omega) h
  obtain ⟨_, h2, h3⟩ := tk_enc0 h
  have h4 : (grp u).length ≤ 9 := by rw [← h3, List.length_take]; omega
  exact grp_bound 9 u h4
/-- What a reader answers. -/
def rdUint (most : Int) (bs : List UInt8) (e : Int) : Int × List UInt8 × Int :=
  if e ≠ 0 then (0, bs, e) else
  let r := tk 9 0 0 bs
  if r.2.2 ≠ 0 then (0, bs, r.2.2) else if most < 0 ∨ most < r.1 then (0, bs, 5) else (r.1, bs.drop r.2.1, 0)
def rdInt (bs : List UInt8) (e : Int) : Int × List UInt8 × Int :=
  if e ≠ 0 then (0, bs, e) else
  let r := tk 10 0 0 bs
  if r.2.2 ≠ 0 then (0, bs, r.2.2) else (zag r.1, bs.drop r.2.1, 0)
/-- The reader's block alone is written. -/
def R1 (w : World) (L : List Nat) (g : Nat) (v : Value) (bs : List UInt8) (e : Int) (r : Ending) (w' : World) : Prop :=
  r = .returned v ∧ RdAt w' L g bs e ∧ Fr L w w' ∧ Fr [g] w w'
theorem rtake_ok {g most : Nat} (hm0 : 0 < most) (hm : most ≤ 10) {bs : List UInt8} {L : List Nat} {w : World} (h : RdAt w L g bs 0) (hl : bs.length ≤ 100000000) {u n : Nat} (hr : tk most 0 0 bs = (u, n, 0)) :
    Calls Try.prog 70 #[.pointer (some ⟨g, 0, none⟩), .int .i64 most] w fun e w' => e = .returned (.tuple #[.int .u64 u, .int .i64 n]) ∧ w' = w :=
  (rtake_any g most hm0 hm bs L w h hl u n 0 hr).mono fun e w' h => by
    rcases h with ⟨_, h1, h2⟩ | ⟨h1, _⟩
    · exact ⟨h1, h2⟩
    · exact absurd rfl h1
theorem rtake_err {g most : Nat} (hm0 : 0 < most) (hm : most ≤ 10) {bs : List UInt8} {L : List Nat} {w : World} (h : RdAt w L g bs 0) (hl : bs.length ≤ 100000000) {u n : Nat} {e0 : Int} (he : e0 ≠ 0) (hr : tk most 0 0 bs = (u, n, e0)) :
    Calls Try.prog 70 #[.pointer (some ⟨g, 0, none⟩), .int .i64 most] w fun e w' => e = .returned (.tuple #[.int .u64 0, .int .i64 0]) ∧ w' = w.setCell ⟨g, 1, none⟩ (.int .i64 e0) :=
  (rtake_any g most hm0 hm bs L w h hl u n e0 hr).mono fun e w' h => by
    rcases h with ⟨h1, _⟩ | ⟨_, h1, h2⟩
    · exact absurd h1 he
    · exact ⟨h1, h2⟩
theorem rd_err {w : World} {L : List Nat} {g : Nat} {bs : List UInt8} {e : Int} (h : RdAt w L g bs e) (e' : Int) (v : Value) : R1 w L g v bs e' (.returned v) (w.setCell ⟨g, 1, none⟩ (.int .i64 e')) :=
  ⟨rfl, h.setErr e', (Fr.refl _ _).setCell (p := ⟨g, 1, none⟩) (.inl h.mem) _, (Fr.refl _ _).setCell (p := ⟨g, 1, none⟩) (.inl (by simp)) _⟩
theorem rd_bytes {w : World} {L : List Nat} {g : Nat} {bs bs2 : List UInt8} {e : Int} (h : RdAt w L g bs e) {a2 : Option Addr} {c2 : Nat} (h2 : In w L a2 bs2) (hc : bs2.length ≤ c2) (v : Value) :
    R1 w L g v bs2 e (.returned v) (w.setCell ⟨g, 0, none⟩ (.slice a2 bs2.length c2)) :=
  ⟨rfl, h.setBytes h2 hc, (Fr.refl _ _).setCell (p := ⟨g, 0, none⟩) (.inl h.mem) _, (Fr.refl _ _).setCell (p := ⟨g, 0, none⟩) (.inl (by simp)) _⟩
theorem rd_same {w : World} {L : List Nat} {g : Nat} {bs : List UInt8} {e : Int} (h : RdAt w L g bs e) (v : Value) : R1 w L g v bs e (.returned v) w := ⟨rfl, h, Fr.refl _ _, Fr.refl _ _⟩
set_option maxRecDepth 100000 in
set_option maxHeartbeats 4000000 in
theorem rUint_dead (g : Nat) (most : Int) (bs : List UInt8) (e : Int) (L : List Nat) (w : World) (h : RdAt w L g bs e) (he : e ≠ 0) :
    Calls Try.prog 73 #[.pointer (some ⟨g, 0, none⟩), .int .i64 most] w (R1 w L g (.int .i64 0) bs e) := by
  have HD := Bx.mk (rdead1 h he); have H := Bx.mk h
  clear h he
  go_enter Try.func73, Try.ntmps73
  go_wp2_with fail
  refine HD.out.mono ?_
  rintro r w1 ⟨rfl, rfl⟩
  go_wp2
  go_ret
  exact rd_same H.out _
set_option maxRecDepth 100000 in
set_option maxHeartbeats 4000000 in
theorem rUint_err (g : Nat) (most : Int) (bs : List UInt8) (L : List Nat) (w : World) (h : RdAt w L g bs 0) (hl : bs.length ≤ 100000000) (u n : Nat) (e0 : Int) (he : e0 ≠ 0) (hr : tk 9 0 0 bs = (u, n, e0)) :
    Calls Try.prog 73 #[.pointer (some ⟨g, 0, none⟩), .int .i64 most] w (R1 w L g (.int .i64 0) bs e0) := by
  have HD := Bx.mk (rdead0 h); have H := Bx.mk h
  have HC := Bx.mk (rtake_err (by omega) (by omega) h hl he hr)
  have he2 : (e0 != 0) = true := by simpa using he
  obtain ⟨⟨a, c, k1, _, _⟩, _, _⟩ := h
  have c1 : (w.setCell ⟨g, 1, none⟩ (.int .i64 e0)).cell? ⟨g, 1, none⟩ = some (.int .i64 e0) := by rw [(k1.setCell 1 (.int .i64 e0)).cell]; rfl
  clear k1 hl he hr
  go_enter Try.func73, Try.ntmps73
  go_wp2_with fail
  refine HD.out.mono ?_
  rintro r w1 ⟨rfl, rfl⟩
  go_wp2_with fail
  refine HC.out.mono ?_
  rintro r w2 ⟨rfl, hw⟩
  rw [← hw] at c1
  have HW := Bx.mk hw; clear hw
  go_wp2
  go_ret
  rw [HW.out]
  exact rd_err H.out _ _
set_option maxRecDepth 100000 in
set_option maxHeartbeats 4000000 in
theorem rUint_ok (g : Nat) (most : Int) (hm : most ≤ 9223372036854775807) (hm2 : -9223372036854775808 ≤ most) (bs : List UInt8) (L : List Nat) (w : World) (h : RdAt w L g bs 0) (hl : bs.length ≤ 100000000) (u n : Nat) (hr : tk 9 0 0 bs = (u, n, 0)) :
    Calls Try.prog 73 #[.pointer (some ⟨g, 0, none⟩), .int .i64 most] w fun r w' =>
      (most < 0 ∨ most < u → R1 w L g (.int .i64 0) bs 5 r w') ∧ (¬ (most < 0 ∨ most < u) → R1 w L g (.int .i64 u) (bs.drop n) 0 r w') := by
  have HD := Bx.mk (rdead0 h); have H := Bx.mk h
  have HC := Bx.mk (rtake_ok (by omega) (by omega) h hl hr)
  have hu := tk9_lt hr
  have hn := (tk_enc0 hr).2.1
  obtain ⟨⟨a, c, k1, k2, k3⟩, _, _⟩ := h
  have c0 : w.cell? ⟨g, 0, none⟩ = some (.slice a bs.length c) := by rw [k1.cell]; rfl
  have c1 : w.cell? ⟨g, 1, none⟩ = some (.int .i64 0) := by rw [k1.cell]; rfl
  have d0 : w.frozen? ⟨g, 0, none⟩ = false := k1.frozen 0
  have d1 : w.frozen? ⟨g, 1, none⟩ = false := k1.frozen 1
  obtain ⟨a2, c2, hsl, hI, hc2⟩ := slice_from (n := n) hn k3 k2
  have RB := fun v => Bx.mk (rd_bytes H.out hI hc2 v)
  have RE := fun v => Bx.mk (rd_err H.out 5 v)
  have f1 : wrap64 (u : Int) = (u : Int) := by unfold wrap64; omega
  have HU := Bx.mk (show (0 : Int) ≤ (u : Int) ∧ (u : Int) ≤ 9223372036854775807 by omega)
  have HM := Bx.mk (And.intro hm hm2)
  clear k1 k2 k3 hI hc2 hr hn hl hu hm hm2 H
  generalize (bs.drop n).length = m at *
  generalize (u : Int) = u at *
  by_cases hm0 : most < 0
  · go_enter Try.func73, Try.ntmps73
    go_wp2_with fail
    refine HD.out.mono ?_
    rintro r w1 ⟨rfl, rfl⟩
    go_wp2_with fail
    refine HC.out.mono ?_
    rintro r w2 ⟨rfl, rfl⟩
    go_wp2
    go_ret
    exact ⟨fun _ => (RE _).out, fun h => absurd (.inl hm0) h⟩
  · have f2 : IntKind.u64.wrap most = most := by rw [IntKind.wrap_u64]; have := HM.out; omega
    by_cases hmu : most < u
    · go_enter Try.func73, Try.ntmps73
      go_wp2_with fail
      refine HD.out.mono ?_
      rintro r w1 ⟨rfl, rfl⟩
      go_wp2_with fail
      refine HC.out.mono ?_
      rintro r w2 ⟨rfl, rfl⟩
      go_wp2
      go_ret
      exact ⟨fun _ => (RE _).out, fun h => absurd (.inr hmu) h⟩
    · go_enter Try.func73, Try.ntmps73
      go_wp2_with fail
      refine HD.out.mono ?_
      rintro r w1 ⟨rfl, rfl⟩
      go_wp2_with fail
      refine HC.out.mono ?_
      rintro r w2 ⟨rfl, rfl⟩
      go_wp2
      go_ret
      exact ⟨fun h => by omega, fun _ => by show R1 _ _ _ (.int .i64 u) _ 0 (.returned (.int .i64 (wrap64 u))) _; rw [f1]; exact (RB _).out⟩
theorem rUint_any (g : Nat) (most : Int) (hm : most ≤ 9223372036854775807) (hm2 : -9223372036854775808 ≤ most) (bs : List UInt8) (e : Int) (L : List Nat) (w : World) (h : RdAt w L g bs e) (hl : bs.length ≤ 100000000) :
    Calls Try.prog 73 #[.pointer (some ⟨g, 0, none⟩), .int .i64 most] w (R1 w L g (.int .i64 (rdUint most bs e).1) (rdUint most bs e).2.1 (rdUint most bs e).2.2) := by
  unfold rdUint
  by_cases he : e = 0
  · subst he
    rw [if_neg (by simp)]
    obtain ⟨u, n, e1, hr⟩ : ∃ u n e1, tk 9 0 0 bs = (u, n, e1) := ⟨_, _, _, rfl⟩
    rw [hr]
    dsimp only
    by_cases he1 : e1 = 0
    · subst he1
      rw [if_neg (by simp)]
      have hC := rUint_ok g most hm hm2 bs L w h hl u n hr
      by_cases hc : most < 0 ∨ most < (u : Int)
      · rw [if_pos hc]; exact hC.mono fun r w' h => h.1 hc
      · rw [if_neg hc]; exact hC.mono fun r w' h => h.2 hc
    · rw [if_pos he1]; exact rUint_err g most bs L w h hl u n e1 he1 hr
  · rw [if_pos he]; exact rUint_dead g most bs e L w h he
set_option maxRecDepth 100000 in
set_option maxHeartbeats 4000000 in
theorem rInt_dead (g : Nat) (bs : List UInt8) (e : Int) (L : List Nat) (w : World) (h : RdAt w L g bs e) (he : e ≠ 0) :
    Calls Try.prog 42 #[.pointer (some ⟨g, 0, none⟩)] w (R1 w L g (.int .i64 0) bs e) := by
  have HD := Bx.mk (rdead1 h he); have H := Bx.mk h
  clear h he
  go_enter Try.func42, Try.ntmps42
  go_wp2_with fail
  refine HD.out.mono ?_
  rintro r w1 ⟨rfl, rfl⟩
  go_wp2
  go_ret
  exact rd_same H.out _
set_option maxRecDepth 100000 in
set_option maxHeartbeats 4000000 in
theorem rInt_err (g : Nat) (bs : List UInt8) (L : List Nat) (w : World) (h : RdAt w L g bs 0) (hl : bs.length ≤ 100000000) (u n : Nat) (e0 : Int) (he : e0 ≠ 0) (hr : tk 10 0 0 bs = (u, n, e0)) :
    Calls Try.prog 42 #[.pointer (some ⟨g, 0, none⟩)] w (R1 w L g (.int .i64 0) bs e0) := by
  have HD := Bx.mk (rdead0 h); have H := Bx.mk h
  have HC := Bx.mk (rtake_err (by omega) (by omega) h hl he hr)
  have he2 : (e0 != 0) = true := by simpa using he
  obtain ⟨⟨a, c, k1, _, _⟩, _, _⟩ := h
  have c1 : (w.setCell ⟨g, 1, none⟩ (.int .i64 e0)).cell? ⟨g, 1, none⟩ = some (.int .i64 e0) := by rw [(k1.setCell 1 (.int .i64 e0)).cell]; rfl
  clear k1 hl he hr
  go_enter Try.func42, Try.ntmps42
  go_wp2_with fail
  refine HD.out.mono ?_
  rintro r w1 ⟨rfl, rfl⟩
  go_wp2_with fail
  refine HC.out.mono ?_
  rintro r w2 ⟨rfl, hw⟩
  rw [← hw] at c1
  have HW := Bx.mk hw; clear hw
  go_wp2
  go_ret
  rw [HW.out]
  exact rd_err H.out _ _
set_option maxRecDepth 100000 in
set_option maxHeartbeats 4000000 in
theorem rInt_ok (g : Nat) (bs : List UInt8) (L : List Nat) (w : World) (h : RdAt w L g bs 0) (hl : bs.length ≤ 100000000) (u n : Nat) (hr : tk 10 0 0 bs = (u, n, 0)) :
    Calls Try.prog 42 #[.pointer (some ⟨g, 0, none⟩)] w (R1 w L g (.int .i64 (zag u)) (bs.drop n) 0) := by
  have HD := Bx.mk (rdead0 h); have H := Bx.mk h
  have HC := Bx.mk (rtake_ok (by omega) (by omega) h hl hr)
  have hu := tk_lt 10 bs 0 0 u n (by omega) (by omega) hr
  have hn := (tk_enc0 hr).2.1
  obtain ⟨⟨a, c, k1, k2, k3⟩, _, _⟩ := h
  have c0 : w.cell? ⟨g, 0, none⟩ = some (.slice a bs.length c) := by rw [k1.cell]; rfl
  have c1 : w.cell? ⟨g, 1, none⟩ = some (.int .i64 0) := by rw [k1.cell]; rfl
  have d0 : w.frozen? ⟨g, 0, none⟩ = false := k1.frozen 0
  obtain ⟨a2, c2, hsl, hI, hc2⟩ := slice_from (n := n) hn k3 k2
  have RB := fun v => Bx.mk (rd_bytes H.out hI hc2 v)
  have f0 := and_one_u64 (u : Int) (by omega) (by omega)
  obtain ⟨q, hq⟩ : ∃ q, q = u / 2 := ⟨_, rfl⟩
  have f1 : (u : Int) / 2 = (q : Int) := by omega
  have hqb : q < 9223372036854775808 := by omega
  clear k1 k2 k3 hI hc2 hr hn hl H
  generalize (bs.drop n).length = m at *
  by_cases hodd : u % 2 = 1
  · have hz : zag u = -(q : Int) - 1 := by unfold zag; rw [if_pos hodd, hq]
    have f2 : (u : Int) % 2 = 1 := by omega
    rw [f2] at f0
    have f3 : IntKind.u64.wrap (-1) = 18446744073709551615 := by rw [IntKind.wrap_u64]; rfl
    have f4 := xor_ones q (by omega)
    obtain ⟨k, hk⟩ : ∃ k : Int, k = ((18446744073709551615 - q : Nat) : Int) := ⟨_, rfl⟩
    rw [← hk] at f4
    have f5 : wrap64 k = -(q : Int) - 1 := by unfold wrap64; omega
    rw [hz]
    obtain ⟨j, hj⟩ : ∃ j : Int, j = -(q : Int) - 1 := ⟨_, rfl⟩
    rw [← hj] at f5 ⊢
    clear hz f2 hk hodd hq hu hj hqb
    go_enter Try.func42, Try.ntmps42
    go_wp2_with fail
    refine HD.out.mono ?_
    rintro r w1 ⟨rfl, rfl⟩
    go_wp2_with fail
    refine HC.out.mono ?_
    rintro r w2 ⟨rfl, rfl⟩
    go_wp2
    go_ret
    show R1 _ _ _ (.int .i64 j) _ 0 (.returned (.int .i64 (wrap64 k))) _
    rw [f5]
    exact (RB _).out
  · have hz : zag u = (q : Int) := by unfold zag; rw [if_neg hodd, hq]
    have f2 : (u : Int) % 2 = 0 := by omega
    rw [f2] at f0
    have f3 : IntKind.u64.wrap (-0) = 0 := by rw [IntKind.wrap_u64]; rfl
    have f4 := xor_zero q (by omega)
    have f5 : wrap64 (q : Int) = (q : Int) := by unfold wrap64; omega
    rw [hz]
    clear hz f2 hodd hq hu hqb
    go_enter Try.func42, Try.ntmps42
    go_wp2_with fail
    refine HD.out.mono ?_
    rintro r w1 ⟨rfl, rfl⟩
    go_wp2_with fail
    refine HC.out.mono ?_
    rintro r w2 ⟨rfl, rfl⟩
    go_wp2
    go_ret
    show R1 _ _ _ (.int .i64 (q : Int)) _ 0 (.returned (.int .i64 (wrap64 (q : Int)))) _
    rw [f5]
    exact (RB _).out
theorem rInt_any2 (g : Nat) (bs : List UInt8) (e : Int) (L : List Nat) (w : World) (h : RdAt w L g bs e) (hl : bs.length ≤ 100000000) :
    Calls Try.prog 42 #[.pointer (some ⟨g, 0, none⟩)] w (R1 w L g (.int .i64 (rdInt bs e).1) (rdInt bs e).2.1 (rdInt bs e).2.2) := by
  unfold rdInt
  by_cases he : e = 0
  · subst he
    rw [if_neg (by simp)]
    obtain ⟨u, n, e1, hr⟩ : ∃ u n e1, tk 10 0 0 bs = (u, n, e1) := ⟨_, _, _, rfl⟩
    rw [hr]
    dsimp only
    by_cases he1 : e1 = 0
    · subst he1
      rw [if_neg (by simp)]
      exact rInt_ok g bs L w h hl u n hr
    · rw [if_pos he1]; exact rInt_err g bs L w h hl u n e1 he1 hr
  · rw [if_pos he]; exact rInt_dead g bs e L w h he
/-- What 'End' tells. -/
def rdEnd (bs : List UInt8) (e : Int) : Int := if e = 0 ∧ bs ≠ [] then 4 else e
theorem rEnd_any (g : Nat) (bs : List UInt8) (e : Int) (L : List Nat) (w : World) (h : RdAt w L g bs e) (hl : bs.length ≤ 100000000) :
    Calls Try.prog 44 #[.pointer (some ⟨g, 0, none⟩)] w fun r w' => r = .returned (.int .i64 (rdEnd bs e)) ∧ w' = w := by
  obtain ⟨⟨a, c, k1, k2, k3⟩, _, _⟩ := h
  have c0 : w.cell? ⟨g, 0, none⟩ = some (.slice a bs.length c) := by rw [k1.cell]; rfl
  have c1 : w.cell? ⟨g, 1, none⟩ = some (.int .i64 e) := by rw [k1.cell]; rfl
  clear k1 k2 k3
  unfold rdEnd
  by_cases he : e = 0
  · subst he
    by_cases hb : bs = []
    · subst hb
      rw [if_neg (by simp)]
      have c0' : w.cell? ⟨g, 0, none⟩ = some (.slice a 0 c) := c0
      clear c0 hl
      go_enter Try.func44, Try.ntmps44
      go_wp2
      go_ret
      exact ⟨rfl, rfl⟩
    · rw [if_pos ⟨rfl, hb⟩]
      have hlen : (0 : Int) < (bs.length : Int) := by have := List.length_pos_iff.2 hb; omega
      clear hb
      go_enter Try.func44, Try.ntmps44
      go_wp2
      go_ret
      exact ⟨rfl, rfl⟩
  · rw [if_neg (fun h => he h.1)]
    have heb : (e == 0) = false := by simpa using he
    clear he
    go_enter Try.func44, Try.ntmps44
    go_wp2
    go_ret
    exact ⟨rfl, rfl⟩
theorem rdInt_range (bs : List UInt8) (e : Int) : -9223372036854775808 ≤ (rdInt bs e).1 ∧ (rdInt bs e).1 ≤ 9223372036854775807 := by
  unfold rdInt
  split
  · simp
  · obtain ⟨u, n, e1, hr⟩ : ∃ u n e1, tk 10 0 0 bs = (u, n, e1) := ⟨_, _, _, rfl⟩
    rw [hr]
    dsimp only
    split
    · simp
    · rename_i h
      have h0 : e1 = 0 := Classical.not_not.1 h
      subst h0
      exact zag_range (tk_lt 10 bs 0 0 u n (by omega) (by omega) hr)
theorem rdUint_range (most : Int) (bs : List UInt8) (e : Int) : 0 ≤ (rdUint most bs e).1 ∧ (rdUint most bs e).1 ≤ 9223372036854775807 := by
  unfold rdUint
  split
  · simp
  · obtain ⟨u, n, e1, hr⟩ : ∃ u n e1, tk 9 0 0 bs = (u, n, e1) := ⟨_, _, _, rfl⟩
    rw [hr]
    dsimp only
    split
    · simp
    · rename_i h
      have h0 : e1 = 0 := Classical.not_not.1 h
      subst h0
      split
      · simp
      · have := tk9_lt hr
        show 0 ≤ (u : Int) ∧ (u : Int) ≤ _
        omega
theorem rdLen (bs : List UInt8) (e : Int) : (rdInt bs e).2.1.length ≤ bs.length := by
  unfold rdInt
  split
  · simp
  · dsimp only; split
    · simp
    · simp
theorem rdLenU (most : Int) (bs : List UInt8) (e : Int) : (rdUint most bs e).2.1.length ≤ bs.length := by
  unfold rdUint
  split
  · simp
  · dsimp only; split
    · simp
    · split
      · simp
      · simp
end Go.Proofs.Ytjjmhmbmjpedkaa
