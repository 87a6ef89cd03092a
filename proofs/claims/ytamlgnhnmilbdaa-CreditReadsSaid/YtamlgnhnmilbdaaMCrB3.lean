import Derived.Test.YtamlgnhnmilbdaaMCrB2
import Derived.Test.YtamlgnhnmilbdaaProg
import Derived.Test.YtamlgnhnmilbdaaMCrB1
import Derived.ProofKit
import Derived.Deep.Matrix
import Derived.Deep.Slices
import Derived.OpenShut
import Derived.Test.YtamlgnhnmilbdaaRows
set_option linter.unusedVariables false
section
/- The reader's methods, walked. -/
namespace Go.Proofs.Ytamlgnhnmilbdaa
open Go.RowKit
theorem grp_bound (n : Nat) : ∀ u, (grp u).length ≤ n → u < 128 ^ n := by
  induction n with
  | zero => intro u h; have := grp_pos u; omega
  | succ n ih =>
    intro u h
    by_cases h1 : u < 128
    · have : 1 ≤ 128 ^ n := Nat.pow_pos (by omega)
      rw [Nat.pow_succ]; omega
    · rw [grp_ge (by omega), List.length_cons] at h
      have := ih (u / 128) (by omega)
      rw [Nat.pow_succ]; omega
theorem tk_n (most : Nat) : ∀ (bs : List UInt8) (i a u n : Nat), i ≤ most → tk most i a bs = (u, n, 0) → n ≤ most := by
  intro bs
  induction bs with
  | nil => intro i a u n _ h; rw [tk_nil] at h; injection h with _ h; injection h with _ h; cases h
  | cons x r ih =>
    intro i a u n hi h
    by_cases hb : i = most ∨ (x.toNat = 0 ∧ 0 < i) ∨ (i = 9 ∧ 1 < x.toNat)
    · rw [tk_bad hb] at h; injection h with _ h; injection h with _ h; cases h
    · by_cases h2 : 128 ≤ x.toNat
      · rw [tk_more hb h2] at h; exact ih _ _ _ _ (by omega) h
      · rw [tk_last hb h2] at h; injection h with _ h; injection h with h _; omega
theorem tk_lt (most : Nat) : ∀ (bs : List UInt8) (i a u n : Nat), i ≤ 9 → a < 128 ^ i → tk most i a bs = (u, n, 0) → u < 18446744073709551616 := by
  intro bs
  induction bs with
  | nil => intro i a u n _ _ h; rw [tk_nil] at h; injection h with _ h; injection h with _ h; cases h
  | cons x r ih =>
    intro i a u n hi ha h
    by_cases hb : i = most ∨ (x.toNat = 0 ∧ 0 < i) ∨ (i = 9 ∧ 1 < x.toNat)
    · rw [tk_bad hb] at h; injection h with _ h; injection h with _ h; cases h
    · by_cases h2 : 128 ≤ x.toNat
      · rw [tk_more hb h2] at h
        refine ih _ _ _ _ (by omega) ?_ h
        have h3 : x.toNat % 128 * 128 ^ i ≤ 127 * 128 ^ i := Nat.mul_le_mul_right _ (by omega)
        rw [Nat.pow_succ]; omega
      · rw [tk_last hb h2] at h
        injection h with h _
        by_cases h9 : i = 9
        · subst h9
          have h3 : x.toNat % 128 * 128 ^ 9 ≤ 1 * 128 ^ 9 := Nat.mul_le_mul_right _ (by omega)
          omega
        · have h4 : 128 ^ i ≤ 128 ^ 8 := Nat.pow_le_pow_right (by omega) (by omega)
          have h3 : x.toNat % 128 * 128 ^ i ≤ 127 * 128 ^ i := Nat.mul_le_mul_right _ (by omega)
          omega
theorem tk9_lt {bs : List UInt8} {u n : Nat} (h : tk 9 0 0 bs = (u, n, 0)) : u < 9223372036854775808 := by
  have h1 := tk_n 9 bs 0 0 u n (by omega) h
  obtain ⟨_, h2, h3⟩ := tk_enc0 h
  have h4 : (grp u).length ≤ 9 := by rw [← h3, List.length_take]; omega
  exact grp_bound 9 u h4
/-- What a reader answers. -/
def rdUint (most : Int) (bs : List UInt8) (e : Int) : Int × List UInt8 × Int :=
  if e ≠ 0 then (0, bs, e) else
  let r := tk 9 0 0 bs
  if r.2.2 ≠ 0 then (0, bs, r.2.2) else if most < 0 ∨ most < r.1 then (0, bs, 5) else (r.1, bs.drop r.2.1, 0)
def rdInt (bs : List UInt8) (e : Int) : Int × List UInt8 × Int :=
  if e ≠ 0 then (0, bs, e) else
  let r := tk 10 0 0 bs
  if r.2.2 ≠ 0 then (0, bs, r.2.2) else (zag r.1, bs.drop r.2.1, 0)
/-- The reader's block alone is written. -/
def R1 (w : World) (L : List Nat) (g : Nat) (v : Value) (bs : List UInt8) (e : Int) (r : Ending) (w' : World) : Prop :=
  r = .returned v ∧ RdAt w' L g bs e ∧ Fr L w w' ∧ Fr [g] w w'
theorem rtake_ok {g most : Nat} (hm0 : 0 < most) (hm : most ≤ 10) {bs : List UInt8} {L : List Nat} {w : World} (h : RdAt w L g bs 0) (hl : bs.length ≤ 100000000) {u n : Nat} (hr : tk most 0 0 bs = (u, n, 0)) :
    Calls Try.prog 114 #[.pointer (some ⟨g, 0, none⟩), .int .i64 most] w fun e w' => e = .returned (.tuple #[.int .u64 u, .int .i64 n]) ∧ w' = w :=
  (rtake_any g most hm0 hm bs L w h hl u n 0 hr).mono fun e w' h => by
    rcases h with ⟨_, h1, h2⟩ | ⟨h1, _⟩
    · exact ⟨h1, h2⟩
    · exact absurd rfl h1
theorem rtake_err {g most : Nat} (hm0 : 0 < most) (hm : most ≤ 10) {bs : List UInt8} {L : List Nat} {w : World} (h : RdAt w L g bs 0) (hl : bs.length ≤ 100000000) {u n : Nat} {e0 : Int} (he : e0 ≠ 0) (hr : tk most 0 0 bs = (u, n, e0)) :
    Calls Try.prog 114 #[.pointer (some ⟨g, 0, none⟩), .int .i64 most] w fun e w' => e = .returned (.tuple #[.int .u64 0, .int .i64 0]) ∧ w' = w.setCell ⟨g, 1, none⟩ (.int .i64 e0) :=
  (rtake_any g most hm0 hm bs L w h hl u n e0 hr).mono fun e w' h => by
    rcases h with ⟨h1, _⟩ | ⟨_, h1, h2⟩
    · exact absurd h1 he
    · exact ⟨h1, h2⟩
theorem rd_err {w : World} {L : List Nat} {g : Nat} {bs : List UInt8} {e : Int} (h : RdAt w L g bs e) (e' : Int) (v : Value) : R1 w L g v bs e' (.returned v) (w.setCell ⟨g, 1, none⟩ (.int .i64 e')) :=
  ⟨rfl, h.setErr e', (Fr.refl _ _).setCell (p := ⟨g, 1, none⟩) (.inl h.mem) _, (Fr.refl _ _).setCell (p := ⟨g, 1, none⟩) (.inl (by simp)) _⟩
theorem rd_bytes {w : World} {L : List Nat} {g : Nat} {bs bs2 : List UInt8} {e : Int} (h : RdAt w L g bs e) {a2 : Option Addr} {c2 : Nat} (h2 : In w L a2 bs2) (hc : bs2.length ≤ c2) (v : Value) :
    R1 w L g v bs2 e (.returned v) (w.setCell ⟨g, 0, none⟩ (.slice a2 bs2.length c2)) :=
  ⟨rfl, h.setBytes h2 hc, (Fr.refl _ _).setCell (p := ⟨g, 0, none⟩) (.inl h.mem) _, (Fr.refl _ _).setCell (p := ⟨g, 0, none⟩) (.inl (by simp)) _⟩
theorem rd_same {w : World} {L : List Nat} {g : Nat} {bs : List UInt8} {e : Int} (h : RdAt w L g bs e) (v : Value) : R1 w L g v bs e (.returned v) w := ⟨rfl, h, Fr.refl _ _, Fr.refl _ _⟩
set_option maxRecDepth 100000 in
set_option maxHeartbeats 4000000 in
theorem rUint_dead (g : Nat) (most : Int) (bs : List UInt8) (e : Int) (L : List Nat) (w : World) (h : RdAt w L g bs e) (he : e ≠ 0) :
    Calls Try.prog 74 #[.pointer (some ⟨g, 0, none⟩), .int .i64 most] w (R1 w L g (.int .i64 0) bs e) := by
  have HD := Bx.mk (rdead1 h he); have H := Bx.mk h
  clear h he
  go_enter Try.func74, Try.ntmps74
  go_wp2_with fail
  refine HD.out.mono ?_
  rintro r w1 ⟨rfl, rfl⟩
  go_wp2
  go_ret
  exact rd_same H.out _
set_option maxRecDepth 100000 in
set_option maxHeartbeats 4000000 in
theorem rUint_err (g : Nat) (most : Int) (bs : List UInt8) (L : List Nat) (w : World) (h : RdAt w L g bs 0) (hl : bs.length ≤ 100000000) (u n : Nat) (e0 : Int) (he : e0 ≠ 0) (hr : tk 9 0 0 bs = (u, n, e0)) :
    Calls Try.prog 74 #[.pointer (some ⟨g, 0, none⟩), .int .i64 most] w (R1 w L g (.int .i64 0) bs e0) := by
  have HD := Bx.mk (rdead0 h); have H := Bx.mk h
  have HC := Bx.mk (rtake_err (by omega) (by omega) h hl he hr)
  have he2 : (e0 != 0) = true := by simpa using he
  obtain ⟨⟨a, c, k1, _, _⟩, _, _⟩ := h
  have c1 : (w.setCell ⟨g, 1, none⟩ (.int .i64 e0)).cell? ⟨g, 1, none⟩ = some (.int .i64 e0) := by rw [(k1.setCell 1 (.int .i64 e0)).cell]; rfl
  clear k1 hl he hr
  go_enter Try.func74, Try.ntmps74
  go_wp2_with fail
  refine HD.out.mono ?_
  rintro r w1 ⟨rfl, rfl⟩
  go_wp2_with fail
  refine HC.out.mono ?_
  rintro r w2 ⟨rfl, hw⟩
  rw [← hw] at c1
  have HW := Bx.mk hw; clear hw
  go_wp2
  go_ret
  rw [HW.out]
  exact rd_err H.out _ _
set_option maxRecDepth 100000 in
set_option maxHeartbeats 4000000 in
theorem rUint_ok (g : Nat) (most : Int) (hm : most ≤ 9223372036854775807) (hm2 : -9223372036854775808 ≤ most) (bs : List UInt8) (L : List Nat) (w : World) (h : RdAt w L g bs 0) (hl : bs.length ≤ 100000000) (u n : Nat) (hr : tk 9 0 0 bs = (u, n, 0)) :
    Calls Try.prog 74 #[.pointer (some ⟨g, 0, none⟩), .int .i64 most] w fun r w' =>
      (most < 0 ∨ most < u → R1 w L g (.int .i64 0) bs 5 r w') ∧ (¬ (most < 0 ∨ most < u) → R1 w L g (.int .i64 u) (bs.drop n) 0 r w') := by
  have HD := Bx.mk (rdead0 h); have H := Bx.mk h
  have HC := Bx.mk (rtake_ok (by omega) (by omega) h hl hr)
  have hu := tk9_lt hr
  have hn := (tk_enc0 hr).2.1
  obtain ⟨⟨a, c, k1, k2, k3⟩, _, _⟩ := h
  have c0 : w.cell? ⟨g, 0, none⟩ = some (.slice a bs.length c) := by rw [k1.cell]; rfl
  have c1 : w.cell? ⟨g, 1, none⟩ = some (.int .i64 0) := by rw [k1.cell]; rfl
  have d0 : w.frozen? ⟨g, 0, none⟩ = false := k1.frozen 0
  have d1 : w.frozen? ⟨g, 1, none⟩ = false := k1.frozen 1
  obtain ⟨a2, c2, hsl, hI, hc2⟩ := slice_from (n := n) hn k3 k2
  have RB := fun v => Bx.mk (rd_bytes H.out hI hc2 v)
  have RE := fun v => Bx.mk (rd_err H.out 5 v)
  have f1 : wrap64 (u : Int) = (u : Int) := by unfold wrap64; omega
  have HU := Bx.mk (show (0 : Int) ≤ (u : Int) ∧ (u : Int) ≤ 9223372036854775807 by omega)
  have HM := Bx.mk (And.intro hm hm2)
  clear k1 k2 k3 hI hc2 hr hn hl hu hm hm2 H
  generalize (bs.drop n).length = m at *
  generalize (u : Int) = u at *
  by_cases hm0 : most < 0
  · go_enter Try.func74, Try.ntmps74
    go_wp2_with fail
    refine HD.out.mono ?_
    rintro r w1 ⟨rfl, rfl⟩
    go_wp2_with fail
    refine HC.out.mono ?_
    rintro r w2 ⟨rfl, rfl⟩
    go_wp2
    go_ret
    exact ⟨fun _ => (RE _).out, fun h => absurd (.inl hm0) h⟩
  · have f2 : IntKind.u64.wrap most = most := by rw [IntKind.wrap_u64]; have := HM.out; omega
    by_cases hmu : most < u
    · go_enter Try.func74, Try.ntmps74
      go_wp2_with fail
      refine HD.out.mono ?_
      rintro r w1 ⟨rfl, rfl⟩
      go_wp2_with fail
      refine HC.out.mono ?_
      rintro r w2 ⟨rfl, rfl⟩
      go_wp2
      go_ret
      exact ⟨fun _ => (RE _).out, fun h => absurd (.inr hmu) h⟩
    · go_enter Try.func74, Try.ntmps74
      go_wp2_with fail
      refine HD.out.mono ?_
      rintro r w1 ⟨rfl, rfl⟩
      go_wp2_with fail
      refine HC.out.mono ?_
      rintro r w2 ⟨rfl, rfl⟩
      go_wp2
      go_ret
      exact ⟨fun h => by omega, fun _ => by show R1 _ _ _ (.int .i64 u) _ 0 (.returned (.int .i64 (wrap64 u))) _; rw [f1]; exact (RB _).out⟩
theorem rUint_any (g : Nat) (most : Int) (hm : most ≤ 9223372036854775807) (hm2 : -9223372036854775808 ≤ most) (bs : List UInt8) (e : Int) (L : List Nat) (w : World) (h : RdAt w L g bs e) (hl : bs.length ≤ 100000000) :
    Calls Try.prog 74 #[.pointer (some ⟨g, 0, none⟩), .int .i64 most] w (R1 w L g (.int .i64 (rdUint most bs e).1) (rdUint most bs e).2.1 (rdUint most bs e).2.2) := by
  unfold rdUint
  by_cases he : e = 0
  · subst he
    rw [if_neg (by simp)]
    obtain ⟨u, n, e1, hr⟩ : ∃ u n e1, tk 9 0 0 bs = (u, n, e1) := ⟨_, _, _, rfl⟩
    rw [hr]
    dsimp only
    by_cases he1 : e1 = 0
    · subst he1
      rw [if_neg (by simp)]
      have hC := rUint_ok g most hm hm2 bs L w h hl u n hr
      by_cases hc : most < 0 ∨ most < (u : Int)
      · rw [if_pos hc]; exact hC.mono fun r w' h => h.1 hc
      · rw [if_neg hc]; exact hC.mono fun r w' h => h.2 hc
    · rw [if_pos he1]; exact rUint_err g most bs L w h hl u n e1 he1 hr
  · rw [if_pos he]; exact rUint_dead g most bs e L w h he
set_option maxRecDepth 100000 in
set_option maxHeartbeats 4000000 in
theorem rInt_dead (g : Nat) (bs : List UInt8) (e : Int) (L : List Nat) (w : World) (h : RdAt w L g bs e) (he : e ≠ 0) :
    Calls Try.prog 115 #[.pointer (some ⟨g, 0, none⟩)] w (R1 w L g (.int .i64 0) bs e) := by
  have HD := Bx.mk (rdead1 h he); have H := Bx.mk h
  clear h he
  go_enter Try.func115, Try.ntmps115
  go_wp2_with fail
  refine HD.out.mono ?_
  rintro r w1 ⟨rfl, rfl⟩
  go_wp2
  go_ret
  exact rd_same H.out _
set_option maxRecDepth 100000 in
set_option maxHeartbeats 4000000 in
theorem rInt_err (g : Nat) (bs : List UInt8) (L : List Nat) (w : World) (h : RdAt w L g bs 0) (hl : bs.length ≤ 100000000) (u n : Nat) (e0 : Int) (he : e0 ≠ 0) (hr : tk 10 0 0 bs = (u, n, e0)) :
    Calls Try.prog 115 #[.pointer (some ⟨g, 0, none⟩)] w (R1 w L g (.int .i64 0) bs e0) := by
  have HD := Bx.mk (rdead0 h); have H := Bx.mk h
  have HC := Bx.mk (rtake_err (by omega) (by omega) h hl he hr)
  have he2 : (e0 != 0) = true := by simpa using he
  obtain ⟨⟨a, c, k1, _, _⟩, _, _⟩ := h
  have c1 : (w.setCell ⟨g, 1, none⟩ (.int .i64 e0)).cell? ⟨g, 1, none⟩ = some (.int .i64 e0) := by rw [(k1.setCell 1 (.int .i64 e0)).cell]; rfl
  clear k1 hl he hr
  go_enter Try.func115, Try.ntmps115
  go_wp2_with fail
  refine HD.out.mono ?_
  rintro r w1 ⟨rfl, rfl⟩
  go_wp2_with fail
  refine HC.out.mono ?_
  rintro r w2 ⟨rfl, hw⟩
  rw [← hw] at c1
  have HW := Bx.mk hw; clear hw
  go_wp2
  go_ret
  rw [HW.out]
  exact rd_err H.out _ _
set_option maxRecDepth 100000 in
set_option maxHeartbeats 4000000 in
theorem rInt_ok (g : Nat) (bs : List UInt8) (L : List Nat) (w : World) (h : RdAt w L g bs 0) (hl : bs.length ≤ 100000000) (u n : Nat) (hr : tk 10 0 0 bs = (u, n, 0)) :
    Calls Try.prog 115 #[.pointer (some ⟨g, 0, none⟩)] w (R1 w L g (.int .i64 (zag u)) (bs.drop n) 0) := by
  have HD := Bx.mk (rdead0 h); have H := Bx.mk h
  have HC := Bx.mk (rtake_ok (by omega) (by omega) h hl hr)
  have hu := tk_lt 10 bs 0 0 u n (by omega) (by omega) hr
  have hn := (tk_enc0 hr).2.1
  obtain ⟨⟨a, c, k1, k2, k3⟩, _, _⟩ := h
  have c0 : w.cell? ⟨g, 0, none⟩ = some (.slice a bs.length c) := by rw [k1.cell]; rfl
  have c1 : w.cell? ⟨g, 1, none⟩ = some (.int .i64 0) := by rw [k1.cell]; rfl
  have d0 : w.frozen? ⟨g, 0, none⟩ = false := k1.frozen 0
  obtain ⟨a2, c2, hsl, hI, hc2⟩ := slice_from (n := n) hn k3 k2
  have RB := fun v => Bx.mk (rd_bytes H.out hI hc2 v)
  have f0 := and_one_u64 (u : Int) (by omega) (by omega)
  obtain ⟨q, hq⟩ : ∃ q, q = u / 2 := ⟨_, rfl⟩
  have f1 : (u : Int) / 2 = (q : Int) := by omega
  have hqb : q < 9223372036854775808 := by omega
  clear k1 k2 k3 hI hc2 hr hn hl H
  generalize (bs.drop n).length = m at *
  by_cases hodd : u % 2 = 1
  · have hz : zag u = -(q : Int) - 1 := by unfold zag; rw [if_pos hodd, hq]
    have f2 : (u : Int) % 2 = 1 := by omega
    rw [f2] at f0
    have f3 : IntKind.u64.wrap (-1) = 18446744073709551615 := by rw [IntKind.wrap_u64]; rfl
    have f4 := xor_ones q (by omega)
    obtain ⟨k, hk⟩ : ∃ k : Int, k = ((18446744073709551615 - q : Nat) : Int) := ⟨_, rfl⟩
    rw [← hk] at f4
    have f5 : wrap64 k = -(q : Int) - 1 := by unfold wrap64; omega
    rw [hz]
    obtain ⟨j, hj⟩ : ∃ j : Int, j = -(q : Int) - 1 := ⟨_, rfl⟩
    rw [← hj] at f5 ⊢
    clear hz f2 hk hodd hq hu hj hqb
    go_enter Try.func115, Try.ntmps115
    go_wp2_with fail
    refine HD.out.mono ?_
    rintro r w1 ⟨rfl, rfl⟩
    go_wp2_with fail
    refine HC.out.mono ?_
    rintro r w2 ⟨rfl, rfl⟩
    go_wp2
    go_ret
    show R1 _ _ _ (.int .i64 j) _ 0 (.returned (.int .i64 (wrap64 k))) _
    rw [f5]
    exact (RB _).out
  · have hz : zag u = (q : Int) := by unfold zag; rw [if_neg hodd, hq]
    have f2 : (u : Int) % 2 = 0 := by omega
    rw [f2] at f0
    have f3 : IntKind.u64.wrap (-0) = 0 := by rw [IntKind.wrap_u64]; rfl
    have f4 := xor_zero q (by omega)
    have f5 : wrap64 (q : Int) = (q : Int) := by unfold wrap64; omega
    rw [hz]
    clear hz f2 hodd hq hu hqb
    go_enter Try.func115, Try.ntmps115
    go_wp2_with fail
    refine HD.out.mono ?_
    rintro r w1 ⟨rfl, rfl⟩
    go_wp2_with fail
    refine HC.out.mono ?_
    rintro r w2 ⟨rfl, rfl⟩
    go_wp2
    go_ret
    show R1 _ _ _ (.int .i64 (q : Int)) _ 0 (.returned (.int .i64 (wrap64 (q : Int)))) _
    rw [f5]
    exact (RB _).out
theorem rInt_any2 (g : Nat) (bs : List UInt8) (e : Int) (L : List Nat) (w : World) (h : RdAt w L g bs e) (hl : bs.length ≤ 100000000) :
    Calls Try.prog 115 #[.pointer (some ⟨g, 0, none⟩)] w (R1 w L g (.int .i64 (rdInt bs e).1) (rdInt bs e).2.1 (rdInt bs e).2.2) := by
  unfold rdInt
  by_cases he : e = 0
  · subst he
    rw [if_neg (by simp)]
    obtain ⟨u, n, e1, hr⟩ : ∃ u n e1, tk 10 0 0 bs = (u, n, e1) := ⟨_, _, _, rfl⟩
    rw [hr]
    dsimp only
    by_cases he1 : e1 = 0
    · subst he1
      rw [if_neg (by simp)]
      exact rInt_ok g bs L w h hl u n hr
    · rw [if_pos he1]; exact rInt_err g bs L w h hl u n e1 he1 hr
  · rw [if_pos he]; exact rInt_dead g bs e L w h he
/-- What 'End' tells. -/
def rdEnd (bs : List UInt8) (e : Int) : Int := if e = 0 ∧ bs ≠ [] then 4 else e
theorem rEnd_any (g : Nat) (bs : List UInt8) (e : Int) (L : List Nat) (w : World) (h : RdAt w L g bs e) (hl : bs.length ≤ 100000000) :
    Calls Try.prog 86 #[.pointer (some ⟨g, 0, none⟩)] w fun r w' => r = .returned (.int .i64 (rdEnd bs e)) ∧ w' = w := by
  obtain ⟨⟨a, c, k1, k2, k3⟩, _, _⟩ := h
  have c0 : w.cell? ⟨g, 0, none⟩ = some (.slice a bs.length c) := by rw [k1.cell]; rfl
  have c1 : w.cell? ⟨g, 1, none⟩ = some (.int .i64 e) := by rw [k1.cell]; rfl
  clear k1 k2 k3
  unfold rdEnd
  by_cases he : e = 0
  · subst he
    by_cases hb : bs = []
    · subst hb
      rw [if_neg (by simp)]
      have c0' : w.cell? ⟨g, 0, none⟩ = some (.slice a 0 c) := c0
      clear c0 hl
      go_enter Try.func86, Try.ntmps86
      go_wp2
      go_ret
      exact ⟨rfl, rfl⟩
    · rw [if_pos ⟨rfl, hb⟩]
      have hlen : (0 : Int) < (bs.length : Int) := by have := List.length_pos_iff.2 hb; omega
      clear hb
      go_enter Try.func86, Try.ntmps86
      go_wp2
      go_ret
      exact ⟨rfl, rfl⟩
  · rw [if_neg (fun h => he h.1)]
    have heb : (e == 0) = false := by simpa using he
    clear he
    go_enter Try.func86, Try.ntmps86
    go_wp2
    go_ret
    exact ⟨rfl, rfl⟩
theorem rdInt_range (bs : List UInt8) (e : Int) : -9223372036854775808 ≤ (rdInt bs e).1 ∧ (rdInt bs e).1 ≤ 9223372036854775807 := by
  unfold rdInt
  split
  · simp
  · obtain ⟨u, n, e1, hr⟩ : ∃ u n e1, tk 10 0 0 bs = (u, n, e1) := ⟨_, _, _, rfl⟩
    rw [hr]
    dsimp only
    split
    · simp
    · rename_i h
      have h0 : e1 = 0 := Classical.not_not.1 h
      subst h0
      exact zag_range (tk_lt 10 bs 0 0 u n (by omega) (by omega) hr)
theorem rdUint_range (most : Int) (bs : List UInt8) (e : Int) : 0 ≤ (rdUint most bs e).1 ∧ (rdUint most bs e).1 ≤ 9223372036854775807 := by
  unfold rdUint
  split
  · simp
  · obtain ⟨u, n, e1, hr⟩ : ∃ u n e1, tk 9 0 0 bs = (u, n, e1) := ⟨_, _, _, rfl⟩
    rw [hr]
    dsimp only
    split
    · simp
    · rename_i h
      have h0 : e1 = 0 := Classical.not_not.1 h
      subst h0
      split
      · simp
      · have := tk9_lt hr
        show 0 ≤ (u : Int) ∧ (u : Int) ≤ _
        omega
theorem rdLen (bs : List UInt8) (e : Int) : (rdInt bs e).2.1.length ≤ bs.length := by
  unfold rdInt
  split
  · simp
  · dsimp only; split
    · simp
    · simp
theorem rdLenU (most : Int) (bs : List UInt8) (e : Int) : (rdUint most bs e).2.1.length ≤ bs.length := by
  unfold rdUint
  split
  · simp
  · dsimp only; split
    · simp
    · split
      · simp
      · simp
end Go.Proofs.Ytamlgnhnmilbdaa
end
section
/- The reader's flag and text, walked. -/
namespace Go.Proofs.Ytamlgnhnmilbdaa
open Go.RowKit
def rdFlag (bs : List UInt8) (e : Int) : Bool × List UInt8 × Int :=
  if e ≠ 0 then (false, bs, e) else match bs with
  | [] => (false, [], 3)
  | x :: r => if 1 < x.toNat then (false, x :: r, 2) else (decide (x.toNat = 1), r, 0)
def rdText (most : Int) (bs : List UInt8) (e : Int) : List UInt8 × List UInt8 × Int :=
  if e ≠ 0 then ([], bs, e) else
  let r := rdUint most bs 0
  if r.2.2 ≠ 0 then ([], r.2.1, r.2.2) else if (r.2.1.length : Int) < r.1 then ([], bs, 3) else (r.2.1.take r.1.toNat, r.2.1.drop r.1.toNat, 0)
theorem in_fr {w w' : World} {L : List Nat} {a a0 : Option Addr} {bs : List UInt8} {n0 c0 g : Nat} {e : Int} (hb : Bk w g #[.slice a0 n0 c0, .int .i64 e] 182) (h : In w L a bs) (hu : Under L w.heap.size) (hf : Fr [g] w w') : In w' L a bs := by
  refine ⟨?_, h.2⟩
  rcases h.1 with h1 | ⟨b, off, rfl, h1⟩
  · exact .inl h1
  · cases bs with
    | nil => exact .inl rfl
    | cons x r =>
      have hbg : b ≠ g := by
        rintro rfl
        have := h1 0 (bV x) rfl
        rw [hb.cell] at this
        generalize off + 0 = j at this
        match j with
        | 0 => cases this
        | 1 => cases this
        | j + 2 => simp at this
      have hbL := h.2 _ rfl (by simp)
      refine .inr ⟨b, off, rfl, fun i v hv => ?_⟩
      rw [← h1 i v hv]
      exact World.cell?_of_block (a := ⟨b, off + i, none⟩) (hf.block b (hu b hbL) (by simpa using hbg))
set_option maxRecDepth 100000 in
set_option maxHeartbeats 4000000 in
theorem rFlag_dead (g : Nat) (bs : List UInt8) (e : Int) (L : List Nat) (w : World) (h : RdAt w L g bs e) (he : e ≠ 0) :
    Calls Try.prog 96 #[.pointer (some ⟨g, 0, none⟩)] w (R1 w L g (.bool false) bs e) := by
  have HD := Bx.mk (rdead1 h he); have H := Bx.mk h
  clear h he
  go_enter Try.func96, Try.ntmps96
  go_wp2_with fail
  refine HD.out.mono ?_
  rintro r w1 ⟨rfl, rfl⟩
  go_wp2
  go_ret
  exact rd_same H.out _
set_option maxRecDepth 100000 in
set_option maxHeartbeats 4000000 in
theorem rFlag_short (g : Nat) (L : List Nat) (w : World) (h : RdAt w L g [] 0) :
    Calls Try.prog 96 #[.pointer (some ⟨g, 0, none⟩)] w (R1 w L g (.bool false) [] 3) := by
  have HD := Bx.mk (rdead0 h); have H := Bx.mk h
  obtain ⟨⟨a, c, k1, _, _⟩, _, _⟩ := h
  have c0 : w.cell? ⟨g, 0, none⟩ = some (.slice a 0 c) := by rw [k1.cell]; rfl
  have c1 : w.cell? ⟨g, 1, none⟩ = some (.int .i64 0) := by rw [k1.cell]; rfl
  have d1 : w.frozen? ⟨g, 1, none⟩ = false := k1.frozen 1
  clear k1
  go_enter Try.func96, Try.ntmps96
  go_wp2_with fail
  refine HD.out.mono ?_
  rintro r w1 ⟨rfl, rfl⟩
  go_wp2
  go_ret
  exact rd_err H.out _ _
set_option maxRecDepth 100000 in
set_option maxHeartbeats 4000000 in
theorem rFlag_one (g : Nat) (x : UInt8) (r : List UInt8) (L : List Nat) (w : World) (h : RdAt w L g (x :: r) 0) :
    Calls Try.prog 96 #[.pointer (some ⟨g, 0, none⟩)] w fun q w' => (1 < x.toNat → R1 w L g (.bool false) (x :: r) 2 q w') ∧ (¬ 1 < x.toNat → R1 w L g (.bool (decide (x.toNat = 1))) r 0 q w') := by
  have HD := Bx.mk (rdead0 h); have H := Bx.mk h
  obtain ⟨⟨a, c, k1, k2, k3⟩, _, _⟩ := h
  obtain ⟨bs, hbs⟩ : ∃ bs, bs = x :: r := ⟨_, rfl⟩
  rw [← hbs] at k1 k2 k3 H
  have hlen : 0 < bs.length := by rw [hbs]; simp
  obtain ⟨b, off, rfl, hc⟩ := RowAt.byte k2.1 (k := 0) hlen
  have hx0 : bs[0] = x := by subst hbs; rfl
  rw [hx0, Nat.add_zero] at hc
  have c0 : w.cell? ⟨g, 0, none⟩ = some (.slice (some ⟨b, off, none⟩) bs.length c) := by rw [k1.cell]; rfl
  have c1 : w.cell? ⟨g, 1, none⟩ = some (.int .i64 0) := by rw [k1.cell]; rfl
  have d0 : w.frozen? ⟨g, 0, none⟩ = false := k1.frozen 0
  have d1 : w.frozen? ⟨g, 1, none⟩ = false := k1.frozen 1
  obtain ⟨a2, c2, hsl, hI, hc2⟩ := slice_from (n := 1) (by omega) k3 k2
  have hdr : bs.drop 1 = r := by rw [hbs]; rfl
  rw [hdr] at hsl hI hc2
  have RB := fun v => Bx.mk (rd_bytes H.out hI hc2 v)
  have RE := fun v => Bx.mk (rd_err H.out 2 v)
  rw [hbs] at RE
  have l0 : (0 : Int) < (bs.length : Int) := by omega
  have l1 : ((bs.length : Int) == 0) = false := by rw [beq_eq_false_iff_ne]; omega
  clear k1 k2 k3 hI hc2 hx0 hdr hlen H hbs
  have hsl' : ∀ W : World, (Instr.slice 42 (.slice (some ⟨b, off, none⟩) bs.length c) (some (.int .i64 1)) none none).run Try.prog W = .ok (.slice a2 r.length c2) W := hsl
  clear hsl
  by_cases hm : (1 : Int) < (x.toNat : Int)
  · have HX := Bx.mk (show 1 < x.toNat by omega)
    go_enter Try.func96, Try.ntmps96
    go_wp2_with fail
    refine HD.out.mono ?_
    rintro q w1 ⟨rfl, rfl⟩
    go_wp2
    go_ret
    exact ⟨fun _ => (RE _).out, fun h => absurd HX.out h⟩
  · have hx : x.toNat = 0 ∨ x.toNat = 1 := by omega
    rcases hx with hx | hx
    · have HX := Bx.mk hx
      rw [hx] at hc
      clear hm hx
      go_enter Try.func96, Try.ntmps96
      go_wp2_with fail
      refine HD.out.mono ?_
      rintro q w1 ⟨rfl, rfl⟩
      go_wp2
      go_ret
      exact ⟨fun h => by have := HX.out; omega, fun _ => by rw [HX.out]; exact (RB _).out⟩
    · have HX := Bx.mk hx
      rw [hx] at hc
      clear hm hx
      go_enter Try.func96, Try.ntmps96
      go_wp2_with fail
      refine HD.out.mono ?_
      rintro q w1 ⟨rfl, rfl⟩
      go_wp2
      go_ret
      exact ⟨fun h => by have := HX.out; omega, fun _ => by rw [HX.out]; exact (RB _).out⟩
theorem rFlag_any (g : Nat) (bs : List UInt8) (e : Int) (L : List Nat) (w : World) (h : RdAt w L g bs e) :
    Calls Try.prog 96 #[.pointer (some ⟨g, 0, none⟩)] w (R1 w L g (.bool (rdFlag bs e).1) (rdFlag bs e).2.1 (rdFlag bs e).2.2) := by
  unfold rdFlag
  by_cases he : e = 0
  · subst he
    rw [if_neg (by simp)]
    cases bs with
    | nil => exact rFlag_short g L w h
    | cons x r =>
      dsimp only
      by_cases hx : 1 < x.toNat
      · rw [if_pos hx]; exact (rFlag_one g x r L w h).mono fun q w' h => h.1 hx
      · rw [if_neg hx]; exact (rFlag_one g x r L w h).mono fun q w' h => h.2 hx
  · rw [if_pos he]; exact rFlag_dead g bs e L w h he
/-- What 'Text' does. -/
def T1 (w : World) (L : List Nat) (g : Nat) (ts bs : List UInt8) (e : Int) (r : Ending) (w' : World) : Prop :=
  ∃ v, r = .returned v ∧ Own w' w.heap.size 5 1 v ts.length (ts.map bV) ∧ RdAt w' L g bs e ∧ Fr L w w'
set_option maxRecDepth 100000 in
set_option maxHeartbeats 4000000 in
theorem rText_dead (g : Nat) (most : Int) (bs : List UInt8) (e : Int) (L : List Nat) (w : World) (h : RdAt w L g bs e) (he : e ≠ 0) :
    Calls Try.prog 97 #[.pointer (some ⟨g, 0, none⟩), .int .i64 most] w (T1 w L g [] bs e) := by
  have HD := Bx.mk (rdead1 h he); have H := Bx.mk h
  clear h he
  go_enter Try.func97, Try.ntmps97
  go_wp2_with fail
  refine HD.out.mono ?_
  rintro r w1 ⟨rfl, rfl⟩
  go_wp2
  go_ret
  exact ⟨_, rfl, Own.nil _ _ _ _, H.out, Fr.refl _ _⟩
set_option maxRecDepth 100000 in
set_option maxHeartbeats 4000000 in
theorem rText_live (g : Nat) (most : Int) (hm : most ≤ 9223372036854775807) (hm2 : -9223372036854775808 ≤ most) (bs : List UInt8) (L : List Nat) (w : World) (h : RdAt w L g bs 0) (hl : bs.length ≤ 100000000) :
    Calls Try.prog 97 #[.pointer (some ⟨g, 0, none⟩), .int .i64 most] w (T1 w L g (rdText most bs 0).1 (rdText most bs 0).2.1 (rdText most bs 0).2.2) := by
  have HD := Bx.mk (rdead0 h); have H := Bx.mk h
  have HC := rUint_any g most hm hm2 bs 0 L w h hl
  have hr := rdUint_range most bs 0
  have hlen := rdLenU most bs 0
  unfold rdText
  rw [if_neg (by simp)]
  obtain ⟨n, b1, e1, hd⟩ : ∃ n b1 e1, rdUint most bs 0 = (n, b1, e1) := ⟨_, _, _, rfl⟩
  simp only [hd] at HC hr hlen ⊢
  obtain ⟨⟨a, c, k1, k2, k3⟩, k4, k5⟩ := h
  have c0 : w.cell? ⟨g, 0, none⟩ = some (.slice a bs.length c) := by rw [k1.cell]; rfl
  have K1 := Bx.mk k1; have K2 := Bx.mk k2; have K3 := Bx.mk k3; have K4 := Bx.mk k4; have K5 := Bx.mk k5; have HCC := Bx.mk HC
  have HLn := Bx.mk hlen; have HLl := Bx.mk hl
  clear k1 k2 k3 k4 k5 HC hd hlen hl hm hm2
  by_cases he : e1 = 0
  · subst he
    rw [if_neg (by simp)]
    obtain ⟨m, rfl⟩ := Int.eq_ofNat_of_zero_le hr.1
    have hm63 := Bx.mk hr.2
    clear hr
    by_cases hs : (b1.length : Int) < (m : Int)
    · rw [if_pos hs]
      go_enter Try.func97, Try.ntmps97
      go_wp2_with fail
      refine HD.out.mono ?_
      rintro r w1 ⟨rfl, rfl⟩
      go_wp2_with fail
      refine HCC.out.mono ?_
      rintro r w1 ⟨rfl, hr1, hf, hg⟩
      have HD1 := Bx.mk (rdead0 hr1)
      have HF := Bx.mk hf
      have HB := Bx.mk (hr1.setBytes (in_fr K1.out K2.out K5.out hg) K3.out)
      obtain ⟨⟨a1, c1, j1, _, _⟩, _, _⟩ := hr1
      have e0 : w1.cell? ⟨g, 0, none⟩ = some (.slice a1 b1.length c1) := by rw [j1.cell]; rfl
      have d0 : w1.frozen? ⟨g, 0, none⟩ = false := j1.frozen 0
      have d1 : w1.frozen? ⟨g, 1, none⟩ = false := j1.frozen 1
      have e1 : w1.cell? ⟨g, 1, none⟩ = some (.int .i64 0) := by rw [j1.cell]; rfl
      clear hf hg j1
      go_wp2_with fail
      refine HD1.out.mono ?_
      rintro r w2 ⟨rfl, rfl⟩
      go_wp2
      go_ret
      exact ⟨_, rfl, Own.nil _ _ _ _, HB.out.setErr 3, (HF.out.setCell (p := ⟨g, 0, none⟩) (.inl K4.out) _).setCell (p := ⟨g, 1, none⟩) (.inl K4.out) _⟩
    · rw [if_neg hs]
      have hmle : m ≤ b1.length := by omega
      show Calls _ _ _ _ (T1 w L g (b1.take ((m : Int)).toNat) (b1.drop ((m : Int)).toNat) 0)
      rw [Int.toNat_natCast]
      go_enter Try.func97, Try.ntmps97
      go_wp2_with fail
      refine HD.out.mono ?_
      rintro r w1 ⟨rfl, rfl⟩
      go_wp2_with fail
      refine HCC.out.mono ?_
      rintro r w1 ⟨rfl, hr1, hf, hg⟩
      have HD1 := Bx.mk (rdead0 hr1)
      have HF := Bx.mk hf
      have HR1 := Bx.mk hr1
      obtain ⟨⟨a1, c1, j1, j2, j3⟩, _, _⟩ := hr1
      have e0 : w1.cell? ⟨g, 0, none⟩ = some (.slice a1 b1.length c1) := by rw [j1.cell]; rfl
      obtain ⟨a2, c2, hsl, hI, hc2⟩ := slice_from (n := m) hmle j3 j2
      have ht : (b1.take m).length = m := by rw [List.length_take]; omega
      have HRt := Bx.mk (show RowAt w1 a1 ((b1.take m).map bV) by rw [List.map_take]; exact j2.1.take m)
      have J1 := Bx.mk j1; have HI := Bx.mk hI; have HC2 := Bx.mk hc2
      have q0 : (0 : Int) ≤ (m : Int) := by omega
      have q1 : (m : Int) ≤ (c1 : Int) := by omega
      clear hf hg j1 j2 hI hc2 j3
      go_wp2_with fail
      refine HD1.out.mono ?_
      rintro r w2 ⟨rfl, rfl⟩
      go_wp2_with fail
      have HCl := bClone_any a1 c1 (b1.take m) w2 HRt.out (by have := HLn.out; have := HLl.out; omega)
      rw [ht] at HCl
      refine HCl.mono ?_
      rintro r w3 ⟨v, rfl, ho, hb⟩
      have HO := Bx.mk ho
      have HR3 := Bx.mk (HR1.out.below hb)
      have J3 := Bx.mk (J1.out.keep (hb.block g J1.out.lt))
      have HI3 := Bx.mk (HI.out.keep (fun k hk => hb.block k (HR1.out.under k hk)))
      have HF3 := Bx.mk (HF.out.trans (Fr.ofBelow (L := []) hb) (fun k hk => by cases hk))
      have S3 := Bx.mk HF.out.size
      have e3 : w3.cell? ⟨g, 0, none⟩ = some (.slice a1 b1.length c1) := by rw [J3.out.cell]; rfl
      have d3 : w3.frozen? ⟨g, 0, none⟩ = false := J3.out.frozen 0
      clear ho hb HCl
      go_wp2
      go_ret
      refine ⟨_, rfl, ?_, by have h := HR3.out.setBytes HI3.out HC2.out; rw [List.length_drop] at h; exact h, HF3.out.setCell (p := ⟨g, 0, none⟩) (.inl K4.out) _⟩
      rw [ht]
      refine Own.keep (HO.out.base_le fun k hk => Nat.le_trans S3.out (HO.out.lt k hk).1) fun k hk => Below.heap_setCell _ _ _ _ fun e => ?_
      have e2 : k = g := e
      have := (HO.out.lt k hk).1
      have := HR1.out.under g K4.out
      omega
  · rw [if_pos he]
    go_enter Try.func97, Try.ntmps97
    go_wp2_with fail
    refine HD.out.mono ?_
    rintro r w1 ⟨rfl, rfl⟩
    go_wp2_with fail
    refine HCC.out.mono ?_
    rintro r w1 ⟨rfl, hr1, hf, hg⟩
    have HD1 := Bx.mk (rdead1 hr1 he)
    have HF := Bx.mk hf; have HR1 := Bx.mk hr1
    clear hf hg hr1
    go_wp2_with fail
    refine HD1.out.mono ?_
    rintro r w2 ⟨rfl, rfl⟩
    go_wp2
    go_ret
    exact ⟨_, rfl, Own.nil _ _ _ _, HR1.out, HF.out⟩
theorem rText_any (g : Nat) (most : Int) (hm : most ≤ 9223372036854775807) (hm2 : -9223372036854775808 ≤ most) (bs : List UInt8) (e : Int) (L : List Nat) (w : World) (h : RdAt w L g bs e) (hl : bs.length ≤ 100000000) :
    Calls Try.prog 97 #[.pointer (some ⟨g, 0, none⟩), .int .i64 most] w (T1 w L g (rdText most bs e).1 (rdText most bs e).2.1 (rdText most bs e).2.2) := by
  by_cases he : e = 0
  · subst he; exact rText_live g most hm hm2 bs L w h hl
  · have : rdText most bs e = ([], bs, e) := by unfold rdText; rw [if_pos he]
    rw [this]
    exact rText_dead g most bs e L w h he
end Go.Proofs.Ytamlgnhnmilbdaa
end
section
/- Conditions of functions, printed by a program of this claim's own (vcgen.py) out of the loaded code; each is proved to be enough. -/
set_option maxRecDepth 100000
namespace Go.Proofs.Ytamlgnhnmilbdaa
open Go.RowKit
namespace GRefRd
def env : Env := ⟨[(3, ⟨.int .i64, 1, .int .i64 0, 8, [.int .i64]⟩), (5, ⟨.int .u8, 1, .int .u8 0, 1, [.int .u8]⟩), (9, ⟨.str, 1, .string ByteArray.empty, 16, [.str]⟩), (23, ⟨.int .u64, 1, .int .u64 0, 8, [.int .u64]⟩), (25, ⟨.int .i64, 1, .int .i64 0, 8, [.int .i64]⟩), (151, ⟨.struct [(0, 9), (1, 25)], 2, .agg #[.string ByteArray.empty, .int .i64 0], 24, [.str, .int .i64]⟩)], [(78, [.lf (.int .i64)]), (117, [.lf (.int .u64), .lf (.int .i64)])], []⟩
theorem ty3 : TyOk Try.prog 3 ⟨.int .i64, 1, .int .i64 0, 8, [.int .i64]⟩ := tyok (by kernel_rfl) (by kernel_rfl)
theorem ty5 : TyOk Try.prog 5 ⟨.int .u8, 1, .int .u8 0, 1, [.int .u8]⟩ := tyok (by kernel_rfl) (by kernel_rfl)
theorem ty9 : TyOk Try.prog 9 ⟨.str, 1, .string ByteArray.empty, 16, [.str]⟩ := tyok (by kernel_rfl) (by kernel_rfl)
theorem ty23 : TyOk Try.prog 23 ⟨.int .u64, 1, .int .u64 0, 8, [.int .u64]⟩ := tyok (by kernel_rfl) (by kernel_rfl)
theorem ty25 : TyOk Try.prog 25 ⟨.int .i64, 1, .int .i64 0, 8, [.int .i64]⟩ := tyok (by kernel_rfl) (by kernel_rfl)
theorem ty151 : TyOk Try.prog 151 ⟨.struct [(0, 9), (1, 25)], 2, .agg #[.string ByteArray.empty, .int .i64 0], 24, [.str, .int .i64]⟩ := tyok (by kernel_rfl) (by kernel_rfl)
theorem fn78 : FnOk Try.prog 78 := fnok Try.func78 (by kernel_rfl) (by kernel_rfl)
theorem fn117 : FnOk Try.prog 117 := fnok Try.func117 (by kernel_rfl) (by kernel_rfl)
theorem envOk : EOk Try.prog env := ⟨(by simp only [env, List.forall_mem_cons, List.not_mem_nil, false_implies, implies_true, and_true]; exact ⟨ty3, ty5, ty9, ty23, ty25, ty151⟩), (by simp only [env, List.forall_mem_cons, List.not_mem_nil, false_implies, implies_true, and_true]; exact ⟨fn78, fn117⟩), by kernel_rfl, (fun _ h => by cases h)⟩
/-- (*purser/purserref03.Reader).groups -/
def grp_vc (p0 : Option Addr) (x1 : Int) (w : World) (K : Value → World → Prop) : Prop :=
  ∃ (I : Int → Int → World → Prop) (μ : Int → Int → World → Nat),
  I 0 0 w ∧
  ∀ (x6 : Int) (x7 : Int) (w_2 : World), I x6 x7 w_2 →
  withP p0 fun g13 o13 =>
  ∃ (s15 : ByteArray), w_2.cell? ⟨g13, o13, none⟩ = some (.string s15) ∧
  br (decide (x7 ≥ ((s15.size : Nat) : Int))) (
    withP p0 fun g19 o19 =>
    stO [] w_2 g19 (o19 + 1) [.int .i64 3] fun w_3 =>
    K (.tuple #[.int .u64 0, .int .i64 0]) w_3
  ) (
    withP p0 fun g22 o22 =>
    ∃ (s24 : ByteArray), w_2.cell? ⟨g22, o22, none⟩ = some (.string s24) ∧
    (0 : Int) ≤ x7 ∧ x7 < (((s24.size : Nat) : Int) : Int) ∧
    ∃ (J : Bool → World → Prop), (
      br (decide (x7 ≥ x1)) (
        J true w_2
      ) (
        br (decide (x7 = 9)) (
          br (decide ((byteAt s24 x7) > 1)) (
            J true w_2
          ) (
            br (decide ((byteAt s24 x7) = 0)) (
              J (decide (x7 > 0)) w_2
            ) (
              J false w_2
            )
          )
        ) (
          br (decide ((byteAt s24 x7) = 0)) (
            J (decide (x7 > 0)) w_2
          ) (
            J false w_2
          )
        )
      )
    ) ∧
    ∀ (b45 : Bool) (w_4 : World), J b45 w_4 →
    br b45 (
      withP p0 fun g47 o47 =>
      stO [] w_4 g47 (o47 + 1) [.int .i64 2] fun w_5 =>
      K (.tuple #[.int .u64 0, .int .i64 0]) w_5
    ) (
      (128 : Int) ≠ 0 ∧
      (0 : Int) ≤ (IntKind.i64.wrap (7 * x7)) ∧
      br (decide ((byteAt s24 x7) < 128)) (
        K (.tuple #[.int .u64 (IntKind.u64.wrap (x6 + (IntKind.u64.wrap ((IntKind.u64.wrap (Int.tmod (byteAt s24 x7) 128)) * 2 ^ (min (IntKind.i64.wrap (7 * x7)).toNat (IntKind.bits .u64)))))), .int .i64 (IntKind.i64.wrap (x7 + 1))]) w_4
      ) (
        I (IntKind.u64.wrap (x6 + (IntKind.u64.wrap ((IntKind.u64.wrap (Int.tmod (byteAt s24 x7) 128)) * 2 ^ (min (IntKind.i64.wrap (7 * x7)).toNat (IntKind.bits .u64)))))) (IntKind.i64.wrap (x7 + 1)) w_4 ∧ μ (IntKind.u64.wrap (x6 + (IntKind.u64.wrap ((IntKind.u64.wrap (Int.tmod (byteAt s24 x7) 128)) * 2 ^ (min (IntKind.i64.wrap (7 * x7)).toNat (IntKind.bits .u64)))))) (IntKind.i64.wrap (x7 + 1)) w_4 < μ x6 x7 w_2
      )
    )
  )
def grp_notes : Notes := ⟨[], [(4, ⟨[(6, .lf (.int .u64)), (7, .lf (.int .i64))], [], [11, 12, 13, 14, 15, 16, 17, 18, 19, 20, 4, 5, 21, 22, 23, 24, 25, 26, 8, 27, 28, 29, 30, 31, 32, 33, 34, 35, 36, 37, 38, 39, 40, 41, 42, 43, 44, 45, 46, 47, 48, 49, 50, 51, 52, 53, 54, 55, 56, 6, 57, 58, 59, 60, 61, 9, 10, 7], []⟩)], [((0, 8), ⟨[(45, .lf (.bool))], [], [27, 28, 29, 30, 31, 32, 33, 34, 35, 36, 37, 38, 39, 40, 41, 42, 43, 44, 45], []⟩)]⟩
theorem grp_calls (p0 : Option Addr) (x1 : Int) (w : World) (K : Value → World → Prop) (h : grp_vc p0 x1 w K) : Calls Try.prog 117 #[.pointer p0, .int .i64 x1] w fun e w' => ∃ v, e = .returned v ∧ K v w' :=
  calls_of_fvc envOk Try.func117 grp_notes [] [.pointer p0, .int .i64 x1] w K (use_vc h (by as_aux_lemma => kernel_rfl))
/-- (*purser/purserref03.Reader).Uint -/
def uint_vc (p0 : Option Addr) (x1 : Int) (w : World) (K : Value → World → Prop) : Prop :=
  withP p0 fun g8 o8 =>
  ∃ (x10 : Int), w.cell? ⟨g8, o8 + 1, none⟩ = some (.int .i64 x10) ∧
  br (decide (x10 ≠ 0)) (
    K (.int .i64 0) w
  ) (
    Calls Try.prog 117 #[.pointer p0, .int .i64 9] w fun e w_2 => KeepG [] w w_2 ∧
    ∃ (x14_0 : Int) (x14_1 : Int),
    e = .returned (.tuple #[.int .u64 x14_0, .int .i64 x14_1]) ∧
    withP p0 fun g18 o18 =>
    ∃ (x20 : Int), w_2.cell? ⟨g18, o18 + 1, none⟩ = some (.int .i64 x20) ∧
    br (decide (x20 ≠ 0)) (
      K (.int .i64 0) w_2
    ) (
      br (decide (x1 < 0)) (
        withP p0 fun g31 o31 =>
        stO [] w_2 g31 (o31 + 1) [.int .i64 5] fun w_3 =>
        K (.int .i64 0) w_3
      ) (
        br (decide (x14_0 > (IntKind.u64.wrap x1))) (
          withP p0 fun g31_2 o31_2 =>
          stO [] w_2 g31_2 (o31_2 + 1) [.int .i64 5] fun w_4 =>
          K (.int .i64 0) w_4
        ) (
          withP p0 fun g35 o35 =>
          ∃ (s37 : ByteArray), w_2.cell? ⟨g35, o35, none⟩ = some (.string s37) ∧
          (0 : Int) ≤ x14_1 ∧ x14_1 ≤ (((s37.size : Nat) : Int) : Int) ∧
          withP p0 fun g40 o40 =>
          stO [] w_2 g40 o40 [.string (s37.extract x14_1.toNat s37.size)] fun w_5 =>
          K (.int .i64 (IntKind.i64.wrap x14_0)) w_5
        )
      )
    )
  )
def uint_notes : Notes := ⟨[], [], []⟩
theorem uint_calls (p0 : Option Addr) (x1 : Int) (w : World) (K : Value → World → Prop) (h : uint_vc p0 x1 w K) : Calls Try.prog 78 #[.pointer p0, .int .i64 x1] w fun e w' => ∃ v, e = .returned v ∧ K v w' :=
  calls_of_fvc envOk Try.func78 uint_notes [] [.pointer p0, .int .i64 x1] w K (use_vc h (by as_aux_lemma => kernel_rfl))
/-- (*purser/purserref03.Reader).Int -/
def int_vc (p0 : Option Addr) (w : World) (K : Value → World → Prop) : Prop :=
  withP p0 fun g6 o6 =>
  ∃ (x8 : Int), w.cell? ⟨g6, o6 + 1, none⟩ = some (.int .i64 x8) ∧
  br (decide (x8 ≠ 0)) (
    K (.int .i64 0) w
  ) (
    Calls Try.prog 117 #[.pointer p0, .int .i64 10] w fun e w_2 => KeepG [] w w_2 ∧
    ∃ (x12_0 : Int) (x12_1 : Int),
    e = .returned (.tuple #[.int .u64 x12_0, .int .i64 x12_1]) ∧
    withP p0 fun g16 o16 =>
    ∃ (x18 : Int), w_2.cell? ⟨g16, o16 + 1, none⟩ = some (.int .i64 x18) ∧
    br (decide (x18 ≠ 0)) (
      K (.int .i64 0) w_2
    ) (
      withP p0 fun g22 o22 =>
      ∃ (s24 : ByteArray), w_2.cell? ⟨g22, o22, none⟩ = some (.string s24) ∧
      (0 : Int) ≤ x12_1 ∧ x12_1 ≤ (((s24.size : Nat) : Int) : Int) ∧
      withP p0 fun g27 o27 =>
      stO [] w_2 g27 o27 [.string (s24.extract x12_1.toNat s24.size)] fun w_3 =>
      (2 : Int) ≠ 0 ∧
      br (decide ((Int.tmod x12_0 2) = 1)) (
        (2 : Int) ≠ 0 ∧
        K (.int .i64 (IntKind.i64.wrap (IntKind.u64.wrap (0 - (IntKind.u64.wrap ((IntKind.u64.wrap (Int.tdiv x12_0 2)) + 1)))))) w_3
      ) (
        (2 : Int) ≠ 0 ∧
        K (.int .i64 (IntKind.i64.wrap (IntKind.u64.wrap (Int.tdiv x12_0 2)))) w_3
      )
    )
  )
def int_notes : Notes := ⟨[], [], []⟩
theorem int_calls (p0 : Option Addr) (w : World) (K : Value → World → Prop) (h : int_vc p0 w K) : Calls Try.prog 118 #[.pointer p0] w fun e w' => ∃ v, e = .returned v ∧ K v w' :=
  calls_of_fvc envOk Try.func118 int_notes [] [.pointer p0] w K (use_vc h (by as_aux_lemma => kernel_rfl))
/-- (*purser/purserref03.Reader).Flag -/
def flag_vc (p0 : Option Addr) (w : World) (K : Value → World → Prop) : Prop :=
  withP p0 fun g5 o5 =>
  ∃ (x7 : Int), w.cell? ⟨g5, o5 + 1, none⟩ = some (.int .i64 x7) ∧
  br (decide (x7 ≠ 0)) (
    K (.bool false) w
  ) (
    withP p0 fun g10 o10 =>
    ∃ (s12 : ByteArray), w.cell? ⟨g10, o10, none⟩ = some (.string s12) ∧
    br (decide (((s12.size : Nat) : Int) = 0)) (
      withP p0 fun g16 o16 =>
      stO [] w g16 (o16 + 1) [.int .i64 3] fun w_2 =>
      K (.bool false) w_2
    ) (
      withP p0 fun g19 o19 =>
      ∃ (s21 : ByteArray), w.cell? ⟨g19, o19, none⟩ = some (.string s21) ∧
      (0 : Int) ≤ 0 ∧ 0 < (((s21.size : Nat) : Int) : Int) ∧
      br (decide ((byteAt s21 0) > 1)) (
        withP p0 fun g25 o25 =>
        stO [] w g25 (o25 + 1) [.int .i64 2] fun w_3 =>
        K (.bool false) w_3
      ) (
        withP p0 fun g28 o28 =>
        ∃ (s30 : ByteArray), w.cell? ⟨g28, o28, none⟩ = some (.string s30) ∧
        (0 : Int) ≤ 0 ∧ 0 < (((s30.size : Nat) : Int) : Int) ∧
        withP p0 fun g35 o35 =>
        ∃ (s37 : ByteArray), w.cell? ⟨g35, o35, none⟩ = some (.string s37) ∧
        (0 : Int) ≤ 1 ∧ 1 ≤ (((s37.size : Nat) : Int) : Int) ∧
        withP p0 fun g39 o39 =>
        stO [] w g39 o39 [.string (s37.extract ((1 : Int).toNat) s37.size)] fun w_4 =>
        K (.bool (decide ((byteAt s30 0) = 1))) w_4
      )
    )
  )
def flag_notes : Notes := ⟨[], [], []⟩
theorem flag_calls (p0 : Option Addr) (w : World) (K : Value → World → Prop) (h : flag_vc p0 w K) : Calls Try.prog 88 #[.pointer p0] w fun e w' => ∃ v, e = .returned v ∧ K v w' :=
  calls_of_fvc envOk Try.func88 flag_notes [] [.pointer p0] w K (use_vc h (by as_aux_lemma => kernel_rfl))
/-- (*purser/purserref03.Reader).Text -/
def text_vc (p0 : Option Addr) (x1 : Int) (w : World) (K : Value → World → Prop) : Prop :=
  withP p0 fun g9 o9 =>
  ∃ (s11 : ByteArray), w.cell? ⟨g9, o9, none⟩ = some (.string s11) ∧
  Calls Try.prog 78 #[.pointer p0, .int .i64 x1] w fun e w_2 => KeepG [] w w_2 ∧
  ∃ (x14 : Int),
  e = .returned (.int .i64 x14) ∧
  withP p0 fun g16 o16 =>
  ∃ (x18 : Int), w_2.cell? ⟨g16, o16 + 1, none⟩ = some (.int .i64 x18) ∧
  br (decide (x18 ≠ 0)) (
    K (.string (⟨#[]⟩)) w_2
  ) (
    withP p0 fun g21 o21 =>
    ∃ (s23 : ByteArray), w_2.cell? ⟨g21, o21, none⟩ = some (.string s23) ∧
    br (decide (((s23.size : Nat) : Int) < x14)) (
      withP p0 fun g30 o30 =>
      stO [] w_2 g30 o30 [.string s11] fun w_3 =>
      withP p0 fun g32 o32 =>
      stO [] w_3 g32 (o32 + 1) [.int .i64 3] fun w_4 =>
      K (.string (⟨#[]⟩)) w_4
    ) (
      withP p0 fun g35 o35 =>
      ∃ (s37 : ByteArray), w_2.cell? ⟨g35, o35, none⟩ = some (.string s37) ∧
      (0 : Int) ≤ x14 ∧ x14 ≤ (((s37.size : Nat) : Int) : Int) ∧
      withP p0 fun g42 o42 =>
      ∃ (s44 : ByteArray), w_2.cell? ⟨g42, o42, none⟩ = some (.string s44) ∧
      (0 : Int) ≤ x14 ∧ x14 ≤ (((s44.size : Nat) : Int) : Int) ∧
      withP p0 fun g47 o47 =>
      stO [] w_2 g47 o47 [.string (s44.extract x14.toNat s44.size)] fun w_5 =>
      K (.string (s37.extract 0 x14.toNat)) w_5
    )
  )
def text_notes : Notes := ⟨[], [], []⟩
theorem text_calls (p0 : Option Addr) (x1 : Int) (w : World) (K : Value → World → Prop) (h : text_vc p0 x1 w K) : Calls Try.prog 82 #[.pointer p0, .int .i64 x1] w fun e w' => ∃ v, e = .returned v ∧ K v w' :=
  calls_of_fvc envOk Try.func82 text_notes [] [.pointer p0, .int .i64 x1] w K (use_vc h (by as_aux_lemma => kernel_rfl))
/-- (*purser/purserref03.Reader).End -/
def end_vc (p0 : Option Addr) (w : World) (K : Value → World → Prop) : Prop :=
  withP p0 fun g4 o4 =>
  ∃ (x6 : Int), w.cell? ⟨g4, o4 + 1, none⟩ = some (.int .i64 x6) ∧
  br (decide (x6 = 0)) (
    withP p0 fun g10 o10 =>
    ∃ (s12 : ByteArray), w.cell? ⟨g10, o10, none⟩ = some (.string s12) ∧
    br (decide (s12 ≠ (⟨#[]⟩))) (
      K (.int .i64 4) w
    ) (
      withP p0 fun g16 o16 =>
      ∃ (x18 : Int), w.cell? ⟨g16, o16 + 1, none⟩ = some (.int .i64 x18) ∧
      K (.int .i64 x18) w
    )
  ) (
    withP p0 fun g16_2 o16_2 =>
    ∃ (x18_2 : Int), w.cell? ⟨g16_2, o16_2 + 1, none⟩ = some (.int .i64 x18_2) ∧
    K (.int .i64 x18_2) w
  )
def end_notes : Notes := ⟨[], [], []⟩
theorem end_calls (p0 : Option Addr) (w : World) (K : Value → World → Prop) (h : end_vc p0 w K) : Calls Try.prog 83 #[.pointer p0] w fun e w' => ∃ v, e = .returned v ∧ K v w' :=
  calls_of_fvc envOk Try.func83 end_notes [] [.pointer p0] w K (use_vc h (by as_aux_lemma => kernel_rfl))
end GRefRd
end Go.Proofs.Ytamlgnhnmilbdaa
end
section
/- Small words for using printed conditions. No program in sight. -/
namespace Go.Proofs.Ytamlgnhnmilbdaa
open Go.RowKit
theorem keepG_nil (w w1 : World) : KeepG [] w w1 := fun _ g hg => by cases hg
theorem keepG_below {gs : List Nat} {w w1 : World} (h : Below w.heap.size w w1) : KeepG gs w w1 := fun hu g hg => h.block g (hu g hg)
theorem keepG_fr {gs L : List Nat} {w w1 : World} (h : Fr L w w1) (ha : ∀ g ∈ gs, g ∉ L) : KeepG gs w w1 := fun hu g hg => h.block g (hu g hg) (ha g hg)
/-- A call whose contract tells one value. -/
theorem wr64 {z : Int} (h1 : -9223372036854775808 ≤ z) (h2 : z ≤ 9223372036854775807) : IntKind.i64.wrap z = z := IntWalk.i64_in z ⟨h1, h2⟩
theorem wru64 {z : Int} (h1 : 0 ≤ z) (h2 : z ≤ 18446744073709551615) : IntKind.u64.wrap z = z := by rw [IntKind.wrap_u64]; omega
theorem wru8 {z : Int} (h1 : 0 ≤ z) (h2 : z ≤ 255) : IntKind.u8.wrap z = z := by rw [IntKind.wrap_u8]; omega
theorem u64_mod (z : Int) (k : Nat) (hk : 0 < k) : ∃ m : Nat, m < k ∧ Int.tmod (IntKind.u64.wrap z) (k : Int) = (m : Int) := by
  have h0 : 0 ≤ IntKind.u64.wrap z := by rw [IntKind.wrap_u64]; omega
  have h1 := Int.emod_nonneg (IntKind.u64.wrap z) (show (k : Int) ≠ 0 by omega)
  have h2 := Int.emod_lt_of_pos (IntKind.u64.wrap z) (show (0 : Int) < (k : Int) by omega)
  exact ⟨(IntKind.u64.wrap z % (k : Int)).toNat, by omega, by rw [Int.tmod_eq_emod_of_nonneg h0]; omega⟩
theorem br_t {b : Bool} {A B : Prop} (hb : b = true) (h : A) : br b A B := by rw [br_true hb]; exact h
theorem br_f {b : Bool} {A B : Prop} (hb : b = false) (h : B) : br b A B := by rw [br_false hb]; exact h
theorem br_y {p : Prop} [Decidable p] {A B : Prop} (hp : p) (h : A) : br (decide p) A B := br_t (decide_eq_true hp) h
theorem br_n {p : Prop} [Decidable p] {A B : Prop} (hp : ¬ p) (h : B) : br (decide p) A B := br_f (decide_eq_false hp) h
theorem br_not {b : Bool} {A B : Prop} (h : br b B A) : br (!b) A B := by cases b <;> exact h
/-- A new block. -/
theorem newO_mk {w : World} {o : Obj} {K : Nat → World → Prop} (h : K w.heap.size (w.alloc o)) : newO w o K := by rintro g w1 rfl rfl; exact h
theorem newO_in {w : World} {o : Obj} {K : Nat → World → Prop} (h : ∀ w1, w1.heap[w.heap.size]? = some o → Below w.heap.size w w1 → w1.heap.size = w.heap.size + 1 → K w.heap.size w1) : newO w o K := by
  rintro g w1 rfl rfl; exact h _ (al_new rfl) (Below_one o) (by simp)
theorem drewO_in {w : World} {K : World → Prop} (h : ∀ w1, Below w.heap.size w w1 → w1.heap = w.heap → K w1) : drewO w K := fun w1 h1 h2 => h w1 h2 h1
theorem cellsAt_row {w : World} {g : Nat} {cs : Array Value} {t : TypeId} {fr : Nat × Nat} (h : w.heap[g]? = some (.cells cs t fr)) {off : Nat} {vs : List Value} (hv : (cs.toList.drop off).take vs.length = vs) : cellsAt w g off vs :=
  cellsAt_of fun j v hj => by
    rw [cell_of_row _ _ _ _ _ _ h]
    rw [← hv, List.getElem?_take] at hj
    split at hj
    · rw [List.getElem?_drop] at hj; simpa using hj
    · cases hj
theorem row_of_block {w : World} {g : Nat} {bs : List UInt8} {t : TypeId} {fr : Nat × Nat} (h : w.heap[g]? = some (.cells (bs.map bV).toArray t fr)) : RowAt w (some ⟨g, 0, none⟩) (bs.map bV) := RowAt.ofWhole h
/-- A block's cells, as what is appended. -/
theorem src_block {P : Program} {W : World} {tx e' : TypeId} (hk : P.underlying tx = some (.slice e')) {g n c size : Nat} {cs : List Value} {t : TypeId} {fr : Nat × Nat} (h : W.heap[g]? = some (.cells cs.toArray t fr)) (hl : cs.length = n * size) (h1 : allOne cs = true) :
    Src P size tx (.slice (some ⟨g, 0, none⟩) n c) n cs W :=
  Src.ofSlice _ hk _ n c _ hl (fun j u hj => by
    rw [Addr.add_lit, Nat.zero_add, cell_of_row _ _ _ _ _ _ h]
    simpa using hj) (allOne_spec h1)
theorem own_cell {w : World} {b : Nat} {e : TypeId} {a : Option Addr} {n c : Nat} {xs : List Value} (h : Own w b e 1 (.slice a n c) n xs) {i : Nat} {v : Value} (hi : xs[i]? = some v) : ∃ g off, a = some ⟨g, off, none⟩ ∧ w.cell? ⟨g, off + i * 1, none⟩ = some v := by
  have hlt : i < xs.length := (List.getElem?_eq_some_iff.1 hi).1
  have hl := h.1
  rcases h.2 with ⟨h0, h1⟩ | ⟨g, off, cap, cur, hv, _⟩
  · omega
  · injection hv with h1 h2 h3
    subst h1
    exact ⟨g, off, rfl, by rw [Nat.mul_one]; exact h.cells g off _ rfl i v hi⟩
theorem Bk.there {w : World} {g : Nat} {cs : Array Value} {t : TypeId} (h : Bk w g cs t) {i n : Nat} (hi : i + n ≤ cs.size) : w.there g i n := fun j hj => by
  refine ⟨?_, h.frozen _⟩
  rw [h.cell]
  rw [Array.getElem?_eq_getElem (by omega)]
  rfl
theorem stO_bk {gs : List Nat} {w : World} {g i : Nat} {cs : Array Value} {t : TypeId} {v : Value} {K : World → Prop} (h : Bk w g cs t) (hi : i < cs.size) (hg : ∀ x ∈ gs, x ≠ g) (hk : ∀ w1, Bk w1 g (cs.setIfInBounds i v) t → Fr [g] w w1 → w1.heap.size = w.heap.size → K w1) : stO gs w g i [v] K :=
  ⟨hg, h.there (by simp; omega), fun w1 e => by
    subst e
    exact hk _ (h.setCell i v) ((Fr.refl [g] w).setCell (p := ⟨g, i, none⟩) (.inl (by simp)) v) (by simp [World.setCells, World.setCell])⟩
theorem stO_set {gs : List Nat} {w : World} {g i : Nat} {cs : Array Value} {t : TypeId} {v : Value} {K : World → Prop} (h : Bk w g cs t) (hi : i < cs.size) (hg : ∀ x ∈ gs, x ≠ g) (hk : K (w.setCell ⟨g, i, none⟩ v)) : stO gs w g i [v] K :=
  ⟨hg, h.there (by simp; omega), fun w1 e => by subst e; exact hk⟩
theorem sliceBase_cell {w : World} {b off c l s j : Nat} {v : Value} (hlt : l ≠ c) (h : w.cell? ⟨b, off + l * s + j, none⟩ = some v) : ∃ b' off', sliceBase (some ⟨b, off, none⟩) c l s = some ⟨b', off', none⟩ ∧ w.cell? ⟨b', off' + j, none⟩ = some v := by
  refine ⟨b, off + l * s, ?_, h⟩
  unfold sliceBase
  rw [if_neg (fun e => hlt e.symm)]
  simp [Addr.add_lit]
theorem own_empty {w : World} {g : Nat} {e : TypeId} (s : Nat) (h : w.heap[g]? = some (.cells #[] e (0, 0))) : Own w 0 e s (.slice (some ⟨g, 0, none⟩) 0 0) 0 [] :=
  ⟨by simp, .inr ⟨g, 0, 0, #[], rfl, Nat.zero_le _, h, Nat.le_refl _, Nat.zero_le _, by simp, by simp⟩⟩
theorem Own.store {w : World} {b : Nat} {e : TypeId} {a : Option Addr} {n c : Nat} {xs : List Value} (h : Own w b e 1 (.slice a n c) n xs) {i : Nat} (hi : i < n) {gs : List Nat} {v : Value} {K : World → Prop} (hgs : ∀ k, (Value.slice a n c).ownBlock = some k → ∀ x ∈ gs, x ≠ k)
    (hk : ∀ w1, Own w1 b e 1 (.slice a n c) n (xs.set i v) → Fr (Value.slice a n c).ownBlock.toList w w1 → w1.heap.size = w.heap.size → K w1) : ∃ g off, a = some ⟨g, off, none⟩ ∧ stO gs w g (off + i * 1) [v] K := by
  rcases h.2 with ⟨h0, h1⟩ | ⟨g, off, cap, cur, hv, hb, hg, hn, hm, hs, ht⟩
  · omega
  · injection hv with h1 h2 h3
    subst h1; subst h3
    have hB : Bk w g cur e := hg
    refine ⟨g, off, rfl, ?_⟩
    rw [Nat.mul_one]
    refine stO_bk hB (by omega) (fun x hx => hgs g rfl x hx) fun w1 hb1 hf hsz => ?_
    refine hk w1 ⟨by rw [List.length_set]; exact h.1, .inr ⟨g, off, c, _, rfl, hb, hb1, hn, hm, by simpa using hs, ?_⟩⟩ hf hsz
    rw [← ht, Array.toList_setIfInBounds, List.drop_set]
    rw [if_neg (by omega), show off + i - off = i by omega, List.take_set]
theorem Own.storeAt {w : World} {b : Nat} {e : TypeId} {g off n c : Nat} {xs : List Value} (h : Own w b e 1 (.slice (some ⟨g, off, none⟩) n c) n xs) {i : Nat} (hi : i < n) {gs : List Nat} {v : Value} {K : World → Prop} (hgs : ∀ x ∈ gs, x ≠ g)
    (hk : ∀ w1, Own w1 b e 1 (.slice (some ⟨g, off, none⟩) n c) n (xs.set i v) → Fr [g] w w1 → w1.heap.size = w.heap.size → K w1) : stO gs w g (off + i * 1) [v] K := by
  obtain ⟨g', off', he, hst⟩ := Own.store (K := K) (v := v) h hi (fun k hk x hx => by injection hk with hk; subst hk; exact hgs x hx) hk
  injection he with he
  injection he with e1 e2
  subst e1; subst e2
  exact hst
/-- One byte more or other. -/
theorem bits_byte (op : BinOp) (x y : Int) : ∃ b : UInt8, bitsV op .u8 x y = (b.toNat : Int) := by
  have key : ∀ z : Int, ∃ b : UInt8, IntKind.u8.wrap z = (b.toNat : Int) := fun z => by
    have h : 0 ≤ IntKind.u8.wrap z ∧ IntKind.u8.wrap z < 256 := by rw [IntKind.wrap_u8]; omega
    refine ⟨UInt8.ofNat (IntKind.u8.wrap z).toNat, ?_⟩
    rw [show (UInt8.ofNat (IntKind.u8.wrap z).toNat).toNat = (IntKind.u8.wrap z).toNat % 256 from rfl, Nat.mod_eq_of_lt (by omega)]
    omega
  unfold bitsV
  cases op <;> exact key _
theorem strOf_cat (xs ys : List UInt8) : strOf xs ++ strOf ys = strOf (xs ++ ys) := by
  apply ByteArray.ext
  simp [strOf, ByteArray.data_append]
theorem strOf_extract (xs : List UInt8) (i j : Nat) : (strOf xs).extract i j = strOf ((xs.drop i).take (j - i)) := by
  apply ByteArray.ext
  simp [strOf, ByteArray.data_extract, List.take_drop]
theorem byteAt_strOf (xs : List UInt8) (i : Nat) : byteAt (strOf xs) (i : Int) = ((xs.getD i 0).toNat : Int) := by unfold byteAt; rw [strOf_list]; rfl
end Go.Proofs.Ytamlgnhnmilbdaa
end
section
/- The document's reader: what it takes. -/
namespace Go.Proofs.Ytamlgnhnmilbdaa
open Go.RowKit
def RfAt (w : World) (g : Nat) (bs : List UInt8) (e : Int) : Prop := Bk w g #[.string (strOf bs), .int .i64 e] 151
theorem RfAt.c0 {w : World} {g : Nat} {bs : List UInt8} {e : Int} (h : RfAt w g bs e) : w.cell? ⟨g, 0, none⟩ = some (.string (strOf bs)) := by rw [Bk.cell h]; rfl
theorem RfAt.c1 {w : World} {g : Nat} {bs : List UInt8} {e : Int} (h : RfAt w g bs e) : w.cell? ⟨g, 0 + 1, none⟩ = some (.int .i64 e) := by rw [Bk.cell h]; rfl
/-- The reader's block alone is written. -/
def F1 (w : World) (g : Nat) (v : Value) (bs : List UInt8) (e : Int) (r : Ending) (w' : World) : Prop :=
  r = .returned v ∧ RfAt w' g bs e ∧ Fr [g] w w' ∧ w'.heap.size = w.heap.size
theorem rf_err {w : World} {g : Nat} {bs : List UInt8} {e : Int} (h : RfAt w g bs e) (k : Int) {K : World → Prop} (hk : ∀ w1, RfAt w1 g bs k → Fr [g] w w1 → w1.heap.size = w.heap.size → K w1) : stO [] w g (0 + 1) [.int .i64 k] K :=
  stO_bk h (by simp) (by simp) fun w1 h1 h2 h3 => hk w1 h1 h2 h3
theorem rf_bytes {w : World} {g : Nat} {bs : List UInt8} {e : Int} (h : RfAt w g bs e) (cs : List UInt8) {K : World → Prop} (hk : ∀ w1, RfAt w1 g cs e → Fr [g] w w1 → w1.heap.size = w.heap.size → K w1) : stO [] w g 0 [.string (strOf cs)] K :=
  stO_bk h (by simp) (by simp) fun w1 h1 h2 h3 => hk w1 h1 h2 h3
theorem grp_shift {i : Nat} (hi : i ≤ 9) : (2 : Int) ^ (min (IntKind.i64.wrap (7 * (i : Int))).toNat (IntKind.bits .u64)) = ((128 ^ i : Nat) : Int) := by
  have H : ∀ i : Fin 10, (2 : Int) ^ (min (IntKind.i64.wrap (7 * (i.val : Int))).toNat (IntKind.bits .u64)) = ((128 ^ i.val : Nat) : Int) := by decide +kernel
  exact H ⟨i, by omega⟩
theorem tk_zero {most : Nat} : ∀ (bs : List UInt8) (i u a n : Nat) (e : Int), tk most i u bs = (a, n, e) → e ≠ 0 → a = 0 ∧ n = 0
  | [], i, u, a, n, e, h, _ => by cases h; exact ⟨rfl, rfl⟩
  | x :: r, i, u, a, n, e, h, he => by
    by_cases hb : i = most ∨ (x.toNat = 0 ∧ 0 < i) ∨ (i = 9 ∧ 1 < x.toNat)
    · rw [tk_bad hb] at h; cases h; exact ⟨rfl, rfl⟩
    · by_cases h2 : 128 ≤ x.toNat
      · rw [tk_more hb h2] at h; exact tk_zero r _ _ _ _ _ h he
      · rw [tk_last hb h2] at h; cases h; exact absurd rfl he
set_option maxRecDepth 100000 in
theorem fgrp_any (g most : Nat) (hm0 : 0 < most) (hm : most ≤ 10) (bs : List UInt8) (w : World) (h : RfAt w g bs 0) (hl : bs.length ≤ 100000000) (u0 n0 : Nat) (e0 : Int) (hr : tk most 0 0 bs = (u0, n0, e0)) :
    Calls Try.prog 117 #[.pointer (some ⟨g, 0, none⟩), .int .i64 most] w (F1 w g (.tuple #[.int .u64 u0, .int .i64 n0]) bs e0) := by
  refine (GRefRd.grp_calls (some ⟨g, 0, none⟩) most w (fun v w' => v = .tuple #[.int .u64 u0, .int .i64 n0] ∧ RfAt w' g bs e0 ∧ Fr [g] w w' ∧ w'.heap.size = w.heap.size) ?_).mono (by rintro e w' ⟨v, rfl, rfl, hb⟩; exact ⟨rfl, hb⟩)
  unfold GRefRd.grp_vc
  refine ⟨fun x y wx => ∃ u i : Nat, x = u ∧ y = i ∧ u < 128 ^ i ∧ i ≤ 9 ∧ i ≤ most ∧ i ≤ bs.length ∧ tk most i u (bs.drop i) = (u0, n0, e0) ∧ w = wx, fun _ y _ => bs.length - y.toNat, ⟨0, 0, rfl, rfl, by decide, by omega, by omega, by omega, hr, rfl⟩, ?_⟩
  rintro x y wx ⟨u, i, rfl, rfl, hu, hi, him, hib, ht, rfl⟩
  have hsz := strOf_size bs
  have fail : ∀ k : Int, (u0, n0, e0) = (0, 0, k) → stO [] w g (0 + 1) [.int .i64 k] fun w3 => Value.tuple #[.int .u64 0, .int .i64 0] = .tuple #[.int .u64 u0, .int .i64 n0] ∧ RfAt w3 g bs e0 ∧ Fr [g] w w3 ∧ w3.heap.size = w.heap.size := by
    intro k hk; cases hk
    exact rf_err h _ fun w1 h1 h2 h3 => ⟨rfl, h1, h2, h3⟩
  refine ⟨_, h.c0, br_dec (fun h1 => fail 3 (by rw [← ht, List.drop_eq_nil_of_le (by omega)]; rfl)) fun h1 => ?_⟩
  have hlt : i < bs.length := by omega
  refine ⟨_, h.c0, by omega, by omega, ?_⟩
  rw [List.drop_eq_getElem_cons hlt] at ht
  have hx : byteAt (strOf bs) (i : Int) = (bs[i].toNat : Int) := by rw [byteAt_strOf]; simp [hlt]
  rw [hx]
  generalize bs[i] = x at *
  refine ⟨fun b wx => b = decide (i = most ∨ (x.toNat = 0 ∧ 0 < i) ∨ (i = 9 ∧ 1 < x.toNat)) ∧ w = wx, ?_, ?_⟩
  · refine br_dec (fun h1 => ⟨(decide_eq_true (by omega)).symm, rfl⟩) fun h1 => br_dec (fun h2 => br_dec (fun h3 => ⟨(decide_eq_true (by omega)).symm, rfl⟩) fun h3 => br_dec (fun h4 => ⟨?_, rfl⟩) fun h4 => ⟨(decide_eq_false (by omega)).symm, rfl⟩) fun h2 => br_dec (fun h4 => ⟨?_, rfl⟩) fun h4 => ⟨(decide_eq_false (by omega)).symm, rfl⟩
    · exact decide_eq_decide.2 (by omega)
    · exact decide_eq_decide.2 (by omega)
  rintro b wx ⟨rfl, rfl⟩
  refine br_dec (fun hb => fail 2 (by rw [← ht, tk_bad hb])) fun hb => ⟨by omega, by rw [wr64 (by omega) (by omega)]; omega, ?_⟩
  rw [grp_shift hi]
  have hx8 : x.toNat < 256 := x.toNat_lt
  have hy : IntKind.u64.wrap (Int.tmod (x.toNat : Int) 128) = ((x.toNat % 128 : Nat) : Int) := by
    rw [Int.tmod_eq_emod_of_nonneg (by omega), wru64 (by omega) (by omega)]; omega
  rw [hy]
  have key : u + x.toNat % 128 * 128 ^ i < 18446744073709551616 ∧ (i ≤ 8 → u + x.toNat % 128 * 128 ^ i < 128 ^ (i + 1)) := by
    have e1 : 128 ^ (i + 1) = 128 * 128 ^ i := by rw [Nat.pow_succ, Nat.mul_comm]
    have k8 : i ≤ 8 → 128 ^ i ≤ 128 ^ 8 := fun h => Nat.pow_le_pow_right (by decide) h
    have k9 : i = 9 → 128 ^ i = 9223372036854775808 := fun h => by subst h; decide
    generalize 128 ^ i = P at *
    have m1 : x.toNat % 128 * P ≤ 127 * P := Nat.mul_le_mul_right _ (by omega)
    refine ⟨?_, fun h8 => by omega⟩
    by_cases h9 : i = 9
    · have := k9 h9
      have m2 : x.toNat % 128 * P ≤ 1 * P := Nat.mul_le_mul_right _ (by omega)
      omega
    · have := k8 (by omega)
      have : (128 : Nat) ^ 8 = 72057594037927936 := by decide
      omega
  have hs : IntKind.u64.wrap (((x.toNat % 128 : Nat) : Int) * ((128 ^ i : Nat) : Int)) = ((x.toNat % 128 * 128 ^ i : Nat) : Int) := by
    rw [← Int.natCast_mul, wru64 (by omega) (by omega)]
  rw [hs]
  have hS : IntKind.u64.wrap ((u : Int) + ((x.toNat % 128 * 128 ^ i : Nat) : Int)) = ((u + x.toNat % 128 * 128 ^ i : Nat) : Int) := by
    rw [wru64 (by omega) (by omega)]; omega
  rw [hS, wr64 (z := (i : Int) + 1) (by omega) (by omega)]
  refine br_dec (fun h2 => ?_) fun h2 => ?_
  · rw [tk_last hb (by omega)] at ht
    cases ht
    exact ⟨rfl, h, Fr.refl _ _, rfl⟩
  · rw [tk_more hb (by omega)] at ht
    exact ⟨⟨_, i + 1, rfl, by omega, key.2 (by omega), by omega, by omega, by omega, ht, rfl⟩, by dsimp only; omega⟩
theorem F1.of {g : Nat} {w : World} {bs : List UInt8} {e : Int} {v : Value} {r : Ending} {w' : World} (h : F1 w g v bs e r w') : r = .returned v ∧ RfAt w' g bs e ∧ Fr [g] w w' ∧ w'.heap.size = w.heap.size := h
theorem fRuint_any (g : Nat) (most : Int) (hm : most ≤ 9223372036854775807) (hm2 : -9223372036854775808 ≤ most) (bs : List UInt8) (e : Int) (w : World) (h : RfAt w g bs e) (hl : bs.length ≤ 100000000) :
    Calls Try.prog 78 #[.pointer (some ⟨g, 0, none⟩), .int .i64 most] w (F1 w g (.int .i64 (rdUint most bs e).1) (rdUint most bs e).2.1 (rdUint most bs e).2.2) := by
  refine (GRefRd.uint_calls (some ⟨g, 0, none⟩) most w (fun v w' => v = .int .i64 (rdUint most bs e).1 ∧ RfAt w' g (rdUint most bs e).2.1 (rdUint most bs e).2.2 ∧ Fr [g] w w' ∧ w'.heap.size = w.heap.size) ?_).mono (by rintro e w' ⟨v, rfl, rfl, hb⟩; exact ⟨rfl, hb⟩)
  unfold GRefRd.uint_vc rdUint
  refine ⟨_, h.c1, br_dec (fun he => ?_) fun he => ?_⟩
  · rw [if_pos he]; exact ⟨rfl, h, Fr.refl _ _, rfl⟩
  rw [if_neg he]
  have he : e = 0 := by omega
  subst he
  obtain ⟨u, n, e0, ht⟩ : ∃ u n e0, tk 9 0 0 bs = (u, n, e0) := ⟨_, _, _, rfl⟩
  refine (fgrp_any g 9 (by decide) (by decide) bs w h hl u n e0 ht).mono ?_
  rintro r w2 ⟨rfl, h2, f2, z2⟩
  refine ⟨keepG_nil _ _, _, _, rfl, _, h2.c1, ?_⟩
  rw [ht]
  refine br_dec (fun h0 => ?_) fun h0 => ?_
  · rw [if_pos h0]; exact ⟨rfl, h2, f2, z2⟩
  rw [if_neg h0]
  have h0 : e0 = 0 := by omega
  subst h0
  have hu := tk9_lt ht
  have hn := tk_enc0 ht
  refine br_dec (fun hneg => ?_) fun hneg => ?_
  · rw [if_pos (.inl hneg)]
    exact rf_err h2 _ fun w3 h3 f3 z3 => ⟨rfl, h3, f2.trans f3 (Gr.refl _ _), by omega⟩
  rw [wru64 (by omega) (by omega)]
  refine br_dec (fun hbig => ?_) fun hbig => ?_
  · rw [if_pos (.inr hbig)]
    exact rf_err h2 _ fun w3 h3 f3 z3 => ⟨rfl, h3, f2.trans f3 (Gr.refl _ _), by omega⟩
  rw [if_neg (by omega)]
  refine ⟨_, h2.c0, by omega, by rw [strOf_size]; omega, ?_⟩
  rw [strOf_extract, strOf_size, List.take_of_length_le (by rw [List.length_drop]; omega), wr64 (by omega) (by omega), Int.toNat_natCast]
  exact rf_bytes h2 _ fun w3 h3 f3 z3 => ⟨rfl, h3, f2.trans f3 (Gr.refl _ _), by omega⟩
theorem fRint_any (g : Nat) (bs : List UInt8) (e : Int) (w : World) (h : RfAt w g bs e) (hl : bs.length ≤ 100000000) :
    Calls Try.prog 118 #[.pointer (some ⟨g, 0, none⟩)] w (F1 w g (.int .i64 (rdInt bs e).1) (rdInt bs e).2.1 (rdInt bs e).2.2) := by
  refine (GRefRd.int_calls (some ⟨g, 0, none⟩) w (fun v w' => v = .int .i64 (rdInt bs e).1 ∧ RfAt w' g (rdInt bs e).2.1 (rdInt bs e).2.2 ∧ Fr [g] w w' ∧ w'.heap.size = w.heap.size) ?_).mono (by rintro e w' ⟨v, rfl, rfl, hb⟩; exact ⟨rfl, hb⟩)
  unfold GRefRd.int_vc rdInt
  refine ⟨_, h.c1, br_dec (fun he => ?_) fun he => ?_⟩
  · rw [if_pos he]; exact ⟨rfl, h, Fr.refl _ _, rfl⟩
  rw [if_neg he]
  have he : e = 0 := by omega
  subst he
  obtain ⟨u, n, e0, ht⟩ : ∃ u n e0, tk 10 0 0 bs = (u, n, e0) := ⟨_, _, _, rfl⟩
  refine (fgrp_any g 10 (by decide) (by decide) bs w h hl u n e0 ht).mono ?_
  rintro r w2 ⟨rfl, h2, f2, z2⟩
  refine ⟨keepG_nil _ _, _, _, rfl, _, h2.c1, ?_⟩
  rw [ht]
  refine br_dec (fun h0 => ?_) fun h0 => ?_
  · rw [if_pos h0]; exact ⟨rfl, h2, f2, z2⟩
  rw [if_neg h0]
  have h0 : e0 = 0 := by omega
  subst h0
  have hu := tk_lt 10 bs 0 0 u n (by omega) (by decide) ht
  have hn := tk_enc0 ht
  refine ⟨_, h2.c0, by omega, by rw [strOf_size]; omega, ?_⟩
  rw [strOf_extract, strOf_size, List.take_of_length_le (by rw [List.length_drop]; omega), Int.toNat_natCast]
  refine rf_bytes h2 _ fun w3 h3 f3 z3 => ⟨by omega, ?_⟩
  have f23 : Fr [g] w w3 := f2.trans f3 (Gr.refl _ _)
  rw [Int.tmod_eq_emod_of_nonneg (by omega), Int.tdiv_eq_ediv_of_nonneg (by omega)]
  unfold zag
  refine br_dec (fun ho => ⟨by omega, ?_, h3, f23, by omega⟩) fun ho => ⟨by omega, ?_, h3, f23, by omega⟩
  · rw [if_pos (by omega)]
    congr 1
    simp only [IntKind.wrap_u64, IntKind.wrap_i64]
    omega
  · rw [if_neg (by omega)]
    congr 1
    simp only [IntKind.wrap_u64, IntKind.wrap_i64]
    omega
theorem fRflag_any (g : Nat) (bs : List UInt8) (e : Int) (w : World) (h : RfAt w g bs e) :
    Calls Try.prog 88 #[.pointer (some ⟨g, 0, none⟩)] w (F1 w g (.bool (rdFlag bs e).1) (rdFlag bs e).2.1 (rdFlag bs e).2.2) := by
  refine (GRefRd.flag_calls (some ⟨g, 0, none⟩) w (fun v w' => v = .bool (rdFlag bs e).1 ∧ RfAt w' g (rdFlag bs e).2.1 (rdFlag bs e).2.2 ∧ Fr [g] w w' ∧ w'.heap.size = w.heap.size) ?_).mono (by rintro e w' ⟨v, rfl, rfl, hb⟩; exact ⟨rfl, hb⟩)
  unfold GRefRd.flag_vc rdFlag
  refine ⟨_, h.c1, br_dec (fun he => ?_) fun he => ?_⟩
  · rw [if_pos he]; exact ⟨rfl, h, Fr.refl _ _, rfl⟩
  rw [if_neg he]
  have he : e = 0 := by omega
  subst he
  refine ⟨_, h.c0, ?_⟩
  cases bs with
  | nil => exact br_y rfl (rf_err h _ fun w3 h3 f3 z3 => ⟨rfl, h3, f3, z3⟩)
  | cons x r =>
    have hsz : (strOf (x :: r)).size = r.length + 1 := rfl
    have hb : byteAt (strOf (x :: r)) 0 = (x.toNat : Int) := byteAt_strOf (x :: r) 0
    refine br_n (by omega) ⟨_, h.c0, by omega, by omega, ?_⟩
    rw [hb]
    dsimp only
    refine br_dec (fun h1 => ?_) fun h1 => ?_
    · rw [if_pos (by omega)]
      exact rf_err h _ fun w3 h3 f3 z3 => ⟨rfl, h3, f3, z3⟩
    rw [if_neg (by omega)]
    refine ⟨_, h.c0, by omega, by omega, _, h.c0, by omega, by omega, ?_⟩
    rw [hb]
    rw [strOf_extract, hsz, List.take_of_length_le (by simp)]
    refine rf_bytes h _ fun w3 h3 f3 z3 => ⟨?_, h3, f3, z3⟩
    congr 1
    exact decide_eq_decide.2 (by omega)
theorem fRtext_any (g : Nat) (most : Int) (hm : most ≤ 9223372036854775807) (hm2 : -9223372036854775808 ≤ most) (bs : List UInt8) (e : Int) (w : World) (h : RfAt w g bs e) (hl : bs.length ≤ 100000000) :
    Calls Try.prog 82 #[.pointer (some ⟨g, 0, none⟩), .int .i64 most] w (F1 w g (.string (strOf (rdText most bs e).1)) (rdText most bs e).2.1 (rdText most bs e).2.2) := by
  refine (GRefRd.text_calls (some ⟨g, 0, none⟩) most w (fun v w' => v = .string (strOf (rdText most bs e).1) ∧ RfAt w' g (rdText most bs e).2.1 (rdText most bs e).2.2 ∧ Fr [g] w w' ∧ w'.heap.size = w.heap.size) ?_).mono (by rintro e w' ⟨v, rfl, rfl, hb⟩; exact ⟨rfl, hb⟩)
  unfold GRefRd.text_vc
  refine ⟨_, h.c0, (fRuint_any g most hm hm2 bs e w h hl).mono ?_⟩
  rintro r w2 ⟨rfl, h2, f2, z2⟩
  refine ⟨keepG_nil _ _, _, rfl, _, h2.c1, ?_⟩
  have hr := rdUint_range most bs e
  have hlen := rdLenU most bs e
  unfold rdText
  by_cases he : e = 0
  · subst he
    rw [if_neg (by omega)]
    dsimp only
    generalize rdUint most bs 0 = q at *
    obtain ⟨z, cs, e1⟩ := q
    dsimp only at *
    refine br_dec (fun h1 => ?_) fun h1 => ?_
    · rw [if_pos h1]; exact ⟨rfl, h2, f2, z2⟩
    rw [if_neg h1]
    have h1 : e1 = 0 := by omega
    subst h1
    have hsz := strOf_size cs
    refine ⟨_, h2.c0, br_dec (fun h3 => ?_) fun h3 => ?_⟩
    · rw [if_pos (by omega)]
      refine rf_bytes h2 bs fun w3 h3 f3 z3 => rf_err h3 _ fun w4 h4 f4 z4 => ⟨rfl, h4, (f2.trans f3 (Gr.refl _ _)).trans f4 (Gr.refl _ _), by omega⟩
    rw [if_neg (by omega)]
    refine ⟨_, h2.c0, by omega, by omega, _, h2.c0, by omega, by omega, ?_⟩
    rw [strOf_extract, strOf_extract, hsz, List.take_of_length_le (by rw [List.length_drop]; omega)]
    exact rf_bytes h2 _ fun w3 h3 f3 z3 => ⟨rfl, h3, f2.trans f3 (Gr.refl _ _), by omega⟩
  · rw [if_pos he]
    have hq : rdUint most bs e = (0, bs, e) := by unfold rdUint; rw [if_pos he]
    rw [hq] at h2 ⊢
    exact br_y he ⟨rfl, h2, f2, z2⟩
theorem strOf_nil (bs : List UInt8) : (strOf bs ≠ (⟨#[]⟩ : ByteArray)) ↔ bs ≠ [] := by
  refine not_congr ⟨fun h => ?_, fun h => by subst h; rfl⟩
  have := congrArg ByteArray.size h
  exact List.eq_nil_of_length_eq_zero this
theorem fRend_any (g : Nat) (bs : List UInt8) (e : Int) (w : World) (h : RfAt w g bs e) :
    Calls Try.prog 83 #[.pointer (some ⟨g, 0, none⟩)] w fun r w' => r = .returned (.int .i64 (rdEnd bs e)) ∧ w = w' := by
  refine (GRefRd.end_calls (some ⟨g, 0, none⟩) w (fun v w' => v = .int .i64 (rdEnd bs e) ∧ w = w') ?_).mono (by rintro e w' ⟨v, rfl, rfl, rfl⟩; exact ⟨rfl, rfl⟩)
  unfold GRefRd.end_vc rdEnd
  refine ⟨_, h.c1, br_dec (fun he => ?_) fun he => ?_⟩
  · refine ⟨_, h.c0, br_dec (fun h1 => ?_) fun h1 => ⟨_, h.c1, ?_, rfl⟩⟩
    · rw [if_pos ⟨he, (strOf_nil bs).1 h1⟩]; exact ⟨rfl, rfl⟩
    · rw [if_neg (fun h2 => h1 ((strOf_nil bs).2 h2.2))]
  · exact ⟨_, h.c1, by rw [if_neg (fun h2 => he h2.1)], rfl⟩
end Go.Proofs.Ytamlgnhnmilbdaa
end
section
/- Arguments as the walks want them: bytes, rows of bytes. No program in sight. -/
namespace Go.Proofs.Ytamlgnhnmilbdaa
open Go.RowKit Go.ChangeShapes
variable {H : Type} {enc : TypeId × Value → H} {P : Program} {W : World}
theorem addr_plain {w : World} {a : Addr} {v : Value} (h : w.cell? (a.add 0) = some v) : a = ⟨a.block, a.off, none⟩ := by
  have h0 : a.add 0 = a := by unfold Addr.add; rfl
  rw [h0] at h
  unfold World.cell? at h
  split at h
  · split at h
    · cases h
    · rename_i hs
      obtain ⟨b, o, s⟩ := a
      cases s with
      | none => rfl
      | some x => simp at hs
  · cases h
def ofI (zs : List Int) : List UInt8 := zs.map fun z => UInt8.ofNat z.toNat
theorem bV_ofI {z : Int} (h : (Lit.int .u8 z).wf = true) : bV (UInt8.ofNat z.toNat) = .int .u8 z := by
  have hz : 0 ≤ z ∧ z < 256 := by
    have e1 : IntKind.u8.min = 0 := rfl
    have e2 : IntKind.u8.max = 255 := rfl
    simp [Lit.wf] at h
    omega
  unfold bV
  rw [UInt8.toNat_ofNat', Nat.mod_eq_of_lt (by omega)]
  congr 1
  omega
theorem row_of_cells {a : Addr} {zs : List Int} {len : Nat} (hl : len ≤ zs.length) (hc : ∀ i, i < zs.length → W.cell? (a.add i) = some (.int .u8 (zs.getD i 0))) (hw : ∀ n ∈ zs, (Lit.int .u8 n).wf = true) : (ofI (zs.take len)).length = len ∧ RowAt W (some a) ((ofI (zs.take len)).map bV) := by
  refine ⟨by simp [ofI]; omega, ?_⟩
  cases hz : zs with
  | nil => exact .inl (by simp [ofI])
  | cons z0 r =>
    rw [← hz]
    have h0 := hc 0 (by rw [hz]; simp)
    have ha := addr_plain h0
    refine .inr ⟨a.block, a.off, by rw [← ha], fun i v hv => ?_⟩
    rw [List.getElem?_map, ofI, List.getElem?_map, List.getElem?_take] at hv
    split at hv
    · rcases hq : zs[i]? with _ | z
      · rw [hq] at hv; cases hv
      · rw [hq] at hv
        simp only [Option.map_some, Option.some.injEq] at hv
        have hi : i < zs.length := (List.getElem?_eq_some_iff.1 hq).1
        have h1 := hc i hi
        rw [ha, Addr.add_lit, List.getD_eq_getElem?_getD, hq] at h1
        rw [← hv, bV_ofI (hw z (List.mem_of_getElem? hq))]
        exact h1
    · cases hv
theorem open_bytes {t e : TypeId} {v : Value} {d : DataW H} {p : List MemPlace} (ht : P.underlying t = some (.slice e)) (he : P.underlying e = some (.int .u8)) (hc : P.cellsOf e = 1)
    (hv : ∃ a l c, v = .slice a l c) (h : DataW.Trod enc P W 0 (fun _ => true) true t v d p) : ∃ (bs : List UInt8) (a : Option Addr) (c : Nat), v = .slice a bs.length c ∧ bs.length ≤ c ∧ c ≤ maxLen ∧ RowAt W a (bs.map bV) := by
  obtain ⟨a, l, c, rfl⟩ := hv
  obtain ⟨fuel, hf⟩ := h
  rcases open_ints ht he hc hf with ⟨hcs, _⟩ | ⟨x, l', c', zs, hcs, _, hl, hm, hz, _, hcell, hwz⟩
  · simp [Value.cells] at hcs
    obtain ⟨rfl, rfl, rfl⟩ := hcs
    exact ⟨[], none, 0, rfl, Nat.le_refl _, by decide, .inl rfl⟩
  · simp [Value.cells] at hcs
    obtain ⟨rfl, rfl, rfl⟩ := hcs
    simp only [if_true] at hz
    obtain ⟨h1, h2⟩ := row_of_cells (len := l) (by omega) hcell hwz
    exact ⟨ofI (zs.take l), some x, c, by rw [h1], by rw [h1]; exact hl, hm, h2⟩
theorem open_parts {t e q : TypeId} {v : Value} {d : DataW H} {p : List MemPlace} (ht : P.underlying t = some (.slice e)) (he : P.underlying e = some (.slice q)) (hq : P.underlying q = some (.int .u8)) (ce : P.cellsOf e = 1) (cq : P.cellsOf q = 1)
    (hv : ∃ a l c, v = .slice a l c) (h : DataW.Trod enc P W 0 (fun _ => true) true t v d p) : ∃ (ps : List (List UInt8)) (a : Option Addr) (c : Nat), v = .slice a ps.length c ∧ ps.length ≤ c ∧ c ≤ maxLen ∧ PartsAt W a ps := by
  obtain ⟨a, l, c, rfl⟩ := hv
  obtain ⟨fuel, hf⟩ := h
  rcases Deep.open_int_rows ht he hq ce cq hf with ⟨hcs, _⟩ | ⟨x, l', c', A, L, C, Z, hcs, _, hl, hm, _, hrow⟩
  · simp [Value.cells] at hcs
    obtain ⟨rfl, rfl, rfl⟩ := hcs
    exact ⟨[], none, 0, rfl, Nat.le_refl _, by decide, .nil⟩
  · simp [Value.cells] at hcs
    obtain ⟨rfl, rfl, rfl⟩ := hcs
    have each : ∀ r, r < c → (ofI ((Z r).take (L r))).length = L r ∧ RowAt W (A r) ((ofI ((Z r).take (L r))).map bV) := fun r hr => by
      obtain ⟨_, h2, _, h4, h5, h6, h7⟩ := hrow r hr
      cases hA : A r with
      | none =>
        have hC := h6 hA
        have hL : L r = 0 := by omega
        rw [hL]
        exact ⟨by simp [ofI], .inl (by simp [ofI])⟩
      | some a' => exact row_of_cells (by omega) (fun i hi => (h7 a' hA).2 i (by omega)) h5
    let ps : List (List UInt8) := (List.range l).map fun r => ofI ((Z r).take (L r))
    let vs : List (Option Addr × Nat) := (List.range l).map fun r => (A r, C r)
    have hps : ps.length = l := by simp [ps]
    refine ⟨ps, some x, c, by rw [hps], by rw [hps]; exact hl, hm, vs, ?_, by simp [ps, vs], ?_⟩
    · by_cases h0 : l = 0
      · exact .inl (by rw [List.map_eq_nil_iff]; simp [ps, vs, h0])
      · have ha := addr_plain (hrow 0 (by omega)).1
        refine .inr ⟨x.block, x.off, by rw [← ha], fun i v hv => ?_⟩
        rw [List.getElem?_map] at hv
        rcases hz : (vs.zip ps)[i]? with _ | ⟨v1, p1⟩
        · rw [hz] at hv; cases hv
        · rw [hz] at hv
          simp only [Option.map_some, Option.some.injEq] at hv
          rw [List.getElem?_zip_eq_some] at hz
          obtain ⟨z1, z2⟩ := hz
          have hi : i < l := by
            have := (List.getElem?_eq_some_iff.1 z2).1
            omega
          simp only [vs, ps, List.getElem?_map, List.getElem?_range hi, Option.map_some, Option.some.injEq] at z1 z2
          rw [← hv, ← z1, ← z2, (each i (by omega)).1]
          have h1 := (hrow i (by omega)).1
          rw [ha, Addr.add_lit] at h1
          exact h1
    · intro v1 p1 hm1
      obtain ⟨i, hi⟩ := List.getElem?_of_mem hm1
      rw [List.getElem?_zip_eq_some] at hi
      obtain ⟨z1, z2⟩ := hi
      have hi : i < l := by
        have := (List.getElem?_eq_some_iff.1 z2).1
        omega
      simp only [vs, ps, List.getElem?_map, List.getElem?_range hi, Option.map_some, Option.some.injEq] at z1 z2
      obtain ⟨_, h2, h3, _⟩ := hrow i (by omega)
      rw [← z1, ← z2, (each i (by omega)).1]
      exact ⟨(each i (by omega)).2, h2, Nat.le_trans h2 h3⟩
theorem int_nat {z : Int} (h : 0 ≤ z) : ∃ n : Nat, z = (n : Int) := ⟨z.toNat, by omega⟩
theorem u32_nat {z : Int} (h : (Lit.int .u32 z).wf = true) : ∃ n : Nat, z = (n : Int) ∧ n < 4294967296 := by
  have hz : 0 ≤ z ∧ z < 4294967296 := by
    have e1 : IntKind.u32.min = 0 := rfl
    have e2 : IntKind.u32.max = 4294967295 := rfl
    simp [Lit.wf] at h
    omega
  exact ⟨z.toNat, by omega, by omega⟩
theorem i64_range {z : Int} (h : (Lit.int .i64 z).wf = true) : -9223372036854775808 ≤ z ∧ z ≤ 9223372036854775807 := by
  have e1 : IntKind.i64.min = -9223372036854775808 := rfl
  have e2 : IntKind.i64.max = 9223372036854775807 := rfl
  simp [Lit.wf] at h
  omega
end Go.Proofs.Ytamlgnhnmilbdaa
end
section
/- Data that came in, opened by their shape. No program in sight. -/
namespace Go.Proofs.Ytamlgnhnmilbdaa
open Go.RowKit Go.WideShapes Go.ChangeShapes
/-- What a type looks like; a struct's fields one behind the other: offset, cells, shape. -/
inductive Sh where
  | int (k : IntKind)
  | bool
  | str
  | slice (e : Sh) (n : Nat)
  | arr (len : Nat) (e : Sh) (n : Nat)
  | agg (fs : Sh)
  | fnil
  | fcons (off n : Nat) (f r : Sh)
mutual
def fitsB (P : Program) : Sh → TypeId → Bool
  | .int k, t => match P.underlying t with | some (.int k') => k == k' | _ => false
  | .bool, t => match P.underlying t with | some .bool => true | _ => false
  | .str, t => match P.underlying t with | some .string => true | _ => false
  | .slice e n, t => match P.underlying t with | some (.slice et) => P.cellsOf et == n && fitsB P e et | _ => false
  | .arr len e n, t => match P.underlying t with | some (.array l et) => l == len && P.cellsOf et == n && fitsB P e et | _ => false
  | .agg fs, t => match P.underlying t with | some (.struct fl) => fitsF P fs fl 0 | _ => false
  | .fnil, _ => false
  | .fcons _ _ _ _, _ => false
def fitsF (P : Program) : Sh → Array Field → Nat → Bool
  | .fnil, _, _ => true
  | .fcons off n f r, fl, i => (match fl[i]? with | some fd => fd.offset == off && P.cellsOf fd.type == n && fitsB P f fd.type | none => false) && fitsF P r fl (i + 1)
  | _, _, _ => false
end
/-- What the cells of a shape hold, in a world. -/
def Sh.Has (w : World) : Sh → List Value → Prop
  | .int k, cs => ∃ z, cs = [.int k z] ∧ (Lit.int k z).wf = true
  | .bool, cs => ∃ b, cs = [.bool b]
  | .str, cs => ∃ s : ByteArray, cs = [.string s] ∧ s.size ≤ maxLen
  | .slice e n, cs => cs = [.slice none 0 0] ∨ ∃ a len cap, cs = [.slice (some a) len cap] ∧ len ≤ cap ∧ cap ≤ maxLen ∧ ∀ i, i < len → ∃ cs', (cs'.length = n ∧ ∀ j, j < n → w.cell? (a.add (i * n + j)) = cs'[j]?) ∧ e.Has w cs'
  | .arr len e n, cs => ∀ i, i < len → e.Has w ((cs.drop (i * n)).take n)
  | .agg fs, cs => fs.Has w cs
  | .fnil, _ => True
  | .fcons off n f r, cs => f.Has w ((cs.drop off).take n) ∧ r.Has w cs
section
variable {H : Type} {enc : TypeId × Value → H} {P : Program} {W : World}
mutual
theorem has_of (sh : Sh) : ∀ (t : TypeId) (fuel : Nat) (cs : List Value) (x : DataW H × List MemPlace), fitsB P sh t = true → DataW.trod enc P W 0 (fun _ => true) true fuel t cs = some x → sh.Has W cs := by
  intro t fuel cs x hf h
  cases sh with
  | int k =>
    simp only [fitsB] at hf
    split at hf
    · rename_i k' hu
      have : k = k' := eq_of_beq hf
      subst this
      obtain ⟨n, h1, _, h2⟩ := DataW.trod_int hu h
      exact ⟨n, h1, h2⟩
    · cases hf
  | bool =>
    simp only [fitsB] at hf
    split at hf
    · rename_i hu
      obtain ⟨b, h1, _⟩ := DataW.trod_bool hu h
      exact ⟨b, h1⟩
    · cases hf
  | str =>
    simp only [fitsB] at hf
    split at hf
    · rename_i hu
      obtain ⟨s, h1, _, h2⟩ := DataW.trod_string hu h
      exact ⟨s, h1, h2⟩
    · cases hf
  | slice e n =>
    simp only [fitsB] at hf
    split at hf
    · rename_i et hu
      rw [Bool.and_eq_true] at hf
      have hn : P.cellsOf et = n := eq_of_beq hf.1
      rcases Deep.open_slice hu h with ⟨h1, _⟩ | ⟨a, len, cap, m, nf, D, Pl, h1, _, hl, hm, hmm, _, hall⟩
      · exact .inl h1
      · refine .inr ⟨a, len, cap, h1, hl, hm, fun i hi => ?_⟩
        simp only [if_true] at hmm
        obtain ⟨cs', hc, ht⟩ := hall i (by omega)
        rw [hn] at hc
        obtain ⟨_, c1, c2⟩ := World.cells?_some hc
        refine ⟨cs', ⟨c1, fun j hj => ?_⟩, has_of e et _ _ _ hf.2 ht⟩
        rw [← c2 j hj, Addr.add_add]
    · cases hf
  | arr len e n =>
    simp only [fitsB] at hf
    split at hf
    · rename_i l et hu
      rw [Bool.and_eq_true, Bool.and_eq_true] at hf
      have hl : l = len := eq_of_beq hf.1.1
      have hn : P.cellsOf et = n := eq_of_beq hf.1.2
      subst hl
      obtain ⟨xs, m, _, _, _, hxl, hall⟩ := DataW.trod_array hu h
      intro i hi
      have := hall i hi
      rw [hn] at this
      rw [List.getElem?_eq_getElem (by omega)] at this
      exact has_of e et _ _ _ hf.2 this
    · cases hf
  | agg fs =>
    simp only [fitsB] at hf
    split at hf
    · rename_i fl hu
      obtain ⟨xs, n, _, _, _, hxl, hall⟩ := DataW.trod_struct hu h
      exact hasF_of fs fl 0 n cs xs hf hxl hall
    · cases hf
  | fnil => simp [fitsB] at hf
  | fcons off n f r => simp [fitsB] at hf
theorem hasF_of (sh : Sh) : ∀ (fl : Array Field) (i n : Nat) (cs : List Value) (xs : List (DataW H × List MemPlace)), fitsF P sh fl i = true → xs.length = fl.size →
    (∀ (i : Nat) (f : Field), fl[i]? = some f → DataW.trod enc P W 0 (fun _ => true) true n f.type ((cs.drop f.offset).take (P.cellsOf f.type)) = xs[i]?) → sh.Has W cs := by
  intro fl i n cs xs hf hl hall
  cases sh with
  | fnil => trivial
  | fcons off m f r =>
    simp only [fitsF, Bool.and_eq_true] at hf
    obtain ⟨h1, h2⟩ := hf
    refine ⟨?_, hasF_of r fl (i + 1) n cs xs h2 hl hall⟩
    split at h1
    · rename_i fd hfd
      rw [Bool.and_eq_true, Bool.and_eq_true] at h1
      have ho : fd.offset = off := eq_of_beq h1.1.1
      have hm : P.cellsOf fd.type = m := eq_of_beq h1.1.2
      have ht := hall i fd hfd
      have hi : i < xs.length := by rw [hl]; exact (Array.getElem?_eq_some_iff.1 hfd).1
      rw [List.getElem?_eq_getElem hi, ho, hm] at ht
      exact has_of f fd.type _ _ _ h1.2 ht
    · cases h1
  | int k => simp [fitsF] at hf
  | bool => simp [fitsF] at hf
  | str => simp [fitsF] at hf
  | slice e n => simp [fitsF] at hf
  | arr l e n => simp [fitsF] at hf
  | agg fs => simp [fitsF] at hf
end
theorem open_sh {sh : Sh} {t : TypeId} {v : Value} {d : DataW H} {p : List MemPlace} (hf : fitsB P sh t = true) (h : DataW.Trod enc P W 0 (fun _ => true) true t v d p) : sh.Has W v.cells.toList := by
  obtain ⟨fuel, hf'⟩ := h
  exact has_of sh t fuel _ _ hf hf'
end
theorem exists_list {α : Type} {p : Nat → α → Prop} : ∀ (n : Nat), (∀ i, i < n → ∃ x, p i x) → ∃ l : List α, l.length = n ∧ ∀ i x, l[i]? = some x → p i x := by
  intro n
  induction n with
  | zero => intro _; exact ⟨[], rfl, fun i x h => by cases h⟩
  | succ n ih =>
    intro h
    obtain ⟨l, hl, hp⟩ := ih fun i hi => h i (by omega)
    obtain ⟨x, hx⟩ := h n (by omega)
    refine ⟨l ++ [x], by simp [hl], fun i y hy => ?_⟩
    by_cases hi : i < l.length
    · rw [List.getElem?_append_left hi] at hy; exact hp i y hy
    · rw [List.getElem?_append_right (by omega)] at hy
      have h0 : i - l.length = 0 := by
        have := (List.getElem?_eq_some_iff.1 hy).1; simp at this; omega
      rw [h0] at hy
      simp at hy
      subst hy
      rw [show i = n by omega]; exact hx
/-- Where a slice's elements lie. -/
theorem slice_addr {w : World} {a : Addr} {v : Value} (h : w.cell? (a.add 0) = some v) : a = ⟨a.block, a.off, none⟩ := addr_plain h
def shBytes : Sh := .slice (.int .u8) 1
theorem has_bytes {w : World} {cs : List Value} (h : shBytes.Has w cs) : ∃ (bs : List UInt8) (a : Option Addr) (c : Nat), cs = [.slice a bs.length c] ∧ bs.length ≤ c ∧ c ≤ maxLen ∧ RowAt w a (bs.map bV) := by
  rcases h with rfl | ⟨a, len, cap, rfl, hl, hm, hall⟩
  · exact ⟨[], none, 0, rfl, Nat.le_refl _, by decide, .inl rfl⟩
  · obtain ⟨zs, hz, hp⟩ := exists_list (p := fun i z => w.cell? (a.add i) = some (.int .u8 z) ∧ (Lit.int .u8 z).wf = true) len (fun i hi => by
      obtain ⟨cs', ⟨h1, h2⟩, z, rfl, hw⟩ := hall i hi
      have := h2 0 (by omega)
      simp at this
      exact ⟨z, this, hw⟩)
    obtain ⟨h1, h2⟩ := row_of_cells (W := w) (a := a) (zs := zs) (len := len) (by omega) (fun i hi => by
      have := (hp i zs[i] (List.getElem?_eq_getElem hi)).1
      rw [this]; congr 2; simp [List.getD, List.getElem?_eq_getElem hi]) (fun n hn => by
      obtain ⟨i, hi⟩ := List.getElem?_of_mem hn
      exact (hp i n hi).2)
    exact ⟨ofI (zs.take len), some a, cap, by rw [h1], by rw [h1]; exact hl, hm, h2⟩
theorem has_int {w : World} {k : IntKind} {cs : List Value} (h : (Sh.int k).Has w cs) : ∃ z, cs = [.int k z] ∧ (Lit.int k z).wf = true := h
end Go.Proofs.Ytamlgnhnmilbdaa
end
section
/- Slices of structs that came in: their elements, one behind the other. No program in sight. -/
namespace Go.Proofs.Ytamlgnhnmilbdaa
open Go.RowKit Go.WideShapes Go.ChangeShapes
/-- Elements of n cells each, of which R tells where they lie. -/
def RowsAt {α : Type} (R : World → Nat → Nat → α → Prop) (n : Nat) (w : World) (a : Option Addr) (xs : List α) : Prop := xs = [] ∨ ∃ b off, a = some ⟨b, off, none⟩ ∧ ∀ i x, xs[i]? = some x → R w b (off + i * n) x
theorem RowsAt.mono {α : Type} {R : World → Nat → Nat → α → Prop} {n : Nat} {w w' : World} {a : Option Addr} {xs : List α} (h : RowsAt R n w a xs) (hm : ∀ b off x, R w b off x → R w' b off x) : RowsAt R n w' a xs := by
  rcases h with h | ⟨b, off, ha, h⟩
  · exact .inl h
  · exact .inr ⟨b, off, ha, fun i x hx => hm _ _ _ (h i x hx)⟩
theorem RowsAt.get {α : Type} {R : World → Nat → Nat → α → Prop} {n : Nat} {w : World} {a : Option Addr} {xs : List α} (h : RowsAt R n w a xs) {i : Nat} (hi : i < xs.length) : ∃ b off, a = some ⟨b, off, none⟩ ∧ R w b (off + i * n) xs[i] := by
  rcases h with rfl | ⟨b, off, ha, h⟩
  · simp at hi
  · exact ⟨b, off, ha, h i _ (List.getElem?_eq_getElem hi)⟩
theorem has_rows {α : Type} {e : Sh} {n : Nat} (hn : 0 < n) {R : World → Nat → Nat → α → Prop} {w : World} (elem : ∀ (cs' : List Value) (b off : Nat), cs'.length = n → cellsAt w b off cs' → e.Has w cs' → ∃ x, R w b off x) {cs : List Value} (h : (Sh.slice e n).Has w cs) :
    ∃ (xs : List α) (a : Option Addr) (c : Nat), cs = [.slice a xs.length c] ∧ xs.length ≤ c ∧ c ≤ maxLen ∧ RowsAt R n w a xs := by
  rcases h with rfl | ⟨a, len, cap, rfl, hl, hm, hall⟩
  · exact ⟨[], none, 0, rfl, Nat.le_refl _, by decide, .inl rfl⟩
  · obtain ⟨xs, hz, hp⟩ := exists_list (p := fun i (x : α) => R w a.block (a.off + i * n) x ∧ a = ⟨a.block, a.off, none⟩) len (fun i hi => by
      obtain ⟨cs0, ⟨h01, h02⟩, _⟩ := hall 0 (by omega)
      have ha : a = ⟨a.block, a.off, none⟩ := by
        have := h02 0 (by omega)
        rw [List.getElem?_eq_getElem (by omega)] at this
        simp only [Nat.zero_mul, Nat.zero_add] at this
        exact addr_plain this
      obtain ⟨cs', ⟨h1, h2⟩, h3⟩ := hall i hi
      obtain ⟨x, hx⟩ := elem cs' a.block (a.off + i * n) h1 (cellsAt_of fun j v hj => by
        have hjn : j < n := by have := (List.getElem?_eq_some_iff.1 hj).1; omega
        have := h2 j hjn
        rw [ha, Addr.add_lit, ← Nat.add_assoc, hj] at this
        exact this) h3
      exact ⟨x, hx, ha⟩)
    refine ⟨xs, some a, cap, by rw [hz], by omega, hm, ?_⟩
    by_cases h0 : xs = []
    · exact .inl h0
    · have h1 : 0 < xs.length := List.length_pos_iff.2 h0
      have ha := (hp 0 _ (List.getElem?_eq_getElem h1)).2
      exact .inr ⟨a.block, a.off, by rw [← ha], fun i p hi => (hp i p hi).1⟩
theorem cellsAt_below {w w' : World} {b off : Nat} {vs : List Value} (h : cellsAt w b off vs) {B : Nat} (hb : Below B w w') (hB : w.heap.size ≤ B) : cellsAt w' b off vs :=
  cellsAt_of fun j v hj => by
    have h1 := cellsAt_get h j v hj
    exact (hb.cell (p := ⟨b, off + j, none⟩) (Nat.lt_of_lt_of_le (block_lt_of_cell h1) hB)).trans h1
theorem open_rows {P : Program} {α : Type} {e : Sh} {n : Nat} {R : World → Nat → Nat → α → Prop} {H : Type} {enc : TypeId × Value → H} {W : World} {t : TypeId} {v : Value} {d : DataW H} {p : List MemPlace} (hn : 0 < n) (elem : ∀ (cs' : List Value) (b off : Nat), cs'.length = n → cellsAt W b off cs' → e.Has W cs' → ∃ x, R W b off x)
    (hf : fitsB P (.slice e n) t = true) (hv : ∃ a l c, v = .slice a l c) (h : DataW.Trod enc P W 0 (fun _ => true) true t v d p) : ∃ (xs : List α) (a : Option Addr) (c : Nat), v = .slice a xs.length c ∧ RowsAt R n W a xs ∧ xs.length ≤ c ∧ c ≤ maxLen := by
  obtain ⟨a, l, c, rfl⟩ := hv
  obtain ⟨xs, a', c', h1, h2, h3, h4⟩ := has_rows hn elem (open_sh hf h)
  simp [Value.cells] at h1
  obtain ⟨rfl, rfl, rfl⟩ := h1
  exact ⟨xs, a, c, rfl, h4, h2, h3⟩
end Go.Proofs.Ytamlgnhnmilbdaa
end
section
/- An object with a list of its own: each element so many cells, what an element refers to in blocks that the object owns. No program in sight. -/
namespace Go.Proofs.Ytamlgnhnmilbdaa
open Go.RowKit
theorem cell_keep {w w' : World} {b : Nat} (hk : w'.heap[b]? = w.heap[b]?) (o : Nat) : w'.cell? ⟨b, o, none⟩ = w.cell? ⟨b, o, none⟩ := by unfold World.cell?; simp only [hk]
theorem cellsAt_keep {w w' : World} {b : Nat} (hk : w'.heap[b]? = w.heap[b]?) : ∀ {vs : List Value} {off : Nat}, cellsAt w b off vs → cellsAt w' b off vs
  | [], _, _ => trivial
  | _ :: _, _, h => ⟨(cell_keep hk _).trans h.1, cellsAt_keep hk h.2⟩
theorem cellsAt_list {w : World} {b : Nat} : ∀ {vs : List Value} {off : Nat}, (∀ j v, vs[j]? = some v → w.cell? ⟨b, off + j, none⟩ = some v) → cellsAt w b off vs
  | [], _, _ => trivial
  | v :: r, off, h => ⟨by simpa using h 0 v rfl, cellsAt_list fun j u hu => by have := h (j + 1) u (by simpa using hu); rwa [show off + (j + 1) = off + 1 + j by omega] at this⟩
structure RStable {α : Type} (R : World → List Nat → α → List Value → Prop) (k : Nat) : Prop where
  len : ∀ {w : World} {M : List Nat} {e : α} {cs : List Value}, R w M e cs → cs.length = k
  keep : ∀ {w w' : World} {M : List Nat} {e : α} {cs : List Value}, R w M e cs → (∀ b ∈ M, w'.heap[b]? = w.heap[b]?) → R w' M e cs
  mono : ∀ {w : World} {M K : List Nat} {e : α} {cs : List Value}, R w M e cs → (∀ b ∈ M, b ∈ K) → R w K e cs
def ElsOk {α : Type} (R : World → List Nat → α → List Value → Prop) (k : Nat) (w : World) (M : List Nat) (es : List α) (xs : List Value) : Prop :=
  xs.length = es.length * k ∧ ∀ (i : Nat) (e : α), es[i]? = some e → R w M e ((xs.drop (i * k)).take k)
section
variable {α : Type} {R : World → List Nat → α → List Value → Prop} {k : Nat} {w w' : World} {M K : List Nat} {es : List α} {xs : List Value}
theorem ElsOk.nil : ElsOk R k w M [] [] := ⟨by simp, fun i e h => by cases h⟩
theorem ElsOk.keep (hR : RStable R k) (h : ElsOk R k w M es xs) (hk : ∀ b ∈ M, w'.heap[b]? = w.heap[b]?) : ElsOk R k w' M es xs := ⟨h.1, fun i e he => hR.keep (h.2 i e he) hk⟩
theorem ElsOk.mono (hR : RStable R k) (h : ElsOk R k w M es xs) (hs : ∀ b ∈ M, b ∈ K) : ElsOk R k w K es xs := ⟨h.1, fun i e he => hR.mono (h.2 i e he) hs⟩
theorem ElsOk.app (hR : RStable R k) (h : ElsOk R k w M es xs) {e : α} {cs : List Value} (he : R w M e cs) : ElsOk R k w M (es ++ [e]) (xs ++ cs) := by
  have hc := hR.len he
  refine ⟨by rw [List.length_append, List.length_append, h.1, hc, List.length_singleton, Nat.add_mul, Nat.one_mul], fun i x hx => ?_⟩
  by_cases hi : i < es.length
  · rw [List.getElem?_append_left hi] at hx
    have := h.2 i x hx
    have hm : i * k + k ≤ xs.length := by
      rw [h.1]
      have := Nat.mul_le_mul_right k (show i + 1 ≤ es.length from hi)
      rw [Nat.add_mul, Nat.one_mul] at this
      exact this
    rwa [List.drop_append_of_le_length (by omega), List.take_append_of_le_length (by rw [List.length_drop]; omega)]
  · have hlt := (List.getElem?_eq_some_iff.1 hx).1
    rw [List.length_append, List.length_singleton] at hlt
    obtain rfl : i = es.length := by omega
    rw [List.getElem?_append_right (Nat.le_refl _), Nat.sub_self] at hx
    injection hx with hx; subst hx
    rw [← h.1, List.drop_left, List.take_of_length_le (by omega)]
    exact he
theorem ElsOk.erase (h : ElsOk R k w M es xs) {i : Nat} (hi : i < es.length) : ElsOk R k w M (es.eraseIdx i) (xs.take (i * k) ++ xs.drop ((i + 1) * k)) := by
  have e1 : (i + 1) * k = i * k + k := by rw [Nat.add_mul, Nat.one_mul]
  have e2 : (es.length - 1) * k + k = es.length * k := by
    rw [← Nat.add_one_mul]; congr 1; omega
  have hm : i * k + k ≤ xs.length := by
    rw [h.1]
    have := Nat.mul_le_mul_right k (show i + 1 ≤ es.length from hi)
    omega
  have hxl := h.1
  refine ⟨by rw [List.length_append, List.length_take, List.length_drop, List.length_eraseIdx_of_lt hi]; omega, fun j x hx => ?_⟩
  rw [List.getElem?_eraseIdx] at hx
  split at hx
  · rename_i hj
    have := h.2 j x hx
    have hjk : j * k + k ≤ i * k := by
      have := Nat.mul_le_mul_right k (show j + 1 ≤ i from hj)
      rw [Nat.add_mul, Nat.one_mul] at this; exact this
    rw [List.drop_append_of_le_length (by rw [List.length_take]; omega), List.take_append_of_le_length (by rw [List.length_drop, List.length_take]; omega), List.drop_take, List.take_take]
    rwa [Nat.min_eq_left (by omega)]
  · rename_i hj
    have := h.2 (j + 1) x hx
    have hjk : i * k ≤ j * k := Nat.mul_le_mul_right k (by omega)
    have e3 : (j + 1) * k = j * k + k := by rw [Nat.add_mul, Nat.one_mul]
    have hlt : (xs.take (i * k)).length = i * k := by rw [List.length_take]; omega
    rw [List.drop_append, hlt, List.drop_eq_nil_of_le (by omega), List.nil_append, List.drop_drop]
    rwa [show (i + 1) * k + (j * k - i * k) = (j + 1) * k by omega]
theorem ElsOk.cells (hR : RStable R k) (h : ElsOk R k w M es xs) {te : TypeId} {b0 c : Nat} {a : Option Addr} (hO : Own w b0 te k (.slice a es.length c) es.length xs) {i : Nat} {e : α} (he : es[i]? = some e) :
    ∃ cs, R w M e cs ∧ ∃ b off, a = some ⟨b, off, none⟩ ∧ (b0 ≤ b ∧ b < w.heap.size) ∧ cellsAt w b (off + i * k) cs := by
  have hr := h.2 i e he
  refine ⟨_, hr, ?_⟩
  have hlt := (List.getElem?_eq_some_iff.1 he).1
  rcases hO.2 with ⟨_, h0⟩ | ⟨g, off, cap, cur, hv, hb, hg, _⟩
  · omega
  · injection hv with q1 q2 q3
    subst q1
    refine ⟨g, off, rfl, ⟨hb, heap_lt hg⟩, cellsAt_list fun j v hv => ?_⟩
    rw [List.getElem?_take] at hv
    split at hv
    · rw [List.getElem?_drop] at hv
      rw [Nat.add_assoc]
      exact hO.cells g off c rfl _ v hv
    · cases hv
/-- The object under way: what it owns lies in L, or is new. -/
structure LRaw (R : World → List Nat → α → List Value → Prop) (k : Nat) (te tp : TypeId) (w : World) (L : List Nat) (n0 p : Nat) (f : Value → Array Value) (es : List α) (kv : Value) (xs : List Value) (M : List Nat) : Prop where
  bk : Bk w p (f kv) tp
  own : Own w 0 te k kv es.length xs
  els : ElsOk R k w M es xs
  far : ∀ b ∈ M, (b ∈ L ∨ n0 ≤ b) ∧ b ≠ p ∧ kv.ownBlock ≠ some b
  mine : ∀ b, kv.ownBlock = some b → b ∈ L ∨ n0 ≤ b
  under : Under M w.heap.size
variable {te tp : TypeId} {L : List Nat} {n0 p : Nat} {f : Value → Array Value} {kv : Value}
theorem own_apart {g : Nat} {cs : Array Value} {t e : TypeId} {size n b0 : Nat} {v : Value} {xs : List Value} (h1 : Bk w g cs t) (h2 : Own w b0 e size v n xs) (hne : t ≠ e) : v.ownBlock ≠ some g := by
  intro h
  rcases h2.2 with ⟨rfl, _⟩ | ⟨g', off, cap, cur, rfl, hb, hg, _⟩
  · cases h
  · simp [Value.ownBlock] at h
    subst h
    unfold Bk at h1
    rw [h1] at hg
    injection hg with hg
    injection hg with h3 h4 h5
    exact hne h4
theorem LRaw.keep (hR : RStable R k) (h : LRaw R k te tp w L n0 p f es kv xs M) (hk : ∀ b, (b = p ∨ kv.ownBlock = some b ∨ b ∈ M) → w'.heap[b]? = w.heap[b]?) (hs : w.heap.size ≤ w'.heap.size) : LRaw R k te tp w' L n0 p f es kv xs M :=
  ⟨h.bk.keep (hk p (.inl rfl)), h.own.keep fun b hb => hk b (.inr (.inl hb)), h.els.keep hR fun b hb => hk b (.inr (.inr hb)), h.far, h.mine, h.under.mono hs⟩
theorem LRaw.lt (h : LRaw R k te tp w L n0 p f es kv xs M) {b : Nat} (hb : b = p ∨ kv.ownBlock = some b ∨ b ∈ M) : b < w.heap.size := by
  rcases hb with rfl | hb | hb
  · exact h.bk.lt
  · exact (h.own.lt b hb).2
  · exact h.under b hb
theorem LRaw.below (hR : RStable R k) (h : LRaw R k te tp w L n0 p f es kv xs M) (hb : Below w.heap.size w w') : LRaw R k te tp w' L n0 p f es kv xs M := h.keep hR (fun b hb' => hb.block b (h.lt hb')) hb.size
theorem LRaw.more (hR : RStable R k) (h : LRaw R k te tp w L n0 p f es kv xs M) (B : List Nat) (hB : ∀ b ∈ B, (b ∈ L ∨ n0 ≤ b) ∧ b < w.heap.size ∧ b ≠ p ∧ kv.ownBlock ≠ some b) : LRaw R k te tp w L n0 p f es kv xs (M ++ B) :=
  ⟨h.bk, h.own, h.els.mono hR fun _ hk => List.mem_append_left _ hk, fun b hb => (List.mem_append.1 hb).elim (h.far b) fun hb => ⟨(hB b hb).1, (hB b hb).2.2⟩, h.mine, fun b hb => (List.mem_append.1 hb).elim (h.under b) fun hb => (hB b hb).2.1⟩
theorem LRaw.wider (h : LRaw R k te tp w L n0 p f es kv xs M) (hs : ∀ b ∈ L, b ∈ K) : LRaw R k te tp w K n0 p f es kv xs M :=
  ⟨h.bk, h.own, h.els, fun b hb => ⟨(h.far b hb).1.imp (hs b) id, (h.far b hb).2⟩, fun b hb => (h.mine b hb).imp (hs b) id, h.under⟩
/-- The list has turned, and is stored: appended to, cut, or new. -/
theorem LRaw.turn (hR : RStable R k) (hne : tp ≠ te) (h : LRaw R k te tp w L n0 p f es kv xs M) (hn : n0 ≤ w.heap.size) {es' : List α} {xs' : List Value} (he : ElsOk R k w M es' xs') {v1 : Value} (ho : Own w' 0 te k v1 es'.length xs') (hp : w'.heap[p]? = w.heap[p]?) (hM : ∀ b ∈ M, w'.heap[b]? = w.heap[b]?) (hs : w.heap.size ≤ w'.heap.size)
    (hn1 : v1.ownBlock = kv.ownBlock ∨ ∃ g, v1.ownBlock = some g ∧ w.heap.size ≤ g) {j : Nat} (hj : (f kv).setIfInBounds j v1 = f v1) : LRaw R k te tp (w'.setCell ⟨p, j, none⟩ v1) L n0 p f es' v1 xs' M := by
  have b1 := h.bk.keep hp
  have hk1 : ∀ b, b ≠ p → (w'.setCell ⟨p, j, none⟩ v1).heap[b]? = w'.heap[b]? := fun b hb => Below.heap_setCell _ _ _ _ hb
  have hfar : ∀ b ∈ M, v1.ownBlock ≠ some b := fun b hb e => by
    rcases hn1 with h1 | ⟨g, h1, hg1⟩
    · exact (h.far b hb).2.2 (h1 ▸ e)
    · rw [h1] at e; injection e with e; have := h.under b hb; omega
  refine ⟨hj ▸ b1.setCell j v1, ho.keep fun b hb => hk1 b fun e2 => own_apart b1 ho hne (e2 ▸ hb), (he.keep hR hM).keep hR fun b hb => hk1 b (h.far b hb).2.1, fun b hb => ⟨(h.far b hb).1, (h.far b hb).2.1, hfar b hb⟩, fun b hb => ?_, (h.under.mono hs).mono (by simp)⟩
  rcases hn1 with h1 | ⟨g, h1, hg1⟩
  · exact h.mine b (h1 ▸ hb)
  · rw [h1] at hb; injection hb with hb; exact .inr (by omega)
/-- Another cell of the object is stored. -/
theorem LRaw.cell (hR : RStable R k) (hne : tp ≠ te) (h : LRaw R k te tp w L n0 p f es kv xs M) {j : Nat} {v : Value} {f' : Value → Array Value} (hj : (f kv).setIfInBounds j v = f' kv) : LRaw R k te tp (w.setCell ⟨p, j, none⟩ v) L n0 p f' es kv xs M := by
  have hk1 : ∀ b, b ≠ p → (w.setCell ⟨p, j, none⟩ v).heap[b]? = w.heap[b]? := fun b hb => Below.heap_setCell _ _ _ _ hb
  exact ⟨hj ▸ h.bk.setCell j v, h.own.keep fun b hb => hk1 b fun e2 => own_apart h.bk h.own hne (e2 ▸ hb), h.els.keep hR fun b hb => hk1 b (h.far b hb).2.1, h.far, h.mine, h.under.mono (by simp)⟩
/-- The object, with all that it owns. -/
structure LAt (R : World → List Nat → α → List Value → Prop) (k : Nat) (te tp : TypeId) (w : World) (L : List Nat) (p : Nat) (f : Value → Array Value) (es : List α) : Prop where
  ex : ∃ kv xs M, Bk w p (f kv) tp ∧ Own w 0 te k kv es.length xs ∧ ElsOk R k w M es xs ∧ (∀ b ∈ M, b ∈ L ∧ b ≠ p ∧ kv.ownBlock ≠ some b) ∧ ∀ b, kv.ownBlock = some b → b ∈ L
  mem : p ∈ L
  under : Under L w.heap.size
theorem LAt.raw (h : LAt R k te tp w L p f es) (n0 : Nat) : ∃ kv xs M, LRaw R k te tp w L n0 p f es kv xs M := by
  obtain ⟨⟨kv, xs, M, h1, h2, h3, h4, h5⟩, hm, hu⟩ := h
  exact ⟨kv, xs, M, h1, h2, h3, fun b hb => ⟨.inl (h4 b hb).1, (h4 b hb).2⟩, fun b hb => .inl (h5 b hb), fun b hb => hu b (h4 b hb).1⟩
theorem LRaw.at (h : LRaw R k te tp w L n0 p f es kv xs M) (hp : p ∈ L) : ∃ L', LAt R k te tp w L' p f es ∧ Gr L L' n0 := by
  refine ⟨p :: (kv.ownBlock.toList ++ M), ⟨⟨kv, xs, M, h.bk, h.own, h.els, fun b hb => ⟨by simp [hb], (h.far b hb).2⟩, fun b hb => by simp [hb]⟩, by simp, fun b hb => ?_⟩, fun b hb => ?_⟩
  · rcases List.mem_cons.1 hb with rfl | hb
    · exact h.bk.lt
    · rcases List.mem_append.1 hb with hb | hb
      · exact (h.own.lt b (by simpa using hb)).2
      · exact h.under b hb
  · rcases List.mem_cons.1 hb with rfl | hb
    · exact .inl hp
    · rcases List.mem_append.1 hb with hb | hb
      · exact h.mine b (by simpa using hb)
      · exact (h.far b hb).1
theorem LAt.keep (hR : RStable R k) (h : LAt R k te tp w L p f es) (hk : ∀ b ∈ L, w'.heap[b]? = w.heap[b]?) (hs : w.heap.size ≤ w'.heap.size) : LAt R k te tp w' L p f es := by
  obtain ⟨⟨kv, xs, M, h1, h2, h3, h4, h5⟩, hm, hu⟩ := h
  exact ⟨⟨kv, xs, M, h1.keep (hk p hm), h2.keep (fun b e => hk b (h5 b e)), h3.keep hR (fun b e => hk b (h4 b e).1), h4, h5⟩, hm, hu.mono hs⟩
theorem LAt.fr (hR : RStable R k) (h : LAt R k te tp w L p f es) (hf : Fr K w w') (ha : Apart L K) : LAt R k te tp w' L p f es := h.keep hR (hf.keep ha h.under) hf.size
theorem LAt.below (hR : RStable R k) (h : LAt R k te tp w L p f es) (hb : Below w.heap.size w w') : LAt R k te tp w' L p f es := h.keep hR (fun b hk => hb.block b (h.under b hk)) hb.size
end
end Go.Proofs.Ytamlgnhnmilbdaa
end
section
/- One element less: what 'slices.Delete' does to a list that is owned. No program in sight. -/
namespace Go.Proofs.Ytamlgnhnmilbdaa
open Go.RowKit
variable {P : Program} {w : World} {b : Nat} {e : TypeId} {k : Nat} {xs : List Value}
theorem Own.pre {a : Option Addr} {n c i : Nat} (h : Own w b e k (.slice a n c) n xs) (hi : i ≤ n) : Own w b e k (.slice a i c) i (xs.take (i * k)) := by
  obtain ⟨hl, h⟩ := h
  have hm : i * k ≤ n * k := Nat.mul_le_mul_right k hi
  refine ⟨by rw [List.length_take]; omega, ?_⟩
  rcases h with ⟨h0, h1⟩ | ⟨g, off, cap, cur, hv, hb, hg, hn, hm2, hs, ht⟩
  · injection h0 with q1 q2 q3
    subst q1; subst q3
    obtain rfl : i = 0 := by omega
    exact .inl ⟨rfl, rfl⟩
  · injection hv with q1 q2 q3
    subst q1; subst q3
    refine .inr ⟨g, off, c, cur, rfl, hb, hg, by omega, hm2, hs, ?_⟩
    rw [← ht, List.take_take, Nat.min_eq_left hm]
theorem own_somewhere {a : Option Addr} {n c : Nat} (h : Own w b e k (.slice a n c) n xs) (hn : 0 < n) : ∃ g off, a = some ⟨g, off, none⟩ ∧ n ≤ c := by
  rcases h.2 with ⟨_, h0⟩ | ⟨g, off, cap, cur, hv, _, _, hc, _⟩
  · omega
  · injection hv with q1 q2 q3
    subst q1; subst q3
    exact ⟨g, off, rfl, hc⟩
theorem Own.tail {a : Option Addr} {n c i : Nat} (h : Own w b e k (.slice a n c) n xs) (hi : i < n) {tx e' : TypeId} (hk : P.underlying tx = some (.slice e')) (h1 : ∀ v ∈ xs, v.oneCell' = true) :
    Src P k tx (.slice (sliceBase a c (i + 1) k) (n - (i + 1)) (c - (i + 1))) (n - (i + 1)) (xs.drop ((i + 1) * k)) w := by
  obtain ⟨g, off, rfl, hc⟩ := own_somewhere h (by omega)
  have hx := h.1
  have e1 : (n - (i + 1)) * k + (i + 1) * k = n * k := by rw [← Nat.add_mul]; congr 1; omega
  have hl : (xs.drop ((i + 1) * k)).length = (n - (i + 1)) * k := by rw [List.length_drop]; omega
  have h1' : ∀ v ∈ xs.drop ((i + 1) * k), v.oneCell' = true := fun v hv => h1 v (List.mem_of_mem_drop hv)
  unfold sliceBase
  split
  · rename_i hce
    have h0 : n - (i + 1) = 0 := by omega
    have hd : xs.drop ((i + 1) * k) = [] := List.eq_nil_of_length_eq_zero (by rw [hl, h0, Nat.zero_mul])
    rw [hd] at hl h1' ⊢
    exact Src.ofSlice w hk _ _ _ _ hl (fun j u hu => by cases hu) h1'
  · refine Src.ofSlice w hk _ _ _ _ hl (fun j u hu => ?_) h1'
    rw [List.getElem?_drop] at hu
    have := h.cells g off c rfl _ u hu
    show w.cell? (((⟨g, off, none⟩ : Addr).add ((i + 1) * k)).add j) = some u
    rw [Addr.add_lit, Addr.add_lit, Nat.add_assoc]
    exact this
theorem own_beyond1 {g off n c j : Nat} (h : Own w b e k (.slice (some ⟨g, off, none⟩) n c) n xs) (hj : n * k ≤ j) (hc : j < c * k) (v : Value) :
    (w.cell? ⟨g, off + j, none⟩).isSome = true ∧ w.frozen? ⟨g, off + j, none⟩ = false ∧ Own (w.setCell ⟨g, off + j, none⟩ v) b e k (.slice (some ⟨g, off, none⟩) n c) n xs := by
  obtain ⟨hl, h⟩ := h
  rcases h with ⟨h0, h1⟩ | ⟨g', off', cap, cur, hv, hb, hg, hn, hm2, hs, ht⟩
  · cases h0
  · injection hv with q1 q2 q3
    injection q1 with q1
    injection q1 with q1 q4
    subst q1; subst q3; subst q4
    have hB : Bk w g cur e := hg
    refine ⟨?_, hB.frozen _, hl, .inr ⟨g, off, c, _, rfl, hb, hB.setCell (off + j) v, hn, hm2, by simpa using hs, ?_⟩⟩
    · rw [hB.cell, Array.getElem?_eq_getElem (by omega)]; rfl
    · rw [← ht, Array.toList_setIfInBounds, List.drop_set]
      rw [if_neg (by omega), show off + j - off = j by omega, List.take_set, List.set_eq_of_length_le (by rw [List.length_take]; omega)]
theorem own_beyond {g off n c : Nat} : ∀ (vs : List Value) (j : Nat) (w : World), Own w b e k (.slice (some ⟨g, off, none⟩) n c) n xs → n * k ≤ j → j + vs.length ≤ c * k →
    w.there g (off + j) vs.length ∧ Own (w.setCells g (off + j) vs) b e k (.slice (some ⟨g, off, none⟩) n c) n xs ∧ Fr [g] w (w.setCells g (off + j) vs) ∧ (w.setCells g (off + j) vs).heap.size = w.heap.size
  | [], j, w, h, _, _ => ⟨fun i hi => by simp at hi, h, Fr.refl _ _, rfl⟩
  | v :: r, j, w, h, hj, hc => by
    rw [List.length_cons] at hc
    obtain ⟨h1, h2, h3⟩ := own_beyond1 h hj (by omega) v
    obtain ⟨k1, k2, k3, k4⟩ := own_beyond r (j + 1) _ h3 (by omega) (by omega)
    rw [← Nat.add_assoc] at k1 k2 k3 k4
    refine ⟨fun i hi => ?_, k2, ((Fr.refl [g] w).setCell (p := ⟨g, off + j, none⟩) (.inl (by simp)) v).trans k3 (Gr.refl _ _), k4.trans (by simp)⟩
    rw [List.length_cons] at hi
    refine ⟨?_, ?_⟩
    · obtain ⟨a1, a2, _⟩ := own_beyond1 h (j := j + i) (by omega) (by omega) v
      rw [Nat.add_assoc]; exact a1
    · obtain ⟨a1, a2, _⟩ := own_beyond1 h (j := j + i) (by omega) (by omega) v
      rw [Nat.add_assoc]; exact a2
theorem els_one {α : Type} {R : World → List Nat → α → List Value → Prop} {M : List Nat} {es : List α} (h : ElsOk R k w M es xs) (hR : ∀ w M e cs, R w M e cs → ∀ v ∈ cs, v.oneCell' = true) : ∀ v ∈ xs, v.oneCell' = true := by
  intro v hv
  obtain ⟨j, hj⟩ := List.getElem?_of_mem hv
  have hlt := (List.getElem?_eq_some_iff.1 hj).1
  have hl := h.1
  have hk : 0 < k := by
    rcases Nat.eq_zero_or_pos k with h0 | h0
    · subst h0; omega
    · exact h0
  have hi : j / k < es.length := Nat.div_lt_of_lt_mul (by rw [Nat.mul_comm]; omega)
  have := h.2 _ _ (List.getElem?_eq_getElem hi)
  refine hR _ _ _ _ this v ?_
  have hm : j = j / k * k + j % k := by rw [Nat.mul_comm]; exact (Nat.div_add_mod j k).symm
  have hmod := Nat.mod_lt j hk
  refine List.mem_iff_getElem?.2 ⟨j % k, ?_⟩
  rw [List.getElem?_take, if_pos hmod, List.getElem?_drop, ← hm]
  exact hj
end Go.Proofs.Ytamlgnhnmilbdaa
end
section
/- One element of an owned list is written over. No program in sight. -/
namespace Go.Proofs.Ytamlgnhnmilbdaa
open Go.RowKit
variable {w : World} {b : Nat} {e : TypeId} {k : Nat} {xs : List Value}
def setL : List Value → Nat → List Value → List Value
  | xs, _, [] => xs
  | xs, j, v :: r => setL (xs.set j v) (j + 1) r
theorem setL_len : ∀ (vs : List Value) (xs : List Value) (j : Nat), (setL xs j vs).length = xs.length
  | [], _, _ => rfl
  | v :: r, xs, j => by rw [setL, setL_len r, List.length_set]
theorem setL_get : ∀ (vs : List Value) (xs : List Value) (j i : Nat), j + vs.length ≤ xs.length → (setL xs j vs)[i]? = if j ≤ i ∧ i < j + vs.length then vs[i - j]? else xs[i]?
  | [], xs, j, i, _ => by rw [setL, if_neg (by simp only [List.length_nil]; omega)]
  | v :: r, xs, j, i, h => by
    rw [List.length_cons] at h
    rw [setL, setL_get r (xs.set j v) (j + 1) i (by rw [List.length_set]; omega), List.length_cons]
    by_cases h1 : i = j
    · subst h1
      rw [if_neg (by omega), if_pos (by omega), Nat.sub_self, List.getElem?_set_self (by omega)]
      rfl
    · by_cases h2 : j + 1 ≤ i ∧ i < j + 1 + r.length
      · rw [if_pos h2, if_pos (by omega), show i - j = (i - (j + 1)) + 1 by omega, List.getElem?_cons_succ]
      · rw [if_neg h2, if_neg (by omega), List.getElem?_set_ne (by omega)]
theorem own_in1 {g off n c j : Nat} (h : Own w b e k (.slice (some ⟨g, off, none⟩) n c) n xs) (hj : j < n * k) (v : Value) :
    (w.cell? ⟨g, off + j, none⟩).isSome = true ∧ w.frozen? ⟨g, off + j, none⟩ = false ∧ Own (w.setCell ⟨g, off + j, none⟩ v) b e k (.slice (some ⟨g, off, none⟩) n c) n (xs.set j v) := by
  obtain ⟨hl, h⟩ := h
  rcases h with ⟨h0, h1⟩ | ⟨g', off', cap, cur, hv, hb, hg, hn, hm2, hs, ht⟩
  · cases h0
  · injection hv with q1 q2 q3
    injection q1 with q1
    injection q1 with q1 q4
    subst q1; subst q3; subst q4
    have hB : Bk w g cur e := hg
    have hm : n * k ≤ c * k := Nat.mul_le_mul_right k hn
    refine ⟨?_, hB.frozen _, by rw [List.length_set]; exact hl, .inr ⟨g, off, c, _, rfl, hb, hB.setCell (off + j) v, hn, hm2, by simpa using hs, ?_⟩⟩
    · rw [hB.cell, Array.getElem?_eq_getElem (by omega)]; rfl
    · rw [← ht, Array.toList_setIfInBounds, List.drop_set]
      rw [if_neg (by omega), show off + j - off = j by omega, List.take_set]
theorem own_setL {g off n c : Nat} : ∀ (vs : List Value) (j : Nat) (w : World) (xs : List Value), Own w b e k (.slice (some ⟨g, off, none⟩) n c) n xs → j + vs.length ≤ n * k →
    w.there g (off + j) vs.length ∧ Own (w.setCells g (off + j) vs) b e k (.slice (some ⟨g, off, none⟩) n c) n (setL xs j vs) ∧ Fr [g] w (w.setCells g (off + j) vs) ∧ (w.setCells g (off + j) vs).heap.size = w.heap.size
  | [], j, w, xs, h, _ => ⟨fun i hi => by simp at hi, h, Fr.refl _ _, rfl⟩
  | v :: r, j, w, xs, h, hc => by
    rw [List.length_cons] at hc
    obtain ⟨h1, h2, h3⟩ := own_in1 h (j := j) (by omega) v
    obtain ⟨k1, k2, k3, k4⟩ := own_setL r (j + 1) _ _ h3 (by omega)
    rw [← Nat.add_assoc] at k1 k2 k3 k4
    refine ⟨fun i hi => ?_, k2, ((Fr.refl [g] w).setCell (p := ⟨g, off + j, none⟩) (.inl (by simp)) v).trans k3 (Gr.refl _ _), k4.trans (by simp)⟩
    rw [List.length_cons] at hi
    obtain ⟨a1, a2, _⟩ := own_in1 h (j := j + i) (by omega) v
    rw [Nat.add_assoc]
    exact ⟨a1, a2⟩
/-- An element of so many cells is stored. -/
theorem Own.storeK {g off n c i : Nat} (h : Own w b e k (.slice (some ⟨g, off, none⟩) n c) n xs) (hi : i < n) {vs : List Value} (hv : vs.length = k) {gs : List Nat} (hgs : ∀ x ∈ gs, x ≠ g) {K : World → Prop}
    (hk : ∀ w1, Own w1 b e k (.slice (some ⟨g, off, none⟩) n c) n (setL xs (i * k) vs) → Fr [g] w w1 → w1.heap.size = w.heap.size → K w1) : stO gs w g (off + i * k) vs K := by
  have hm : i * k + k ≤ n * k := by
    have := Nat.mul_le_mul_right k (show i + 1 ≤ n from hi)
    rw [Nat.add_mul, Nat.one_mul] at this; exact this
  obtain ⟨k1, k2, k3, k4⟩ := own_setL vs (i * k) w xs h (by omega)
  exact ⟨hgs, k1, fun w1 e1 => by subst e1; exact hk _ k2 k3 k4⟩
theorem ElsOk.set {α : Type} {R : World → List Nat → α → List Value → Prop} {M : List Nat} {es : List α} (hR : RStable R k) (h : ElsOk R k w M es xs) {i : Nat} (hi : i < es.length) {x : α} {cs : List Value} (hx : R w M x cs) : ElsOk R k w M (es.set i x) (setL xs (i * k) cs) := by
  have hl := h.1
  have hc := hR.len hx
  have hm : ∀ j, j < es.length → j * k + k ≤ xs.length := fun j hj => by
    rw [hl]
    have := Nat.mul_le_mul_right k (show j + 1 ≤ es.length from hj)
    rw [Nat.add_mul, Nat.one_mul] at this; exact this
  refine ⟨by rw [setL_len, List.length_set, hl], fun j y hy => ?_⟩
  have hj : j < es.length := by have := (List.getElem?_eq_some_iff.1 hy).1; rwa [List.length_set] at this
  have key : ((setL xs (i * k) cs).drop (j * k)).take k = if i = j then cs else (xs.drop (j * k)).take k := by
    apply List.ext_getElem?
    intro q
    rw [List.getElem?_take]
    by_cases hq : q < k
    · rw [if_pos hq, List.getElem?_drop, setL_get _ _ _ _ (by have := hm i hi; omega)]
      by_cases hij : i = j
      · subst hij
        rw [if_pos rfl, if_pos (by omega)]
        congr 1; omega
      · rw [if_neg hij]
        have hne : ¬ (i * k ≤ j * k + q ∧ j * k + q < i * k + cs.length) := by
          rintro ⟨h1, h2⟩
          rcases Nat.lt_or_gt_of_ne hij with h3 | h3
          · have := Nat.mul_le_mul_right k (show i + 1 ≤ j from h3)
            rw [Nat.add_mul, Nat.one_mul] at this; omega
          · have := Nat.mul_le_mul_right k (show j + 1 ≤ i from h3)
            rw [Nat.add_mul, Nat.one_mul] at this; omega
        rw [if_neg hne, List.getElem?_take, if_pos hq, List.getElem?_drop]
    · rw [if_neg hq]
      symm
      split
      · rw [List.getElem?_eq_none (by omega)]
      · rw [List.getElem?_take, if_neg hq]
  rw [key]
  by_cases hij : i = j
  · subst hij
    rw [List.getElem?_set_self hi] at hy
    injection hy with hy; subst hy
    rw [if_pos rfl]; exact hx
  · rw [List.getElem?_set_ne hij] at hy
    rw [if_neg hij]
    exact h.2 j y hy
end Go.Proofs.Ytamlgnhnmilbdaa
end
section
/- Functions that write nothing but blocks of their own: their steps, seen from the world that they began in. No program in sight. -/
namespace Go.Proofs.Ytamlgnhnmilbdaa
open Go.RowKit
theorem box_below {w w1 w2 : World} {g : Nat} (h : Below w.heap.size w w1) (hg : w.heap.size ≤ g) (hb : BoxSt g w1 w2) : Below w.heap.size w w2 := h.trans (hb.1.below (fun k hk => by rw [List.mem_singleton] at hk; omega) h.size)
/-- One value comes back, and what was there is as it was. -/
def Ret (v : Value) (w : World) : Ending → World → Prop := fun e w' => e = .returned v ∧ Below w.heap.size w w'
theorem ret_in {P : Program} {f : FuncId} {av : Array Value} {w : World} {v : Value} (h : Calls P f av w fun e w' => ∃ u, e = .returned u ∧ (u = v ∧ Below w.heap.size w w')) : Calls P f av w (Ret v w) :=
  h.mono (by rintro e w' ⟨u, rfl, rfl, b⟩; exact ⟨rfl, b⟩)
theorem ret_same {P : Program} {f : FuncId} {av : Array Value} {w : World} {v : Value} (h : Calls P f av w fun e w' => e = .returned v ∧ w' = w) : Calls P f av w (Ret v w) :=
  h.mono (by rintro e w' ⟨rfl, rfl⟩; exact ⟨rfl, Below.refl _ _⟩)
section
variable {w0 w : World}
abbrev Bs (w0 w : World) : Prop := Below w0.heap.size w0 w
theorem Bs.refl (w : World) : Bs w w := Below.refl _ _
theorem Bs.to {w1 : World} (B : Bs w0 w) (b : Below w.heap.size w w1) : Bs w0 w1 := Below.trans B (b.mono B.size)
theorem Bs.box {g : Nat} {w1 : World} (B : Bs w0 w) (hg : w0.heap.size ≤ g) (h : BoxSt g w w1) : Bs w0 w1 := box_below B hg h
theorem newB (B : Bs w0 w) {o : Obj} {K : Nat → World → Prop} (h : ∀ g w1, w0.heap.size ≤ g → w.heap.size = g → w1.heap[g]? = some o → w1.heap.size = g + 1 → Below w.heap.size w w1 → Bs w0 w1 → K g w1) : newO w o K := by
  rintro g w1 rfl rfl
  exact h _ _ B.size rfl (al_new rfl) (by simp) (Below_one o) (B.to (Below_one o))
theorem drewB (B : Bs w0 w) {K : World → Prop} (h : ∀ w1, Below w.heap.size w w1 → Bs w0 w1 → w1.heap = w.heap → K w1) : drewO w K := fun w1 h1 h2 => h w1 h2 (B.to h2) h1
theorem boxB {g : Nat} (B : Bs w0 w) (hg : w0.heap.size ≤ g) {K : World → Prop} (h : ∀ w1, BoxSt g w w1 → Bs w0 w1 → w1.heap.size = w.heap.size → K w1) : ∀ w1, BoxSt g w w1 → K w1 := fun w1 h1 => h w1 h1 (B.box hg h1) h1.2
theorem callB {P : Program} {f : FuncId} {av : Array Value} {v : Value} {gs : List Nat} {R : Ending → World → Prop} (B : Bs w0 w) (h : Calls P f av w (Ret v w)) (k : ∀ w1, Below w.heap.size w w1 → Bs w0 w1 → R (.returned v) w1) :
    Calls P f av w (fun e w1 => KeepG gs w w1 ∧ R e w1) := h.mono (by rintro e w1 ⟨rfl, b⟩; exact ⟨keepG_below b, k w1 b (B.to b)⟩)
theorem callQ {P : Program} {f : FuncId} {av : Array Value} {gs : List Nat} {Q R : Ending → World → Prop} (B : Bs w0 w) (h : Calls P f av w (fun e w1 => Q e w1 ∧ Below w.heap.size w w1)) (k : ∀ e w1, Q e w1 → Below w.heap.size w w1 → Bs w0 w1 → R e w1) :
    Calls P f av w (fun e w1 => KeepG gs w w1 ∧ R e w1) := h.mono (by rintro e w1 ⟨q, b⟩; exact ⟨keepG_below b, k e w1 q b (B.to b)⟩)
end
/-- Elements of k cells each, one behind the other, in a block from n0 on. -/
def Rws {α : Type} (enc : α → List Value) (k n0 : Nat) (w : World) (a : Option Addr) (xs : List α) : Prop := xs = [] ∨ ∃ b off, a = some ⟨b, off, none⟩ ∧ n0 ≤ b ∧ ∀ i x, xs[i]? = some x → cellsAt w b (off + i * k) (enc x)
section
variable {α : Type} {enc : α → List Value} {k n0 : Nat} {w w' : World} {a : Option Addr} {xs : List α}
theorem Rws.nil : Rws enc k n0 w a [] := .inl rfl
theorem Rws.ofRows (h : RowsAt (fun w b off x => cellsAt w b off (enc x)) k w a xs) : Rws enc k 0 w a xs := h.elim .inl fun ⟨b, off, h1, h2⟩ => .inr ⟨b, off, h1, Nat.zero_le _, h2⟩
theorem Rws.low {n1 : Nat} (h : Rws enc k n0 w a xs) (hn : n1 ≤ n0) : Rws enc k n1 w a xs := h.elim .inl fun ⟨b, off, h1, h2, h3⟩ => .inr ⟨b, off, h1, Nat.le_trans hn h2, h3⟩
theorem Rws.keep (h : Rws enc k n0 w a xs) (hk : ∀ b, n0 ≤ b → b < w.heap.size → w'.heap[b]? = w.heap[b]?) : Rws enc k n0 w' a xs := by
  rcases h with h | ⟨b, off, ha, hb, h⟩
  · exact .inl h
  · refine .inr ⟨b, off, ha, hb, fun i x hx => cellsAt_of fun j v hj => ?_⟩
    have h1 := cellsAt_get (h i x hx) j v hj
    have h2 := block_lt_of_cell h1
    rw [cell_keep (hk b hb h2)]
    exact h1
theorem Rws.below (h : Rws enc k n0 w a xs) (hb : Below w.heap.size w w') : Rws enc k n0 w' a xs := h.keep fun b _ h2 => hb.block b h2
theorem Rws.box {g : Nat} (h : Rws enc k n0 w a xs) (hb : BoxSt g w w') (hg : g < n0) : Rws enc k n0 w' a xs := h.keep fun b h1 h2 => hb.1.block b h2 (by rw [List.mem_singleton]; omega)
theorem Rws.newbox {g : Nat} {w1 w2 : World} (h : Rws enc k n0 w a xs) (hb : Below w.heap.size w w1) (sg : w.heap.size = g) (hx : BoxSt g w1 w2) : Rws enc k n0 w2 a xs := h.keep fun b _ h2 => (hx.1.block b (by have := hb.size; omega) (by rw [List.mem_singleton]; omega)).trans (hb.block b h2)
theorem Rws.grown {r : Option Nat} (h : Rws enc k n0 w a xs) (hg : w.grownBy w' r) (hr : ∀ b, r = some b → b < n0) : Rws enc k n0 w' a xs := h.keep fun b h1 h2 => hg.block b h2 fun e => by have := hr b e.symm; omega
theorem Rws.get (h : Rws enc k n0 w a xs) {i : Nat} (hi : i < xs.length) : ∃ b off, a = some ⟨b, off, none⟩ ∧ cellsAt w b (off + i * k) (enc xs[i]) := by
  rcases h with rfl | ⟨b, off, ha, _, h⟩
  · simp at hi
  · exact ⟨b, off, ha, h i _ (List.getElem?_eq_getElem hi)⟩
theorem Rws.take (h : Rws enc k n0 w a xs) (n : Nat) : Rws enc k n0 w a (xs.take n) := by
  rcases h with rfl | ⟨b, off, ha, h0, h⟩
  · exact .inl (by simp)
  · refine .inr ⟨b, off, ha, h0, fun i x hx => h i x ?_⟩
    rw [List.getElem?_take] at hx
    split at hx
    · exact hx
    · cases hx
theorem flatK_len (hk : ∀ x, (enc x).length = k) : ∀ es : List α, (es.flatMap enc).length = es.length * k
  | [] => by simp
  | e :: r => by rw [List.flatMap_cons, List.length_append, flatK_len hk r, hk, List.length_cons, Nat.add_mul]; omega
theorem flatK_get (hk : ∀ x, (enc x).length = k) : ∀ (es : List α) (i : Nat) (e : α) (j : Nat), es[i]? = some e → j < k → (es.flatMap enc)[i * k + j]? = (enc e)[j]?
  | x :: r, 0, e, j, h, hj => by
    cases h
    rw [List.flatMap_cons, List.getElem?_append_left (by rw [hk]; omega)]
    congr 1; omega
  | x :: r, i + 1, e, j, h, hj => by
    have e1 : (i + 1) * k = i * k + k := by rw [Nat.add_mul, Nat.one_mul]
    rw [List.flatMap_cons, List.getElem?_append_right (by rw [hk]; omega), hk, show (i + 1) * k + j - k = i * k + j by omega]
    exact flatK_get hk r i e j (by simpa using h) hj
theorem Rws.ofOwn {t : TypeId} {n c : Nat} (hkp : 0 < k) (hk : ∀ x, (enc x).length = k) (h : Own w n0 t k (.slice a n c) n (xs.flatMap enc)) : Rws enc k n0 w a xs := by
  by_cases h0 : xs = []
  · exact .inl h0
  rcases h.2 with ⟨h1, h2⟩ | ⟨g, off, cap, cur, hv, hb, hg, hn, hm, hs, ht⟩
  · have h3 := h.1
    rw [flatK_len hk, h2, Nat.zero_mul] at h3
    exact absurd (List.length_eq_zero_iff.1 ((Nat.mul_eq_zero.1 h3).resolve_right (by omega))) h0
  · injection hv with h1 h2 h3
    subst h1; subst h3
    refine .inr ⟨g, off, rfl, hb, fun i x hx => cellsAt_list fun j v hv => ?_⟩
    have hj : j < k := by have := (List.getElem?_eq_some_iff.1 hv).1; rw [hk] at this; exact this
    have := flatK_get hk xs i x j hx hj
    rw [Nat.add_assoc]
    exact h.cells g off c rfl _ v (by rw [this]; exact hv)
theorem Rws.src {P : Program} {tx e' : TypeId} {c : Nat} (hT : P.underlying tx = some (.slice e')) (hkp : 0 < k) (hk : ∀ x, (enc x).length = k) (h1 : ∀ x, ∀ v ∈ enc x, v.oneCell' = true) (h : Rws enc k n0 w a xs) : Src P k tx (.slice a xs.length c) xs.length (xs.flatMap enc) w := by
  have hone : ∀ v ∈ xs.flatMap enc, v.oneCell' = true := fun v hv => by
    obtain ⟨x, _, hx⟩ := List.mem_flatMap.1 hv
    exact h1 x v hx
  cases a with
  | none =>
    rcases h with rfl | ⟨b, off, ha, _⟩
    · exact Src.ofNil w hT c
    · cases ha
  | some ad =>
    refine Src.ofSlice w hT ad _ _ _ (flatK_len hk xs) (fun j u hu => ?_) hone
    rcases h with rfl | ⟨b, off, ha, _, h⟩
    · cases hu
    · injection ha with ha; subst ha
      have hlt := (List.getElem?_eq_some_iff.1 hu).1
      rw [flatK_len hk] at hlt
      have hi : j / k < xs.length := (Nat.div_lt_iff_lt_mul hkp).2 hlt
      have hm : j % k < k := Nat.mod_lt _ hkp
      have hx := List.getElem?_eq_getElem hi
      have h1 := flatK_get hk xs (j / k) _ (j % k) hx hm
      have hd : j / k * k + j % k = j := by rw [Nat.mul_comm]; exact Nat.div_add_mod j k
      rw [hd, hu] at h1
      have := cellsAt_get (h _ _ hx) (j % k) u h1.symm
      rw [Addr.add_lit]
      rwa [Nat.add_assoc, hd] at this
end
theorem Rws.one {α : Type} {enc : α → List Value} {k n0 g : Nat} {w : World} {x : α} {t : TypeId} {fr : Nat × Nat} (h : w.heap[g]? = some (.cells (enc x).toArray t fr)) (hg : n0 ≤ g) : Rws enc k n0 w (some ⟨g, 0, none⟩) [x] := by
  refine .inr ⟨g, 0, rfl, hg, fun i y hy => ?_⟩
  have hi : i = 0 := by have := (List.getElem?_eq_some_iff.1 hy).1; simp at this; omega
  subst hi
  simp at hy
  subst hy
  rw [Nat.zero_mul]
  exact cellsAt_row h (by simp)
theorem Own.box {w w1 : World} {n1 size n g : Nat} {e : TypeId} {v : Value} {xs : List Value} (h : Own w n1 e size v n xs) (hb : BoxSt g w w1) (hg : ∀ k, v.ownBlock = some k → k ≠ g) : Own w1 n1 e size v n xs := h.keep fun k hk => hb.1.block k (h.lt k hk).2 (by rw [List.mem_singleton]; exact hg k hk)
/-- A new box was made and filled. -/
theorem Own.newbox {w w1 w2 : World} {n1 size n g : Nat} {e : TypeId} {v : Value} {xs : List Value} (h : Own w n1 e size v n xs) (hb : Below w.heap.size w w1) (sg : w.heap.size = g) (hx : BoxSt g w1 w2) : Own w2 n1 e size v n xs := (h.below hb (Nat.le_refl _)).box hx fun k hk => by have := (h.lt k hk).2; omega
/-- What is appended to, is one's own. -/
theorem appB {P : Program} {gs : List Nat} {w0 w : World} {e : TypeId} {size bytes n1 n c m : Nat} {tx : TypeId} {a : Option Addr} {x : Value} {xs news : List Value} {K : Nat → Option Addr → Nat → World → Prop}
    (B : Bs w0 w) (o : Own w n1 e size (.slice a n c) n xs) (hn1 : w0.heap.size ≤ n1) (hn2 : n1 ≤ w.heap.size) (s : Src P size tx x m news w) (h1 : n + m ≤ maxLen) (h2 : (n + m) * bytes ≤ 140737488355328)
    (hg : ∀ g ∈ gs, (Value.slice a n c).ownBlock ≠ some g)
    (k : ∀ a' c' w1, Own w1 n1 e size (.slice a' (n + m) c') (n + m) (xs ++ news) → w.grownBy w1 (Value.slice a n c).ownBlock → Bs w0 w1 → w.heap.size ≤ w1.heap.size → K m a' c' w1) :
    appO P gs w e size bytes tx a n c x K := by
  refine ⟨m, xs, news, o.base_le fun _ _ => Nat.zero_le _, s, h1, h2, hg, fun a' c' w1 o1 g1 or1 _ => k a' c' w1 (o1.base_le fun q hq => ?_) g1 ?_ g1.size⟩
  · rcases or1 with h | ⟨g, h, h3⟩
    · exact (o.lt q (h ▸ hq)).1
    · rw [h] at hq; injection hq with hq; omega
  · exact ⟨g1.os.trans B.os, g1.tape.trans B.tape, g1.output.trans B.output, Nat.le_trans B.size g1.size, fun q hq => (g1.block q (by have := B.size; omega) fun e => by have := (o.lt q e.symm).1; omega).trans (B.block q hq)⟩
end Go.Proofs.Ytamlgnhnmilbdaa
end
section
/- A writer, and a reader, at work since a world: what else has turned. -/
namespace Go.Proofs.Ytamlgnhnmilbdaa
open Go.RowKit
/-- Since w0 only the writer's blocks, and new ones, have turned. -/
structure WP (w0 : World) (K0 : List Nat) (w : World) (g : Nat) (bs : List UInt8) (bad : Bool) : Prop where
  ex : ∃ K, WAt w K g bs bad ∧ Gr K0 K w0.heap.size
  fr : Fr K0 w0 w
  un : Under K0 w0.heap.size
section
variable {w0 w w1 w2 : World} {K0 : List Nat} {g : Nat} {bs bs' : List UInt8} {bad bad' : Bool}
theorem WP.start (h : WAt w K0 g bs bad) : WP w K0 w g bs bad := ⟨⟨K0, h, Gr.refl _ _⟩, Fr.refl _ _, h.under⟩
theorem WP.make {t : TypeId} (h : w.heap[g]? = some (.cells #[.slice none 0 0, .bool false] 112 (0, 0))) (ht : t = 112) : WP w [g] w g [] false :=
  WP.start (by have := WAt.make (v := .slice none 0 0) (bs := []) h (Own.nil _ _ _ _); simpa [Value.ownBlock] using this)
theorem WP.below (h : WP w0 K0 w g bs bad) (b : Below w.heap.size w w1) : WP w0 K0 w1 g bs bad := by
  obtain ⟨⟨K, h1, h2⟩, h3, h4⟩ := h
  exact ⟨⟨K, h1.keep (fun k hk => b.block k (h1.under k hk)) b.size, h2⟩, h3.trans (Fr.ofBelow (L := K0) b) (Gr.refl _ _), h4⟩
/-- A box that is newer than the base was written. -/
theorem WP.newbox (h : WP w0 K0 w g bs bad) (b : Below w.heap.size w w1) {x : Nat} (sx : w.heap.size = x) (hx : BoxSt x w1 w2) : WP w0 K0 w2 g bs bad := by
  obtain ⟨⟨K, h1, h2⟩, h3, h4⟩ := h
  have z := b.size
  have z2 := hx.2
  have z3 := h3.size
  refine ⟨⟨K, h1.keep (fun k hk => (hx.1.block k (by have := h1.under k hk; omega) (by rw [List.mem_singleton]; have := h1.under k hk; omega)).trans (b.block k (h1.under k hk))) (by omega), h2⟩, ?_, h4⟩
  exact (h3.trans (Fr.ofBelow (L := K0) b) (Gr.refl _ _)).trans hx.1 (fun k hk => by rw [List.mem_singleton] at hk; exact .inr (by omega))
theorem WP.keep (h : WP w0 K0 w g bs bad) {b : Nat} (hb : b < w0.heap.size) (hn : b ∉ K0) : w.heap[b]? = w0.heap[b]? := h.fr.block b hb hn
theorem WP.old {wb : World} (h : WP w0 K0 w g bs bad) (B : Bs wb w0) (hf : From wb.heap.size K0) : Bs wb w := B.trans (h.fr.below hf B.size)
theorem WP.call (h : WP w0 K0 w g bs bad) {P : Program} {f : FuncId} {av : Array Value} {gs : List Nat} {R : Ending → World → Prop} (hc : ∀ K, WAt w K g bs bad → Gr K0 K w0.heap.size → Calls P f av w (W1 w K g bs' bad')) (hg : ∀ x ∈ gs, x < w0.heap.size ∧ x ∉ K0)
    (k : ∀ w1, WP w0 K0 w1 g bs' bad' → w.heap.size ≤ w1.heap.size → R (.returned (.tuple #[])) w1) : Calls P f av w fun e w1 => KeepG gs w w1 ∧ R e w1 := by
  obtain ⟨⟨K, h1, h2⟩, h3, h4⟩ := h
  refine (hc K h1 h2).mono ?_
  rintro e w1 ⟨rfl, K', h5, f5, g5⟩
  refine ⟨keepG_fr f5 fun x hx hm => ?_, k w1 ⟨⟨K', h5, h2.trans g5 h3.size⟩, h3.trans f5 h2, h4⟩ f5.size⟩
  rcases h2 x hm with h | h
  · exact (hg x hx).2 h
  · have := (hg x hx).1; omega
/-- The same, with boxes that are newer than the base: told of the writer's blocks. -/
theorem WP.out {K : List Nat} (h : WP w K w1 g bs bad) : W1 w K g bs bad (.returned (.tuple #[])) w1 := by
  obtain ⟨⟨K', h1, h2⟩, h3, h4⟩ := h
  exact ⟨rfl, K', h1, h3, h2⟩
/-- A new base. -/
theorem WP.rebase (h : WP w0 K0 w g bs bad) : ∃ K, WP w K w g bs bad ∧ Gr K0 K w0.heap.size := by
  obtain ⟨⟨K, h1, h2⟩, h3, h4⟩ := h
  exact ⟨K, WP.start h1, h2⟩
/-- A new base behind a box that was made and filled. -/
theorem WP.rebox (h : WP w0 K0 w g bs bad) (b : Below w.heap.size w w1) {x : Nat} (sx : w.heap.size = x) (hs : w1.heap.size = x + 1) (hx : BoxSt x w1 w2) :
    ∃ K, WP w2 K w2 g bs bad ∧ Gr K0 K w0.heap.size ∧ x ∉ K ∧ x < w2.heap.size := by
  obtain ⟨⟨K, h1, h2⟩, h3, h4⟩ := h
  have z2 := hx.2
  have z3 := h3.size
  refine ⟨K, WP.start (h1.keep (fun k hk => (hx.1.block k (by have := h1.under k hk; omega) (by rw [List.mem_singleton]; have := h1.under k hk; omega)).trans (b.block k (h1.under k hk))) (by omega)), h2, fun hm => ?_, by omega⟩
  have := h1.under x hm
  omega
theorem WP.join {K : List Nat} (h : WP w0 K0 w g bs bad) (h2 : WP w K w1 g bs' bad') (hg : Gr K0 K w0.heap.size) : WP w0 K0 w1 g bs' bad' := by
  obtain ⟨⟨K', k1, k2⟩, k3, k4⟩ := h2
  exact ⟨⟨K', k1, hg.trans k2 h.fr.size⟩, h.fr.trans k3 hg, h.un⟩
end
theorem WP.uint {w0 w : World} {K0 : List Nat} {g : Nat} {bs : List UInt8} {bad : Bool} (h : WP w0 K0 w g bs bad) {gs : List Nat} {R : Ending → World → Prop} (z : Int) (hz : 0 ≤ z) (hz2 : z ≤ 9223372036854775807) (hl : bs.length ≤ 100000000) (hg : ∀ x ∈ gs, x < w0.heap.size ∧ x ∉ K0)
    (k : ∀ w1, WP w0 K0 w1 g (bs ++ uintB z) bad → w.heap.size ≤ w1.heap.size → R (.returned (.tuple #[])) w1) : Calls Try.prog 50 #[.pointer (some ⟨g, 0, none⟩), .int .i64 z] w fun e w1 => KeepG gs w w1 ∧ R e w1 :=
  h.call (fun K h1 _ => by
    have := wUint_any g z hz2 bs bad K w h1 hl
    rw [decide_eq_false (show ¬ z < 0 by omega), Bool.or_false] at this
    exact this) hg k
/-- Since w0 only the reader's blocks, and new ones, have turned. -/
structure RP (w0 : World) (L : List Nat) (w : World) (g : Nat) (bs : List UInt8) (e : Int) : Prop where
  at' : RdAt w L g bs e
  fr : Fr L w0 w
  un : Under L w0.heap.size
section
variable {w0 w w1 w2 : World} {L : List Nat} {g : Nat} {bs : List UInt8} {e : Int}
theorem RP.start (h : RdAt w L g bs e) : RP w L w g bs e := ⟨h, Fr.refl _ _, h.under⟩
theorem RP.below (h : RP w0 L w g bs e) (b : Below w.heap.size w w1) : RP w0 L w1 g bs e := ⟨h.at'.below b, h.fr.trans (Fr.ofBelow (L := L) b) (Gr.refl _ _), h.un⟩
theorem RP.newbox (h : RP w0 L w g bs e) (b : Below w.heap.size w w1) {x : Nat} (sx : w.heap.size = x) (hx : BoxSt x w1 w2) : RP w0 L w2 g bs e := by
  have z := b.size
  have z3 := h.fr.size
  exact ⟨(h.at'.below b).fr hx.1 (fun k h1 h2 => by rw [List.mem_singleton] at h2; have := h.at'.under k h1; omega), (h.fr.trans (Fr.ofBelow (L := L) b) (Gr.refl _ _)).trans hx.1 (fun k hk => by rw [List.mem_singleton] at hk; exact .inr (by omega)), h.un⟩
theorem RP.box (h : RP w0 L w g bs e) {x : Nat} (hx : BoxSt x w w1) (hn : x ∉ L) (hz : w0.heap.size ≤ x) : RP w0 L w1 g bs e :=
  ⟨h.at'.fr hx.1 (fun k h1 h2 => by rw [List.mem_singleton] at h2; exact hn (h2 ▸ h1)), h.fr.trans hx.1 (fun k hk => by rw [List.mem_singleton] at hk; exact .inr (by omega)), h.un⟩
theorem RP.keep (h : RP w0 L w g bs e) {b : Nat} (hb : b < w0.heap.size) (hn : b ∉ L) : w.heap[b]? = w0.heap[b]? := h.fr.block b hb hn
theorem RP.old {wb : World} (h : RP w0 L w g bs e) (B : Bs wb w0) (hf : From wb.heap.size L) : Bs wb w := B.trans (h.fr.below hf B.size)
theorem RP.uint (h : RP w0 L w g bs e) {gs : List Nat} {R : Ending → World → Prop} (most : Int) (hm : most ≤ 9223372036854775807) (hm2 : 0 ≤ most) (hl : bs.length ≤ 100000000) (hg : ∀ x ∈ gs, x ∉ L)
    (k : ∀ w1, RP w0 L w1 g (rdUint most bs e).2.1 (rdUint most bs e).2.2 → Fr L w w1 → w.heap.size ≤ w1.heap.size → R (.returned (.int .i64 (rdUint most bs e).1)) w1) :
    Calls Try.prog 74 #[.pointer (some ⟨g, 0, none⟩), .int .i64 most] w fun r w1 => KeepG gs w w1 ∧ R r w1 :=
  (rUint_any g most hm (by omega) bs e L w h.at' hl).mono (by
    rintro r w1 ⟨rfl, h1, f1, _⟩
    exact ⟨keepG_fr f1 hg, k w1 ⟨h1, h.fr.trans f1 (Gr.refl _ _), h.un⟩ f1 f1.size⟩)
end
end Go.Proofs.Ytamlgnhnmilbdaa
end
section
/- What is read is what was written, and what is written is read: plain laws of the parts. No program in sight. -/
namespace Go.Proofs.Ytamlgnhnmilbdaa
theorem dead_uint {most : Int} {bs : List UInt8} {e : Int} (he : e ≠ 0) : rdUint most bs e = (0, bs, e) := by unfold rdUint; rw [if_pos he]
theorem dead_int {bs : List UInt8} {e : Int} (he : e ≠ 0) : rdInt bs e = (0, bs, e) := by unfold rdInt; rw [if_pos he]
theorem dead_flag {bs : List UInt8} {e : Int} (he : e ≠ 0) : rdFlag bs e = (false, bs, e) := by unfold rdFlag; rw [if_pos he]
theorem dead_text {most : Int} {bs : List UInt8} {e : Int} (he : e ≠ 0) : rdText most bs e = ([], bs, e) := by unfold rdText; rw [if_pos he]
theorem un_uint {most : Int} {bs : List UInt8} {e : Int} (h : (rdUint most bs e).2.2 = 0) : e = 0 ∧ 0 ≤ (rdUint most bs e).1 ∧ (rdUint most bs e).1 ≤ most ∧ bs = uintB (rdUint most bs e).1 ++ (rdUint most bs e).2.1 := by
  by_cases he : e = 0
  · refine ⟨he, ?_⟩
    subst he
    revert h
    unfold rdUint
    rw [if_neg (by simp)]
    obtain ⟨u, n, e1, hr⟩ : ∃ u n e1, tk 9 0 0 bs = (u, n, e1) := ⟨_, _, _, rfl⟩
    rw [hr]
    dsimp only
    split
    · rename_i h; intro h1; exact absurd h1 h
    rename_i h
    split
    · intro h1; cases h1
    rename_i hm
    intro _
    have h0 : e1 = 0 := Classical.not_not.1 h
    subst h0
    obtain ⟨_, h3, h4⟩ := tk_enc0 hr
    refine ⟨by dsimp only; omega, by dsimp only; omega, ?_⟩
    dsimp only
    unfold uintB
    rw [if_neg (by omega), Int.toNat_natCast, ← h4, List.take_append_drop]
  · rw [dead_uint he] at h; exact absurd h he
theorem un_int {bs : List UInt8} {e : Int} (h : (rdInt bs e).2.2 = 0) : e = 0 ∧ bs = intB (rdInt bs e).1 ++ (rdInt bs e).2.1 := by
  by_cases he : e = 0
  · refine ⟨he, ?_⟩
    subst he
    revert h
    unfold rdInt
    rw [if_neg (by simp)]
    obtain ⟨u, n, e1, hr⟩ : ∃ u n e1, tk 10 0 0 bs = (u, n, e1) := ⟨_, _, _, rfl⟩
    rw [hr]
    dsimp only
    split
    · rename_i h; intro h1; exact absurd h1 h
    rename_i h
    intro _
    have h0 : e1 = 0 := Classical.not_not.1 h
    subst h0
    obtain ⟨_, h3, h4⟩ := tk_enc0 hr
    dsimp only
    unfold intB
    rw [zig_zag, ← h4, List.take_append_drop]
  · rw [dead_int he] at h; exact absurd h he
theorem un_flag {bs : List UInt8} {e : Int} (h : (rdFlag bs e).2.2 = 0) : e = 0 ∧ bs = flagB (rdFlag bs e).1 ++ (rdFlag bs e).2.1 := by
  by_cases he : e = 0
  · refine ⟨he, ?_⟩
    subst he
    revert h
    unfold rdFlag
    rw [if_neg (by simp)]
    cases bs with
    | nil => intro h; cases h
    | cons x r =>
      dsimp only
      split
      · intro h; cases h
      rename_i hx
      intro _
      unfold flagB
      by_cases h1 : x.toNat = 1
      · rw [if_pos (decide_eq_true h1)]
        rw [show x = 1 from UInt8.toNat_inj.1 h1]
        rfl
      · rw [if_neg (by simp [h1])]
        rw [show x = 0 from UInt8.toNat_inj.1 (by show x.toNat = 0; omega)]
        rfl
  · rw [dead_flag he] at h; exact absurd h he
theorem uint_nat {z : Int} (h : 0 ≤ z) : uintB z = grp z.toNat := by unfold uintB; rw [if_neg (by omega)]
theorem un_text {most : Int} {bs : List UInt8} {e : Int} (h : (rdText most bs e).2.2 = 0) : e = 0 ∧ ((rdText most bs e).1.length : Int) ≤ most ∧ bs = textB (rdText most bs e).1 ++ (rdText most bs e).2.1 := by
  by_cases he : e = 0
  · refine ⟨he, ?_⟩
    subst he
    revert h
    unfold rdText
    rw [if_neg (by simp)]
    have hu := un_uint (most := most) (bs := bs) (e := 0)
    revert hu
    generalize rdUint most bs 0 = q
    obtain ⟨z, cs, e1⟩ := q
    dsimp only
    intro hu
    split
    · rename_i h; intro h1; exact absurd h1 h
    rename_i h
    have h0 : e1 = 0 := Classical.not_not.1 h
    obtain ⟨_, k1, k2, k3⟩ := hu h0
    split
    · intro h1; cases h1
    rename_i h2
    intro _
    dsimp only
    have hl : (cs.take z.toNat).length = z.toNat := by rw [List.length_take]; omega
    refine ⟨by rw [hl]; omega, ?_⟩
    unfold textB
    rw [hl, List.append_assoc, List.take_append_drop, ← uint_nat k1]
    exact k3
  · rw [dead_text he] at h; exact absurd h he
theorem ck_grp {m : Nat} {most : Int} (h : (m : Int) ≤ most) (h1 : m < 9223372036854775808) (rest : List UInt8) : rdUint most (grp m ++ rest) 0 = ((m : Int), rest, 0) := by
  unfold rdUint
  rw [if_neg (by simp), tk_dec0 rest (by omega) (grp_len 8 m (by omega))]
  dsimp only
  rw [if_neg (by simp), if_neg (by omega), List.drop_left]
theorem ck_uint {n most : Int} (h0 : 0 ≤ n) (h1 : n ≤ 9223372036854775807) (h2 : n ≤ most) (rest : List UInt8) : rdUint most (uintB n ++ rest) 0 = (n, rest, 0) := by
  rw [uint_nat h0, ck_grp (by omega) (by omega), Int.toNat_of_nonneg h0]
theorem ck_int {n : Int} (h0 : -9223372036854775808 ≤ n) (h1 : n ≤ 9223372036854775807) (rest : List UInt8) : rdInt (intB n ++ rest) 0 = (n, rest, 0) := by
  unfold rdInt intB
  rw [if_neg (by simp), tk_dec0 rest (zig_lt h0 h1) (grp_len64 (zig_lt h0 h1))]
  dsimp only
  rw [if_neg (by simp), List.drop_left, zag_zig]
theorem ck_flag (y : Bool) (rest : List UInt8) : rdFlag (flagB y ++ rest) 0 = (y, rest, 0) := by
  cases y <;> rfl
theorem ck_text {ts : List UInt8} {most : Int} (h : (ts.length : Int) ≤ most) (h2 : ts.length ≤ 100000000) (rest : List UInt8) : rdText most (textB ts ++ rest) 0 = (ts, rest, 0) := by
  unfold rdText textB
  rw [if_neg (by simp), List.append_assoc, ck_grp h (by omega)]
  dsimp only
  rw [if_neg (by simp), if_neg (by rw [List.length_append]; omega), Int.toNat_natCast, List.take_left, List.drop_left]
theorem end_zero {bs : List UInt8} {e : Int} (h : rdEnd bs e = 0) : e = 0 ∧ bs = [] := by
  unfold rdEnd at h
  split at h
  · cases h
  · rename_i h2
    subst h
    exact ⟨rfl, Classical.byContradiction fun h3 => h2 ⟨rfl, h3⟩⟩
theorem end_dead {bs : List UInt8} {e : Int} (h : e ≠ 0) : rdEnd bs e = e := by unfold rdEnd; rw [if_neg (fun h2 => h h2.1)]
theorem end_nil : rdEnd [] 0 = 0 := rfl
theorem uint_le {most : Int} {bs : List UInt8} {e : Int} (h : 0 ≤ most) : (rdUint most bs e).1 ≤ most := by
  unfold rdUint
  split
  · exact h
  dsimp only
  split
  · exact h
  split
  · exact h
  · dsimp only; omega
theorem text_le {most : Int} {bs : List UInt8} {e : Int} (h : 0 ≤ most) : ((rdText most bs e).1.length : Int) ≤ most := by
  unfold rdText
  split
  · exact h
  have hu := uint_le (bs := bs) (e := 0) h
  have hr := (rdUint_range most bs 0).1
  generalize rdUint most bs 0 = q at *
  dsimp only
  split
  · exact h
  split
  · exact h
  · rw [List.length_take]; omega
theorem text_len {most : Int} {bs : List UInt8} {e : Int} : (rdText most bs e).1.length ≤ bs.length ∧ (rdText most bs e).2.1.length ≤ bs.length := by
  have hu := rdLenU most bs 0
  unfold rdText
  split
  · exact ⟨Nat.zero_le _, Nat.le_refl _⟩
  dsimp only
  split
  · exact ⟨Nat.zero_le _, hu⟩
  split
  · exact ⟨Nat.zero_le _, Nat.le_refl _⟩
  · dsimp only
    rw [List.length_take, List.length_drop]
    omega
theorem uint_len10 {n : Int} (h : n ≤ 9223372036854775807) : (uintB n).length ≤ 10 := by
  unfold uintB
  split
  · exact Nat.zero_le _
  · exact grp_len64 (by omega)
theorem int_len10 {n : Int} (h1 : -9223372036854775808 ≤ n) (h2 : n ≤ 9223372036854775807) : (intB n).length ≤ 10 := grp_len64 (zig_lt h1 h2)
theorem textB_len {ts : List UInt8} (h : ts.length ≤ 100000000) : (textB ts).length ≤ ts.length + 10 := by
  unfold textB
  rw [List.length_append]
  have := grp_len64 (u := ts.length) (by omega)
  omega
theorem flag_len {bs : List UInt8} {e : Int} : (rdFlag bs e).2.1.length ≤ bs.length := by
  unfold rdFlag
  split
  · exact Nat.le_refl _
  cases bs with
  | nil => exact Nat.le_refl _
  | cons x r =>
    dsimp only
    split
    · exact Nat.le_refl _
    · simp
end Go.Proofs.Ytamlgnhnmilbdaa
end
section
/- Conditions of functions, printed by a program of this claim's own (vcgen.py) out of the loaded code; each is proved to be enough. -/
set_option maxRecDepth 100000
namespace Go.Proofs.Ytamlgnhnmilbdaa
open Go.RowKit
namespace GCred
def env : Env := ⟨[(3, ⟨.int .i64, 1, .int .i64 0, 8, [.int .i64]⟩), (4, ⟨.bool, 1, .bool false, 1, [.bool]⟩), (22, ⟨.slice 3, 1, .slice none 0 0, 24, [.slice]⟩), (23, ⟨.int .u64, 1, .int .u64 0, 8, [.int .u64]⟩), (24, ⟨.ptr, 1, .pointer none, 8, [.ptr]⟩), (31, ⟨.slice 115, 1, .slice none 0 0, 24, [.slice]⟩), (33, ⟨.struct [(0, 3), (1, 3), (2, 3), (3, 3), (4, 31)], 5, .agg #[.int .i64 0, .int .i64 0, .int .i64 0, .int .i64 0, .slice none 0 0], 56, [.int .i64, .int .i64, .int .i64, .int .i64, .slice]⟩), (103, ⟨.slice 33, 1, .slice none 0 0, 24, [.slice]⟩), (105, ⟨.struct [(0, 3), (1, 3), (2, 103)], 3, .agg #[.int .i64 0, .int .i64 0, .slice none 0 0], 40, [.int .i64, .int .i64, .slice]⟩), (115, ⟨.struct [(0, 3), (1, 3), (2, 3), (3, 4)], 4, .agg #[.int .i64 0, .int .i64 0, .int .i64 0, .bool false], 32, [.int .i64, .int .i64, .int .i64, .bool]⟩), (192, ⟨.int .u64, 1, .int .u64 0, 8, [.int .u64]⟩)], [(11, [.lf (.ptr), .lf (.int .i64)]), (12, [.lf (.bool)]), (13, [.lf (.int .i64)]), (14, [.lf (.int .i64)]), (15, [.lf (.bool)]), (16, [.lf (.slice)]), (17, [.lf (.int .i64)]), (45, [.lf (.bool)]), (46, [.lf (.int .i64), .lf (.int .i64)]), (47, [.lf (.slice)]), (48, [.lf (.bool)]), (49, [.agg [.int .i64, .int .i64, .int .i64, .int .i64, .slice]]), (98, [.lf (.int .i64), .lf (.bool)]), (99, [.lf (.int .i64)]), (100, [.lf (.int .i64)]), (101, [.lf (.bool)]), (102, [.lf (.slice)]), (122, [.lf (.bool)]), (123, [.lf (.bool)]), (124, [.lf (.bool)]), (133, [.lf (.int .i64)])], []⟩
theorem ty3 : TyOk Try.prog 3 ⟨.int .i64, 1, .int .i64 0, 8, [.int .i64]⟩ := tyok (by kernel_rfl) (by kernel_rfl)
theorem ty4 : TyOk Try.prog 4 ⟨.bool, 1, .bool false, 1, [.bool]⟩ := tyok (by kernel_rfl) (by kernel_rfl)
theorem ty22 : TyOk Try.prog 22 ⟨.slice 3, 1, .slice none 0 0, 24, [.slice]⟩ := tyok (by kernel_rfl) (by kernel_rfl)
theorem ty23 : TyOk Try.prog 23 ⟨.int .u64, 1, .int .u64 0, 8, [.int .u64]⟩ := tyok (by kernel_rfl) (by kernel_rfl)
theorem ty24 : TyOk Try.prog 24 ⟨.ptr, 1, .pointer none, 8, [.ptr]⟩ := tyok (by kernel_rfl) (by kernel_rfl)
theorem ty31 : TyOk Try.prog 31 ⟨.slice 115, 1, .slice none 0 0, 24, [.slice]⟩ := tyok (by kernel_rfl) (by kernel_rfl)
theorem ty33 : TyOk Try.prog 33 ⟨.struct [(0, 3), (1, 3), (2, 3), (3, 3), (4, 31)], 5, .agg #[.int .i64 0, .int .i64 0, .int .i64 0, .int .i64 0, .slice none 0 0], 56, [.int .i64, .int .i64, .int .i64, .int .i64, .slice]⟩ := tyok (by kernel_rfl) (by kernel_rfl)
theorem ty103 : TyOk Try.prog 103 ⟨.slice 33, 1, .slice none 0 0, 24, [.slice]⟩ := tyok (by kernel_rfl) (by kernel_rfl)
theorem ty105 : TyOk Try.prog 105 ⟨.struct [(0, 3), (1, 3), (2, 103)], 3, .agg #[.int .i64 0, .int .i64 0, .slice none 0 0], 40, [.int .i64, .int .i64, .slice]⟩ := tyok (by kernel_rfl) (by kernel_rfl)
theorem ty115 : TyOk Try.prog 115 ⟨.struct [(0, 3), (1, 3), (2, 3), (3, 4)], 4, .agg #[.int .i64 0, .int .i64 0, .int .i64 0, .bool false], 32, [.int .i64, .int .i64, .int .i64, .bool]⟩ := tyok (by kernel_rfl) (by kernel_rfl)
theorem ty192 : TyOk Try.prog 192 ⟨.int .u64, 1, .int .u64 0, 8, [.int .u64]⟩ := tyok (by kernel_rfl) (by kernel_rfl)
theorem fn11 : FnOk Try.prog 11 := fnok Try.func11 (by kernel_rfl) (by kernel_rfl)
theorem fn12 : FnOk Try.prog 12 := fnok Try.func12 (by kernel_rfl) (by kernel_rfl)
theorem fn13 : FnOk Try.prog 13 := fnok Try.func13 (by kernel_rfl) (by kernel_rfl)
theorem fn14 : FnOk Try.prog 14 := fnok Try.func14 (by kernel_rfl) (by kernel_rfl)
theorem fn15 : FnOk Try.prog 15 := fnok Try.func15 (by kernel_rfl) (by kernel_rfl)
theorem fn16 : FnOk Try.prog 16 := fnok Try.func16 (by kernel_rfl) (by kernel_rfl)
theorem fn17 : FnOk Try.prog 17 := fnok Try.func17 (by kernel_rfl) (by kernel_rfl)
theorem fn45 : FnOk Try.prog 45 := fnok Try.func45 (by kernel_rfl) (by kernel_rfl)
theorem fn46 : FnOk Try.prog 46 := fnok Try.func46 (by kernel_rfl) (by kernel_rfl)
theorem fn47 : FnOk Try.prog 47 := fnok Try.func47 (by kernel_rfl) (by kernel_rfl)
theorem fn48 : FnOk Try.prog 48 := fnok Try.func48 (by kernel_rfl) (by kernel_rfl)
theorem fn49 : FnOk Try.prog 49 := fnok Try.func49 (by kernel_rfl) (by kernel_rfl)
theorem fn98 : FnOk Try.prog 98 := fnok Try.func98 (by kernel_rfl) (by kernel_rfl)
theorem fn99 : FnOk Try.prog 99 := fnok Try.func99 (by kernel_rfl) (by kernel_rfl)
theorem fn100 : FnOk Try.prog 100 := fnok Try.func100 (by kernel_rfl) (by kernel_rfl)
theorem fn101 : FnOk Try.prog 101 := fnok Try.func101 (by kernel_rfl) (by kernel_rfl)
theorem fn102 : FnOk Try.prog 102 := fnok Try.func102 (by kernel_rfl) (by kernel_rfl)
theorem fn122 : FnOk Try.prog 122 := fnok Try.func122 (by kernel_rfl) (by kernel_rfl)
theorem fn123 : FnOk Try.prog 123 := fnok Try.func123 (by kernel_rfl) (by kernel_rfl)
theorem fn124 : FnOk Try.prog 124 := fnok Try.func124 (by kernel_rfl) (by kernel_rfl)
theorem fn133 : FnOk Try.prog 133 := fnok Try.func133 (by kernel_rfl) (by kernel_rfl)
theorem envOk : EOk Try.prog env := ⟨(by simp only [env, List.forall_mem_cons, List.not_mem_nil, false_implies, implies_true, and_true]; exact ⟨ty3, ty4, ty22, ty23, ty24, ty31, ty33, ty103, ty105, ty115, ty192⟩), (by simp only [env, List.forall_mem_cons, List.not_mem_nil, false_implies, implies_true, and_true]; exact ⟨fn11, fn12, fn13, fn14, fn15, fn16, fn17, fn45, fn46, fn47, fn48, fn49, fn98, fn99, fn100, fn101, fn102, fn122, fn123, fn124, fn133⟩), by kernel_rfl, (fun _ h => by cases h)⟩
/-- purser/credit.within -/
def within_vc (x0 : Int) (x1 : Int) (x2 : Int) (w : World) (K : Value → World → Prop) : Prop :=
  br (decide (x0 ≥ x1)) (
    K (.bool (decide (x0 ≤ x2))) w
  ) (
    K (.bool false) w
  )
def within_notes : Notes := ⟨[], [], []⟩
theorem within_calls (x0 : Int) (x1 : Int) (x2 : Int) (w : World) (K : Value → World → Prop) (h : within_vc x0 x1 x2 w K) : Calls Try.prog 45 #[.int .i64 x0, .int .i64 x1, .int .i64 x2] w fun e w' => ∃ v, e = .returned v ∧ K v w' :=
  calls_of_fvc envOk Try.func45 within_notes [] [.int .i64 x0, .int .i64 x1, .int .i64 x2] w K (use_vc h (by as_aux_lemma => kernel_rfl))
/-- purser/credit.New -/
def new_vc (x0 : Int) (w : World) (K : Value → World → Prop) : Prop :=
  Calls Try.prog 45 #[.int .i64 x0, .int .i64 1, .int .i64 16] w fun e w_2 => KeepG [] w w_2 ∧
  ∃ (b5 : Bool),
  e = .returned (.bool b5) ∧
  br (!b5) (
    K (.tuple #[.pointer none, .int .i64 1]) w_2
  ) (
    newO w_2 (.cells #[.int .i64 x0, .int .i64 0, .slice none 0 0] 105) fun g w_3 =>
    K (.tuple #[.pointer (some ⟨g, 0, none⟩), .int .i64 0]) w_3
  )
def new_notes : Notes := ⟨[], [], []⟩
theorem new_calls (x0 : Int) (w : World) (K : Value → World → Prop) (h : new_vc x0 w K) : Calls Try.prog 11 #[.int .i64 x0] w fun e w' => ∃ v, e = .returned v ∧ K v w' :=
  calls_of_fvc envOk Try.func11 new_notes [] [.int .i64 x0] w K (use_vc h (by as_aux_lemma => kernel_rfl))
/-- (*purser/credit.Table).find -/
def find_vc (p0 : Option Addr) (x1 : Int) (w : World) (K : Value → World → Prop) : Prop :=
  br (Option.isNone p0) (
    K (.tuple #[.int .i64 0, .int .i64 1]) w
  ) (
    withP p0 fun g12 o12 =>
    ∃ (a14 : Option Addr) (n14 : Nat) (c14 : Nat), w.cell? ⟨g12, o12 + 2, none⟩ = some (.slice a14 n14 c14) ∧
    Calls Try.prog 98 #[.slice a14 n14 c14, .int .i64 x1, .func (.func 99) #[] #[]] w fun e w_2 => KeepG [] w w_2 ∧
    ∃ (x16_0 : Int) (b16_1 : Bool),
    e = .returned (.tuple #[.int .i64 x16_0, .bool b16_1]) ∧
    br (!b16_1) (
      K (.tuple #[.int .i64 0, .int .i64 7]) w_2
    ) (
      K (.tuple #[.int .i64 x16_0, .int .i64 0]) w_2
    )
  )
def find_notes : Notes := ⟨[], [], []⟩
theorem find_calls (p0 : Option Addr) (x1 : Int) (w : World) (K : Value → World → Prop) (h : find_vc p0 x1 w K) : Calls Try.prog 46 #[.pointer p0, .int .i64 x1] w fun e w' => ∃ v, e = .returned v ∧ K v w' :=
  calls_of_fvc envOk Try.func46 find_notes [] [.pointer p0, .int .i64 x1] w K (use_vc h (by as_aux_lemma => kernel_rfl))
/-- (*purser/credit.Table).find$1 -/
def find1_vc (x0_0 : Int) (x0_1 : Int) (x0_2 : Int) (x0_3 : Int) (a0_4 : Option Addr) (n0_4 : Nat) (c0_4 : Nat) (x1 : Int) (w : World) (K : Value → World → Prop) : Prop :=
  newO w (.cells #[.int .i64 x0_0, .int .i64 x0_1, .int .i64 x0_2, .int .i64 x0_3, .slice a0_4 n0_4 c0_4] 33) fun g w_2 =>
  Calls Try.prog 100 #[.int .i64 x0_0, .int .i64 x1] w_2 fun e w_3 => KeepG [g] w_2 w_3 ∧
  ∃ (x8 : Int),
  e = .returned (.int .i64 x8) ∧
  K (.int .i64 x8) w_3
def find1_notes : Notes := ⟨[], [], []⟩
theorem find1_calls (x0_0 : Int) (x0_1 : Int) (x0_2 : Int) (x0_3 : Int) (a0_4 : Option Addr) (n0_4 : Nat) (c0_4 : Nat) (x1 : Int) (w : World) (K : Value → World → Prop) (h : find1_vc x0_0 x0_1 x0_2 x0_3 a0_4 n0_4 c0_4 x1 w K) : Calls Try.prog 99 #[.agg #[.int .i64 x0_0, .int .i64 x0_1, .int .i64 x0_2, .int .i64 x0_3, .slice a0_4 n0_4 c0_4], .int .i64 x1] w fun e w' => ∃ v, e = .returned v ∧ K v w' :=
  calls_of_fvc envOk Try.func99 find1_notes [2] [.agg #[.int .i64 x0_0, .int .i64 x0_1, .int .i64 x0_2, .int .i64 x0_3, .slice a0_4 n0_4 c0_4], .int .i64 x1] w K (use_vc h (by as_aux_lemma => kernel_rfl))
/-- cmp.Compare[int] -/
def cmp_vc (x0 : Int) (x1 : Int) (w : World) (K : Value → World → Prop) : Prop :=
  Calls Try.prog 122 #[.int .i64 x0] w fun e w_2 => KeepG [] w w_2 ∧
  ∃ (b8 : Bool),
  e = .returned (.bool b8) ∧
  Calls Try.prog 122 #[.int .i64 x1] w_2 fun e_2 w_3 => KeepG [] w_2 w_3 ∧
  ∃ (b10 : Bool),
  e_2 = .returned (.bool b10) ∧
  br b8 (
    br b10 (
      K (.int .i64 0) w_3
    ) (
      K (.int .i64 (-1)) w_3
    )
  ) (
    br b10 (
      K (.int .i64 1) w_3
    ) (
      br (decide (x0 < x1)) (
        K (.int .i64 (-1)) w_3
      ) (
        br (decide (x0 > x1)) (
          K (.int .i64 1) w_3
        ) (
          K (.int .i64 0) w_3
        )
      )
    )
  )
def cmp_notes : Notes := ⟨[], [], []⟩
theorem cmp_calls (x0 : Int) (x1 : Int) (w : World) (K : Value → World → Prop) (h : cmp_vc x0 x1 w K) : Calls Try.prog 100 #[.int .i64 x0, .int .i64 x1] w fun e w' => ∃ v, e = .returned v ∧ K v w' :=
  calls_of_fvc envOk Try.func100 cmp_notes [] [.int .i64 x0, .int .i64 x1] w K (use_vc h (by as_aux_lemma => kernel_rfl))
/-- cmp.isNaN[int] -/
def isNaN_vc (x0 : Int) (w : World) (K : Value → World → Prop) : Prop :=
  K (.bool (decide (x0 ≠ x0))) w
def isNaN_notes : Notes := ⟨[], [], []⟩
theorem isNaN_calls (x0 : Int) (w : World) (K : Value → World → Prop) (h : isNaN_vc x0 w K) : Calls Try.prog 122 #[.int .i64 x0] w fun e w' => ∃ v, e = .returned v ∧ K v w' :=
  calls_of_fvc envOk Try.func122 isNaN_notes [] [.int .i64 x0] w K (use_vc h (by as_aux_lemma => kernel_rfl))
/-- slices.BinarySearchFunc[[]purser/credit.Session,purser/credit.Session,int] -/
def bsearch_vc (a0 : Option Addr) (n0 : Nat) (c0 : Nat) (x1 : Int) (w : World) (K : Value → World → Prop) : Prop :=
  ∃ (I : Int → Int → World → Prop) (μ : Int → Int → World → Nat),
  I 0 ((n0 : Nat) : Int) w ∧
  ∀ (x9 : Int) (x10 : Int) (w_2 : World), I x9 x10 w_2 →
  br (decide (x9 < x10)) (
    (0 : Int) ≤ 1 ∧
    withP a0 fun g27 o27 =>
    (0 : Int) ≤ IntKind.i64.wrap (Int.fdiv (IntKind.u64.wrap (IntKind.i64.wrap (x9 + x10))) (2 ^ (min (1 : Int).toNat (IntKind.bits .u64)))) ∧ IntKind.i64.wrap (Int.fdiv (IntKind.u64.wrap (IntKind.i64.wrap (x9 + x10))) (2 ^ (min (1 : Int).toNat (IntKind.bits .u64)))) < (((n0 : Nat) : Int) : Int) ∧
    ∃ (x28_0 : Int) (x28_1 : Int) (x28_2 : Int) (x28_3 : Int) (a28_4 : Option Addr) (n28_4 : Nat) (c28_4 : Nat),
    cellsAt w_2 g27 (o27 + (IntKind.i64.wrap (Int.fdiv (IntKind.u64.wrap (IntKind.i64.wrap (x9 + x10))) (2 ^ (min (1 : Int).toNat (IntKind.bits .u64))))).toNat * 5) [.int .i64 x28_0, .int .i64 x28_1, .int .i64 x28_2, .int .i64 x28_3, .slice a28_4 n28_4 c28_4] ∧
    Calls Try.prog 99 #[.agg #[.int .i64 x28_0, .int .i64 x28_1, .int .i64 x28_2, .int .i64 x28_3, .slice a28_4 n28_4 c28_4], .int .i64 x1] w_2 fun e w_3 => KeepG [] w_2 w_3 ∧
    ∃ (x30 : Int),
    e = .returned (.int .i64 x30) ∧
    br (decide (x30 < 0)) (
      I (IntKind.i64.wrap ((IntKind.i64.wrap (Int.fdiv (IntKind.u64.wrap (IntKind.i64.wrap (x9 + x10))) (2 ^ (min (1 : Int).toNat (IntKind.bits .u64))))) + 1)) x10 w_3 ∧ μ (IntKind.i64.wrap ((IntKind.i64.wrap (Int.fdiv (IntKind.u64.wrap (IntKind.i64.wrap (x9 + x10))) (2 ^ (min (1 : Int).toNat (IntKind.bits .u64))))) + 1)) x10 w_3 < μ x9 x10 w_2
    ) (
      I x9 (IntKind.i64.wrap (Int.fdiv (IntKind.u64.wrap (IntKind.i64.wrap (x9 + x10))) (2 ^ (min (1 : Int).toNat (IntKind.bits .u64))))) w_3 ∧ μ x9 (IntKind.i64.wrap (Int.fdiv (IntKind.u64.wrap (IntKind.i64.wrap (x9 + x10))) (2 ^ (min (1 : Int).toNat (IntKind.bits .u64))))) w_3 < μ x9 x10 w_2
    )
  ) (
    br (decide (x9 < ((n0 : Nat) : Int))) (
      withP a0 fun g43 o43 =>
      (0 : Int) ≤ x9 ∧ x9 < (((n0 : Nat) : Int) : Int) ∧
      ∃ (x44_0 : Int) (x44_1 : Int) (x44_2 : Int) (x44_3 : Int) (a44_4 : Option Addr) (n44_4 : Nat) (c44_4 : Nat),
      cellsAt w_2 g43 (o43 + x9.toNat * 5) [.int .i64 x44_0, .int .i64 x44_1, .int .i64 x44_2, .int .i64 x44_3, .slice a44_4 n44_4 c44_4] ∧
      Calls Try.prog 99 #[.agg #[.int .i64 x44_0, .int .i64 x44_1, .int .i64 x44_2, .int .i64 x44_3, .slice a44_4 n44_4 c44_4], .int .i64 x1] w_2 fun e_2 w_4 => KeepG [] w_2 w_4 ∧
      ∃ (x46 : Int),
      e_2 = .returned (.int .i64 x46) ∧
      K (.tuple #[.int .i64 x9, .bool (decide (x46 = 0))]) w_4
    ) (
      K (.tuple #[.int .i64 x9, .bool false]) w_2
    )
  )
def bsearch_notes : Notes := ⟨[], [(3, ⟨[(9, .lf (.int .i64)), (10, .lf (.int .i64))], [], [15, 16, 17, 18, 19, 20, 21, 22, 23, 11, 24, 25, 26, 27, 28, 29, 30, 31, 32, 33, 9, 34, 10], []⟩)], []⟩
theorem bsearch_calls (a0 : Option Addr) (n0 : Nat) (c0 : Nat) (x1 : Int) (w : World) (K : Value → World → Prop) (h : bsearch_vc a0 n0 c0 x1 w K) : Calls Try.prog 98 #[.slice a0 n0 c0, .int .i64 x1, .func (.func 99) #[] #[]] w fun e w' => ∃ v, e = .returned v ∧ K v w' :=
  calls_of_fvc envOk Try.func98 bsearch_notes [] [.slice a0 n0 c0, .int .i64 x1, .func (.func 99) #[] #[]] w K (use_vc h (by as_aux_lemma => kernel_rfl))
/-- purser/credit.grants -/
def grants_vc (a0 : Option Addr) (n0 : Nat) (c0 : Nat) (w : World) (K : Value → World → Prop) : Prop :=
  ∃ (I : Int → World → Prop) (μ : Int → World → Nat),
  I 0 w ∧
  ∀ (x7 : Int) (w_2 : World), I x7 w_2 →
  br (decide (x7 < ((n0 : Nat) : Int))) (
    withP a0 fun g10 o10 =>
    (0 : Int) ≤ x7 ∧ x7 < (((n0 : Nat) : Int) : Int) ∧
    ∃ (x11_0 : Int) (x11_1 : Int) (x11_2 : Int) (b11_3 : Bool),
    cellsAt w_2 g10 (o10 + x7.toNat * 4) [.int .i64 x11_0, .int .i64 x11_1, .int .i64 x11_2, .bool b11_3] ∧
    newO w_2 (.cells #[.int .i64 0, .int .i64 0, .int .i64 0, .bool false] 115) fun g w_3 =>
    stO [] w_3 g 0 [.int .i64 x11_0, .int .i64 x11_1, .int .i64 x11_2, .bool b11_3] fun w_4 =>
    ∃ (x13 : Int), w_4.cell? ⟨g, 0, none⟩ = some (.int .i64 x13) ∧
    Calls Try.prog 45 #[.int .i64 x13, .int .i64 1, .int .i64 8] w_4 fun e w_5 => KeepG [] w_4 w_5 ∧
    ∃ (b14 : Bool),
    e = .returned (.bool b14) ∧
    br (!b14) (
      K (.bool false) w_5
    ) (
      ∃ (x18 : Int), w_5.cell? ⟨g, 1, none⟩ = some (.int .i64 x18) ∧
      Calls Try.prog 45 #[.int .i64 x18, .int .i64 0, .int .i64 1073741824] w_5 fun e_2 w_6 => KeepG [] w_5 w_6 ∧
      ∃ (b19 : Bool),
      e_2 = .returned (.bool b19) ∧
      br (!b19) (
        K (.bool false) w_6
      ) (
        ∃ (x24 : Int), w_6.cell? ⟨g, 2, none⟩ = some (.int .i64 x24) ∧
        Calls Try.prog 45 #[.int .i64 x24, .int .i64 0, .int .i64 9007199254740992] w_6 fun e_3 w_7 => KeepG [] w_6 w_7 ∧
        ∃ (b25 : Bool),
        e_3 = .returned (.bool b25) ∧
        br (!b25) (
          K (.bool false) w_7
        ) (
          (0 : Int) ≤ x7 ∧ x7 ≤ (((c0 : Nat) : Int) : Int) ∧
          Calls Try.prog 123 #[.slice a0 x7.toNat c0, .func (.func 124) #[] #[.pointer (some ⟨g, 0, none⟩)]] w_7 fun e_4 w_8 => KeepG [] w_7 w_8 ∧
          ∃ (b32 : Bool),
          e_4 = .returned (.bool b32) ∧
          br b32 (
            K (.bool false) w_8
          ) (
            I (IntKind.i64.wrap (x7 + 1)) w_8 ∧ μ (IntKind.i64.wrap (x7 + 1)) w_8 < μ x7 w_2
          )
        )
      )
    )
  ) (
    K (.bool (decide (((n0 : Nat) : Int) ≤ 4))) w_2
  )
def grants_notes : Notes := ⟨[], [(2, ⟨[(7, .lf (.int .i64))], [], [8, 9, 10, 11, 4, 3, 12, 13, 14, 15, 16, 17, 18, 19, 20, 21, 22, 23, 24, 25, 26, 27, 2, 28, 29, 30, 31, 32, 33, 7], []⟩)], []⟩
theorem grants_calls (a0 : Option Addr) (n0 : Nat) (c0 : Nat) (w : World) (K : Value → World → Prop) (h : grants_vc a0 n0 c0 w K) : Calls Try.prog 101 #[.slice a0 n0 c0] w fun e w' => ∃ v, e = .returned v ∧ K v w' :=
  calls_of_fvc envOk Try.func101 grants_notes [] [.slice a0 n0 c0] w K (use_vc h (by as_aux_lemma => kernel_rfl))
/-- purser/credit.grants$1 -/
def grants1_vc (x0_0 : Int) (x0_1 : Int) (x0_2 : Int) (b0_3 : Bool) (p1 : Option Addr) (w : World) (K : Value → World → Prop) : Prop :=
  newO w (.cells #[.int .i64 x0_0, .int .i64 x0_1, .int .i64 x0_2, .bool b0_3] 115) fun g w_2 =>
  withP p1 fun g6 o6 =>
  ∃ (x7 : Int), w_2.cell? ⟨g6, o6, none⟩ = some (.int .i64 x7) ∧
  K (.bool (decide (x0_0 = x7))) w_2
def grants1_notes : Notes := ⟨[], [], []⟩
theorem grants1_calls (x0_0 : Int) (x0_1 : Int) (x0_2 : Int) (b0_3 : Bool) (p1 : Option Addr) (w : World) (K : Value → World → Prop) (h : grants1_vc x0_0 x0_1 x0_2 b0_3 p1 w K) : Calls Try.prog 124 #[.agg #[.int .i64 x0_0, .int .i64 x0_1, .int .i64 x0_2, .bool b0_3], .pointer p1] w fun e w' => ∃ v, e = .returned v ∧ K v w' :=
  calls_of_fvc envOk Try.func124 grants1_notes [2] [.agg #[.int .i64 x0_0, .int .i64 x0_1, .int .i64 x0_2, .bool b0_3], .pointer p1] w K (use_vc h (by as_aux_lemma => kernel_rfl))
/-- slices.ContainsFunc[[]purser/grant.Grant,purser/grant.Grant] -/
def contains_vc (a0 : Option Addr) (n0 : Nat) (c0 : Nat) (p1_0 : Option Addr) (w : World) (K : Value → World → Prop) : Prop :=
  Calls Try.prog 133 #[.slice a0 n0 c0, .func (.func 124) #[] #[.pointer p1_0]] w fun e w_2 => KeepG [] w w_2 ∧
  ∃ (x7 : Int),
  e = .returned (.int .i64 x7) ∧
  K (.bool (decide (x7 ≥ 0))) w_2
def contains_notes : Notes := ⟨[], [], []⟩
theorem contains_calls (a0 : Option Addr) (n0 : Nat) (c0 : Nat) (p1_0 : Option Addr) (w : World) (K : Value → World → Prop) (h : contains_vc a0 n0 c0 p1_0 w K) : Calls Try.prog 123 #[.slice a0 n0 c0, .func (.func 124) #[] #[.pointer p1_0]] w fun e w' => ∃ v, e = .returned v ∧ K v w' :=
  calls_of_fvc envOk Try.func123 contains_notes [] [.slice a0 n0 c0, .func (.func 124) #[] #[.pointer p1_0]] w K (use_vc h (by as_aux_lemma => kernel_rfl))
/-- slices.IndexFunc[[]purser/grant.Grant,purser/grant.Grant] -/
def index_vc (a0 : Option Addr) (n0 : Nat) (c0 : Nat) (p1_0 : Option Addr) (w : World) (K : Value → World → Prop) : Prop :=
  ∃ (I : Int → World → Prop) (μ : Int → World → Nat),
  I 0 w ∧
  ∀ (x8 : Int) (w_2 : World), I x8 w_2 →
  br (decide (x8 < ((n0 : Nat) : Int))) (
    withP a0 fun g14 o14 =>
    (0 : Int) ≤ x8 ∧ x8 < (((n0 : Nat) : Int) : Int) ∧
    ∃ (x15_0 : Int) (x15_1 : Int) (x15_2 : Int) (b15_3 : Bool),
    cellsAt w_2 g14 (o14 + x8.toNat * 4) [.int .i64 x15_0, .int .i64 x15_1, .int .i64 x15_2, .bool b15_3] ∧
    Calls Try.prog 124 #[.agg #[.int .i64 x15_0, .int .i64 x15_1, .int .i64 x15_2, .bool b15_3], .pointer p1_0] w_2 fun e w_3 => KeepG [] w_2 w_3 ∧
    ∃ (b16 : Bool),
    e = .returned (.bool b16) ∧
    br b16 (
      K (.int .i64 x8) w_3
    ) (
      I (IntKind.i64.wrap (x8 + 1)) w_3 ∧ μ (IntKind.i64.wrap (x8 + 1)) w_3 < μ x8 w_2
    )
  ) (
    K (.int .i64 (-1)) w_2
  )
def index_notes : Notes := ⟨[], [(2, ⟨[(8, .lf (.int .i64))], [], [9, 10, 5, 11, 12, 13, 14, 15, 16, 17, 4, 18, 8], []⟩)], []⟩
theorem index_calls (a0 : Option Addr) (n0 : Nat) (c0 : Nat) (p1_0 : Option Addr) (w : World) (K : Value → World → Prop) (h : index_vc a0 n0 c0 p1_0 w K) : Calls Try.prog 133 #[.slice a0 n0 c0, .func (.func 124) #[] #[.pointer p1_0]] w fun e w' => ∃ v, e = .returned v ∧ K v w' :=
  calls_of_fvc envOk Try.func133 index_notes [] [.slice a0 n0 c0, .func (.func 124) #[] #[.pointer p1_0]] w K (use_vc h (by as_aux_lemma => kernel_rfl))
/-- (purser/credit.Session).right -/
def right_vc (x0_0 : Int) (x0_1 : Int) (x0_2 : Int) (x0_3 : Int) (a0_4 : Option Addr) (n0_4 : Nat) (c0_4 : Nat) (w : World) (K : Value → World → Prop) : Prop :=
  newO w (.cells #[.int .i64 x0_0, .int .i64 x0_1, .int .i64 x0_2, .int .i64 x0_3, .slice a0_4 n0_4 c0_4] 33) fun g w_2 =>
  Calls Try.prog 45 #[.int .i64 x0_0, .int .i64 1, .int .i64 4611686018427387904] w_2 fun e w_3 => KeepG [g] w_2 w_3 ∧
  ∃ (b5 : Bool),
  e = .returned (.bool b5) ∧
  br b5 (
    Calls Try.prog 45 #[.int .i64 x0_1, .int .i64 1, .int .i64 32] w_3 fun e_2 w_4 => KeepG [g] w_3 w_4 ∧
    ∃ (b9 : Bool),
    e_2 = .returned (.bool b9) ∧
    br b9 (
      Calls Try.prog 45 #[.int .i64 x0_2, .int .i64 0, .int .i64 4611686018427387904] w_4 fun e_3 w_5 => KeepG [g] w_4 w_5 ∧
      ∃ (b14 : Bool),
      e_3 = .returned (.bool b14) ∧
      br b14 (
        Calls Try.prog 45 #[.int .i64 x0_3, .int .i64 0, .int .i64 4611686018427387904] w_5 fun e_4 w_6 => KeepG [g] w_5 w_6 ∧
        ∃ (b19 : Bool),
        e_4 = .returned (.bool b19) ∧
        br b19 (
          Calls Try.prog 101 #[.slice a0_4 n0_4 c0_4] w_6 fun e_5 w_7 => KeepG [g] w_6 w_7 ∧
          ∃ (b24 : Bool),
          e_5 = .returned (.bool b24) ∧
          K (.bool b24) w_7
        ) (
          K (.bool false) w_6
        )
      ) (
        K (.bool false) w_5
      )
    ) (
      K (.bool false) w_4
    )
  ) (
    K (.bool false) w_3
  )
def right_notes : Notes := ⟨[], [], []⟩
theorem right_calls (x0_0 : Int) (x0_1 : Int) (x0_2 : Int) (x0_3 : Int) (a0_4 : Option Addr) (n0_4 : Nat) (c0_4 : Nat) (w : World) (K : Value → World → Prop) (h : right_vc x0_0 x0_1 x0_2 x0_3 a0_4 n0_4 c0_4 w K) : Calls Try.prog 48 #[.agg #[.int .i64 x0_0, .int .i64 x0_1, .int .i64 x0_2, .int .i64 x0_3, .slice a0_4 n0_4 c0_4]] w fun e w' => ∃ v, e = .returned v ∧ K v w' :=
  calls_of_fvc envOk Try.func48 right_notes [1] [.agg #[.int .i64 x0_0, .int .i64 x0_1, .int .i64 x0_2, .int .i64 x0_3, .slice a0_4 n0_4 c0_4]] w K (use_vc h (by as_aux_lemma => kernel_rfl))
/-- slices.Clone[[]purser/grant.Grant,purser/grant.Grant] -/
def clone_vc (a0 : Option Addr) (n0 : Nat) (c0 : Nat) (w : World) (K : Value → World → Prop) : Prop :=
  br (Option.isNone a0) (
    K (.slice none 0 0) w
  ) (
    newO w (.cells #[] 115) fun g w_2 =>
    appO Try.prog [] w_2 115 4 32 31 (some ⟨g, 0, none⟩) 0 0 (.slice a0 n0 c0) fun m7 a7 c7 w_3 =>
    K (.slice a7 (0 + m7) c7) w_3
  )
def clone_notes : Notes := ⟨[], [], []⟩
theorem clone_calls (a0 : Option Addr) (n0 : Nat) (c0 : Nat) (w : World) (K : Value → World → Prop) (h : clone_vc a0 n0 c0 w K) : Calls Try.prog 102 #[.slice a0 n0 c0] w fun e w' => ∃ v, e = .returned v ∧ K v w' :=
  calls_of_fvc envOk Try.func102 clone_notes [] [.slice a0 n0 c0] w K (use_vc h (by as_aux_lemma => kernel_rfl))
/-- (purser/credit.Session).copied -/
def copied_vc (x0_0 : Int) (x0_1 : Int) (x0_2 : Int) (x0_3 : Int) (a0_4 : Option Addr) (n0_4 : Nat) (c0_4 : Nat) (w : World) (K : Value → World → Prop) : Prop :=
  newO w (.cells #[.int .i64 x0_0, .int .i64 x0_1, .int .i64 x0_2, .int .i64 x0_3, .slice a0_4 n0_4 c0_4] 33) fun g w_2 =>
  newO w_2 (.cells #[.int .i64 0, .int .i64 0, .int .i64 0, .int .i64 0, .slice none 0 0] 33) fun g_2 w_3 =>
  Calls Try.prog 102 #[.slice a0_4 n0_4 c0_4] w_3 fun e w_4 => KeepG [g_2, g] w_3 w_4 ∧
  ∃ (a5 : Option Addr) (n5 : Nat) (c5 : Nat),
  e = .returned (.slice a5 n5 c5) ∧
  ∀ w_5 : World, BoxSt g w_4 w_5 →
  ∀ w_6 : World, BoxSt g_2 w_5 w_6 →
  K (.agg #[.int .i64 x0_0, .int .i64 x0_1, .int .i64 x0_2, .int .i64 x0_3, .slice a5 n5 c5]) w_6
def copied_notes : Notes := ⟨[], [], []⟩
theorem copied_calls (x0_0 : Int) (x0_1 : Int) (x0_2 : Int) (x0_3 : Int) (a0_4 : Option Addr) (n0_4 : Nat) (c0_4 : Nat) (w : World) (K : Value → World → Prop) (h : copied_vc x0_0 x0_1 x0_2 x0_3 a0_4 n0_4 c0_4 w K) : Calls Try.prog 49 #[.agg #[.int .i64 x0_0, .int .i64 x0_1, .int .i64 x0_2, .int .i64 x0_3, .slice a0_4 n0_4 c0_4]] w fun e w' => ∃ v, e = .returned v ∧ K v w' :=
  calls_of_fvc envOk Try.func49 copied_notes [1, 2] [.agg #[.int .i64 x0_0, .int .i64 x0_1, .int .i64 x0_2, .int .i64 x0_3, .slice a0_4 n0_4 c0_4]] w K (use_vc h (by as_aux_lemma => kernel_rfl))
/-- (*purser/credit.Table).Add -/
def add_vc (p0 : Option Addr) (x1_0 : Int) (x1_1 : Int) (x1_2 : Int) (x1_3 : Int) (a1_4 : Option Addr) (n1_4 : Nat) (c1_4 : Nat) (w : World) (K : Value → World → Prop) : Prop :=
  newO w (.cells #[.int .i64 x1_0, .int .i64 x1_1, .int .i64 x1_2, .int .i64 x1_3, .slice a1_4 n1_4 c1_4] 33) fun g w_2 =>
  br (Option.isNone p0) (
    K (.int .i64 1) w_2
  ) (
    Calls Try.prog 48 #[.agg #[.int .i64 x1_0, .int .i64 x1_1, .int .i64 x1_2, .int .i64 x1_3, .slice a1_4 n1_4 c1_4]] w_2 fun e w_3 => KeepG [g] w_2 w_3 ∧
    ∃ (b10 : Bool),
    e = .returned (.bool b10) ∧
    br (!b10) (
      K (.int .i64 1) w_3
    ) (
      drewO w_3 fun w_4 =>
      withP p0 fun g17 o17 =>
      ∃ (x19 : Int), w_4.cell? ⟨g17, o17 + 1, none⟩ = some (.int .i64 x19) ∧
      br (decide (x1_0 ≤ x19)) (
        K (.int .i64 13) w_4
      ) (
        drewO w_4 fun w_5 =>
        withP p0 fun g23 o23 =>
        ∃ (a25 : Option Addr) (n25 : Nat) (c25 : Nat), w_5.cell? ⟨g23, o23 + 2, none⟩ = some (.slice a25 n25 c25) ∧
        withP p0 fun g28 o28 =>
        ∃ (x30 : Int), w_5.cell? ⟨g28, o28, none⟩ = some (.int .i64 x30) ∧
        br (decide (((n25 : Nat) : Int) = x30)) (
          K (.int .i64 10) w_5
        ) (
          drewO w_5 fun w_6 =>
          withP p0 fun g34 o34 =>
          ∃ (a36 : Option Addr) (n36 : Nat) (c36 : Nat), w_6.cell? ⟨g34, o34 + 2, none⟩ = some (.slice a36 n36 c36) ∧
          Calls Try.prog 49 #[.agg #[.int .i64 x1_0, .int .i64 x1_1, .int .i64 x1_2, .int .i64 x1_3, .slice a1_4 n1_4 c1_4]] w_6 fun e_2 w_7 => KeepG [g] w_6 w_7 ∧
          ∃ (x38_0 : Int) (x38_1 : Int) (x38_2 : Int) (x38_3 : Int) (a38_4 : Option Addr) (n38_4 : Nat) (c38_4 : Nat),
          e_2 = .returned (.agg #[.int .i64 x38_0, .int .i64 x38_1, .int .i64 x38_2, .int .i64 x38_3, .slice a38_4 n38_4 c38_4]) ∧
          w_7.cell? ⟨g34, o34 + 2, none⟩ = some (.slice a36 n36 c36) ∧
          newO w_7 (.cells #[.int .i64 x38_0, .int .i64 x38_1, .int .i64 x38_2, .int .i64 x38_3, .slice a38_4 n38_4 c38_4] 33) fun g_2 w_8 =>
          w_8.cell? ⟨g34, o34 + 2, none⟩ = some (.slice a36 n36 c36) ∧
          appO Try.prog [g] w_8 33 5 56 103 a36 n36 c36 (.slice (some ⟨g_2, 0, none⟩) 1 1) fun m40 a40 c40 w_9 =>
          withP p0 fun g41 o41 =>
          stO [g] w_9 g41 (o41 + 2) [.slice a40 (n36 + m40) c40] fun w_10 =>
          withP p0 fun g46 o46 =>
          stO [g] w_10 g46 (o46 + 1) [.int .i64 x1_0] fun w_11 =>
          K (.int .i64 0) w_11
        )
      )
    )
  )
def add_notes : Notes := ⟨[(3, ⟨[0, 1, 0, 4, 12, 28, 63, 127], [], [0, 1, 2, 3, 4, 5, 6, 7]⟩), (5, ⟨[0, 1, 3, 7, 15, 0, 32, 96, 224, 511, 1023], [], [0, 1, 2, 3, 4, 5, 6, 7, 8, 9, 10]⟩), (7, ⟨[0, 0, 2, 6, 14, 0, 32, 96, 254, 511, 1023, 2047], [6, 7, 8, 11], [0, 1, 2, 3, 4, 5, 9, 10]⟩)], [], []⟩
theorem add_calls (p0 : Option Addr) (x1_0 : Int) (x1_1 : Int) (x1_2 : Int) (x1_3 : Int) (a1_4 : Option Addr) (n1_4 : Nat) (c1_4 : Nat) (w : World) (K : Value → World → Prop) (h : add_vc p0 x1_0 x1_1 x1_2 x1_3 a1_4 n1_4 c1_4 w K) : Calls Try.prog 14 #[.pointer p0, .agg #[.int .i64 x1_0, .int .i64 x1_1, .int .i64 x1_2, .int .i64 x1_3, .slice a1_4 n1_4 c1_4]] w fun e w' => ∃ v, e = .returned v ∧ K v w' :=
  calls_of_fvc envOk Try.func14 add_notes [3] [.pointer p0, .agg #[.int .i64 x1_0, .int .i64 x1_1, .int .i64 x1_2, .int .i64 x1_3, .slice a1_4 n1_4 c1_4]] w K (use_vc h (by as_aux_lemma => kernel_rfl))
/-- slices.Delete[[]purser/credit.Session,purser/credit.Session] -/
def delete_vc (a0 : Option Addr) (n0 : Nat) (c0 : Nat) (x1 : Int) (x2 : Int) (w : World) (K : Value → World → Prop) : Prop :=
  (0 : Int) ≤ x1 ∧ x1 ≤ x2 ∧ x2 ≤ ((n0 : Nat) : Int) ∧ ((n0 : Nat) : Int) ≤ (((c0 : Nat) : Int) : Int) ∧
  br (decide (x1 = x2)) (
    K (.slice a0 n0 c0) w
  ) (
    drewO w fun w_2 =>
    (0 : Int) ≤ x1 ∧ x1 ≤ (((c0 : Nat) : Int) : Int) ∧
    (0 : Int) ≤ x2 ∧ x2 ≤ (((n0 : Nat) : Int) : Int) ∧
    appO Try.prog [] w_2 33 5 56 103 a0 x1.toNat c0 (.slice (sliceBase a0 c0 x2.toNat 5) (n0 - x2.toNat) (c0 - x2.toNat)) fun m26 a26 c26 w_3 =>
    (0 : Int) ≤ ((x1.toNat + m26 : Nat) : Int) ∧ ((x1.toNat + m26 : Nat) : Int) ≤ ((n0 : Nat) : Int) ∧ ((n0 : Nat) : Int) ≤ (((c26 : Nat) : Int) : Int) ∧
    clrO [] w_3 (sliceBase a26 c26 (((x1.toNat + m26 : Nat) : Int).toNat) 5) (repL (((n0 : Nat) : Int).toNat - ((x1.toNat + m26 : Nat) : Int).toNat) [.int .i64 0, .int .i64 0, .int .i64 0, .int .i64 0, .slice none 0 0]) fun w_4 =>
    K (.slice a26 (x1.toNat + m26) c26) w_4
  )
def delete_notes : Notes := ⟨[(5, ⟨[0, 0, 3, 0, 0, 24, 63, 127], [6], [0, 1, 2, 3, 4, 5, 7]⟩)], [], []⟩
theorem delete_calls (a0 : Option Addr) (n0 : Nat) (c0 : Nat) (x1 : Int) (x2 : Int) (w : World) (K : Value → World → Prop) (h : delete_vc a0 n0 c0 x1 x2 w K) : Calls Try.prog 47 #[.slice a0 n0 c0, .int .i64 x1, .int .i64 x2] w fun e w' => ∃ v, e = .returned v ∧ K v w' :=
  calls_of_fvc envOk Try.func47 delete_notes [] [.slice a0 n0 c0, .int .i64 x1, .int .i64 x2] w K (use_vc h (by as_aux_lemma => kernel_rfl))
/-- (*purser/credit.Table).End -/
def tend_vc (p0 : Option Addr) (x1 : Int) (w : World) (K : Value → World → Prop) : Prop :=
  Calls Try.prog 46 #[.pointer p0, .int .i64 x1] w fun e w_2 => KeepG [] w w_2 ∧
  ∃ (x10_0 : Int) (x10_1 : Int),
  e = .returned (.tuple #[.int .i64 x10_0, .int .i64 x10_1]) ∧
  br (decide (x10_1 ≠ 0)) (
    K (.int .i64 x10_1) w_2
  ) (
    withP p0 fun g18 o18 =>
    ∃ (a20 : Option Addr) (n20 : Nat) (c20 : Nat), w_2.cell? ⟨g18, o18 + 2, none⟩ = some (.slice a20 n20 c20) ∧
    Calls Try.prog 47 #[.slice a20 n20 c20, .int .i64 x10_0, .int .i64 (IntKind.i64.wrap (x10_0 + 1))] w_2 fun e_2 w_3 => KeepG [] w_2 w_3 ∧
    ∃ (a24 : Option Addr) (n24 : Nat) (c24 : Nat),
    e_2 = .returned (.slice a24 n24 c24) ∧
    withP p0 fun g25 o25 =>
    stO [] w_3 g25 (o25 + 2) [.slice a24 n24 c24] fun w_4 =>
    K (.int .i64 0) w_4
  )
def tend_notes : Notes := ⟨[], [], []⟩
theorem tend_calls (p0 : Option Addr) (x1 : Int) (w : World) (K : Value → World → Prop) (h : tend_vc p0 x1 w K) : Calls Try.prog 13 #[.pointer p0, .int .i64 x1] w fun e w' => ∃ v, e = .returned v ∧ K v w' :=
  calls_of_fvc envOk Try.func13 tend_notes [] [.pointer p0, .int .i64 x1] w K (use_vc h (by as_aux_lemma => kernel_rfl))
/-- (*purser/credit.Table).Ids -/
def ids_vc (p0 : Option Addr) (w : World) (K : Value → World → Prop) : Prop :=
  br (Option.isNone p0) (
    K (.slice none 0 0) w
  ) (
    withP p0 fun g9 o9 =>
    ∃ (a11 : Option Addr) (n11 : Nat) (c11 : Nat), w.cell? ⟨g9, o9 + 2, none⟩ = some (.slice a11 n11 c11) ∧
    ∃ (I : Option Addr → Nat → Nat → Int → World → Prop) (μ : Option Addr → Nat → Nat → Int → World → Nat),
    I none 0 0 0 w ∧
    ∀ (a3 : Option Addr) (n3 : Nat) (c3 : Nat) (x13 : Int) (w_2 : World), I a3 n3 c3 x13 w_2 →
    br (decide (x13 < ((n11 : Nat) : Int))) (
      withP a11 fun g15 o15 =>
      (0 : Int) ≤ x13 ∧ x13 < (((n11 : Nat) : Int) : Int) ∧
      ∃ (x16_0 : Int) (x16_1 : Int) (x16_2 : Int) (x16_3 : Int) (a16_4 : Option Addr) (n16_4 : Nat) (c16_4 : Nat),
      cellsAt w_2 g15 (o15 + x13.toNat * 5) [.int .i64 x16_0, .int .i64 x16_1, .int .i64 x16_2, .int .i64 x16_3, .slice a16_4 n16_4 c16_4] ∧
      newO w_2 (.cells #[.int .i64 0, .int .i64 0, .int .i64 0, .int .i64 0, .slice none 0 0] 33) fun g w_3 =>
      ∀ w_4 : World, BoxSt g w_3 w_4 →
      newO w_4 (.cells #[.int .i64 x16_0] 3) fun g_2 w_5 =>
      appO Try.prog [g] w_5 3 1 8 22 a3 n3 c3 (.slice (some ⟨g_2, 0, none⟩) 1 1) fun m21 a21 c21 w_6 =>
      I a21 (n3 + m21) c21 (IntKind.i64.wrap (x13 + 1)) w_6 ∧ μ a21 (n3 + m21) c21 (IntKind.i64.wrap (x13 + 1)) w_6 < μ a3 n3 c3 x13 w_2
    ) (
      K (.slice a3 n3 c3) w_2
    )
  )
def ids_notes : Notes := ⟨[], [(5, ⟨[(3, .lf (.slice)), (13, .lf (.int .i64))], [], [14, 15, 16, 5, 17, 18, 19, 20, 21, 3, 22, 13], [5]⟩)], []⟩
theorem ids_calls (p0 : Option Addr) (w : World) (K : Value → World → Prop) (h : ids_vc p0 w K) : Calls Try.prog 16 #[.pointer p0] w fun e w' => ∃ v, e = .returned v ∧ K v w' :=
  calls_of_fvc envOk Try.func16 ids_notes [5] [.pointer p0] w K (use_vc h (by as_aux_lemma => kernel_rfl))
/-- (*purser/credit.Table).Last -/
def last_vc (p0 : Option Addr) (w : World) (K : Value → World → Prop) : Prop :=
  br (Option.isNone p0) (
    K (.int .i64 0) w
  ) (
    withP p0 fun g6 o6 =>
    ∃ (x8 : Int), w.cell? ⟨g6, o6 + 1, none⟩ = some (.int .i64 x8) ∧
    K (.int .i64 x8) w
  )
def last_notes : Notes := ⟨[], [], []⟩
theorem last_calls (p0 : Option Addr) (w : World) (K : Value → World → Prop) (h : last_vc p0 w K) : Calls Try.prog 17 #[.pointer p0] w fun e w' => ∃ v, e = .returned v ∧ K v w' :=
  calls_of_fvc envOk Try.func17 last_notes [] [.pointer p0] w K (use_vc h (by as_aux_lemma => kernel_rfl))
/-- purser/purserref01.Same -/
def same_vc (a0 : Option Addr) (n0 : Nat) (c0 : Nat) (a1 : Option Addr) (n1 : Nat) (c1 : Nat) (w : World) (K : Value → World → Prop) : Prop :=
  br (decide (((n0 : Nat) : Int) ≠ ((n1 : Nat) : Int))) (
    K (.bool false) w
  ) (
    ∃ (I : Int → World → Prop) (μ : Int → World → Nat),
    I 0 w ∧
    ∀ (x5 : Int) (w_2 : World), I x5 w_2 →
    br (decide (x5 < ((n0 : Nat) : Int))) (
      drewO w_2 fun w_3 =>
      withP a0 fun g19 o19 =>
      (0 : Int) ≤ x5 ∧ x5 < (((n0 : Nat) : Int) : Int) ∧
      ∃ (x20 : Int), w_3.cell? ⟨g19, o19 + x5.toNat * 1, none⟩ = some (.int .i64 x20) ∧
      withP a1 fun g23 o23 =>
      (0 : Int) ≤ x5 ∧ x5 < (((n1 : Nat) : Int) : Int) ∧
      ∃ (x24 : Int), w_3.cell? ⟨g23, o23 + x5.toNat * 1, none⟩ = some (.int .i64 x24) ∧
      br (decide (x20 ≠ x24)) (
        K (.bool false) w_3
      ) (
        I (IntKind.i64.wrap (x5 + 1)) w_3 ∧ μ (IntKind.i64.wrap (x5 + 1)) w_3 < μ x5 w_2
      )
    ) (
      K (.bool true) w_2
    )
  )
def same_notes : Notes := ⟨[(6, ⟨[0, 0, 3, 7, 0, 0, 48, 112, 255], [], [0, 1, 2, 3, 4, 5, 6, 7, 8]⟩)], [(4, ⟨[(5, .lf (.int .i64))], [], [11, 12, 13, 14, 17, 18, 19, 20, 21, 22, 23, 24, 25, 4, 15, 16, 5], []⟩)], []⟩
theorem same_calls (a0 : Option Addr) (n0 : Nat) (c0 : Nat) (a1 : Option Addr) (n1 : Nat) (c1 : Nat) (w : World) (K : Value → World → Prop) (h : same_vc a0 n0 c0 a1 n1 c1 w K) : Calls Try.prog 15 #[.slice a0 n0 c0, .slice a1 n1 c1] w fun e w' => ∃ v, e = .returned v ∧ K v w' :=
  calls_of_fvc envOk Try.func15 same_notes [] [.slice a0 n0 c0, .slice a1 n1 c1] w K (use_vc h (by as_aux_lemma => kernel_rfl))
/-- purser/purserlaw17.credits -/
def credits_vc  (w : World) (K : Value → World → Prop) : Prop :=
  Calls Try.prog 11 #[.int .i64 2] w fun e w_2 => KeepG [] w w_2 ∧
  ∃ (p4_0 : Option Addr) (x4_1 : Int),
  e = .returned (.tuple #[.pointer p4_0, .int .i64 x4_1]) ∧
  br (decide (x4_1 = 0)) (
    Calls Try.prog 14 #[.pointer p4_0, .agg #[.int .i64 5, .int .i64 1, .int .i64 0, .int .i64 0, .slice none 0 0]] w_2 fun e_2 w_3 => KeepG [] w_2 w_3 ∧
    ∃ (x12 : Int),
    e_2 = .returned (.int .i64 x12) ∧
    br (decide (x12 = 0)) (
      Calls Try.prog 13 #[.pointer p4_0, .int .i64 5] w_3 fun e_3 w_4 => KeepG [] w_3 w_4 ∧
      ∃ (x17 : Int),
      e_3 = .returned (.int .i64 x17) ∧
      br (decide (x17 = 0)) (
        Calls Try.prog 14 #[.pointer p4_0, .agg #[.int .i64 5, .int .i64 1, .int .i64 0, .int .i64 0, .slice none 0 0]] w_4 fun e_4 w_5 => KeepG [] w_4 w_5 ∧
        ∃ (x23 : Int),
        e_4 = .returned (.int .i64 x23) ∧
        br (decide (x23 = 13)) (
          Calls Try.prog 17 #[.pointer p4_0] w_5 fun e_5 w_6 => KeepG [] w_5 w_6 ∧
          ∃ (x28 : Int),
          e_5 = .returned (.int .i64 x28) ∧
          K (.bool (decide (x28 = 5))) w_6
        ) (
          K (.bool false) w_5
        )
      ) (
        K (.bool false) w_4
      )
    ) (
      K (.bool false) w_3
    )
  ) (
    K (.bool false) w_2
  )
def credits_notes : Notes := ⟨[], [], []⟩
theorem credits_calls  (w : World) (K : Value → World → Prop) (h : credits_vc  w K) : Calls Try.prog 12 #[] w fun e w' => ∃ v, e = .returned v ∧ K v w' :=
  calls_of_fvc envOk Try.func12 credits_notes [] [] w K (use_vc h (by as_aux_lemma => kernel_rfl))
/-- purser/purserlaw17.CreditTurns -/
def lTurns_vc (x0 : Int) (a1 : Option Addr) (n1 : Nat) (c1 : Nat) (w : World) (K : Value → World → Prop) : Prop :=
  (16 : Int) ≠ 0 ∧
  Calls Try.prog 11 #[.int .i64 (IntKind.i64.wrap (1 + (IntKind.i64.wrap (Int.tmod (IntKind.u64.wrap x0) 16))))] w fun e w_2 => KeepG [] w w_2 ∧
  ∃ (p18_0 : Option Addr) (x18_1 : Int),
  e = .returned (.tuple #[.pointer p18_0, .int .i64 x18_1]) ∧
  Calls Try.prog 12 #[] w_2 fun e_2 w_3 => KeepG [] w_2 w_3 ∧
  ∃ (b21 : Bool),
  e_2 = .returned (.bool b21) ∧
  br (!b21) (
    K (.bool false) w_3
  ) (
    br (decide (x18_1 ≠ 0)) (
      K (.bool false) w_3
    ) (
      ∃ (I : Int → Option Addr → Nat → Nat → Int → World → Prop) (μ : Int → Option Addr → Nat → Nat → Int → World → Nat),
      I 0 none 0 0 0 w_3 ∧
      ∀ (x7 : Int) (a8 : Option Addr) (n8 : Nat) (c8 : Nat) (x9 : Int) (w_4 : World), I x7 a8 n8 c8 x9 w_4 →
      ∃ (J : Bool → World → Prop), (
        br (decide (x9 < ((n1 : Nat) : Int))) (
          J (decide (x9 < 60)) w_4
        ) (
          J false w_4
        )
      ) ∧
      ∀ (b34 : Bool) (w_5 : World), J b34 w_5 →
      br b34 (
        ∃ (J_2 : Bool → World → Prop), (
          br (decide (((n8 : Nat) : Int) = (IntKind.i64.wrap (1 + (IntKind.i64.wrap (Int.tmod (IntKind.u64.wrap x0) 16)))))) (
            J_2 true w_5
          ) (
            br (decide (((n8 : Nat) : Int) > 0)) (
              withP a1 fun g48 o48 =>
              (0 : Int) ≤ x9 ∧ x9 < (((n1 : Nat) : Int) : Int) ∧
              ∃ (x49 : Int), w_5.cell? ⟨g48, o48 + x9.toNat * 1, none⟩ = some (.int .i64 x49) ∧
              (3 : Int) ≠ 0 ∧
              J_2 (decide ((Int.tmod x49 3) = 0)) w_5
            ) (
              J_2 false w_5
            )
          )
        ) ∧
        ∀ (b53 : Bool) (w_6 : World), J_2 b53 w_6 →
        br b53 (
          ∃ (J_3 : Int → World → Prop), (
            withP a1 fun g56 o56 =>
            (0 : Int) ≤ x9 ∧ x9 < (((n1 : Nat) : Int) : Int) ∧
            ∃ (x57 : Int), w_6.cell? ⟨g56, o56 + x9.toNat * 1, none⟩ = some (.int .i64 x57) ∧
            ((IntKind.u64.wrap ((n8 : Nat) : Int)) : Int) ≠ 0 ∧
            J_3 (IntKind.i64.wrap (Int.tmod (IntKind.u64.wrap x57) (IntKind.u64.wrap ((n8 : Nat) : Int)))) w_6
          ) ∧
          ∀ (x10 : Int) (w_7 : World), J_3 x10 w_7 →
          withP a8 fun g67 o67 =>
          (0 : Int) ≤ x10 ∧ x10 < (((n8 : Nat) : Int) : Int) ∧
          ∃ (x68 : Int), w_7.cell? ⟨g67, o67 + x10.toNat * 1, none⟩ = some (.int .i64 x68) ∧
          Calls Try.prog 13 #[.pointer p18_0, .int .i64 x68] w_7 fun e_3 w_8 => KeepG [] w_7 w_8 ∧
          ∃ (x69 : Int),
          e_3 = .returned (.int .i64 x69) ∧
          br (decide (x69 ≠ 0)) (
            K (.bool false) w_8
          ) (
            withP a8 fun g75 o75 =>
            (0 : Int) ≤ x10 ∧ x10 < (((n8 : Nat) : Int) : Int) ∧
            ∃ (x76 : Int), w_8.cell? ⟨g75, o75 + x10.toNat * 1, none⟩ = some (.int .i64 x76) ∧
            Calls Try.prog 14 #[.pointer p18_0, .agg #[.int .i64 x76, .int .i64 1, .int .i64 0, .int .i64 0, .slice none 0 0]] w_8 fun e_4 w_9 => KeepG [] w_8 w_9 ∧
            ∃ (x78 : Int),
            e_4 = .returned (.int .i64 x78) ∧
            br (decide (x78 ≠ 13)) (
              K (.bool false) w_9
            ) (
              drewO w_9 fun w_10 =>
              (0 : Int) ≤ x10 ∧ x10 ≤ (((c8 : Nat) : Int) : Int) ∧
              (0 : Int) ≤ IntKind.i64.wrap (x10 + 1) ∧ IntKind.i64.wrap (x10 + 1) ≤ (((n8 : Nat) : Int) : Int) ∧
              newO w_10 (.cells #[] 3) fun g w_11 =>
              appO Try.prog [] w_11 3 1 8 22 (some ⟨g, 0, none⟩) 0 0 (.slice a8 x10.toNat c8) fun m85 a85 c85 w_12 =>
              appO Try.prog [] w_12 3 1 8 22 a85 (0 + m85) c85 (.slice (sliceBase a8 c8 ((IntKind.i64.wrap (x10 + 1)).toNat) 1) (n8 - (IntKind.i64.wrap (x10 + 1)).toNat) (c8 - (IntKind.i64.wrap (x10 + 1)).toNat)) fun m90 a90 c90 w_13 =>
              I x7 a90 ((0 + m85) + m90) c90 (IntKind.i64.wrap (x9 + 1)) w_13 ∧ μ x7 a90 ((0 + m85) + m90) c90 (IntKind.i64.wrap (x9 + 1)) w_13 < μ x7 a8 n8 c8 x9 w_4
            )
          )
        ) (
          withP a1 fun g95 o95 =>
          (0 : Int) ≤ x9 ∧ x9 < (((n1 : Nat) : Int) : Int) ∧
          ∃ (x96 : Int), w_6.cell? ⟨g95, o95 + x9.toNat * 1, none⟩ = some (.int .i64 x96) ∧
          (4 : Int) ≠ 0 ∧
          (32 : Int) ≠ 0 ∧
          Calls Try.prog 14 #[.pointer p18_0, .agg #[.int .i64 (IntKind.i64.wrap ((IntKind.i64.wrap (x7 + 1)) + (IntKind.i64.wrap (Int.tmod (IntKind.u64.wrap x96) 4)))), .int .i64 (IntKind.i64.wrap (1 + (Int.tmod x9 32))), .int .i64 0, .int .i64 0, .slice none 0 0]] w_6 fun e_5 w_14 => KeepG [] w_6 w_14 ∧
          ∃ (x107 : Int),
          e_5 = .returned (.int .i64 x107) ∧
          br (decide (x107 ≠ 0)) (
            K (.bool false) w_14
          ) (
            newO w_14 (.cells #[.int .i64 (IntKind.i64.wrap ((IntKind.i64.wrap (x7 + 1)) + (IntKind.i64.wrap (Int.tmod (IntKind.u64.wrap x96) 4))))] 3) fun g_2 w_15 =>
            appO Try.prog [] w_15 3 1 8 22 a8 n8 c8 (.slice (some ⟨g_2, 0, none⟩) 1 1) fun m112 a112 c112 w_16 =>
            I (IntKind.i64.wrap ((IntKind.i64.wrap (x7 + 1)) + (IntKind.i64.wrap (Int.tmod (IntKind.u64.wrap x96) 4)))) a112 (n8 + m112) c112 (IntKind.i64.wrap (x9 + 1)) w_16 ∧ μ (IntKind.i64.wrap ((IntKind.i64.wrap (x7 + 1)) + (IntKind.i64.wrap (Int.tmod (IntKind.u64.wrap x96) 4)))) a112 (n8 + m112) c112 (IntKind.i64.wrap (x9 + 1)) w_16 < μ x7 a8 n8 c8 x9 w_4
          )
        )
      ) (
        Calls Try.prog 16 #[.pointer p18_0] w_5 fun e_6 w_17 => KeepG [] w_5 w_17 ∧
        ∃ (a114 : Option Addr) (n114 : Nat) (c114 : Nat),
        e_6 = .returned (.slice a114 n114 c114) ∧
        Calls Try.prog 15 #[.slice a114 n114 c114, .slice a8 n8 c8] w_17 fun e_7 w_18 => KeepG [] w_17 w_18 ∧
        ∃ (b116 : Bool),
        e_7 = .returned (.bool b116) ∧
        br b116 (
          Calls Try.prog 17 #[.pointer p18_0] w_18 fun e_8 w_19 => KeepG [] w_18 w_19 ∧
          ∃ (x119 : Int),
          e_8 = .returned (.int .i64 x119) ∧
          K (.bool (decide (x119 = x7))) w_19
        ) (
          K (.bool false) w_18
        )
      )
    )
  )
def lTurns_notes : Notes := ⟨[(14, ⟨[0, 0, 0, 6, 15, 0, 0, 64, 224, 511, 1023], [0, 4, 9], [1, 2, 3, 5, 6, 7, 8, 10]⟩)], [(8, ⟨[(7, .lf (.int .i64)), (8, .lf (.slice)), (9, .lf (.int .i64))], [], [27, 28, 29, 30, 31, 32, 33, 34, 37, 38, 39, 40, 41, 42, 43, 44, 45, 46, 47, 48, 49, 50, 51, 52, 53, 54, 55, 56, 57, 58, 59, 60, 61, 62, 63, 10, 64, 65, 66, 67, 68, 69, 70, 71, 72, 73, 74, 75, 76, 77, 78, 79, 80, 4, 81, 82, 83, 84, 85, 86, 87, 88, 89, 90, 8, 91, 92, 93, 94, 95, 96, 97, 98, 99, 100, 7, 101, 102, 103, 104, 105, 106, 107, 108, 109, 110, 111, 112, 35, 36, 9], []⟩)], [((0, 8), ⟨[(34, .lf (.bool))], [], [27, 28, 29, 30, 31, 32, 33, 34], []⟩), ((0, 10), ⟨[(53, .lf (.bool))], [], [37, 38, 39, 40, 41, 42, 43, 44, 45, 46, 47, 48, 49, 50, 51, 52, 53], []⟩), ((0, 11), ⟨[(10, .lf (.int .i64))], [], [54, 55, 56, 57, 58, 59, 60, 61, 62, 63, 10], []⟩)]⟩
theorem lTurns_calls (x0 : Int) (a1 : Option Addr) (n1 : Nat) (c1 : Nat) (w : World) (K : Value → World → Prop) (h : lTurns_vc x0 a1 n1 c1 w K) : Calls Try.prog 3 #[.int .i64 x0, .slice a1 n1 c1] w fun e w' => ∃ v, e = .returned v ∧ K v w' :=
  calls_of_fvc envOk Try.func3 lTurns_notes [] [.int .i64 x0, .slice a1 n1 c1] w K (use_vc h (by as_aux_lemma => kernel_rfl))
end GCred
end Go.Proofs.Ytamlgnhnmilbdaa
end
section
/- A table of sessions in memory; what finds a session, and asks whether it is one. -/
namespace Go.Proofs.Ytamlgnhnmilbdaa
open Go.RowKit
structure Gr4 where
  grp : Int
  units : Int
  amount : Int
  fin : Bool
structure Ses where
  id : Int
  node : Int
  num : Int
  dl : Int
  gs : List Gr4
def g4Cells (g : Gr4) : List Value := [.int .i64 g.grp, .int .i64 g.units, .int .i64 g.amount, .bool g.fin]
/-- Grants in memory, in blocks of M. -/
def GrIn (w : World) (M : List Nat) (a : Option Addr) (gs : List Gr4) : Prop := gs = [] ∨ ∃ b off, a = some ⟨b, off, none⟩ ∧ b ∈ M ∧ ∀ (i : Nat) (g : Gr4), gs[i]? = some g → cellsAt w b (off + i * 4) (g4Cells g)
def SesR (w : World) (M : List Nat) (s : Ses) (cs : List Value) : Prop := ∃ a c, cs = [.int .i64 s.id, .int .i64 s.node, .int .i64 s.num, .int .i64 s.dl, .slice a s.gs.length c] ∧ GrIn w M a s.gs ∧ s.gs.length ≤ c
theorem GrIn.keep {w w' : World} {M : List Nat} {a : Option Addr} {gs : List Gr4} (h : GrIn w M a gs) (hk : ∀ b ∈ M, w'.heap[b]? = w.heap[b]?) : GrIn w' M a gs := by
  rcases h with h | ⟨b, off, ha, hb, h⟩
  · exact .inl h
  · exact .inr ⟨b, off, ha, hb, fun i g hg => cellsAt_keep (hk b hb) (h i g hg)⟩
theorem sesR : RStable SesR 5 where
  len := by rintro w M e cs ⟨a, c, rfl, _⟩; rfl
  keep := by rintro w w' M e cs ⟨a, c, h1, h2, h3⟩ hk; exact ⟨a, c, h1, h2.keep hk, h3⟩
  mono := by
    rintro w M K e cs ⟨a, c, h1, h2, h3⟩ hs
    refine ⟨a, c, h1, ?_, h3⟩
    rcases h2 with h | ⟨b, off, ha, hb, h⟩
    · exact .inl h
    · exact .inr ⟨b, off, ha, hs b hb, h⟩
def tabF (pl la : Int) (kv : Value) : Array Value := #[.int .i64 pl, .int .i64 la, kv]
abbrev TabAt (w : World) (L : List Nat) (p : Nat) (pl la : Int) (es : List Ses) : Prop := LAt SesR 5 33 105 w L p (tabF pl la) es
abbrev TabRaw (w : World) (L : List Nat) (n0 p : Nat) (pl la : Int) (es : List Ses) (kv : Value) (xs : List Value) (M : List Nat) : Prop := LRaw SesR 5 33 105 w L n0 p (tabF pl la) es kv xs M
theorem within_any (x lo hi : Int) (w : World) : Calls Try.prog 45 #[.int .i64 x, .int .i64 lo, .int .i64 hi] w fun e w' => e = .returned (.bool (decide (lo ≤ x ∧ x ≤ hi))) ∧ w = w' := by
  refine (GCred.within_calls x lo hi w (fun v w' => v = .bool (decide (lo ≤ x ∧ x ≤ hi)) ∧ w = w') ?_).mono (by rintro e w' ⟨v, rfl, rfl, rfl⟩; exact ⟨rfl, rfl⟩)
  unfold GCred.within_vc
  refine br_dec (fun h => ⟨?_, rfl⟩) fun h => ⟨?_, rfl⟩
  · congr 1; exact decide_eq_decide.2 (by omega)
  · congr 1; exact (decide_eq_false (by omega)).symm
theorem nan_any (x : Int) (w : World) : Calls Try.prog 122 #[.int .i64 x] w fun e w' => e = .returned (.bool false) ∧ w = w' := by
  refine (GCred.isNaN_calls x w (fun v w' => v = .bool false ∧ w = w') ?_).mono (by rintro e w' ⟨v, rfl, rfl, rfl⟩; exact ⟨rfl, rfl⟩)
  exact ⟨by simp, rfl⟩
theorem cmp_any (x y : Int) (w : World) : Calls Try.prog 100 #[.int .i64 x, .int .i64 y] w fun e w' => e = .returned (.int .i64 (if x < y then -1 else if x > y then 1 else 0)) ∧ w = w' := by
  refine (GCred.cmp_calls x y w (fun v w' => v = .int .i64 (if x < y then -1 else if x > y then 1 else 0) ∧ w = w') ?_).mono (by rintro e w' ⟨v, rfl, rfl, rfl⟩; exact ⟨rfl, rfl⟩)
  unfold GCred.cmp_vc
  refine (nan_any x w).mono ?_
  rintro e w2 ⟨rfl, rfl⟩
  refine ⟨keepG_nil _ _, _, rfl, (nan_any y w).mono ?_⟩
  rintro e w2 ⟨rfl, rfl⟩
  refine ⟨keepG_nil _ _, _, rfl, br_f rfl (br_f rfl (br_dec (fun h => ⟨?_, rfl⟩) fun h => br_dec (fun h2 => ⟨?_, rfl⟩) fun h2 => ⟨?_, rfl⟩))⟩
  · rw [if_pos h]
  · rw [if_neg h, if_pos h2]
  · rw [if_neg h, if_neg h2]
theorem find1_any (s : Ses) (a : Option Addr) (n c : Nat) (x : Int) (w : World) : Calls Try.prog 99 #[.agg #[.int .i64 s.id, .int .i64 s.node, .int .i64 s.num, .int .i64 s.dl, .slice a n c], .int .i64 x] w fun e w' => e = .returned (.int .i64 (if s.id < x then -1 else if s.id > x then 1 else 0)) ∧ Below w.heap.size w w' := by
  refine (GCred.find1_calls s.id s.node s.num s.dl a n c x w (fun v w' => v = .int .i64 (if s.id < x then -1 else if s.id > x then 1 else 0) ∧ Below w.heap.size w w') ?_).mono (by rintro e w' ⟨v, rfl, rfl, h⟩; exact ⟨rfl, h⟩)
  unfold GCred.find1_vc
  refine newO_in fun w2 h2 b2 s2 => (cmp_any s.id x w2).mono ?_
  rintro e w3 ⟨rfl, rfl⟩
  exact ⟨fun _ _ _ => rfl, _, rfl, rfl, b2⟩
/-- The numbers rise. -/
def Ids (es : List Ses) : Prop := ∀ (i j : Nat) (s t : Ses), i < j → es[i]? = some s → es[j]? = some t → s.id < t.id
theorem search_any {w : World} {L M : List Nat} {n0 p : Nat} {pl la : Int} {es : List Ses} {a : Option Addr} {c : Nat} {xs : List Value} (h : TabRaw w L n0 p pl la es (.slice a es.length c) xs M) (hl : es.length ≤ 1000) (hs : Ids es) (x : Int) :
    Calls Try.prog 98 #[.slice a es.length c, .int .i64 x, .func (.func 99) #[] #[]] w fun e w' => (∃ (i : Nat) (b : Bool), e = .returned (.tuple #[.int .i64 i, .bool b]) ∧ (b = true → ∃ s, es[i]? = some s ∧ s.id = x) ∧ (b = false → ∀ s ∈ es, s.id ≠ x)) ∧ Below w.heap.size w w' := by
  refine (GCred.bsearch_calls a es.length c x w (fun v w' => (∃ (i : Nat) (b : Bool), v = .tuple #[.int .i64 i, .bool b] ∧ (b = true → ∃ s, es[i]? = some s ∧ s.id = x) ∧ (b = false → ∀ s ∈ es, s.id ≠ x)) ∧ Below w.heap.size w w') ?_).mono (by rintro e w' ⟨v, rfl, ⟨i, b, rfl, h⟩, h2⟩; exact ⟨⟨i, b, rfl, h⟩, h2⟩)
  unfold GCred.bsearch_vc
  refine ⟨fun x9 x10 wx => ∃ i j : Nat, x9 = i ∧ x10 = j ∧ i ≤ j ∧ j ≤ es.length ∧ (∀ (m : Nat) s, m < i → es[m]? = some s → s.id < x) ∧ (∀ (m : Nat) s, j ≤ m → es[m]? = some s → x ≤ s.id) ∧ Below w.heap.size w wx, fun x9 x10 _ => x10.toNat - x9.toNat, ⟨0, es.length, rfl, rfl, by omega, by omega, fun m s h => by omega, fun m s h h2 => ?_, Below.refl _ _⟩, ?_⟩
  · have := (List.getElem?_eq_some_iff.1 h2).1; omega
  rintro x9 x10 wx ⟨i, j, rfl, rfl, hij, hj, hlo, hhi, hb⟩
  have hw := h.below sesR hb
  refine br_dec (fun hlt => ?_) fun hge => ?_
  · have hm : IntKind.i64.wrap (Int.fdiv (IntKind.u64.wrap (IntKind.i64.wrap ((i : Int) + (j : Int)))) (2 ^ (min (1 : Int).toNat (IntKind.bits .u64)))) = (((i + j) / 2 : Nat) : Int) := by
      rw [wr64 (z := (i : Int) + (j : Int)) (by omega) (by omega), wru64 (by omega) (by omega)]
      rw [show (2 : Int) ^ (min (1 : Int).toNat (IntKind.bits .u64)) = 2 from rfl, Int.fdiv_eq_ediv_of_nonneg _ (by omega), wr64 (by omega) (by omega)]
      omega
    rw [hm]
    generalize hq : (i + j) / 2 = m
    have hml : m < es.length := by omega
    obtain ⟨cs, ⟨a', c', rfl, _, _⟩, b, off, rfl, _, hc⟩ := hw.els.cells sesR hw.own (List.getElem?_eq_getElem hml)
    refine ⟨by omega, by omega, by omega, _, _, _, _, _, _, _, by rw [Int.toNat_natCast]; exact hc, (find1_any es[m] a' _ c' x wx).mono ?_⟩
    rintro e w3 ⟨rfl, b3⟩
    have B3 := hb.trans (b3.mono hb.size)
    refine ⟨keepG_nil _ _, _, rfl, br_dec (fun h1 => ?_) fun h1 => ?_⟩
    · rw [wr64 (by omega) (by omega)]
      refine ⟨⟨m + 1, j, by omega, rfl, by omega, hj, fun q s hq1 hq2 => ?_, hhi, B3⟩, by dsimp only; omega⟩
      have h3 : es[m].id < x := by
        by_cases h4 : es[m].id < x
        · exact h4
        · rw [if_neg h4] at h1; split at h1 <;> omega
      by_cases hqm : q = m
      · subst hqm
        rw [List.getElem?_eq_getElem hml] at hq2; injection hq2 with hq2; subst hq2; exact h3
      · have := hs q m s es[m] (by omega) hq2 (List.getElem?_eq_getElem hml); omega
    · refine ⟨⟨i, m, rfl, rfl, by omega, by omega, hlo, fun q s hq1 hq2 => ?_, B3⟩, by dsimp only; omega⟩
      have h3 : x ≤ es[m].id := by
        by_cases h4 : es[m].id < x
        · rw [if_pos h4] at h1; omega
        · omega
      by_cases hqm : q = m
      · subst hqm
        rw [List.getElem?_eq_getElem hml] at hq2; injection hq2 with hq2; subst hq2; exact h3
      · have := hs m q es[m] s (by omega) (List.getElem?_eq_getElem hml) hq2; omega
  · obtain rfl : i = j := by omega
    refine br_dec (fun hlt => ?_) fun hge2 => ?_
    · have hml : i < es.length := by omega
      obtain ⟨cs, ⟨a', c', rfl, _, _⟩, b, off, rfl, _, hc⟩ := hw.els.cells sesR hw.own (List.getElem?_eq_getElem hml)
      refine ⟨by omega, by omega, _, _, _, _, _, _, _, by rw [Int.toNat_natCast]; exact hc, (find1_any es[i] a' _ c' x wx).mono ?_⟩
      rintro e w3 ⟨rfl, b3⟩
      refine ⟨keepG_nil _ _, _, rfl, ⟨i, _, rfl, fun hb1 => ⟨es[i], List.getElem?_eq_getElem hml, ?_⟩, fun hb1 s hsm => ?_⟩, hb.trans (b3.mono hb.size)⟩
      · have := of_decide_eq_true hb1
        split at this
        · omega
        · split at this <;> omega
      · have hne := of_decide_eq_false hb1
        obtain ⟨q, hq⟩ := List.getElem?_of_mem hsm
        by_cases hqi : q < i
        · have := hlo q s hqi hq; omega
        · by_cases hqe : q = i
          · subst hqe
            rw [List.getElem?_eq_getElem hml] at hq; injection hq with hq; subst hq
            intro he
            rw [if_neg (by omega), if_neg (by omega)] at hne
            exact hne rfl
          · have h1 := hhi i es[i] (Nat.le_refl _) (List.getElem?_eq_getElem hml)
            have h2 := hs i q es[i] s (by omega) (List.getElem?_eq_getElem hml) hq
            omega
    · refine ⟨⟨i, false, rfl, (fun h => by cases h), fun _ s hsm => ?_⟩, hb⟩
      obtain ⟨q, hq⟩ := List.getElem?_of_mem hsm
      have hql := (List.getElem?_eq_some_iff.1 hq).1
      have := hlo q s (by omega) hq
      omega
end Go.Proofs.Ytamlgnhnmilbdaa
end
