import Derived.Test.YtpfmadinijofeaaMSl3
import Derived.Test.YtpfmadinijofeaaProg
import Derived.Test.YtpfmadinijofeaaMSl2
set_option linter.unusedVariables false
section
/- The reader's methods, walked. -/
namespace Go.Proofs.Ytpfmadinijofeaa
open Go.RowKit
theorem grp_bound (n : Nat) : ∀ u, (grp u).length ≤ n → u < 128 ^ n := by
  induction n with
  | zero => intro u h; have := grp_pos u; omega
  | succ n ih =>
    intro u h
    by_cases h1 : u < 128
    · have : 1 ≤ 128 ^ n := Nat.pow_pos (by omega)
      rw [Nat.pow_succ]; omega
    · rw [grp_ge (by omega), List.length_cons] at h
      have := ih (u / 128) (by omega)
      rw [Nat.pow_succ]; omega
theorem tk_n (most : Nat) : ∀ (bs : List UInt8) (i a u n : Nat), i ≤ most → tk most i a bs = (u, n, 0) → n ≤ most := by
  intro bs
  induction bs with
  | nil => intro i a u n _ h; rw [tk_nil] at h; injection h with _ h; injection h with _ h; cases h
  | cons x r ih =>
    intro i a u n hi h
    by_cases hb : i = most ∨ (x.toNat = 0 ∧ 0 < i) ∨ (i = 9 ∧ 1 < x.toNat)
    · rw [tk_bad hb] at h; injection h with _ h; injection h with _ h; cases h
    · by_cases h2 : 128 ≤ x.toNat
      · rw [tk_more hb h2] at h; exact ih _ _ _ _ (by omega) h
      · rw [tk_last hb h2] at h; injection h with _ h; injection h with h _; omega
theorem tk_lt (most : Nat) : ∀ (bs : List UInt8) (i a u n : Nat), i ≤ 9 → a < 128 ^ i → tk most i a bs = (u, n, 0) → u < 18446744073709551616 := by
  intro bs
  induction bs with
  | nil => intro i a u n _ _ h; rw [tk_nil] at h; injection h with _ h; injection h with _ h; cases h
  | cons x r ih =>
    intro i a u n hi ha h
    by_cases hb : i = most ∨ (x.toNat = 0 ∧ 0 < i) ∨ (i = 9 ∧ 1 < x.toNat)
    · rw [tk_bad hb] at h; injection h with _ h; injection h with _ h; cases h
    · by_cases h2 : 128 ≤ x.toNat
      · rw [tk_more hb h2] at h
        refine ih _ _ _ _ (by omega) ?_ h
        have h3 : x.toNat % 128 * 128 ^ i ≤ 127 * 128 ^ i := Nat.mul_le_mul_right _ (by omega)
        rw [Nat.pow_succ]; omega
      · rw [tk_last hb h2] at h
        injection h with h _
        by_cases h9 : i = 9
        · subst h9
          have h3 : x.toNat % 128 * 128 ^ 9 ≤ 1 * 128 ^ 9 := Nat.mul_le_mul_right _ (by omega)
          omega
        · have h4 : 128 ^ i ≤ 128 ^ 8 := Nat.pow_le_pow_right (by omega) (by omega)
          have h3 : x.toNat % 128 * 128 ^ i ≤ 127 * 128 ^ i := Nat.mul_le_mul_right _ (by omega)
          omega
theorem tk9_lt {bs : List UInt8} {u n : Nat} (h : tk 9 0 0 bs = (u, n, 0)) : u < 9223372036854775808 := by
  have h1 := tk_n 9 bs 0 0 u n (by omega) h
  obtain ⟨_, h2, h3⟩ := tk_enc0 h
  have h4 : (grp u).length ≤ 9 := by rw [← h3, List.length_take]; omega
  exact grp_bound 9 u h4
/-- What a reader answers. -/
def rdUint (most : Int) (bs : List UInt8) (e : Int) : Int × List UInt8 × Int :=
  if e ≠ 0 then (0, bs, e) else
  let r := tk 9 0 0 bs
  if r.2.2 ≠ 0 then (0, bs, r.2.2) else if most < 0 ∨ most < r.1 then (0, bs, 5) else (r.1, bs.drop r.2.1, 0)
def rdInt (bs : List UInt8) (e : Int) : Int × List UInt8 × Int :=
  if e ≠ 0 then (0, bs, e) else
  let r := tk 10 0 0 bs
  if r.2.2 ≠ 0 then (0, bs, r.2.2) else (zag r.1, bs.drop r.2.1, 0)
/-- The reader's block alone is written. -/
def R1 (w : World) (L : List Nat) (g : Nat) (v : Value) (bs : List UInt8) (e : Int) (r : Ending) (w' : World) : Prop :=
  r = .returned v ∧ RdAt w' L g bs e ∧ Fr L w w' ∧ Fr [g] w w'
theorem rtake_ok {g most : Nat} (hm0 : 0 < most) (hm : most ≤ 10) {bs : List UInt8} {L : List Nat} {w : World} (h : RdAt w L g bs 0) (hl : bs.length ≤ 100000000) {u n : Nat} (hr : tk most 0 0 bs = (u, n, 0)) :
    Calls Try.prog 113 #[.pointer (some ⟨g, 0, none⟩), .int .i64 most] w fun e w' => e = .returned (.tuple #[.int .u64 u, .int .i64 n]) ∧ w' = w :=
  (rtake_any g most hm0 hm bs L w h hl u n 0 hr).mono fun e w' h => by
    rcases h with ⟨_, h1, h2⟩ | ⟨h1, _⟩
    · exact ⟨h1, h2⟩
    · exact absurd rfl h1
theorem rtake_err {g most : Nat} (hm0 : 0 < most) (hm : most ≤ 10) {bs : List UInt8} {L : List Nat} {w : World} (h : RdAt w L g bs 0) (hl : bs.length ≤ 100000000) {u n : Nat} {e0 : Int} (he : e0 ≠ 0) (hr : tk most 0 0 bs = (u, n, e0)) :
    Calls Try.prog 113 #[.pointer (some ⟨g, 0, none⟩), .int .i64 most] w fun e w' => e = .returned (.tuple #[.int .u64 0, .int .i64 0]) ∧ w' = w.setCell ⟨g, 1, none⟩ (.int .i64 e0) :=
  (rtake_any g most hm0 hm bs L w h hl u n e0 hr).mono fun e w' h => by
    rcases h with ⟨h1, _⟩ | ⟨_, h1, h2⟩
    · exact absurd h1 he
    · exact ⟨h1, h2⟩
theorem rd_err {w : World} {L : List Nat} {g : Nat} {bs : List UInt8} {e : Int} (h : RdAt w L g bs e) (e' : Int) (v : Value) : R1 w L g v bs e' (.returned v) (w.setCell ⟨g, 1, none⟩ (.int .i64 e')) :=
  ⟨rfl, h.setErr e', (Fr.refl _ _).setCell (p := ⟨g, 1, none⟩) (.inl h.mem) _, (Fr.refl _ _).setCell (p := ⟨g, 1, none⟩) (.inl (by simp)) _⟩
theorem rd_bytes {w : World} {L : List Nat} {g : Nat} {bs bs2 : List UInt8} {e : Int} (h : RdAt w L g bs e) {a2 : Option Addr} {c2 : Nat} (h2 : In w L a2 bs2) (hc : bs2.length ≤ c2) (v : Value) :
    R1 w L g v bs2 e (.returned v) (w.setCell ⟨g, 0, none⟩ (.slice a2 bs2.length c2)) :=
  ⟨rfl, h.setBytes h2 hc, (Fr.refl _ _).setCell (p := ⟨g, 0, none⟩) (.inl h.mem) _, (Fr.refl _ _).setCell (p := ⟨g, 0, none⟩) (.inl (by simp)) _⟩
theorem rd_same {w : World} {L : List Nat} {g : Nat} {bs : List UInt8} {e : Int} (h : RdAt w L g bs e) (v : Value) : R1 w L g v bs e (.returned v) w := ⟨rfl, h, Fr.refl _ _, Fr.refl _ _⟩
set_option maxRecDepth 100000 in
set_option maxHeartbeats 4000000 in
theorem rUint_dead (g : Nat) (most : Int) (bs : List UInt8) (e : Int) (L : List Nat) (w : World) (h : RdAt w L g bs e) (he : e ≠ 0) :
    Calls Try.prog 101 #[.pointer (some ⟨g, 0, none⟩), .int .i64 most] w (R1 w L g (.int .i64 0) bs e) := by
  have HD := Bx.mk (rdead1 h he); have H := Bx.mk h
  clear h he
  go_enter Try.func101, Try.ntmps101
  go_wp2_with fail
  refine HD.out.mono ?_
  rintro r w1 ⟨rfl, rfl⟩
  go_wp2
  go_ret
  exact rd_same H.out _
set_option maxRecDepth 100000 in
set_option maxHeartbeats 4000000 in
theorem rUint_err (g : Nat) (most : Int) (bs : List UInt8) (L : List Nat) (w : World) (h : RdAt w L g bs 0) (hl : bs.length ≤ 100000000) (u n : Nat) (e0 : Int) (he : e0 ≠ 0) (hr : tk 9 0 0 bs = (u, n, e0)) :
    Calls Try.prog 101 #[.pointer (some ⟨g, 0, none⟩), .int .i64 most] w (R1 w L g (.int .i64 0) bs e0) := by
  have HD := Bx.mk (rdead0 h); have H := Bx.mk h
  have HC := Bx.mk (rtake_err (by omega) (by omega) h hl he hr)
  have he2 : (e0 != 0) = true := by simpa using he
  obtain ⟨⟨a, c, k1, _, _⟩, _, _⟩ := h
  have c1 : (w.setCell ⟨g, 1, none⟩ (.int .i64 e0)).cell? ⟨g, 1, none⟩ = some (.int .i64 e0) := by rw [(k1.setCell 1 (.int .i64 e0)).cell]; rfl
  clear k1 hl he hr
  go_enter Try.func101, Try.ntmps101
  go_wp2_with fail
  refine HD.out.mono ?_
  rintro r w1 ⟨rfl, rfl⟩
  go_wp2_with fail
  refine HC.out.mono ?_
  rintro r w2 ⟨rfl, hw⟩
  rw [← hw] at c1
  have HW := Bx.mk hw; clear hw
  go_wp2
  go_ret
  rw [HW.out]
  exact rd_err H.out _ _
set_option maxRecDepth 100000 in
set_option maxHeartbeats 4000000 in
theorem rUint_ok (g : Nat) (most : Int) (hm : most ≤ 9223372036854775807) (hm2 : -9223372036854775808 ≤ most) (bs : List UInt8) (L : List Nat) (w : World) (h : RdAt w L g bs 0) (hl : bs.length ≤ 100000000) (u n : Nat) (hr : tk 9 0 0 bs = (u, n, 0)) :
    Calls Try.prog 101 #[.pointer (some ⟨g, 0, none⟩), .int .i64 most] w fun r w' =>
      (most < 0 ∨ most < u → R1 w L g (.int .i64 0) bs 5 r w') ∧ (¬ (most < 0 ∨ most < u) → R1 w L g (.int .i64 u) (bs.drop n) 0 r w') := by
  have HD := Bx.mk (rdead0 h); have H := Bx.mk h
  have HC := Bx.mk (rtake_ok (by omega) (by omega) h hl hr)
  have hu := tk9_lt hr
  have hn := (tk_enc0 hr).2.1
  obtain ⟨⟨a, c, k1, k2, k3⟩, _, _⟩ := h
  have c0 : w.cell? ⟨g, 0, none⟩ = some (.slice a bs.length c) := by rw [k1.cell]; rfl
  have c1 : w.cell? ⟨g, 1, none⟩ = some (.int .i64 0) := by rw [k1.cell]; rfl
  have d0 : w.frozen? ⟨g, 0, none⟩ = false := k1.frozen 0
  have d1 : w.frozen? ⟨g, 1, none⟩ = false := k1.frozen 1
  obtain ⟨a2, c2, hsl, hI, hc2⟩ := slice_from (n := n) hn k3 k2
  have RB := fun v => Bx.mk (rd_bytes H.out hI hc2 v)
  have RE := fun v => Bx.mk (rd_err H.out 5 v)
  have f1 : wrap64 (u : Int) = (u : Int) := by unfold wrap64; omega
  have HU := Bx.mk (show (0 : Int) ≤ (u : Int) ∧ (u : Int) ≤ 9223372036854775807 by omega)
  have HM := Bx.mk (And.intro hm hm2)
  clear k1 k2 k3 hI hc2 hr hn hl hu hm hm2 H
  generalize (bs.drop n).length = m at *
  generalize (u : Int) = u at *
  by_cases hm0 : most < 0
  · go_enter Try.func101, Try.ntmps101
    go_wp2_with fail
    refine HD.out.mono ?_
    rintro r w1 ⟨rfl, rfl⟩
    go_wp2_with fail
    refine HC.out.mono ?_
    rintro r w2 ⟨rfl, rfl⟩
    go_wp2
    go_ret
    exact ⟨fun _ => (RE _).out, fun h => absurd (.inl hm0) h⟩
  · have f2 : IntKind.u64.wrap most = most := by rw [IntKind.wrap_u64]; have := HM.out; omega
    by_cases hmu : most < u
    · go_enter Try.func101, Try.ntmps101
      go_wp2_with fail
      refine HD.out.mono ?_
      rintro r w1 ⟨rfl, rfl⟩
      go_wp2_with fail
      refine HC.out.mono ?_
      rintro r w2 ⟨rfl, rfl⟩
      go_wp2
      go_ret
      exact ⟨fun _ => (RE _).out, fun h => absurd (.inr hmu) h⟩
    · go_enter Try.func101, Try.ntmps101
      go_wp2_with fail
      refine HD.out.mono ?_
      rintro r w1 ⟨rfl, rfl⟩
      go_wp2_with fail
      refine HC.out.mono ?_
      rintro r w2 ⟨rfl, rfl⟩
      go_wp2
      go_ret
      exact ⟨fun h => by omega, fun _ => by show R1 _ _ _ (.int .i64 u) _ 0 (.returned (.int .i64 (wrap64 u))) _; rw [f1]; exact (RB _).out⟩
theorem rUint_any (g : Nat) (most : Int) (hm : most ≤ 9223372036854775807) (hm2 : -9223372036854775808 ≤ most) (bs : List UInt8) (e : Int) (L : List Nat) (w : World) (h : RdAt w L g bs e) (hl : bs.length ≤ 100000000) :
    Calls Try.prog 101 #[.pointer (some ⟨g, 0, none⟩), .int .i64 most] w (R1 w L g (.int .i64 (rdUint most bs e).1) (rdUint most bs e).2.1 (rdUint most bs e).2.2) := by
  unfold rdUint
  by_cases he : e = 0
  · subst he
    rw [if_neg (by simp)]
    obtain ⟨u, n, e1, hr⟩ : ∃ u n e1, tk 9 0 0 bs = (u, n, e1) := ⟨_, _, _, rfl⟩
    rw [hr]
    dsimp only
    by_cases he1 : e1 = 0
    · subst he1
      rw [if_neg (by simp)]
      have hC := rUint_ok g most hm hm2 bs L w h hl u n hr
      by_cases hc : most < 0 ∨ most < (u : Int)
      · rw [if_pos hc]; exact hC.mono fun r w' h => h.1 hc
      · rw [if_neg hc]; exact hC.mono fun r w' h => h.2 hc
    · rw [if_pos he1]; exact rUint_err g most bs L w h hl u n e1 he1 hr
  · rw [if_pos he]; exact rUint_dead g most bs e L w h he
/-- What 'End' tells. -/
def rdEnd (bs : List UInt8) (e : Int) : Int := if e = 0 ∧ bs ≠ [] then 4 else e
theorem rEnd_any (g : Nat) (bs : List UInt8) (e : Int) (L : List Nat) (w : World) (h : RdAt w L g bs e) (hl : bs.length ≤ 100000000) :
    Calls Try.prog 91 #[.pointer (some ⟨g, 0, none⟩)] w fun r w' => r = .returned (.int .i64 (rdEnd bs e)) ∧ w' = w := by
  obtain ⟨⟨a, c, k1, k2, k3⟩, _, _⟩ := h
  have c0 : w.cell? ⟨g, 0, none⟩ = some (.slice a bs.length c) := by rw [k1.cell]; rfl
  have c1 : w.cell? ⟨g, 1, none⟩ = some (.int .i64 e) := by rw [k1.cell]; rfl
  clear k1 k2 k3
  unfold rdEnd
  by_cases he : e = 0
  · subst he
    by_cases hb : bs = []
    · subst hb
      rw [if_neg (by simp)]
      have c0' : w.cell? ⟨g, 0, none⟩ = some (.slice a 0 c) := c0
      clear c0 hl
      go_enter Try.func91, Try.ntmps91
      go_wp2
      go_ret
      exact ⟨rfl, rfl⟩
    · rw [if_pos ⟨rfl, hb⟩]
      have hlen : (0 : Int) < (bs.length : Int) := by have := List.length_pos_iff.2 hb; omega
      clear hb
      go_enter Try.func91, Try.ntmps91
      go_wp2
      go_ret
      exact ⟨rfl, rfl⟩
  · rw [if_neg (fun h => he h.1)]
    have heb : (e == 0) = false := by simpa using he
    clear he
    go_enter Try.func91, Try.ntmps91
    go_wp2
    go_ret
    exact ⟨rfl, rfl⟩
theorem rdInt_range (bs : List UInt8) (e : Int) : -9223372036854775808 ≤ (rdInt bs e).1 ∧ (rdInt bs e).1 ≤ 9223372036854775807 := by
  unfold rdInt
  split
  · simp
  · obtain ⟨u, n, e1, hr⟩ : ∃ u n e1, tk 10 0 0 bs = (u, n, e1) := ⟨_, _, _, rfl⟩
    rw [hr]
    dsimp only
    split
    · simp
    · rename_i h
      have h0 : e1 = 0 := Classical.not_not.1 h
      subst h0
      exact zag_range (tk_lt 10 bs 0 0 u n (by omega) (by omega) hr)
theorem rdUint_range (most : Int) (bs : List UInt8) (e : Int) : 0 ≤ (rdUint most bs e).1 ∧ (rdUint most bs e).1 ≤ 9223372036854775807 := by
  unfold rdUint
  split
  · simp
  · obtain ⟨u, n, e1, hr⟩ : ∃ u n e1, tk 9 0 0 bs = (u, n, e1) := ⟨_, _, _, rfl⟩
    rw [hr]
    dsimp only
    split
    · simp
    · rename_i h
      have h0 : e1 = 0 := Classical.not_not.1 h
      subst h0
      split
      · simp
      · have := tk9_lt hr
        show 0 ≤ (u : Int) ∧ (u : Int) ≤ _
        omega
theorem rdLen (bs : List UInt8) (e : Int) : (rdInt bs e).2.1.length ≤ bs.length := by
  unfold rdInt
  split
  · simp
  · dsimp only; split
    · simp
    · simp
theorem rdLenU (most : Int) (bs : List UInt8) (e : Int) : (rdUint most bs e).2.1.length ≤ bs.length := by
  unfold rdUint
  split
  · simp
  · dsimp only; split
    · simp
    · split
      · simp
      · simp
end Go.Proofs.Ytpfmadinijofeaa
end
section
/- The reader's flag and text, walked. -/
namespace Go.Proofs.Ytpfmadinijofeaa
open Go.RowKit
def rdFlag (bs : List UInt8) (e : Int) : Bool × List UInt8 × Int :=
  if e ≠ 0 then (false, bs, e) else match bs with
  | [] => (false, [], 3)
  | x :: r => if 1 < x.toNat then (false, x :: r, 2) else (decide (x.toNat = 1), r, 0)
def rdText (most : Int) (bs : List UInt8) (e : Int) : List UInt8 × List UInt8 × Int :=
  if e ≠ 0 then ([], bs, e) else
  let r := rdUint most bs 0
  if r.2.2 ≠ 0 then ([], r.2.1, r.2.2) else if (r.2.1.length : Int) < r.1 then ([], bs, 3) else (r.2.1.take r.1.toNat, r.2.1.drop r.1.toNat, 0)
theorem in_fr {w w' : World} {L : List Nat} {a a0 : Option Addr} {bs : List UInt8} {n0 c0 g : Nat} {e : Int} (hb : Bk w g #[.slice a0 n0 c0, .int .i64 e] 157) (h : In w L a bs) (hu : Under L w.heap.size) (hf : Fr [g] w w') : In w' L a bs := by
  refine ⟨?_, h.2⟩
  rcases h.1 with h1 | ⟨b, off, rfl, h1⟩
  · exact .inl h1
  · cases bs with
    | nil => exact .inl rfl
    | cons x r =>
      have hbg : b ≠ g := by
        rintro rfl
        have := h1 0 (bV x) rfl
        rw [hb.cell] at this
        generalize off + 0 = j at this
        match j with
        | 0 => cases this
        | 1 => cases this
        | j + 2 => simp at this
      have hbL := h.2 _ rfl (by simp)
      refine .inr ⟨b, off, rfl, fun i v hv => ?_⟩
      rw [← h1 i v hv]
      exact World.cell?_of_block (a := ⟨b, off + i, none⟩) (hf.block b (hu b hbL) (by simpa using hbg))
/-- What 'Text' does. -/
def T1 (w : World) (L : List Nat) (g : Nat) (ts bs : List UInt8) (e : Int) (r : Ending) (w' : World) : Prop :=
  ∃ v, r = .returned v ∧ Own w' w.heap.size 5 1 v ts.length (ts.map bV) ∧ RdAt w' L g bs e ∧ Fr L w w'
set_option maxRecDepth 100000 in
set_option maxHeartbeats 4000000 in
theorem rText_dead (g : Nat) (most : Int) (bs : List UInt8) (e : Int) (L : List Nat) (w : World) (h : RdAt w L g bs e) (he : e ≠ 0) :
    Calls Try.prog 92 #[.pointer (some ⟨g, 0, none⟩), .int .i64 most] w (T1 w L g [] bs e) := by
  have HD := Bx.mk (rdead1 h he); have H := Bx.mk h
  clear h he
  go_enter Try.func92, Try.ntmps92
  go_wp2_with fail
  refine HD.out.mono ?_
  rintro r w1 ⟨rfl, rfl⟩
  go_wp2
  go_ret
  exact ⟨_, rfl, Own.nil _ _ _ _, H.out, Fr.refl _ _⟩
set_option maxRecDepth 100000 in
set_option maxHeartbeats 4000000 in
theorem rText_live (g : Nat) (most : Int) (hm : most ≤ 9223372036854775807) (hm2 : -9223372036854775808 ≤ most) (bs : List UInt8) (L : List Nat) (w : World) (h : RdAt w L g bs 0) (hl : bs.length ≤ 100000000) :
    Calls Try.prog 92 #[.pointer (some ⟨g, 0, none⟩), .int .i64 most] w (T1 w L g (rdText most bs 0).1 (rdText most bs 0).2.1 (rdText most bs 0).2.2) := by
  have HD := Bx.mk (rdead0 h); have H := Bx.mk h
  have HC := rUint_any g most hm hm2 bs 0 L w h hl
  have hr := rdUint_range most bs 0
  have hlen := rdLenU most bs 0
  unfold rdText
  rw [if_neg (by simp)]
  obtain ⟨n, b1, e1, hd⟩ : ∃ n b1 e1, rdUint most bs 0 = (n, b1, e1) := ⟨_, _, _, rfl⟩
  simp only [hd] at HC hr hlen ⊢
  obtain ⟨⟨a, c, k1, k2, k3⟩, k4, k5⟩ := h
  have c0 : w.cell? ⟨g, 0, none⟩ = some (.slice a bs.length c) := by rw [k1.cell]; rfl
  have K1 := Bx.mk k1; have K2 := Bx.mk k2; have K3 := Bx.mk k3; have K4 := Bx.mk k4; have K5 := Bx.mk k5; have HCC := Bx.mk HC
  have HLn := Bx.mk hlen; have HLl := Bx.mk hl
  clear k1 k2 k3 k4 k5 HC hd hlen hl hm hm2
  by_cases he : e1 = 0
  · subst he
    rw [if_neg (by simp)]
    obtain ⟨m, rfl⟩ := Int.eq_ofNat_of_zero_le hr.1
    have hm63 := Bx.mk hr.2
    clear hr
    by_cases hs : (b1.length : Int) < (m : Int)
    · rw [if_pos hs]
      go_enter Try.func92, Try.ntmps92
      go_wp2_with fail
      refine HD.out.mono ?_
      rintro r w1 ⟨rfl, rfl⟩
      go_wp2_with fail
      refine HCC.out.mono ?_
      rintro r w1 ⟨rfl, hr1, hf, hg⟩
      have HD1 := Bx.mk (rdead0 hr1)
      have HF := Bx.mk hf
      have HB := Bx.mk (hr1.setBytes (in_fr K1.out K2.out K5.out hg) K3.out)
      obtain ⟨⟨a1, c1, j1, _, _⟩, _, _⟩ := hr1
      have e0 : w1.cell? ⟨g, 0, none⟩ = some (.slice a1 b1.length c1) := by rw [j1.cell]; rfl
      have d0 : w1.frozen? ⟨g, 0, none⟩ = false := j1.frozen 0
      have d1 : w1.frozen? ⟨g, 1, none⟩ = false := j1.frozen 1
      have e1 : w1.cell? ⟨g, 1, none⟩ = some (.int .i64 0) := by rw [j1.cell]; rfl
      clear hf hg j1
      go_wp2_with fail
      refine HD1.out.mono ?_
      rintro r w2 ⟨rfl, rfl⟩
      go_wp2
      go_ret
      exact ⟨_, rfl, Own.nil _ _ _ _, HB.out.setErr 3, (HF.out.setCell (p := ⟨g, 0, none⟩) (.inl K4.out) _).setCell (p := ⟨g, 1, none⟩) (.inl K4.out) _⟩
    · rw [if_neg hs]
      have hmle : m ≤ b1.length := by omega
      show Calls _ _ _ _ (T1 w L g (b1.take ((m : Int)).toNat) (b1.drop ((m : Int)).toNat) 0)
      rw [Int.toNat_natCast]
      go_enter Try.func92, Try.ntmps92
      go_wp2_with fail
      refine HD.out.mono ?_
      rintro r w1 ⟨rfl, rfl⟩
      go_wp2_with fail
      refine HCC.out.mono ?_
      rintro r w1 ⟨rfl, hr1, hf, hg⟩
      have HD1 := Bx.mk (rdead0 hr1)
      have HF := Bx.mk hf
      have HR1 := Bx.mk hr1
      obtain ⟨⟨a1, c1, j1, j2, j3⟩, _, _⟩ := hr1
      have e0 : w1.cell? ⟨g, 0, none⟩ = some (.slice a1 b1.length c1) := by rw [j1.cell]; rfl
      obtain ⟨a2, c2, hsl, hI, hc2⟩ := slice_from (n := m) hmle j3 j2
      have ht : (b1.take m).length = m := by rw [List.length_take]; omega
      have HRt := Bx.mk (show RowAt w1 a1 ((b1.take m).map bV) by rw [List.map_take]; exact j2.1.take m)
      have J1 := Bx.mk j1; have HI := Bx.mk hI; have HC2 := Bx.mk hc2
      have q0 : (0 : Int) ≤ (m : Int) := by omega
      have q1 : (m : Int) ≤ (c1 : Int) := by omega
      clear hf hg j1 j2 hI hc2 j3
      go_wp2_with fail
      refine HD1.out.mono ?_
      rintro r w2 ⟨rfl, rfl⟩
      go_wp2_with fail
      have HCl := bClone_any a1 c1 (b1.take m) w2 HRt.out (by have := HLn.out; have := HLl.out; omega)
      rw [ht] at HCl
      refine HCl.mono ?_
      rintro r w3 ⟨v, rfl, ho, hb⟩
      have HO := Bx.mk ho
      have HR3 := Bx.mk (HR1.out.below hb)
      have J3 := Bx.mk (J1.out.keep (hb.block g J1.out.lt))
      have HI3 := Bx.mk (HI.out.keep (fun k hk => hb.block k (HR1.out.under k hk)))
      have HF3 := Bx.mk (HF.out.trans (Fr.ofBelow (L := []) hb) (fun k hk => by cases hk))
      have S3 := Bx.mk HF.out.size
      have e3 : w3.cell? ⟨g, 0, none⟩ = some (.slice a1 b1.length c1) := by rw [J3.out.cell]; rfl
      have d3 : w3.frozen? ⟨g, 0, none⟩ = false := J3.out.frozen 0
      clear ho hb HCl
      go_wp2
      go_ret
      refine ⟨_, rfl, ?_, by have h := HR3.out.setBytes HI3.out HC2.out; rw [List.length_drop] at h; exact h, HF3.out.setCell (p := ⟨g, 0, none⟩) (.inl K4.out) _⟩
      rw [ht]
      refine Own.keep (HO.out.base_le fun k hk => Nat.le_trans S3.out (HO.out.lt k hk).1) fun k hk => Below.heap_setCell _ _ _ _ fun e => ?_
      have e2 : k = g := e
      have := (HO.out.lt k hk).1
      have := HR1.out.under g K4.out
      omega
  · rw [if_pos he]
    go_enter Try.func92, Try.ntmps92
    go_wp2_with fail
    refine HD.out.mono ?_
    rintro r w1 ⟨rfl, rfl⟩
    go_wp2_with fail
    refine HCC.out.mono ?_
    rintro r w1 ⟨rfl, hr1, hf, hg⟩
    have HD1 := Bx.mk (rdead1 hr1 he)
    have HF := Bx.mk hf; have HR1 := Bx.mk hr1
    clear hf hg hr1
    go_wp2_with fail
    refine HD1.out.mono ?_
    rintro r w2 ⟨rfl, rfl⟩
    go_wp2
    go_ret
    exact ⟨_, rfl, Own.nil _ _ _ _, HR1.out, HF.out⟩
theorem rText_any (g : Nat) (most : Int) (hm : most ≤ 9223372036854775807) (hm2 : -9223372036854775808 ≤ most) (bs : List UInt8) (e : Int) (L : List Nat) (w : World) (h : RdAt w L g bs e) (hl : bs.length ≤ 100000000) :
    Calls Try.prog 92 #[.pointer (some ⟨g, 0, none⟩), .int .i64 most] w (T1 w L g (rdText most bs e).1 (rdText most bs e).2.1 (rdText most bs e).2.2) := by
  by_cases he : e = 0
  · subst he; exact rText_live g most hm hm2 bs L w h hl
  · have : rdText most bs e = ([], bs, e) := by unfold rdText; rw [if_pos he]
    rw [this]
    exact rText_dead g most bs e L w h he
end Go.Proofs.Ytpfmadinijofeaa
end
section
/- What is read is what was written, and what is written is read: plain laws of the parts. No program in sight. -/
namespace Go.Proofs.Ytpfmadinijofeaa
theorem dead_uint {most : Int} {bs : List UInt8} {e : Int} (he : e ≠ 0) : rdUint most bs e = (0, bs, e) := by unfold rdUint; rw [if_pos he]
theorem dead_int {bs : List UInt8} {e : Int} (he : e ≠ 0) : rdInt bs e = (0, bs, e) := by unfold rdInt; rw [if_pos he]
theorem dead_flag {bs : List UInt8} {e : Int} (he : e ≠ 0) : rdFlag bs e = (false, bs, e) := by unfold rdFlag; rw [if_pos he]
theorem dead_text {most : Int} {bs : List UInt8} {e : Int} (he : e ≠ 0) : rdText most bs e = ([], bs, e) := by unfold rdText; rw [if_pos he]
theorem un_uint {most : Int} {bs : List UInt8} {e : Int} (h : (rdUint most bs e).2.2 = 0) : e = 0 ∧ 0 ≤ (rdUint most bs e).1 ∧ (rdUint most bs e).1 ≤ most ∧ bs = uintB (rdUint most bs e).1 ++ (rdUint most bs e).2.1 := by
  by_cases he : e = 0
  · refine ⟨he, ?_⟩
    subst he
    revert h
    unfold rdUint
    rw [if_neg (by simp)]
    obtain ⟨u, n, e1, hr⟩ : ∃ u n e1, tk 9 0 0 bs = (u, n, e1) := ⟨_, _, _, rfl⟩
    rw [hr]
    dsimp only
    split
    · rename_i h; intro h1; exact absurd h1 h
    rename_i h
    split
    · intro h1; cases h1
    rename_i hm
    intro _
    have h0 : e1 = 0 := Classical.not_not.1 h
    subst h0
    obtain ⟨_, h3, h4⟩ := tk_enc0 hr
    refine ⟨by dsimp only; omega, by dsimp only; omega, ?_⟩
    dsimp only
    unfold uintB
    rw [if_neg (by omega), Int.toNat_natCast, ← h4, List.take_append_drop]
  · rw [dead_uint he] at h; exact absurd h he
theorem un_int {bs : List UInt8} {e : Int} (h : (rdInt bs e).2.2 = 0) : e = 0 ∧ bs = intB (rdInt bs e).1 ++ (rdInt bs e).2.1 := by
  by_cases he : e = 0
  · refine ⟨he, ?_⟩
    subst he
    revert h
    unfold rdInt
    rw [if_neg (by simp)]
    obtain ⟨u, n, e1, hr⟩ : ∃ u n e1, tk 10 0 0 bs = (u, n, e1) := ⟨_, _, _, rfl⟩
    rw [hr]
    dsimp only
    split
    · rename_i h; intro h1; exact absurd h1 h
    rename_i h
    intro _
    have h0 : e1 = 0 := Classical.not_not.1 h
    subst h0
    obtain ⟨_, h3, h4⟩ := tk_enc0 hr
    dsimp only
    unfold intB
    rw [zig_zag, ← h4, List.take_append_drop]
  · rw [dead_int he] at h; exact absurd h he
theorem un_flag {bs : List UInt8} {e : Int} (h : (rdFlag bs e).2.2 = 0) : e = 0 ∧ bs = flagB (rdFlag bs e).1 ++ (rdFlag bs e).2.1 := by
  by_cases he : e = 0
  · refine ⟨he, ?_⟩
    subst he
    revert h
    unfold rdFlag
    rw [if_neg (by simp)]
    cases bs with
    | nil => intro h; cases h
    | cons x r =>
      dsimp only
      split
      · intro h; cases h
      rename_i hx
      intro _
      unfold flagB
      by_cases h1 : x.toNat = 1
      · rw [if_pos (decide_eq_true h1)]
        rw [show x = 1 from UInt8.toNat_inj.1 h1]
        rfl
      · rw [if_neg (by simp [h1])]
        rw [show x = 0 from UInt8.toNat_inj.1 (by show x.toNat = 0; omega)]
        rfl
  · rw [dead_flag he] at h; exact absurd h he
theorem uint_nat {z : Int} (h : 0 ≤ z) : uintB z = grp z.toNat := by unfold uintB; rw [if_neg (by omega)]
theorem un_text {most : Int} {bs : List UInt8} {e : Int} (h : (rdText most bs e).2.2 = 0) : e = 0 ∧ ((rdText most bs e).1.length : Int) ≤ most ∧ bs = textB (rdText most bs e).1 ++ (rdText most bs e).2.1 := by
  by_cases he : e = 0
  · refine ⟨he, ?_⟩
    subst he
    revert h
    unfold rdText
    rw [if_neg (by simp)]
    have hu := un_uint (most := most) (bs := bs) (e := 0)
    revert hu
    generalize rdUint most bs 0 = q
    obtain ⟨z, cs, e1⟩ := q
    dsimp only
    intro hu
    split
    · rename_i h; intro h1; exact absurd h1 h
    rename_i h
    have h0 : e1 = 0 := Classical.not_not.1 h
    obtain ⟨_, k1, k2, k3⟩ := hu h0
    split
    · intro h1; cases h1
    rename_i h2
    intro _
    dsimp only
    have hl : (cs.take z.toNat).length = z.toNat := by rw [List.length_take]; omega
    refine ⟨by rw [hl]; omega, ?_⟩
    unfold textB
    rw [hl, List.append_assoc, List.take_append_drop, ← uint_nat k1]
    exact k3
  · rw [dead_text he] at h; exact absurd h he
theorem ck_grp {m : Nat} {most : Int} (h : (m : Int) ≤ most) (h1 : m < 9223372036854775808) (rest : List UInt8) : rdUint most (grp m ++ rest) 0 = ((m : Int), rest, 0) := by
  unfold rdUint
  rw [if_neg (by simp), tk_dec0 rest (by omega) (grp_len 8 m (by omega))]
  dsimp only
  rw [if_neg (by simp), if_neg (by omega), List.drop_left]
theorem ck_uint {n most : Int} (h0 : 0 ≤ n) (h1 : n ≤ 9223372036854775807) (h2 : n ≤ most) (rest : List UInt8) : rdUint most (uintB n ++ rest) 0 = (n, rest, 0) := by
  rw [uint_nat h0, ck_grp (by omega) (by omega), Int.toNat_of_nonneg h0]
theorem ck_int {n : Int} (h0 : -9223372036854775808 ≤ n) (h1 : n ≤ 9223372036854775807) (rest : List UInt8) : rdInt (intB n ++ rest) 0 = (n, rest, 0) := by
  unfold rdInt intB
  rw [if_neg (by simp), tk_dec0 rest (zig_lt h0 h1) (grp_len64 (zig_lt h0 h1))]
  dsimp only
  rw [if_neg (by simp), List.drop_left, zag_zig]
theorem ck_flag (y : Bool) (rest : List UInt8) : rdFlag (flagB y ++ rest) 0 = (y, rest, 0) := by
  cases y <;> rfl
theorem ck_text {ts : List UInt8} {most : Int} (h : (ts.length : Int) ≤ most) (h2 : ts.length ≤ 100000000) (rest : List UInt8) : rdText most (textB ts ++ rest) 0 = (ts, rest, 0) := by
  unfold rdText textB
  rw [if_neg (by simp), List.append_assoc, ck_grp h (by omega)]
  dsimp only
  rw [if_neg (by simp), if_neg (by rw [List.length_append]; omega), Int.toNat_natCast, List.take_left, List.drop_left]
theorem end_zero {bs : List UInt8} {e : Int} (h : rdEnd bs e = 0) : e = 0 ∧ bs = [] := by
  unfold rdEnd at h
  split at h
  · cases h
  · rename_i h2
    subst h
    exact ⟨rfl, Classical.byContradiction fun h3 => h2 ⟨rfl, h3⟩⟩
theorem end_dead {bs : List UInt8} {e : Int} (h : e ≠ 0) : rdEnd bs e = e := by unfold rdEnd; rw [if_neg (fun h2 => h h2.1)]
theorem end_nil : rdEnd [] 0 = 0 := rfl
theorem uint_le {most : Int} {bs : List UInt8} {e : Int} (h : 0 ≤ most) : (rdUint most bs e).1 ≤ most := by
  unfold rdUint
  split
  · exact h
  dsimp only
  split
  · exact h
  split
  · exact h
  · dsimp only; omega
theorem text_le {most : Int} {bs : List UInt8} {e : Int} (h : 0 ≤ most) : ((rdText most bs e).1.length : Int) ≤ most := by
  unfold rdText
  split
  · exact h
  have hu := uint_le (bs := bs) (e := 0) h
  have hr := (rdUint_range most bs 0).1
  generalize rdUint most bs 0 = q at *
  dsimp only
  split
  · exact h
  split
  · exact h
  · rw [List.length_take]; omega
theorem text_len {most : Int} {bs : List UInt8} {e : Int} : (rdText most bs e).1.length ≤ bs.length ∧ (rdText most bs e).2.1.length ≤ bs.length := by
  have hu := rdLenU most bs 0
  unfold rdText
  split
  · exact ⟨Nat.zero_le _, Nat.le_refl _⟩
  dsimp only
  split
  · exact ⟨Nat.zero_le _, hu⟩
  split
  · exact ⟨Nat.zero_le _, Nat.le_refl _⟩
  · dsimp only
    rw [List.length_take, List.length_drop]
    omega
theorem uint_len10 {n : Int} (h : n ≤ 9223372036854775807) : (uintB n).length ≤ 10 := by
  unfold uintB
  split
  · exact Nat.zero_le _
  · exact grp_len64 (by omega)
theorem int_len10 {n : Int} (h1 : -9223372036854775808 ≤ n) (h2 : n ≤ 9223372036854775807) : (intB n).length ≤ 10 := grp_len64 (zig_lt h1 h2)
theorem textB_len {ts : List UInt8} (h : ts.length ≤ 100000000) : (textB ts).length ≤ ts.length + 10 := by
  unfold textB
  rw [List.length_append]
  have := grp_len64 (u := ts.length) (by omega)
  omega
theorem flag_len {bs : List UInt8} {e : Int} : (rdFlag bs e).2.1.length ≤ bs.length := by
  unfold rdFlag
  split
  · exact Nat.le_refl _
  cases bs with
  | nil => exact Nat.le_refl _
  | cons x r =>
    dsimp only
    split
    · exact Nat.le_refl _
    · simp
end Go.Proofs.Ytpfmadinijofeaa
end
section
/- A log of groups of records (layer 5), as functions. No program in sight. -/
namespace Go.Proofs.Ytpfmadinijofeaa
open Go.RowKit
abbrev Grp := List (List UInt8)
def grpB (g : Grp) : List UInt8 := g.flatMap textB
def secN (n : Nat) : Nat := if n ≤ 39 then 1 else 1 + (n + 23) / 63
theorem secN_pos (n : Nat) : 1 ≤ secN n := by unfold secN; split <;> omega
def labH (gen n len : Nat) : List UInt8 := beB gen 8 ++ beB n 8 ++ beB len 4
theorem labH_len (gen n len : Nat) : (labH gen n len).length = 20 := by simp [labH, beB_len]
def labelB (gen n : Nat) (b : List UInt8) : List UInt8 := labH gen n b.length ++ beB (more 0 (labH gen n b.length ++ b)) 4
theorem labelB_len (gen n : Nat) (b : List UInt8) : (labelB gen n b).length = 24 := by simp [labelB, labH_len, beB_len]
def headRaw (gen n : Nat) (b : List UInt8) : List UInt8 := [1] ++ labelB gen n b ++ b.take 39
def headF (gen n : Nat) (b : List UInt8) : List UInt8 := bodyB (headRaw gen n b)
theorem headRaw_len (gen n : Nat) (b : List UInt8) : (headRaw gen n b).length = 25 + min 39 b.length := by
  simp [headRaw, labelB_len, List.length_take]
  omega
theorem headF_len (gen n : Nat) (b : List UInt8) : (headF gen n b).length = 64 := by
  unfold headF
  rw [bodyB_len, headRaw_len]
  omega
def pieceF (b : List UInt8) (i : Nat) : List UInt8 := bodyB (2 :: (b.drop (63 * i)).take 63)
theorem pieceF_len (b : List UInt8) (i : Nat) : (pieceF b i).length = 64 := by
  unfold pieceF
  rw [bodyB_len, List.length_cons, List.length_take, List.length_drop]
  omega
def tailN (b : List UInt8) (n : Nat) : List UInt8 := (List.range n).flatMap (pieceF b)
theorem tailN_succ (b : List UInt8) (n : Nat) : tailN b (n + 1) = tailN b n ++ pieceF b n := by
  unfold tailN
  rw [List.range_succ, List.flatMap_append]
  simp
theorem tailN_len (b : List UInt8) : ∀ n, (tailN b n).length = n * 64
  | 0 => rfl
  | n + 1 => by rw [tailN_succ, List.length_append, tailN_len b n, pieceF_len]; omega
def tailF (b : List UInt8) : List UInt8 := tailN (b.drop 39) (secN b.length - 1)
theorem tailF_len (b : List UInt8) : (tailF b).length = (secN b.length - 1) * 64 := tailN_len _ _
theorem pieceB_tail (b : List UInt8) {n i : Nat} (hi : i < n) : pieceB (tailN b n) i = pieceF b i := by
  unfold pieceB
  induction n with
  | zero => omega
  | succ n ih =>
    rw [tailN_succ]
    have hl := tailN_len b n
    by_cases h : i < n
    · rw [List.drop_append_of_le_length (by omega), List.take_append_of_le_length (by rw [List.length_drop]; omega)]
      exact ih h
    · obtain rfl : i = n := by omega
      rw [List.drop_append_of_le_length (by omega), List.drop_of_length_le (by omega), List.nil_append, List.take_of_length_le (by rw [pieceF_len]; omega)]
structure LG where
  first : Nat
  size : Nat
  gen : Nat
  used : Nat
  groups : Nat
def apE (S : DS) (L : LG) (g : Grp) : Int :=
  if g = [] then 0 else if L.size - L.used < secN (grpB g).length then 11
  else if pwE S ((L.first + L.used + 1 : Nat) : Int) (tailF (grpB g)) ≠ 0 then pwE S ((L.first + L.used + 1 : Nat) : Int) (tailF (grpB g))
  else pwE (pwD S ((L.first + L.used + 1 : Nat) : Int) (tailF (grpB g))) ((L.first + L.used : Nat) : Int) (headF L.gen L.groups (grpB g))
def apD (S : DS) (L : LG) (g : Grp) : DS :=
  if g = [] then S else if L.size - L.used < secN (grpB g).length then S
  else if pwE S ((L.first + L.used + 1 : Nat) : Int) (tailF (grpB g)) ≠ 0 then pwD S ((L.first + L.used + 1 : Nat) : Int) (tailF (grpB g))
  else pwD (pwD S ((L.first + L.used + 1 : Nat) : Int) (tailF (grpB g))) ((L.first + L.used : Nat) : Int) (headF L.gen L.groups (grpB g))
def apL (S : DS) (L : LG) (g : Grp) : LG := if g ≠ [] ∧ apE S L g = 0 then ⟨L.first, L.size, L.gen, L.used + secN (grpB g).length, L.groups + 1⟩ else L
theorem DWf.ap {S : DS} (h : DWf S) (L : LG) (g : Grp) : DWf (apD S L g) := by
  unfold apD
  split
  · exact h
  · split
    · exact h
    · split
      · exact h.pw _ _
      · exact (h.pw _ _).pw _ _
/-! Reading. -/
def headP (gen n : Nat) : List UInt8 := [1] ++ beB gen 8 ++ beB n 8
theorem headP_len (gen n : Nat) : (headP gen n).length = 17 := by simp [headP, beB_len]
theorem headF_eq (gen n : Nat) (b : List UInt8) : headF gen n b = headP gen n ++ (beB b.length 4 ++ (beB (more 0 (labH gen n b.length ++ b)) 4 ++ (b.take 39 ++ zerosB (39 - min 39 b.length)))) := by
  unfold headF bodyB
  rw [headRaw_len, show (64 - (25 + min 39 b.length) % 64) % 64 = 39 - min 39 b.length by omega]
  unfold headRaw labelB labH headP
  simp only [List.append_assoc]
theorem headF_take17 (gen n : Nat) (b : List UInt8) : (headF gen n b).take 17 = headP gen n := by
  rw [headF_eq, List.take_append_of_le_length (by rw [headP_len]; omega), List.take_of_length_le (by rw [headP_len]; omega)]
theorem headF_num (gen n : Nat) (b : List UInt8) : ((headF gen n b).drop 17).take 4 = beB b.length 4 := by
  rw [headF_eq, List.drop_append_of_le_length (by rw [headP_len]; omega), List.drop_of_length_le (by rw [headP_len]; omega), List.nil_append, List.take_append_of_le_length (by rw [beB_len]; omega), List.take_of_length_le (by rw [beB_len]; omega)]
theorem headF_label (gen n : Nat) (b : List UInt8) : ((headF gen n b).drop 1).take 24 = labelB gen n b := by
  have e : headF gen n b = 1 :: (labelB gen n b ++ (b.take 39 ++ zerosB (39 - min 39 b.length))) := by
    rw [headF_eq]
    unfold headP labelB labH
    simp only [List.append_assoc, List.singleton_append, List.cons_append, List.nil_append]
  rw [e, List.drop_succ_cons, List.drop_zero, List.take_append_of_le_length (by rw [labelB_len]; omega), List.take_of_length_le (by rw [labelB_len]; omega)]
theorem headF_data (gen n : Nat) (b : List UInt8) : (headF gen n b).drop 25 = b.take 39 ++ zerosB (39 - min 39 b.length) := by
  have e : headF gen n b = (1 :: labelB gen n b) ++ (b.take 39 ++ zerosB (39 - min 39 b.length)) := by
    rw [headF_eq]
    unfold headP labelB labH
    simp only [List.append_assoc, List.singleton_append, List.cons_append, List.nil_append]
  rw [e, List.drop_append_of_le_length (by simp [labelB_len]), List.drop_of_length_le (by simp [labelB_len]), List.nil_append]
/-- What comes together of the sectors behind the head. -/
def joinN (f : Nat → List UInt8) (n : Nat) : List UInt8 := (List.range n).flatMap fun i => ((f i).drop 1).take 63
theorem joinN_succ (f : Nat → List UInt8) (n : Nat) : joinN f (n + 1) = joinN f n ++ ((f n).drop 1).take 63 := by
  unfold joinN
  rw [List.range_succ, List.flatMap_append]
  simp
theorem piece_data (b : List UInt8) (i : Nat) (h : 63 * i < b.length) : ((pieceF b i).drop 1).take 63 = (b.drop (63 * i)).take 63 ++ zerosB (63 - min 63 (b.length - 63 * i)) := by
  unfold pieceF bodyB
  rw [List.length_cons, List.length_take, List.length_drop, show (64 - (min 63 (b.length - 63 * i) + 1) % 64) % 64 = 63 - min 63 (b.length - 63 * i) by omega]
  rw [List.cons_append, List.drop_succ_cons, List.drop_zero, List.take_of_length_le (by simp [zerosB, List.length_take]; omega)]
theorem join_take (b : List UInt8) : ∀ n, (n = 0 ∨ 63 * (n - 1) < b.length) → (joinN (pieceF b) n).take b.length = b.take (63 * n) ∧ min b.length (63 * n) ≤ (joinN (pieceF b) n).length
  | 0, _ => by simp [joinN]
  | n + 1, h => by
    have hn : 63 * n < b.length := by
      rcases h with h | h
      · omega
      · rw [Nat.add_sub_cancel] at h; exact h
    obtain ⟨h1, h2⟩ := join_take b n (by
      rcases Nat.eq_zero_or_pos n with e | e
      · exact .inl e
      · right; omega)
    have hl : (joinN (pieceF b) n).length = 63 * n := by
      unfold joinN
      rw [List.length_flatMap]
      have : ∀ m, m ≤ n → ((List.range m).map fun i => (((pieceF b i).drop 1).take 63).length).sum = 63 * m := by
        intro m hm
        induction m with
        | zero => rfl
        | succ m ih =>
          rw [List.range_succ, List.map_append, List.sum_append, ih (by omega)]
          simp only [List.map_cons, List.map_nil, List.sum_cons, List.sum_nil]
          rw [List.length_take, List.length_drop, pieceF_len]
          omega
      exact this n (Nat.le_refl _)
    have e1 : joinN (pieceF b) n = b.take (63 * n) := by
      rw [← h1, List.take_of_length_le (by omega)]
    rw [joinN_succ, e1, piece_data b n hn]
    refine ⟨?_, ?_⟩
    · rw [← List.append_assoc, ← List.take_add, show 63 * n + 63 = 63 * (n + 1) by omega]
      by_cases hc : b.length ≤ 63 * (n + 1)
      · rw [List.take_of_length_le hc, List.take_append_of_le_length (Nat.le_refl _), List.take_length]
      · rw [show 63 - min 63 (b.length - 63 * n) = 0 by omega]
        show (b.take (63 * (n + 1)) ++ []).take b.length = _
        rw [List.append_nil, List.take_take, Nat.min_eq_right (by omega)]
    · rw [List.length_append, List.length_append, List.length_take, List.length_take, List.length_drop]
      omega
/-- The whole group comes together. -/
theorem group_join (gen n : Nat) (b : List UInt8) : (((headF gen n b).drop 25) ++ joinN (pieceF (b.drop 39)) (secN b.length - 1)).take b.length = b := by
  rw [headF_data]
  by_cases h : b.length ≤ 39
  · have : secN b.length - 1 = 0 := by unfold secN; rw [if_pos h]
    rw [this]
    show ((b.take 39 ++ zerosB _) ++ []).take b.length = b
    rw [List.append_nil, List.take_of_length_le h, List.take_append_of_le_length (Nat.le_refl _), List.take_length]
  · have hs : secN b.length - 1 = (b.length + 23) / 63 := by unfold secN; rw [if_neg h]; omega
    rw [hs, show 39 - min 39 b.length = 0 by omega]
    show ((b.take 39 ++ []) ++ _).take b.length = b
    rw [List.append_nil]
    have hd : (b.drop 39).length = b.length - 39 := List.length_drop
    obtain ⟨h1, h2⟩ := join_take (b.drop 39) ((b.length + 23) / 63) (by right; omega)
    have e : b.length = 39 + (b.drop 39).length := by omega
    have h39 : (b.take 39).length = 39 := by rw [List.length_take]; omega
    have : (b.take 39 ++ joinN (pieceF (b.drop 39)) ((b.length + 23) / 63)).take (39 + (b.drop 39).length) = b.take 39 ++ (joinN (pieceF (b.drop 39)) ((b.length + 23) / 63)).take (b.drop 39).length := by
      rw [List.take_append, h39, List.take_of_length_le (by omega), Nat.add_sub_cancel_left]
    rw [show b.take 39 ++ joinN (pieceF (b.drop 39)) ((b.length + 23) / 63) = b.take 39 ++ joinN (pieceF (b.drop 39)) ((b.length + 23) / 63) from rfl]
    calc (b.take 39 ++ joinN (pieceF (b.drop 39)) ((b.length + 23) / 63)).take b.length
        = (b.take 39 ++ joinN (pieceF (b.drop 39)) ((b.length + 23) / 63)).take (39 + (b.drop 39).length) := by rw [← e]
      _ = b.take 39 ++ (joinN (pieceF (b.drop 39)) ((b.length + 23) / 63)).take (b.drop 39).length := this
      _ = b.take 39 ++ b.drop 39 := by rw [h1, List.take_of_length_le (l := b.drop 39) (by omega)]
      _ = b := List.take_append_drop 39 b
end Go.Proofs.Ytpfmadinijofeaa
end
section
/- Logs on a disk, groups that are appended, and crashes. No program in sight. -/
namespace Go.Proofs.Ytpfmadinijofeaa
open Go.RowKit
def There (S : DS) (q gen n : Nat) (gr : Grp) : Prop := nowS S q = headF gen n (grpB gr) ∧ ∀ i, i < secN (grpB gr).length - 1 → nowS S (q + 1 + i) = pieceF ((grpB gr).drop 39) i
def Chain (S : DS) (first gen : Nat) : Nat → Nat → List Grp → Nat → Prop
  | p, _, [], u => u = p
  | p, k, g :: r, u => There S (first + p) gen k g ∧ g ≠ [] ∧ (grpB g).length ≤ 1000000 ∧ Chain S first gen (p + secN (grpB g).length) (k + 1) r u
theorem Chain.le {S : DS} {first gen : Nat} : ∀ {gs : List Grp} {p k u : Nat}, Chain S first gen p k gs u → p ≤ u ∧ gs.length ≤ u - p
  | [], p, k, u, h => by have h : u = p := h; subst h; exact ⟨Nat.le_refl _, Nat.zero_le _⟩
  | g :: r, p, k, u, h => by
    obtain ⟨h1, h2⟩ := Chain.le h.2.2.2
    have := secN_pos (grpB g).length
    rw [List.length_cons]
    omega
theorem Chain.congr {S T : DS} {first gen : Nat} : ∀ {gs : List Grp} {p k u : Nat}, Chain S first gen p k gs u → (∀ i, first + p ≤ i → i < first + u → nowS T i = nowS S i) → Chain T first gen p k gs u
  | [], p, k, u, h, _ => h
  | g :: r, p, k, u, h, hc => by
    have hl := Chain.le h.2.2.2
    have sp := secN_pos (grpB g).length
    obtain ⟨⟨h1, h2⟩, h3, h4, h5⟩ := h
    exact ⟨⟨by rw [hc _ (by omega) (by omega)]; exact h1, fun i hi => by rw [hc _ (by omega) (by omega)]; exact h2 i hi⟩, h3, h4, Chain.congr h5 fun i a b => hc i (by omega) b⟩
theorem Chain.snoc {S : DS} {first gen : Nat} {g : Grp} : ∀ {gs : List Grp} {p k u : Nat}, Chain S first gen p k gs u → There S (first + u) gen (k + gs.length) g → g ≠ [] → (grpB g).length ≤ 1000000 → Chain S first gen p k (gs ++ [g]) (u + secN (grpB g).length)
  | [], p, k, u, h, ht, hn, hl => by
    have h : u = p := h
    subst h
    exact ⟨ht, hn, hl, rfl⟩
  | g' :: r, p, k, u, h, ht, hn, hl => by
    obtain ⟨h1, h2, h3, h4⟩ := h
    refine ⟨h1, h2, h3, Chain.snoc h4 ?_ hn hl⟩
    rw [List.length_cons] at ht
    rw [show k + 1 + r.length = k + (r.length + 1) by omega]
    exact ht
/-! Heads and what is none. -/
def NotHead (s : List UInt8) (gen : Nat) : Prop := s.take 9 ≠ [1] ++ beB gen 8
theorem NotHead.p {s : List UInt8} {gen : Nat} (h : NotHead s gen) (n : Nat) : s.take 17 ≠ headP gen n := fun e => h (by
  have : (s.take 17).take 9 = (headP gen n).take 9 := by rw [e]
  rw [List.take_take] at this
  rw [show min 9 17 = 9 from rfl] at this
  rw [this]
  unfold headP
  rw [List.take_append_of_le_length (by simp [beB_len]), List.take_of_length_le (by simp [beB_len])])
theorem beB_inj {a b : Nat} (ha : a < 9223372036854775808) (hb : b < 9223372036854775808) (h : beB a 8 = beB b 8) : a = b := by
  have h1 := foldI_beB ha
  have h2 := foldI_beB hb
  rw [h, h2] at h1
  omega
theorem notHead_first {s : List UInt8} {gen : Nat} {x : UInt8} (h : s.head? = some x) (hx : x ≠ 1) : NotHead s gen := fun e => by
  cases s with
  | nil => cases h
  | cons y r =>
    injection h with h
    subst h
    rw [List.take_succ_cons, List.singleton_append] at e
    injection e with e _
    exact hx e
theorem notHead_piece (b : List UInt8) (i gen : Nat) : NotHead (pieceF b i) gen := notHead_first (x := 2) (by unfold pieceF bodyB; rfl) (by decide)
theorem notHead_zero (gen : Nat) : NotHead zero64 gen := notHead_first (x := 0) rfl (by decide)
theorem notHead_gen {g1 g2 n : Nat} {b : List UInt8} (h1 : g1 < 9223372036854775808) (h2 : g2 < 9223372036854775808) (hne : g1 ≠ g2) : NotHead (headF g1 n b) g2 := fun e => by
  have h9 : (headF g1 n b).take 9 = [1] ++ beB g1 8 := by
    rw [headF_eq, List.take_append_of_le_length (by rw [headP_len]; omega)]
    unfold headP
    rw [List.take_append_of_le_length (by simp [beB_len]), List.take_of_length_le (by simp [beB_len])]
  rw [h9] at e
  exact hne (beB_inj h1 h2 (by injection e with _ e))
/-! One group more. -/
structure Put (S T : DS) (L : LG) (g : Grp) : Prop where
  n : T.n = S.n
  off : T.off = false
  calm : Calm T
  left0 : S.left ≤ 0 → T.left ≤ 0
  there : There T (L.first + L.used) L.gen L.groups g
  rest : ∀ i, i < L.first + L.used ∨ L.first + L.used + secN (grpB g).length ≤ i → T.last i = S.last i
  new : ∀ i, T.last i = S.last i ∨ T.last i = headF L.gen L.groups (grpB g) ∨ ∃ j, T.last i = pieceF ((grpB g).drop 39) j
structure PutHalf (S T : DS) (L : LG) (g : Grp) : Prop where
  n : T.n = S.n
  off : T.off = true
  rest : ∀ kept i, i < L.first + L.used ∨ L.first + L.used + secN (grpB g).length ≤ i → (crashD T kept).last i = S.last i
  new : ∀ kept i, (crashD T kept).last i = S.last i ∨ (crashD T kept).last i = headF L.gen L.groups (grpB g) ∨ ∃ j, (crashD T kept).last i = pieceF ((grpB g).drop 39) j
  mid : ∀ kept i, L.first + L.used < i → (crashD T kept).last i = S.last i ∨ ∃ j, (crashD T kept).last i = pieceF ((grpB g).drop 39) j
  head : ∀ kept, (crashD T kept).last (L.first + L.used) = S.last (L.first + L.used) ∨ There (crashD T kept) (L.first + L.used) L.gen L.groups g
theorem piece_self {b : List UInt8} (h : b.length = 64) : pieceB b 0 = b := by
  unfold pieceB
  rw [Nat.zero_mul, List.drop_zero, List.take_of_length_le (by omega)]
theorem ap_cases {S : DS} (hc : Calm S) (ho : S.off = false) {L : LG} {g : Grp} (htop : L.first + L.size ≤ S.n) (hused : L.used ≤ L.size) (hne : g ≠ []) (hs : secN (grpB g).length ≤ L.size - L.used) :
    (apE S L g = 0 ∧ Put S (apD S L g) L g) ∨ (apE S L g = 12 ∧ 0 < S.left ∧ PutHalf S (apD S L g) L g) := by
  have sp := secN_pos (grpB g).length
  have hb := tailF_len (grpB g)
  have eE : apE S L g = if pwE S ((L.first + L.used + 1 : Nat) : Int) (tailF (grpB g)) ≠ 0 then pwE S ((L.first + L.used + 1 : Nat) : Int) (tailF (grpB g)) else pwE (pwD S ((L.first + L.used + 1 : Nat) : Int) (tailF (grpB g))) ((L.first + L.used : Nat) : Int) (headF L.gen L.groups (grpB g)) := by
    unfold apE; rw [if_neg hne, if_neg (by omega)]
  have eD : apD S L g = if pwE S ((L.first + L.used + 1 : Nat) : Int) (tailF (grpB g)) ≠ 0 then pwD S ((L.first + L.used + 1 : Nat) : Int) (tailF (grpB g)) else pwD (pwD S ((L.first + L.used + 1 : Nat) : Int) (tailF (grpB g))) ((L.first + L.used : Nat) : Int) (headF L.gen L.groups (grpB g)) := by
    unfold apD; rw [if_neg hne, if_neg (by omega)]
  rw [eE, eD]
  have hdm : (tailF (grpB g)).length / 64 = secN (grpB g).length - 1 := by omega
  have htp : ∀ i, i < secN (grpB g).length - 1 → pieceB (tailF (grpB g)) i = pieceF ((grpB g).drop 39) i := fun i hi => pieceB_tail _ hi
  generalize hq : L.first + L.used = q
  rcases pw_cases hc ho (p := q + 1) hb (by omega) with ⟨w1, w2⟩ | ⟨w1, w0, w2⟩
  · rw [w1, if_neg (by decide), if_neg (by decide)]
    generalize pwD S ((q + 1 : Nat) : Int) (tailF (grpB g)) = T1 at w2
    have hhl := headF_len L.gen L.groups (grpB g)
    have hh : (headF L.gen L.groups (grpB g)).length / 64 = 1 := by rw [hhl]
    rcases pw_cases w2.calm w2.off (p := q) (b := headF L.gen L.groups (grpB g)) (m := 1) hhl (by rw [w2.n]; omega) with ⟨v1, v2⟩ | ⟨v1, v0, v2⟩
    · generalize pwD T1 (q : Int) (headF L.gen L.groups (grpB g)) = T2 at v2
      have hl1 : T2.last q = headF L.gen L.groups (grpB g) := by rw [v2.last, hh, if_pos (by omega), Nat.sub_self, piece_self hhl]
      have hl2 : ∀ i, i < secN (grpB g).length - 1 → T2.last (q + 1 + i) = pieceF ((grpB g).drop 39) i := fun i hi => by
        rw [v2.last, hh, if_neg (by omega), w2.last, hdm, if_pos (by omega), Nat.add_sub_cancel_left, htp i hi]
      have hl3 : ∀ i, i < q ∨ q + secN (grpB g).length ≤ i → T2.last i = S.last i := fun i hi => by
        rw [v2.last, hh, if_neg (by omega), w2.last, hdm, if_neg (by omega)]
      refine .inl ⟨v1, ⟨by rw [v2.n, w2.n], v2.off, v2.calm, fun h => v2.left0 (w2.left0 h), ?_, ?_, fun i => ?_⟩⟩
      · rw [hq]
        exact ⟨by rw [v2.calm.now]; exact hl1, fun i hi => by rw [v2.calm.now]; exact hl2 i hi⟩
      · rw [hq]; exact hl3
      · by_cases h1 : i < q ∨ q + secN (grpB g).length ≤ i
        · exact .inl (hl3 i h1)
        · by_cases h2 : i = q
          · subst h2; exact .inr (.inl hl1)
          · have := hl2 (i - q - 1) (by omega)
            rw [show q + 1 + (i - q - 1) = i by omega] at this
            exact .inr (.inr ⟨_, this⟩)
    · have cr : ∀ kept i, (crashD (pwD T1 (q : Int) (headF L.gen L.groups (grpB g))) kept).last i = T1.last i ∨ (i = q ∧ (crashD (pwD T1 (q : Int) (headF L.gen L.groups (grpB g))) kept).last i = headF L.gen L.groups (grpB g)) := fun kept i => by
        rcases v2.crash kept i with h | ⟨h1, h2, h⟩
        · exact .inl h
        · rw [hh] at h2
          have : i = q := by omega
          subst this
          rw [Nat.sub_self, piece_self hhl] at h
          exact .inr ⟨rfl, h⟩
      have t1l : ∀ i, T1.last i = S.last i ∨ (q < i ∧ i < q + secN (grpB g).length ∧ ∃ j, T1.last i = pieceF ((grpB g).drop 39) j) := fun i => by
        rw [w2.last, hdm]
        by_cases h1 : q + 1 ≤ i ∧ i < q + 1 + (secN (grpB g).length - 1)
        · rw [if_pos h1]
          exact .inr ⟨by omega, by omega, _, htp _ (by omega)⟩
        · rw [if_neg h1]; exact .inl rfl
      refine .inr ⟨v1, ?_, ⟨by rw [v2.n, w2.n], v2.off, fun kept i hi => ?_, fun kept i => ?_, fun kept i hi => ?_, fun kept => ?_⟩⟩
      · rcases Int.lt_or_le 0 S.left with h | h
        · exact h
        · have := w2.left0 h; omega
      · rw [hq] at hi
        rcases cr kept i with h | ⟨h, _⟩
        · rw [h]
          rcases t1l i with h2 | ⟨h2, h3, _⟩
          · exact h2
          · omega
        · omega
      · rcases cr kept i with h | ⟨_, h⟩
        · rw [h]
          rcases t1l i with h2 | ⟨_, _, h2⟩
          · exact .inl h2
          · exact .inr (.inr h2)
        · exact .inr (.inl h)
      · rw [hq] at hi
        rcases cr kept i with h | ⟨h, _⟩
        · rw [h]
          rcases t1l i with h2 | ⟨_, _, h2⟩
          · exact .inl h2
          · exact .inr h2
        · omega
      · rw [hq]
        rcases cr kept q with h | ⟨_, h⟩
        · left
          rw [h]
          rcases t1l q with h2 | ⟨h2, _, _⟩
          · exact h2
          · omega
        · right
          have hcm := Calm.crash (pwD T1 (q : Int) (headF L.gen L.groups (grpB g))) kept
          refine ⟨by rw [hcm.now]; exact h, fun i hi => ?_⟩
          rw [hcm.now]
          rcases cr kept (q + 1 + i) with h' | ⟨h', _⟩
          · rw [h', w2.last, hdm, if_pos (by omega), Nat.add_sub_cancel_left, htp i hi]
          · omega
  · rw [w1, if_pos (by decide), if_pos (by decide)]
    have cr : ∀ kept i, (crashD (pwD S ((q + 1 : Nat) : Int) (tailF (grpB g))) kept).last i = S.last i ∨ (q < i ∧ i < q + secN (grpB g).length ∧ ∃ j, (crashD (pwD S ((q + 1 : Nat) : Int) (tailF (grpB g))) kept).last i = pieceF ((grpB g).drop 39) j) := fun kept i => by
      rcases w2.crash kept i with h | ⟨h1, h2, h⟩
      · exact .inl h
      · rw [hdm] at h2
        exact .inr ⟨by omega, by omega, _, by rw [h]; exact htp _ (by omega)⟩
    refine .inr ⟨rfl, w0, ⟨w2.n, w2.off, fun kept i hi => ?_, fun kept i => ?_, fun kept i hi => ?_, fun kept => .inl ?_⟩⟩
    · rw [hq] at hi
      rcases cr kept i with h | ⟨h1, h2, _⟩
      · exact h
      · omega
    · rcases cr kept i with h | ⟨_, _, h⟩
      · exact .inl h
      · exact .inr (.inr h)
    · rcases cr kept i with h | ⟨_, _, h⟩
      · exact .inl h
      · exact .inr h
    · rw [hq]
      rcases cr kept q with h | ⟨h1, _, _⟩
      · exact h
      · omega
/-! The log, its groups. -/
structure LogOk (S : DS) (first size gen : Nat) (gs : List Grp) (u : Nat) : Prop where
  wf : DWf S
  calm : Calm S
  off : S.off = false
  top : first + size ≤ S.n
  one : 1 ≤ size
  genl : gen < 9223372036854775808
  chain : Chain S first gen 0 0 gs u
  used : u ≤ size
  clean : ∀ i, u ≤ i → i < size → NotHead (S.last (first + i)) gen
section
variable {S : DS} {first size gen u : Nat} {gs : List Grp}
theorem LogOk.lw (h : LogOk S first size gen gs u) : first + size ≤ S.n ∧ u ≤ size ∧ gs.length ≤ u ∧ gen < 9223372036854775808 := ⟨h.top, h.used, by have := h.chain.le.2; omega, h.genl⟩
theorem LogOk.stop (h : LogOk S first size gen gs u) : u = size ∨ (nowS S (first + u)).take 17 ≠ headP gen gs.length := by
  by_cases e : u = size
  · exact .inl e
  · right
    rw [h.calm.now]
    exact (h.clean u (Nat.le_refl _) (by have := h.used; omega)).p _
theorem log_new {n : Nat} (h1 : 1 ≤ n) (h2 : n ≤ 8192) (hs : 1 ≤ size) (ht : first + size ≤ n) (hg : gen < 9223372036854775808) : LogOk (newS n) first size gen [] 0 :=
  ⟨newS_wf h1 h2, fun _ => rfl, rfl, ht, hs, hg, rfl, Nat.zero_le _, fun _ _ _ => notHead_zero gen⟩
theorem LogOk.put {T : DS} {g : Grp} (h : LogOk S first size gen gs u) (hW : DWf T) (hp : Put S T ⟨first, size, gen, u, gs.length⟩ g) (hne : g ≠ []) (hl : (grpB g).length ≤ 1000000) (hs : secN (grpB g).length ≤ size - u) : LogOk T first size gen (gs ++ [g]) (u + secN (grpB g).length) := by
  have hu := h.used
  refine ⟨hW, hp.calm, hp.off, by rw [hp.n]; exact h.top, h.one, h.genl, Chain.snoc (h.chain.congr fun i _ b => ?_) ?_ hne hl, by omega, fun i a b => ?_⟩
  · rw [hp.calm.now, h.calm.now]
    exact hp.rest i (.inl b)
  · rw [Nat.zero_add]; exact hp.there
  · rw [hp.rest (first + i) (.inr (by show first + u + _ ≤ _; omega))]
    exact h.clean i (by omega) b
theorem LogOk.same {T : DS} (h : LogOk S first size gen gs u) (hW : DWf T) (hc : Calm T) (ho : T.off = false) (hn : T.n = S.n) (hl : ∀ i, first ≤ i → i < first + size → T.last i = S.last i) : LogOk T first size gen gs u := by
  have hu := h.used
  refine ⟨hW, hc, ho, by rw [hn]; exact h.top, h.one, h.genl, h.chain.congr fun i a b => ?_, h.used, fun i a b => ?_⟩
  · rw [hc.now, h.calm.now]; exact hl i (by omega) (by omega)
  · rw [hl _ (by omega) (by omega)]; exact h.clean i a b
theorem LogOk.crash (h : LogOk S first size gen gs u) (kept : List Bool) : LogOk (crashD S kept) first size gen gs u := h.same (h.wf.crash kept) (Calm.crash S kept) rfl rfl fun i _ _ => by rw [crash_calm h.calm]
theorem LogOk.cut (h : LogOk S first size gen gs u) {n : Int} (hn : n ≤ 9223372036854775807) : LogOk (cutD S n) first size gen gs u := h.same (h.wf.cut hn) h.calm h.off rfl fun _ _ _ => rfl
theorem LogOk.half {T : DS} {g : Grp} (h : LogOk S first size gen gs u) (hW : DWf T) (hp : PutHalf S T ⟨first, size, gen, u, gs.length⟩ g) (hne : g ≠ []) (hl : (grpB g).length ≤ 1000000) (hs : secN (grpB g).length ≤ size - u) (kept : List Bool) :
    LogOk (crashD T kept) first size gen gs u ∨ LogOk (crashD T kept) first size gen (gs ++ [g]) (u + secN (grpB g).length) := by
  have hu := h.used
  have hcm := Calm.crash T kept
  have hch : Chain (crashD T kept) first gen 0 0 gs u := h.chain.congr fun i _ b => by rw [hcm.now, h.calm.now]; exact hp.rest kept i (.inl b)
  have sp := secN_pos (grpB g).length
  have hcl : ∀ i, u < i → i < size → NotHead ((crashD T kept).last (first + i)) gen := fun i a b => by
    rcases hp.mid kept (first + i) (by show first + u < _; omega) with e | ⟨j, e⟩
    · rw [e]; exact h.clean i (by omega) b
    · rw [e]; exact notHead_piece _ _ _
  rcases hp.head kept with e | e
  · left
    refine ⟨hW.crash kept, hcm, rfl, by show first + size ≤ T.n; rw [hp.n]; exact h.top, h.one, h.genl, hch, h.used, fun i a b => ?_⟩
    by_cases hi : i = u
    · subst hi
      have e : (crashD T kept).last (first + i) = S.last (first + i) := e
      rw [e]
      exact h.clean i (Nat.le_refl _) b
    · exact hcl i (by omega) b
  · right
    refine ⟨hW.crash kept, hcm, rfl, by show first + size ≤ T.n; rw [hp.n]; exact h.top, h.one, h.genl, hch.snoc (by rw [Nat.zero_add]; exact e) hne hl, by omega, fun i a b => hcl i (by omega) b⟩
/-- No sector is a head of that generation. -/
def Elder (S : DS) (first size gen : Nat) : Prop := ∀ i, i < size → NotHead (S.last (first + i)) gen
theorem Elder.put {T : DS} {L : LG} {g : Grp} {gen2 : Nat} (h : Elder S first size gen2) (hp : Put S T L g) (h1 : L.gen < 9223372036854775808) (h2 : gen2 < 9223372036854775808) (hne : L.gen ≠ gen2) : Elder T first size gen2 := fun i hi => by
  rcases hp.new (first + i) with e | e | ⟨j, e⟩
  · rw [e]; exact h i hi
  · rw [e]; exact notHead_gen h1 h2 hne
  · rw [e]; exact notHead_piece _ _ _
theorem Elder.half {T : DS} {L : LG} {g : Grp} {gen2 : Nat} (h : Elder S first size gen2) (hp : PutHalf S T L g) (h1 : L.gen < 9223372036854775808) (h2 : gen2 < 9223372036854775808) (hne : L.gen ≠ gen2) (kept : List Bool) : Elder (crashD T kept) first size gen2 := fun i hi => by
  rcases hp.new kept (first + i) with e | e | ⟨j, e⟩
  · rw [e]; exact h i hi
  · rw [e]; exact notHead_gen h1 h2 hne
  · rw [e]; exact notHead_piece _ _ _
theorem Elder.log (h : Elder S first size gen) (hW : DWf S) (hc : Calm S) (ho : S.off = false) (ht : first + size ≤ S.n) (h1 : 1 ≤ size) (hg : gen < 9223372036854775808) : LogOk S first size gen [] 0 :=
  ⟨hW, hc, ho, ht, h1, hg, rfl, Nat.zero_le _, fun i _ b => h i b⟩
end
end Go.Proofs.Ytpfmadinijofeaa
end
section
/- Slots and a log behind them on one disk. No program in sight. -/
namespace Go.Proofs.Ytpfmadinijofeaa
open Go.RowKit
structure Fine (S : DS) (gen : Nat) (im : List UInt8) (G : List Grp) (u : Nat) : Prop where
  two : Two S 0 10 gen im
  log : LogOk S 20 40 gen G u
  eld : ∀ gen2, gen < gen2 → gen2 < 9223372036854775808 → Elder S 20 40 gen2
section
variable {S T : DS} {gen u : Nat} {im : List UInt8} {G : List Grp}
theorem Fine.same (h : Fine S gen im G u) (hW : DWf T) (hc : Calm T) (ho : T.off = false) (hn : T.n = S.n) (hl : ∀ i, T.last i = S.last i) : Fine T gen im G u :=
  ⟨h.two.calmTo hW hc ho hn (fun i _ _ => hl i) (hl _) (fun _ => hl _), h.log.same hW hc ho hn fun i _ _ => hl i, fun g2 h1 h2 i hi => by rw [hl]; exact h.eld g2 h1 h2 i hi⟩
theorem Fine.cut (h : Fine S gen im G u) {n : Int} (hn : n ≤ 9223372036854775807) : Fine (cutD S n) gen im G u := h.same (h.two.wf.cut hn) h.two.calm h.two.off rfl fun _ => rfl
theorem Fine.crash (h : Fine S gen im G u) (kept : List Bool) : Fine (crashD S kept) gen im G u := h.same (h.two.wf.crash kept) (Calm.crash S kept) rfl rfl fun i => by rw [crash_calm h.two.calm]
theorem at_sixty {S : DS} (h : S.n = 60) : atE S ((0 : Nat) : Int) ((10 : Nat) : Int) = 0 := by unfold atE; rw [h]; decide
/-- The next image is there: a new log begins behind it. -/
theorem Fine.next (h : Fine S gen im G u) {im2 : List UInt8} (hT : Two T 0 10 (gen + 1) im2) (hn : T.n = S.n) (hg : gen + 1 < 9223372036854775808) (hl : ∀ i, 20 ≤ i → T.last i = S.last i) : Fine T (gen + 1) im2 [] 0 := by
  have he : ∀ gen2, gen < gen2 → gen2 < 9223372036854775808 → Elder T 20 40 gen2 := fun g2 h1 h2 i hi => by rw [hl _ (by omega)]; exact h.eld g2 h1 h2 i hi
  exact ⟨hT, (he (gen + 1) (Nat.lt_succ_self _) hg).log hT.wf hT.calm hT.off (by rw [hn]; exact h.log.top) (by omega) hg, fun g2 h1 h2 => he g2 (by omega) h2⟩
theorem Fine.saved (h : Fine S gen im G u) {im2 : List UInt8} (hW : DWf T) (hg : gen + 1 < 9223372036854775808) (hs : Saved S T (0 + (gen + 1) % 2 * 10) 10 (gen + 1) im2) : Fine T (gen + 1) im2 [] 0 :=
  h.next (h.two.saved hW hs) hs.n hg fun i hi => hs.rest i (by omega)
theorem Fine.halfSaved (h : Fine S gen im G u) {im2 : List UInt8} (hW : DWf T) (hg : gen + 1 < 9223372036854775808) (hs : Half S T (0 + (gen + 1) % 2 * 10) 10 (gen + 1) im2) (kept : List Bool) :
    Fine (crashD T kept) gen im G u ∨ Fine (crashD T kept) (gen + 1) im2 [] 0 := by
  have hl : ∀ i, 20 ≤ i → (crashD T kept).last i = S.last i := fun i hi => hs.rest kept i (by omega)
  have hn : (crashD T kept).n = S.n := hs.n
  rcases h.two.half hW hs kept with hT | hT
  · exact .inl ⟨hT, h.log.same hT.wf hT.calm hT.off hn fun i a _ => hl i a, fun g2 h1 h2 i hi => by rw [hl _ (by omega)]; exact h.eld g2 h1 h2 i hi⟩
  · exact .inr (h.next hT hn hg hl)
theorem Fine.two_log (h : Fine S gen im G u) (hW : DWf T) (hc : Calm T) (ho : T.off = false) (hn : T.n = S.n) (hl : ∀ i, i < 20 → T.last i = S.last i) : Two T 0 10 gen im :=
  h.two.calmTo hW hc ho hn (fun i a _ => hl i (by omega)) (hl _ (by omega)) (fun _ => hl _ (by omega))
inductive FineStep (S : DS) (gen : Nat) (im : List UInt8) (G : List Grp) (u : Nat) (g : Grp) : Prop
  | yes (e : apE S ⟨20, 40, gen, u, G.length⟩ g = 0) (o : (apD S ⟨20, 40, gen, u, G.length⟩ g).off = false) (G' : List Grp) (u' : Nat) (hG : G'.flatten = G.flatten ++ g) (k : Fine (apD S ⟨20, 40, gen, u, G.length⟩ g) gen im G' u') (l : apL S ⟨20, 40, gen, u, G.length⟩ g = ⟨20, 40, gen, u', G'.length⟩)
  | no (e : apE S ⟨20, 40, gen, u, G.length⟩ g ≠ 0) (k : Fine (apD S ⟨20, 40, gen, u, G.length⟩ g) gen im G u) (l : apL S ⟨20, 40, gen, u, G.length⟩ g = ⟨20, 40, gen, u, G.length⟩)
  | off (e : apE S ⟨20, 40, gen, u, G.length⟩ g ≠ 0) (o : (apD S ⟨20, 40, gen, u, G.length⟩ g).off = true) (k : ∀ kept, ∃ G' u', (G'.flatten = G.flatten ∨ G'.flatten = G.flatten ++ g) ∧ Fine (crashD (apD S ⟨20, 40, gen, u, G.length⟩ g) kept) gen im G' u')
theorem fine_step (h : Fine S gen im G u) {g : Grp} (hb : (grpB g).length ≤ 1000000) : FineStep S gen im G u g := by
  have hL := h.log
  by_cases hne : g = []
  · have d : apD S ⟨20, 40, gen, u, G.length⟩ g = S := by unfold apD; rw [if_pos hne]
    exact .yes (by unfold apE; rw [if_pos hne]) (by rw [d]; exact hL.off) G u (by rw [hne, List.append_nil]) (by rw [d]; exact h) (by unfold apL; rw [if_neg (fun k => k.1 hne)])
  · by_cases hs : 40 - u < secN (grpB g).length
    · have e1 : apE S ⟨20, 40, gen, u, G.length⟩ g = 11 := by unfold apE; rw [if_neg hne, if_pos hs]
      have d : apD S ⟨20, 40, gen, u, G.length⟩ g = S := by unfold apD; rw [if_neg hne, if_pos hs]
      exact .no (by rw [e1]; decide) (by rw [d]; exact h) (by unfold apL; rw [if_neg (fun k => by rw [e1] at k; exact absurd k.2 (by decide))])
    · have hW := hL.wf.ap ⟨20, 40, gen, u, G.length⟩ g
      rcases ap_cases hL.calm hL.off (L := ⟨20, 40, gen, u, G.length⟩) (g := g) hL.top hL.used hne (by show _ ≤ 40 - u; omega) with ⟨e1, hp⟩ | ⟨e1, _, hp⟩
      · refine .yes e1 hp.off (G ++ [g]) (u + secN (grpB g).length) (by rw [List.flatten_append]; simp) ⟨h.two_log hW hp.calm hp.off hp.n fun i hi => hp.rest i (.inl (by show i < 20 + u; omega)), hL.put hW hp hne hb (by omega), fun g2 h1 h2 => (h.eld g2 h1 h2).put hp hL.genl h2 (by show gen ≠ g2; omega)⟩ (by unfold apL; rw [if_pos ⟨hne, e1⟩, List.length_append]; rfl)
      · refine .off (by rw [e1]; decide) hp.off fun kept => ?_
        have hT : Two (crashD (apD S ⟨20, 40, gen, u, G.length⟩ g) kept) 0 10 gen im := h.two_log (hW.crash kept) (Calm.crash _ kept) rfl hp.n fun i hi => hp.rest kept i (.inl (by show i < 20 + u; omega))
        have hE : ∀ gen2, gen < gen2 → gen2 < 9223372036854775808 → Elder (crashD (apD S ⟨20, 40, gen, u, G.length⟩ g) kept) 20 40 gen2 := fun g2 h1 h2 => (h.eld g2 h1 h2).half hp hL.genl h2 (by show gen ≠ g2; omega) kept
        rcases hL.half hW hp hne hb (by omega) kept with k | k
        · exact ⟨G, u, .inl rfl, hT, k, hE⟩
        · exact ⟨G ++ [g], _, .inr (by rw [List.flatten_append]; simp), hT, k, hE⟩
theorem fine_new {im : List UInt8} {T : DS} (hW : DWf T) (hs : Saved (newS 60) T (0 + (0 + 1) % 2 * 10) 10 (0 + 1) im) : Fine T 1 im [] 0 := by
  have h0 := two_new (n := 60) (first := 0) (size := 10) (by omega) (by omega) (at_sixty rfl)
  have hT := h0.saved hW hs
  have he : ∀ gen2, Elder T 20 40 gen2 := fun g2 i hi => by rw [hs.rest _ (by omega)]; exact notHead_zero g2
  exact ⟨hT, (he 1).log hT.wf hT.calm hT.off (by rw [hs.n]; decide) (by omega) (by omega), fun g2 _ _ => he g2⟩
end
end Go.Proofs.Ytpfmadinijofeaa
end
section
/- Texts, rows of texts, rows of rows of texts that came in. No program in sight. -/
namespace Go.Proofs.Ytpfmadinijofeaa
open Go.RowKit Go.WideShapes
structure Im where
  a : Option Addr
  c : Nat
  bs : List UInt8
structure ImAt (w : World) (b off : Nat) (x : Im) : Prop where
  cell : cellsAt w b off [.slice x.a x.bs.length x.c]
  row : RowAt w x.a (x.bs.map bV)
  cap : x.bs.length ≤ x.c
  small : x.c ≤ maxLen
theorem ImAt.below {w w' : World} {b off : Nat} {x : Im} (h : ImAt w b off x) (hb : Below w.heap.size w w') : ImAt w' b off x := ⟨cellsAt_below h.cell hb (Nat.le_refl _), h.row.below hb (Nat.le_refl _), h.cap, h.small⟩
theorem im_elem {w : World} (cs' : List Value) (b off : Nat) (hl : cs'.length = 1) (hc : cellsAt w b off cs') (h : shBytes.Has w cs') : ∃ x, ImAt w b off x := by
  obtain ⟨bs, a, c, rfl, h1, h2, h3⟩ := has_bytes h
  exact ⟨⟨a, c, bs⟩, hc, h3, h1, h2⟩
theorem open_imgs {H : Type} {enc : TypeId × Value → H} {P : Program} {W : World} {t : TypeId} {v : Value} {d : DataW H} {p : List MemPlace} (hf : fitsB P (.slice shBytes 1) t = true) (hv : ∃ a l c, v = .slice a l c) (h : DataW.Trod enc P W 0 (fun _ => true) true t v d p) :
    ∃ (xs : List Im) (a : Option Addr) (c : Nat), v = .slice a xs.length c ∧ RowsAt ImAt 1 W a xs ∧ xs.length ≤ c ∧ c ≤ maxLen := open_rows (by decide) im_elem hf hv h
abbrev Ims (w : World) (a : Option Addr) (xs : List Im) : Prop := RowsAt ImAt 1 w a xs
theorem Ims.below {w w' : World} {a : Option Addr} {xs : List Im} (h : Ims w a xs) (hb : Below w.heap.size w w') : Ims w' a xs := RowsAt.mono h fun _ _ _ q => q.below hb
theorem ims_get {w : World} {a : Option Addr} {xs : List Im} (hx : Ims w a xs) (i : Nat) (hi : i < xs.length) {wx : World} (B : Below w.heap.size w wx) : ∃ b off, a = some ⟨b, off, none⟩ ∧ ImAt wx b (off + i * 1) xs[i] := by
  obtain ⟨b, off, ha, hc⟩ := RowsAt.get (Ims.below hx B) hi
  exact ⟨b, off, ha, hc⟩
/-- A row of texts. -/
structure Gp where
  a : Option Addr
  c : Nat
  ims : List Im
structure GpAt (w : World) (b off : Nat) (x : Gp) : Prop where
  cell : cellsAt w b off [.slice x.a x.ims.length x.c]
  row : Ims w x.a x.ims
  cap : x.ims.length ≤ x.c
  small : x.c ≤ maxLen
theorem GpAt.below {w w' : World} {b off : Nat} {x : Gp} (h : GpAt w b off x) (hb : Below w.heap.size w w') : GpAt w' b off x := ⟨cellsAt_below h.cell hb (Nat.le_refl _), h.row.below hb, h.cap, h.small⟩
def shIms : Sh := .slice shBytes 1
theorem gp_elem {w : World} (cs' : List Value) (b off : Nat) (hl : cs'.length = 1) (hc : cellsAt w b off cs') (h : shIms.Has w cs') : ∃ x, GpAt w b off x := by
  obtain ⟨xs, a, c, rfl, h1, h2, h3⟩ := has_rows (R := ImAt) (by decide) im_elem h
  exact ⟨⟨a, c, xs⟩, hc, h3, h1, h2⟩
theorem open_gps {H : Type} {enc : TypeId × Value → H} {P : Program} {W : World} {t : TypeId} {v : Value} {d : DataW H} {p : List MemPlace} (hf : fitsB P (.slice shIms 1) t = true) (hv : ∃ a l c, v = .slice a l c) (h : DataW.Trod enc P W 0 (fun _ => true) true t v d p) :
    ∃ (xs : List Gp) (a : Option Addr) (c : Nat), v = .slice a xs.length c ∧ RowsAt GpAt 1 W a xs ∧ xs.length ≤ c ∧ c ≤ maxLen := open_rows (by decide) gp_elem hf hv h
abbrev Gps (w : World) (a : Option Addr) (xs : List Gp) : Prop := RowsAt GpAt 1 w a xs
theorem Gps.below {w w' : World} {a : Option Addr} {xs : List Gp} (h : Gps w a xs) (hb : Below w.heap.size w w') : Gps w' a xs := RowsAt.mono h fun _ _ _ q => q.below hb
theorem gps_get {w : World} {a : Option Addr} {xs : List Gp} (hx : Gps w a xs) (i : Nat) (hi : i < xs.length) {wx : World} (B : Below w.heap.size w wx) : ∃ b off, a = some ⟨b, off, none⟩ ∧ GpAt wx b (off + i * 1) xs[i] := by
  obtain ⟨b, off, ha, hc⟩ := RowsAt.get (Gps.below hx B) hi
  exact ⟨b, off, ha, hc⟩
/-! Bools. -/
theorem bool_el {w : World} (cs' : List Value) (b off : Nat) (hl : cs'.length = 1) (hc : cellsAt w b off cs') (h : Sh.bool.Has w cs') : ∃ z : Bool, cellsAt w b off [.bool z] := by
  obtain ⟨x, hx⟩ := h
  match cs', hl with
  | [v0], _ =>
    simp at hx
    subst hx
    exact ⟨x, hc⟩
theorem rows_bl {w : World} {a : Option Addr} {zs : List Bool} (h : RowsAt (fun w b off (z : Bool) => cellsAt w b off [.bool z]) 1 w a zs) : RowAt w a (zs.map Value.bool) := by
  rcases h with h | ⟨b, off, ha, h⟩
  · subst h; exact .inl rfl
  · refine .inr ⟨b, off, ha, fun i v hv => ?_⟩
    rw [List.getElem?_map, Option.map_eq_some_iff] at hv
    obtain ⟨z, hz, rfl⟩ := hv
    have := cellsAt_get (h i z hz) 0 _ rfl
    rwa [Nat.mul_one, Nat.add_zero] at this
theorem open_bls {H : Type} {enc : TypeId × Value → H} {P : Program} {W : World} {t : TypeId} {v : Value} {d : DataW H} {p : List MemPlace} (hf : fitsB P (.slice .bool 1) t = true) (hv : ∃ a l c, v = .slice a l c) (h : DataW.Trod enc P W 0 (fun _ => true) true t v d p) :
    ∃ (xs : List Bool) (a : Option Addr) (c : Nat), v = .slice a xs.length c ∧ RowsAt (fun w b off (z : Bool) => cellsAt w b off [.bool z]) 1 W a xs ∧ xs.length ≤ c ∧ c ≤ maxLen := open_rows (by decide) bool_el hf hv h
/-- Texts or rows of texts, a number, what is kept. -/
structure Fl (α : Type) where
  a : Option Addr
  c : Nat
  xs : List α
  off : Int
  ka : Option Addr
  kc : Nat
  kept : List Bool
structure FlAt {α : Type} (R : World → Option Addr → List α → Prop) (w : World) (b off : Nat) (x : Fl α) : Prop where
  cell : cellsAt w b off [.slice x.a x.xs.length x.c, .int .i64 x.off, .slice x.ka x.kept.length x.kc]
  row : R w x.a x.xs
  kept : RowAt w x.ka (x.kept.map Value.bool)
  cap : x.xs.length ≤ x.c
  small : x.c ≤ maxLen
def shFl (e : Sh) : Sh := .agg (.fcons 0 1 e (.fcons 1 1 (.int .i64) (.fcons 2 1 (.slice .bool 1) .fnil)))
theorem fl_elem {α : Type} {R : World → Nat → Nat → α → Prop} {e : Sh} (el : ∀ {w : World} (cs' : List Value) (b off : Nat), cs'.length = 1 → cellsAt w b off cs' → e.Has w cs' → ∃ x, R w b off x) {w : World} (cs' : List Value) (b off : Nat) (hl : cs'.length = 3) (hc : cellsAt w b off cs') (h : (shFl (.slice e 1)).Has w cs') :
    ∃ x, FlAt (fun w a xs => RowsAt R 1 w a xs) w b off x := by
  obtain ⟨h0, ⟨x1, h1, _⟩, h2, _⟩ := h
  obtain ⟨xs, a, c, p1, p2, p3, p4⟩ := has_rows (R := R) (by decide) el h0
  obtain ⟨ks, ka, kc, q1, q2, q3, q4⟩ := has_rows (R := fun w b off (z : Bool) => cellsAt w b off [.bool z]) (by decide) bool_el h2
  match cs', hl with
  | [v0, v1, v2], _ =>
    simp at p1 h1 q1
    subst p1; subst h1; subst q1
    exact ⟨⟨a, c, xs, x1, ka, kc, ks⟩, hc, p4, rows_bl q4, p2, p3⟩
abbrev FlI := FlAt (fun w a xs => RowsAt ImAt 1 w a xs)
abbrev FlG := FlAt (fun w a xs => RowsAt GpAt 1 w a xs)
theorem open_fli {H : Type} {enc : TypeId × Value → H} {P : Program} {W : World} {t : TypeId} {v : Value} {d : DataW H} {p : List MemPlace} (hf : fitsB P (.slice (shFl (.slice shBytes 1)) 3) t = true) (hv : ∃ a l c, v = .slice a l c) (h : DataW.Trod enc P W 0 (fun _ => true) true t v d p) :
    ∃ (xs : List (Fl Im)) (a : Option Addr) (c : Nat), v = .slice a xs.length c ∧ RowsAt FlI 3 W a xs ∧ xs.length ≤ c ∧ c ≤ maxLen := open_rows (by decide) (fl_elem im_elem) hf hv h
theorem open_flg {H : Type} {enc : TypeId × Value → H} {P : Program} {W : World} {t : TypeId} {v : Value} {d : DataW H} {p : List MemPlace} (hf : fitsB P (.slice (shFl (.slice shIms 1)) 3) t = true) (hv : ∃ a l c, v = .slice a l c) (h : DataW.Trod enc P W 0 (fun _ => true) true t v d p) :
    ∃ (xs : List (Fl Gp)) (a : Option Addr) (c : Nat), v = .slice a xs.length c ∧ RowsAt FlG 3 W a xs ∧ xs.length ≤ c ∧ c ≤ maxLen := open_rows (by decide) (fl_elem gp_elem) hf hv h
theorem FlI.below {w w' : World} {b off : Nat} {x : Fl Im} (h : FlI w b off x) (hb : Below w.heap.size w w') : FlI w' b off x := ⟨cellsAt_below h.cell hb (Nat.le_refl _), Ims.below h.row hb, h.kept.below hb (Nat.le_refl _), h.cap, h.small⟩
theorem FlG.below {w w' : World} {b off : Nat} {x : Fl Gp} (h : FlG w b off x) (hb : Below w.heap.size w w') : FlG w' b off x := ⟨cellsAt_below h.cell hb (Nat.le_refl _), Gps.below h.row hb, h.kept.below hb (Nat.le_refl _), h.cap, h.small⟩
theorem fli_get {w : World} {a : Option Addr} {xs : List (Fl Im)} (hx : RowsAt FlI 3 w a xs) (i : Nat) (hi : i < xs.length) {wx : World} (B : Below w.heap.size w wx) : ∃ b off, a = some ⟨b, off, none⟩ ∧ FlI wx b (off + i * 3) xs[i] := by
  obtain ⟨b, off, ha, hc⟩ := RowsAt.get (RowsAt.mono hx fun _ _ _ q => FlI.below q B) hi
  exact ⟨b, off, ha, hc⟩
theorem flg_get {w : World} {a : Option Addr} {xs : List (Fl Gp)} (hx : RowsAt FlG 3 w a xs) (i : Nat) (hi : i < xs.length) {wx : World} (B : Below w.heap.size w wx) : ∃ b off, a = some ⟨b, off, none⟩ ∧ FlG wx b (off + i * 3) xs[i] := by
  obtain ⟨b, off, ha, hc⟩ := RowsAt.get (RowsAt.mono hx fun _ _ _ q => FlG.below q B) hi
  exact ⟨b, off, ha, hc⟩
end Go.Proofs.Ytpfmadinijofeaa
end
section
/- Falls with an image and groups of texts that came in. No program in sight. -/
namespace Go.Proofs.Ytpfmadinijofeaa
open Go.RowKit Go.WideShapes
structure Fa where
  ia : Option Addr
  ic : Nat
  im : List UInt8
  a : Option Addr
  c : Nat
  xs : List Gp
  off : Int
  ka : Option Addr
  kc : Nat
  kept : List Bool
structure FaAt (w : World) (b off : Nat) (x : Fa) : Prop where
  cell : cellsAt w b off [.slice x.ia x.im.length x.ic, .slice x.a x.xs.length x.c, .int .i64 x.off, .slice x.ka x.kept.length x.kc]
  img : RowAt w x.ia (x.im.map bV)
  icap : x.im.length ≤ x.ic
  row : Gps w x.a x.xs
  kept : RowAt w x.ka (x.kept.map Value.bool)
def shFa : Sh := .agg (.fcons 0 1 shBytes (.fcons 1 1 (.slice shIms 1) (.fcons 2 1 (.int .i64) (.fcons 3 1 (.slice .bool 1) .fnil))))
theorem fa_elem {w : World} (cs' : List Value) (b off : Nat) (hl : cs'.length = 4) (hc : cellsAt w b off cs') (h : shFa.Has w cs') : ∃ x, FaAt w b off x := by
  obtain ⟨hI, h0, ⟨x1, h1, _⟩, h2, _⟩ := h
  obtain ⟨bs, ia, ic, r1, r2, r3, r4⟩ := has_bytes hI
  obtain ⟨xs, a, c, p1, p2, p3, p4⟩ := has_rows (R := GpAt) (by decide) gp_elem h0
  obtain ⟨ks, ka, kc, q1, q2, q3, q4⟩ := has_rows (R := fun w b off (z : Bool) => cellsAt w b off [.bool z]) (by decide) bool_el h2
  match cs', hl with
  | [v0, v1, v2, v3], _ =>
    simp at r1 p1 h1 q1
    subst r1; subst p1; subst h1; subst q1
    exact ⟨⟨ia, ic, bs, a, c, xs, x1, ka, kc, ks⟩, hc, r4, r2, p4, rows_bl q4⟩
theorem open_fas {H : Type} {enc : TypeId × Value → H} {P : Program} {W : World} {t : TypeId} {v : Value} {d : DataW H} {p : List MemPlace} (hf : fitsB P (.slice shFa 4) t = true) (hv : ∃ a l c, v = .slice a l c) (h : DataW.Trod enc P W 0 (fun _ => true) true t v d p) :
    ∃ (xs : List Fa) (a : Option Addr) (c : Nat), v = .slice a xs.length c ∧ RowsAt FaAt 4 W a xs ∧ xs.length ≤ c ∧ c ≤ maxLen := open_rows (by decide) fa_elem hf hv h
theorem FaAt.below {w w' : World} {b off : Nat} {x : Fa} (h : FaAt w b off x) (hb : Below w.heap.size w w') : FaAt w' b off x := ⟨cellsAt_below h.cell hb (Nat.le_refl _), h.img.below hb (Nat.le_refl _), h.icap, Gps.below h.row hb, h.kept.below hb (Nat.le_refl _)⟩
theorem fas_get {w : World} {a : Option Addr} {xs : List Fa} (hx : RowsAt FaAt 4 w a xs) (i : Nat) (hi : i < xs.length) {wx : World} (B : Below w.heap.size w wx) : ∃ b off, a = some ⟨b, off, none⟩ ∧ FaAt wx b (off + i * 4) xs[i] := by
  obtain ⟨b, off, ha, hc⟩ := RowsAt.get (RowsAt.mono hx fun _ _ _ q => FaAt.below q B) hi
  exact ⟨b, off, ha, hc⟩
end Go.Proofs.Ytpfmadinijofeaa
end
section
/- Conditions of functions, printed by a program of this claim's own (vcgen.py) out of the loaded code; each is proved to be enough. -/
set_option maxRecDepth 100000
namespace Go.Proofs.Ytpfmadinijofeaa
open Go.RowKit
namespace GFr
def env : Env := ⟨[(3, ⟨.int .i64, 1, .int .i64 0, 8, [.int .i64]⟩), (4, ⟨.bool, 1, .bool false, 1, [.bool]⟩), (5, ⟨.int .u8, 1, .int .u8 0, 1, [.int .u8]⟩), (9, ⟨.str, 1, .string ByteArray.empty, 16, [.str]⟩), (22, ⟨.slice 5, 1, .slice none 0 0, 24, [.slice]⟩), (24, ⟨.ptr, 1, .pointer none, 8, [.ptr]⟩), (25, ⟨.int .i64, 1, .int .i64 0, 8, [.int .i64]⟩), (30, ⟨.int .u64, 1, .int .u64 0, 8, [.int .u64]⟩), (44, ⟨.slice 22, 1, .slice none 0 0, 24, [.slice]⟩), (47, ⟨.arr 3 3, 3, .agg #[.int .i64 0, .int .i64 0, .int .i64 0], 24, [.int .i64, .int .i64, .int .i64]⟩), (48, ⟨.ptr, 1, .pointer none, 8, [.ptr]⟩), (60, ⟨.slice 3, 1, .slice none 0 0, 24, [.slice]⟩), (64, ⟨.slice 4, 1, .slice none 0 0, 24, [.slice]⟩), (70, ⟨.slice 44, 1, .slice none 0 0, 24, [.slice]⟩), (76, ⟨.slice 9, 1, .slice none 0 0, 24, [.slice]⟩), (84, ⟨.slice 86, 1, .slice none 0 0, 24, [.slice]⟩), (86, ⟨.struct [(0, 70), (1, 3), (2, 64)], 3, .agg #[.slice none 0 0, .int .i64 0, .slice none 0 0], 56, [.slice, .int .i64, .slice]⟩), (114, ⟨.struct [(0, 24), (1, 3), (2, 3), (3, 3), (4, 3), (5, 3)], 6, .agg #[.pointer none, .int .i64 0, .int .i64 0, .int .i64 0, .int .i64 0, .int .i64 0], 48, [.ptr, .int .i64, .int .i64, .int .i64, .int .i64, .int .i64]⟩), (122, ⟨.int .u32, 1, .int .u32 0, 4, [.int .u32]⟩), (139, ⟨.struct [(0, 22), (1, 4)], 2, .agg #[.slice none 0 0, .bool false], 32, [.slice, .bool]⟩), (146, ⟨.ptr, 1, .pointer none, 8, [.ptr]⟩), (157, ⟨.struct [(0, 22), (1, 25)], 2, .agg #[.slice none 0 0, .int .i64 0], 32, [.slice, .int .i64]⟩)], [(13, [.lf (.ptr), .lf (.int .i64)]), (17, [.lf (.int .i64)]), (18, [.lf (.slice), .lf (.int .i64)]), (22, [.lf (.ptr), .lf (.slice), .lf (.int .i64)]), (23, [.lf (.slice)]), (24, [.lf (.bool)]), (25, [.lf (.ptr)]), (26, [.lf (.int .i64)]), (27, [.lf (.int .i64)]), (28, [.lf (.int .i64)]), (29, [.lf (.int .i64)]), (30, [.lf (.int .i64)]), (31, [.lf (.int .i64)]), (36, [.lf (.slice)]), (37, []), (38, [.lf (.bool)]), (39, []), (40, [.lf (.ptr), .lf (.ptr), .lf (.bool)]), (41, [.lf (.slice)]), (42, [.lf (.str)]), (43, [.lf (.slice)]), (44, [.lf (.bool)]), (45, [.lf (.slice), .lf (.slice)]), (46, [.lf (.slice)]), (58, [.lf (.int .i64)]), (59, [.lf (.slice), .lf (.bool), .lf (.int .i64)]), (60, [.lf (.slice)]), (61, [.lf (.int .i64)]), (62, [.lf (.int .i64)]), (63, [.lf (.slice)]), (64, [.lf (.slice)]), (65, [.lf (.int .i64)]), (67, [.lf (.int .u32)]), (70, [.lf (.str)]), (71, [.lf (.str)]), (72, [.lf (.str)]), (73, [.lf (.int .u32)]), (77, [.lf (.slice), .lf (.int .i64)]), (78, [.lf (.int .i64), .lf (.bool)]), (79, [.lf (.slice), .lf (.bool)]), (80, []), (81, [.lf (.slice), .lf (.int .i64)]), (82, [.lf (.slice)]), (83, [.lf (.str)]), (89, [.lf (.ptr)]), (90, [.lf (.int .i64)]), (91, [.lf (.int .i64)]), (92, [.lf (.slice)])], []⟩
theorem ty3 : TyOk Try.prog 3 ⟨.int .i64, 1, .int .i64 0, 8, [.int .i64]⟩ := tyok (by kernel_rfl) (by kernel_rfl)
theorem ty4 : TyOk Try.prog 4 ⟨.bool, 1, .bool false, 1, [.bool]⟩ := tyok (by kernel_rfl) (by kernel_rfl)
theorem ty5 : TyOk Try.prog 5 ⟨.int .u8, 1, .int .u8 0, 1, [.int .u8]⟩ := tyok (by kernel_rfl) (by kernel_rfl)
theorem ty9 : TyOk Try.prog 9 ⟨.str, 1, .string ByteArray.empty, 16, [.str]⟩ := tyok (by kernel_rfl) (by kernel_rfl)
theorem ty22 : TyOk Try.prog 22 ⟨.slice 5, 1, .slice none 0 0, 24, [.slice]⟩ := tyok (by kernel_rfl) (by kernel_rfl)
theorem ty24 : TyOk Try.prog 24 ⟨.ptr, 1, .pointer none, 8, [.ptr]⟩ := tyok (by kernel_rfl) (by kernel_rfl)
theorem ty25 : TyOk Try.prog 25 ⟨.int .i64, 1, .int .i64 0, 8, [.int .i64]⟩ := tyok (by kernel_rfl) (by kernel_rfl)
theorem ty30 : TyOk Try.prog 30 ⟨.int .u64, 1, .int .u64 0, 8, [.int .u64]⟩ := tyok (by kernel_rfl) (by kernel_rfl)
theorem ty44 : TyOk Try.prog 44 ⟨.slice 22, 1, .slice none 0 0, 24, [.slice]⟩ := tyok (by kernel_rfl) (by kernel_rfl)
theorem ty47 : TyOk Try.prog 47 ⟨.arr 3 3, 3, .agg #[.int .i64 0, .int .i64 0, .int .i64 0], 24, [.int .i64, .int .i64, .int .i64]⟩ := tyok (by kernel_rfl) (by kernel_rfl)
theorem ty48 : TyOk Try.prog 48 ⟨.ptr, 1, .pointer none, 8, [.ptr]⟩ := tyok (by kernel_rfl) (by kernel_rfl)
theorem ty60 : TyOk Try.prog 60 ⟨.slice 3, 1, .slice none 0 0, 24, [.slice]⟩ := tyok (by kernel_rfl) (by kernel_rfl)
theorem ty64 : TyOk Try.prog 64 ⟨.slice 4, 1, .slice none 0 0, 24, [.slice]⟩ := tyok (by kernel_rfl) (by kernel_rfl)
theorem ty70 : TyOk Try.prog 70 ⟨.slice 44, 1, .slice none 0 0, 24, [.slice]⟩ := tyok (by kernel_rfl) (by kernel_rfl)
theorem ty76 : TyOk Try.prog 76 ⟨.slice 9, 1, .slice none 0 0, 24, [.slice]⟩ := tyok (by kernel_rfl) (by kernel_rfl)
theorem ty84 : TyOk Try.prog 84 ⟨.slice 86, 1, .slice none 0 0, 24, [.slice]⟩ := tyok (by kernel_rfl) (by kernel_rfl)
theorem ty86 : TyOk Try.prog 86 ⟨.struct [(0, 70), (1, 3), (2, 64)], 3, .agg #[.slice none 0 0, .int .i64 0, .slice none 0 0], 56, [.slice, .int .i64, .slice]⟩ := tyok (by kernel_rfl) (by kernel_rfl)
theorem ty114 : TyOk Try.prog 114 ⟨.struct [(0, 24), (1, 3), (2, 3), (3, 3), (4, 3), (5, 3)], 6, .agg #[.pointer none, .int .i64 0, .int .i64 0, .int .i64 0, .int .i64 0, .int .i64 0], 48, [.ptr, .int .i64, .int .i64, .int .i64, .int .i64, .int .i64]⟩ := tyok (by kernel_rfl) (by kernel_rfl)
theorem ty122 : TyOk Try.prog 122 ⟨.int .u32, 1, .int .u32 0, 4, [.int .u32]⟩ := tyok (by kernel_rfl) (by kernel_rfl)
theorem ty139 : TyOk Try.prog 139 ⟨.struct [(0, 22), (1, 4)], 2, .agg #[.slice none 0 0, .bool false], 32, [.slice, .bool]⟩ := tyok (by kernel_rfl) (by kernel_rfl)
theorem ty146 : TyOk Try.prog 146 ⟨.ptr, 1, .pointer none, 8, [.ptr]⟩ := tyok (by kernel_rfl) (by kernel_rfl)
theorem ty157 : TyOk Try.prog 157 ⟨.struct [(0, 22), (1, 25)], 2, .agg #[.slice none 0 0, .int .i64 0], 32, [.slice, .int .i64]⟩ := tyok (by kernel_rfl) (by kernel_rfl)
theorem fn13 : FnOk Try.prog 13 := fnok Try.func13 (by kernel_rfl) (by kernel_rfl)
theorem fn17 : FnOk Try.prog 17 := fnok Try.func17 (by kernel_rfl) (by kernel_rfl)
theorem fn18 : FnOk Try.prog 18 := fnok Try.func18 (by kernel_rfl) (by kernel_rfl)
theorem fn22 : FnOk Try.prog 22 := fnok Try.func22 (by kernel_rfl) (by kernel_rfl)
theorem fn23 : FnOk Try.prog 23 := fnok Try.func23 (by kernel_rfl) (by kernel_rfl)
theorem fn24 : FnOk Try.prog 24 := fnok Try.func24 (by kernel_rfl) (by kernel_rfl)
theorem fn25 : FnOk Try.prog 25 := fnok Try.func25 (by kernel_rfl) (by kernel_rfl)
theorem fn26 : FnOk Try.prog 26 := fnok Try.func26 (by kernel_rfl) (by kernel_rfl)
theorem fn27 : FnOk Try.prog 27 := fnok Try.func27 (by kernel_rfl) (by kernel_rfl)
theorem fn28 : FnOk Try.prog 28 := fnok Try.func28 (by kernel_rfl) (by kernel_rfl)
theorem fn29 : FnOk Try.prog 29 := fnok Try.func29 (by kernel_rfl) (by kernel_rfl)
theorem fn30 : FnOk Try.prog 30 := fnok Try.func30 (by kernel_rfl) (by kernel_rfl)
theorem fn31 : FnOk Try.prog 31 := fnok Try.func31 (by kernel_rfl) (by kernel_rfl)
theorem fn36 : FnOk Try.prog 36 := fnok Try.func36 (by kernel_rfl) (by kernel_rfl)
theorem fn37 : FnOk Try.prog 37 := fnok Try.func37 (by kernel_rfl) (by kernel_rfl)
theorem fn38 : FnOk Try.prog 38 := fnok Try.func38 (by kernel_rfl) (by kernel_rfl)
theorem fn39 : FnOk Try.prog 39 := fnok Try.func39 (by kernel_rfl) (by kernel_rfl)
theorem fn40 : FnOk Try.prog 40 := fnok Try.func40 (by kernel_rfl) (by kernel_rfl)
theorem fn41 : FnOk Try.prog 41 := fnok Try.func41 (by kernel_rfl) (by kernel_rfl)
theorem fn42 : FnOk Try.prog 42 := fnok Try.func42 (by kernel_rfl) (by kernel_rfl)
theorem fn43 : FnOk Try.prog 43 := fnok Try.func43 (by kernel_rfl) (by kernel_rfl)
theorem fn44 : FnOk Try.prog 44 := fnok Try.func44 (by kernel_rfl) (by kernel_rfl)
theorem fn45 : FnOk Try.prog 45 := fnok Try.func45 (by kernel_rfl) (by kernel_rfl)
theorem fn46 : FnOk Try.prog 46 := fnok Try.func46 (by kernel_rfl) (by kernel_rfl)
theorem fn58 : FnOk Try.prog 58 := fnok Try.func58 (by kernel_rfl) (by kernel_rfl)
theorem fn59 : FnOk Try.prog 59 := fnok Try.func59 (by kernel_rfl) (by kernel_rfl)
theorem fn60 : FnOk Try.prog 60 := fnok Try.func60 (by kernel_rfl) (by kernel_rfl)
theorem fn61 : FnOk Try.prog 61 := fnok Try.func61 (by kernel_rfl) (by kernel_rfl)
theorem fn62 : FnOk Try.prog 62 := fnok Try.func62 (by kernel_rfl) (by kernel_rfl)
theorem fn63 : FnOk Try.prog 63 := fnok Try.func63 (by kernel_rfl) (by kernel_rfl)
theorem fn64 : FnOk Try.prog 64 := fnok Try.func64 (by kernel_rfl) (by kernel_rfl)
theorem fn65 : FnOk Try.prog 65 := fnok Try.func65 (by kernel_rfl) (by kernel_rfl)
theorem fn67 : FnOk Try.prog 67 := fnok Try.func67 (by kernel_rfl) (by kernel_rfl)
theorem fn70 : FnOk Try.prog 70 := fnok Try.func70 (by kernel_rfl) (by kernel_rfl)
theorem fn71 : FnOk Try.prog 71 := fnok Try.func71 (by kernel_rfl) (by kernel_rfl)
theorem fn72 : FnOk Try.prog 72 := fnok Try.func72 (by kernel_rfl) (by kernel_rfl)
theorem fn73 : FnOk Try.prog 73 := fnok Try.func73 (by kernel_rfl) (by kernel_rfl)
theorem fn77 : FnOk Try.prog 77 := fnok Try.func77 (by kernel_rfl) (by kernel_rfl)
theorem fn78 : FnOk Try.prog 78 := fnok Try.func78 (by kernel_rfl) (by kernel_rfl)
theorem fn79 : FnOk Try.prog 79 := fnok Try.func79 (by kernel_rfl) (by kernel_rfl)
theorem fn80 : FnOk Try.prog 80 := fnok Try.func80 (by kernel_rfl) (by kernel_rfl)
theorem fn81 : FnOk Try.prog 81 := fnok Try.func81 (by kernel_rfl) (by kernel_rfl)
theorem fn82 : FnOk Try.prog 82 := fnok Try.func82 (by kernel_rfl) (by kernel_rfl)
theorem fn83 : FnOk Try.prog 83 := fnok Try.func83 (by kernel_rfl) (by kernel_rfl)
theorem fn89 : FnOk Try.prog 89 := fnok Try.func89 (by kernel_rfl) (by kernel_rfl)
theorem fn90 : FnOk Try.prog 90 := fnok Try.func90 (by kernel_rfl) (by kernel_rfl)
theorem fn91 : FnOk Try.prog 91 := fnok Try.func91 (by kernel_rfl) (by kernel_rfl)
theorem fn92 : FnOk Try.prog 92 := fnok Try.func92 (by kernel_rfl) (by kernel_rfl)
theorem envOk : EOk Try.prog env := ⟨(by simp only [env, List.forall_mem_cons, List.not_mem_nil, false_implies, implies_true, and_true]; exact ⟨ty3, ty4, ty5, ty9, ty22, ty24, ty25, ty30, ty44, ty47, ty48, ty60, ty64, ty70, ty76, ty84, ty86, ty114, ty122, ty139, ty146, ty157⟩), (by simp only [env, List.forall_mem_cons, List.not_mem_nil, false_implies, implies_true, and_true]; exact ⟨fn13, fn17, fn18, fn22, fn23, fn24, fn25, fn26, fn27, fn28, fn29, fn30, fn31, fn36, fn37, fn38, fn39, fn40, fn41, fn42, fn43, fn44, fn45, fn46, fn58, fn59, fn60, fn61, fn62, fn63, fn64, fn65, fn67, fn70, fn71, fn72, fn73, fn77, fn78, fn79, fn80, fn81, fn82, fn83, fn89, fn90, fn91, fn92⟩), by kernel_rfl, (fun _ h => by cases h)⟩
/-- purser/frame.number -/
def number_vc (a0 : Option Addr) (n0 : Nat) (c0 : Nat) (x1 : Int) (x2 : Int) (w : World) (K : Value → World → Prop) : Prop :=
  ∃ (I : Option Addr → Nat → Nat → Int → World → Prop) (μ : Option Addr → Nat → Nat → Int → World → Nat),
  I a0 n0 c0 (IntKind.i64.wrap (x2 - 1)) w ∧
  ∀ (a0_2 : Option Addr) (n0_2 : Nat) (c0_2 : Nat) (x7 : Int) (w_2 : World), I a0_2 n0_2 c0_2 x7 w_2 →
  br (decide (x7 ≥ 0)) (
    (0 : Int) ≤ (IntKind.i64.wrap (8 * x7)) ∧
    newO w_2 (.cells #[.int .u8 (IntKind.u8.wrap (Int.fdiv x1 (2 ^ (min (IntKind.i64.wrap (8 * x7)).toNat (IntKind.bits .u64)))))] 5) fun g w_3 =>
    appO Try.prog [] w_3 5 1 1 22 a0_2 n0_2 c0_2 (.slice (some ⟨g, 0, none⟩) 1 1) fun m21 a21 c21 w_4 =>
    I a21 (n0_2 + m21) c21 (IntKind.i64.wrap (x7 - 1)) w_4 ∧ μ a21 (n0_2 + m21) c21 (IntKind.i64.wrap (x7 - 1)) w_4 < μ a0_2 n0_2 c0_2 x7 w_2
  ) (
    K (.slice a0_2 n0_2 c0_2) w_2
  )
def number_notes : Notes := ⟨[], [(2, ⟨[(0, .lf (.slice)), (7, .lf (.int .i64))], [], [10, 11, 14, 15, 16, 17, 18, 19, 20, 21, 0, 12, 13, 7], []⟩)], [], []⟩
theorem number_calls (a0 : Option Addr) (n0 : Nat) (c0 : Nat) (x1 : Int) (x2 : Int) (w : World) (K : Value → World → Prop) (h : number_vc a0 n0 c0 x1 x2 w K) : Calls Try.prog 82 #[.slice a0 n0 c0, .int .u64 x1, .int .i64 x2] w fun e w' => ∃ v, e = .returned v ∧ K v w' :=
  calls_of_fvc envOk Try.func82 number_notes [] [.slice a0 n0 c0, .int .u64 x1, .int .i64 x2] w K (use_vc h (by as_aux_lemma => kernel_rfl))
/-- purser/frame.body -/
def body_vc (a0 : Option Addr) (n0 : Nat) (c0 : Nat) (w : World) (K : Value → World → Prop) : Prop :=
  newO w (.cells #[.slice none 0 0, .bool false] 139) fun g w_2 =>
  ∃ (I : Int → World → Prop) (μ : Int → World → Nat),
  I 0 w_2 ∧
  ∀ (x12 : Int) (w_3 : World), I x12 w_3 →
  br (decide (x12 < ((n0 : Nat) : Int))) (
    withP a0 fun g14 o14 =>
    (0 : Int) ≤ x12 ∧ x12 < (((n0 : Nat) : Int) : Int) ∧
    ∃ (a15 : Option Addr) (n15 : Nat) (c15 : Nat), w_3.cell? ⟨g14, o14 + x12.toNat * 1, none⟩ = some (.slice a15 n15 c15) ∧
    Calls Try.prog 80 #[.pointer (some ⟨g, 0, none⟩), .slice a15 n15 c15] w_3 fun e w_4 => KeepG [] w_3 w_4 ∧
    e = .returned (.tuple #[]) ∧
    I (IntKind.i64.wrap (x12 + 1)) w_4 ∧ μ (IntKind.i64.wrap (x12 + 1)) w_4 < μ x12 w_3
  ) (
    Calls Try.prog 81 #[.pointer (some ⟨g, 0, none⟩)] w_3 fun e_2 w_5 => KeepG [] w_3 w_5 ∧
    ∃ (a22_0 : Option Addr) (n22_0 : Nat) (c22_0 : Nat) (x22_1 : Int),
    e_2 = .returned (.tuple #[.slice a22_0 n22_0 c22_0, .int .i64 x22_1]) ∧
    K (.slice a22_0 n22_0 c22_0) w_5
  )
def body_notes : Notes := ⟨[], [(3, ⟨[(12, .lf (.int .i64))], [], [13, 14, 15, 5, 16, 17, 18, 19, 12], []⟩)], [], []⟩
theorem body_calls (a0 : Option Addr) (n0 : Nat) (c0 : Nat) (w : World) (K : Value → World → Prop) (h : body_vc a0 n0 c0 w K) : Calls Try.prog 60 #[.slice a0 n0 c0] w fun e w' => ∃ v, e = .returned v ∧ K v w' :=
  calls_of_fvc envOk Try.func60 body_notes [] [.slice a0 n0 c0] w K (use_vc h (by as_aux_lemma => kernel_rfl))
/-- purser/frame.sectors -/
def sectors_vc (x0 : Int) (w : World) (K : Value → World → Prop) : Prop :=
  br (decide (x0 ≤ 39)) (
    K (.int .i64 1) w
  ) (
    (63 : Int) ≠ 0 ∧
    K (.int .i64 (IntKind.i64.wrap (1 + (IntKind.i64.wrap (Int.tdiv (IntKind.i64.wrap ((IntKind.i64.wrap ((IntKind.i64.wrap (x0 - 39)) + 63)) - 1)) 63))))) w
  )
def sectors_notes : Notes := ⟨[], [], [], []⟩
theorem sectors_calls (x0 : Int) (w : World) (K : Value → World → Prop) (h : sectors_vc x0 w K) : Calls Try.prog 61 #[.int .i64 x0] w fun e w' => ∃ v, e = .returned v ∧ K v w' :=
  calls_of_fvc envOk Try.func61 sectors_notes [] [.int .i64 x0] w K (use_vc h (by as_aux_lemma => kernel_rfl))
/-- purser/frame.Sectors -/
def sectorsX_vc (a0 : Option Addr) (n0 : Nat) (c0 : Nat) (w : World) (K : Value → World → Prop) : Prop :=
  Calls Try.prog 60 #[.slice a0 n0 c0] w fun e w_2 => KeepG [] w w_2 ∧
  ∃ (a4 : Option Addr) (n4 : Nat) (c4 : Nat),
  e = .returned (.slice a4 n4 c4) ∧
  Calls Try.prog 61 #[.int .i64 ((n4 : Nat) : Int)] w_2 fun e_2 w_3 => KeepG [] w_2 w_3 ∧
  ∃ (x6 : Int),
  e_2 = .returned (.int .i64 x6) ∧
  K (.int .i64 x6) w_3
def sectorsX_notes : Notes := ⟨[], [], [], []⟩
theorem sectorsX_calls (a0 : Option Addr) (n0 : Nat) (c0 : Nat) (w : World) (K : Value → World → Prop) (h : sectorsX_vc a0 n0 c0 w K) : Calls Try.prog 30 #[.slice a0 n0 c0] w fun e w' => ∃ v, e = .returned v ∧ K v w' :=
  calls_of_fvc envOk Try.func30 sectorsX_notes [] [.slice a0 n0 c0] w K (use_vc h (by as_aux_lemma => kernel_rfl))
/-- purser/frame.label -/
def label_vc (x0 : Int) (x1 : Int) (a2 : Option Addr) (n2 : Nat) (c2 : Nat) (w : World) (K : Value → World → Prop) : Prop :=
  Calls Try.prog 82 #[.slice none 0 0, .int .u64 (IntKind.u64.wrap x0), .int .i64 8] w fun e w_2 => KeepG [] w w_2 ∧
  ∃ (a10 : Option Addr) (n10 : Nat) (c10 : Nat),
  e = .returned (.slice a10 n10 c10) ∧
  Calls Try.prog 82 #[.slice a10 n10 c10, .int .u64 (IntKind.u64.wrap x1), .int .i64 8] w_2 fun e_2 w_3 => KeepG [] w_2 w_3 ∧
  ∃ (a14 : Option Addr) (n14 : Nat) (c14 : Nat),
  e_2 = .returned (.slice a14 n14 c14) ∧
  Calls Try.prog 82 #[.slice a14 n14 c14, .int .u64 (IntKind.u64.wrap ((n2 : Nat) : Int)), .int .i64 4] w_3 fun e_3 w_4 => KeepG [] w_3 w_4 ∧
  ∃ (a19 : Option Addr) (n19 : Nat) (c19 : Nat),
  e_3 = .returned (.slice a19 n19 c19) ∧
  newO w_4 (.cells #[.slice a19 n19 c19, .slice a2 n2 c2] 22) fun g w_5 =>
  Calls Try.prog 73 #[.slice (some ⟨g, 0, none⟩) 2 2] w_5 fun e_4 w_6 => KeepG [] w_5 w_6 ∧
  ∃ (x24 : Int),
  e_4 = .returned (.int .u32 x24) ∧
  Calls Try.prog 82 #[.slice a19 n19 c19, .int .u64 (IntKind.u64.wrap x24), .int .i64 4] w_6 fun e_5 w_7 => KeepG [] w_6 w_7 ∧
  ∃ (a26 : Option Addr) (n26 : Nat) (c26 : Nat),
  e_5 = .returned (.slice a26 n26 c26) ∧
  K (.slice a26 n26 c26) w_7
def label_notes : Notes := ⟨[], [], [], []⟩
theorem label_calls (x0 : Int) (x1 : Int) (a2 : Option Addr) (n2 : Nat) (c2 : Nat) (w : World) (K : Value → World → Prop) (h : label_vc x0 x1 a2 n2 c2 w K) : Calls Try.prog 63 #[.int .i64 x0, .int .i64 x1, .slice a2 n2 c2] w fun e w' => ∃ v, e = .returned v ∧ K v w' :=
  calls_of_fvc envOk Try.func63 label_notes [] [.int .i64 x0, .int .i64 x1, .slice a2 n2 c2] w K (use_vc h (by as_aux_lemma => kernel_rfl))
/-- purser/frame.pad -/
def pad_vc (a0 : Option Addr) (n0 : Nat) (c0 : Nat) (w : World) (K : Value → World → Prop) : Prop :=
  ∃ (I : Option Addr → Nat → Nat → World → Prop) (μ : Option Addr → Nat → Nat → World → Nat),
  I a0 n0 c0 w ∧
  ∀ (a0_2 : Option Addr) (n0_2 : Nat) (c0_2 : Nat) (w_2 : World), I a0_2 n0_2 c0_2 w_2 →
  (64 : Int) ≠ 0 ∧
  br (decide ((Int.tmod ((n0_2 : Nat) : Int) 64) ≠ 0)) (
    newO w_2 (.cells #[.int .u8 0] 5) fun g w_3 =>
    appO Try.prog [] w_3 5 1 1 22 a0_2 n0_2 c0_2 (.slice (some ⟨g, 0, none⟩) 1 1) fun m9 a9 c9 w_4 =>
    I a9 (n0_2 + m9) c9 w_4 ∧ μ a9 (n0_2 + m9) c9 w_4 < μ a0_2 n0_2 c0_2 w_2
  ) (
    K (.slice a0_2 n0_2 c0_2) w_2
  )
def pad_notes : Notes := ⟨[], [(1, ⟨[(0, .lf (.slice))], [], [3, 4, 5, 6, 7, 8, 9, 0], []⟩)], [], []⟩
theorem pad_calls (a0 : Option Addr) (n0 : Nat) (c0 : Nat) (w : World) (K : Value → World → Prop) (h : pad_vc a0 n0 c0 w K) : Calls Try.prog 64 #[.slice a0 n0 c0] w fun e w' => ∃ v, e = .returned v ∧ K v w' :=
  calls_of_fvc envOk Try.func64 pad_notes [] [.slice a0 n0 c0] w K (use_vc h (by as_aux_lemma => kernel_rfl))
/-- (*purser/frame.Log).read -/
def fread_vc (p0 : Option Addr) (x1 : Int) (x2 : Int) (w : World) (K : Value → World → Prop) : Prop :=
  drewO w fun w_2 =>
  withP p0 fun g9 o9 =>
  ∃ (p11 : Option Addr), w_2.cell? ⟨g9, o9, none⟩ = some (.pointer p11) ∧
  withP p0 fun g13 o13 =>
  ∃ (x15 : Int), w_2.cell? ⟨g13, o13 + 1, none⟩ = some (.int .i64 x15) ∧
  Calls Try.prog 18 #[.pointer p11, .int .i64 (IntKind.i64.wrap (x15 + x1)), .int .i64 x2] w_2 fun e w_3 => KeepG [] w_2 w_3 ∧
  ∃ (a19_0 : Option Addr) (n19_0 : Nat) (c19_0 : Nat) (x19_1 : Int),
  e = .returned (.tuple #[.slice a19_0 n19_0 c19_0, .int .i64 x19_1]) ∧
  K (.tuple #[.slice a19_0 n19_0 c19_0, .int .i64 x19_1]) w_3
def fread_notes : Notes := ⟨[(1, ⟨[0, 1, 3, 7, 0, 16, 48, 112, 0, 496, 0, 2047, 4095, 4095, 16383, 32767], [11], [0, 1, 2, 3, 4, 5, 6, 7, 8, 9, 10, 12, 13, 14, 15]⟩)], [], [], []⟩
theorem fread_calls (p0 : Option Addr) (x1 : Int) (x2 : Int) (w : World) (K : Value → World → Prop) (h : fread_vc p0 x1 x2 w K) : Calls Try.prog 77 #[.pointer p0, .int .i64 x1, .int .i64 x2] w fun e w' => ∃ v, e = .returned v ∧ K v w' :=
  calls_of_fvc envOk Try.func77 fread_notes [] [.pointer p0, .int .i64 x1, .int .i64 x2] w K (use_vc h (by as_aux_lemma => kernel_rfl))
/-- (*purser/frame.Log).count -/
def count_k1 (K : Value → World → Prop) (p0 : Option Addr) (a1 : Option Addr) (c1 : Nat) (a6 : Option Addr) (n6 : Nat) (w_7 : World) : Prop :=
  drewO w_7 fun w_8 =>
  (0 : Int) ≤ ((n6 : Nat) : Int) ∧ ((n6 : Nat) : Int) ≤ (((c1 : Nat) : Int) : Int) ∧
  ∃ bs28 : List UInt8, bs28.length = ((n6 : Nat) : Int).toNat ∧ RowAt w_8 a1 (bs28.map bV) ∧
  ∃ bs30 : List UInt8, bs30.length = n6 ∧ RowAt w_8 a6 (bs30.map bV) ∧
  br (decide ((strOf bs28) ≠ (strOf bs30))) (
    K (.tuple #[.int .i64 0, .bool false]) w_8
  ) (
    (0 : Int) ≤ ((n6 : Nat) : Int) ∧ ((n6 : Nat) : Int) ≤ IntKind.i64.wrap (((n6 : Nat) : Int) + 4) ∧ IntKind.i64.wrap (((n6 : Nat) : Int) + 4) ≤ (((c1 : Nat) : Int) : Int) ∧
    ∃ (I : Int → Int → World → Prop) (μ : Int → Int → World → Nat),
    I 0 0 w_8 ∧
    ∀ (x7 : Int) (x40 : Int) (w_9 : World), I x7 x40 w_9 →
    br (decide (x40 < (((IntKind.i64.wrap (((n6 : Nat) : Int) + 4)).toNat - ((n6 : Nat) : Int).toNat : Nat) : Int))) (
      withP (sliceBase a1 c1 (((n6 : Nat) : Int).toNat) 1) fun g42 o42 =>
      (0 : Int) ≤ x40 ∧ x40 < ((((IntKind.i64.wrap (((n6 : Nat) : Int) + 4)).toNat - ((n6 : Nat) : Int).toNat : Nat) : Int) : Int) ∧
      ∃ (x43 : Int), w_9.cell? ⟨g42, o42 + x40.toNat * 1, none⟩ = some (.int .u8 x43) ∧
      (0 : Int) ≤ 8 ∧
      I (bitsV .or .i64 (IntKind.i64.wrap (x7 * 2 ^ (min (8 : Int).toNat (IntKind.bits .i64)))) (IntKind.i64.wrap x43)) (IntKind.i64.wrap (x40 + 1)) w_9 ∧ μ (bitsV .or .i64 (IntKind.i64.wrap (x7 * 2 ^ (min (8 : Int).toNat (IntKind.bits .i64)))) (IntKind.i64.wrap x43)) (IntKind.i64.wrap (x40 + 1)) w_9 < μ x7 x40 w_9
    ) (
      drewO w_9 fun w_10 =>
      withP p0 fun g54 o54 =>
      ∃ (x56 : Int), w_10.cell? ⟨g54, o54 + 2, none⟩ = some (.int .i64 x56) ∧
      withP p0 fun g58 o58 =>
      ∃ (x60 : Int), w_10.cell? ⟨g58, o58 + 4, none⟩ = some (.int .i64 x60) ∧
      Calls Try.prog 61 #[.int .i64 x7] w_10 fun e_3 w_11 => KeepG [] w_10 w_11 ∧
      ∃ (x52 : Int),
      e_3 = .returned (.int .i64 x52) ∧
      w_11.cell? ⟨g54, o54 + 2, none⟩ = some (.int .i64 x56) ∧
      w_11.cell? ⟨g58, o58 + 4, none⟩ = some (.int .i64 x60) ∧
      K (.tuple #[.int .i64 x7, .bool (decide (x52 ≤ (IntKind.i64.wrap (x56 - x60))))]) w_11
    )
  )
def count_vc (p0 : Option Addr) (a1 : Option Addr) (n1 : Nat) (c1 : Nat) (w : World) (K : Value → World → Prop) : Prop :=
  drewO w fun w_2 =>
  withP p0 fun g12 o12 =>
  ∃ (x14 : Int), w_2.cell? ⟨g12, o12 + 3, none⟩ = some (.int .i64 x14) ∧
  withP p0 fun g18 o18 =>
  ∃ (x20 : Int), w_2.cell? ⟨g18, o18 + 5, none⟩ = some (.int .i64 x20) ∧
  (
    newO w_2 (.cells #[.int .u8 1] 5) fun g w_3 =>
    w_3.cell? ⟨g12, o12 + 3, none⟩ = some (.int .i64 x14) ∧
    w_3.cell? ⟨g18, o18 + 5, none⟩ = some (.int .i64 x20) ∧
    Calls Try.prog 82 #[.slice none 0 0, .int .u64 (IntKind.u64.wrap x14), .int .i64 8] w_3 fun e w_4 => KeepG [] w_3 w_4 ∧
    ∃ (a16 : Option Addr) (n16 : Nat) (c16 : Nat),
    e = .returned (.slice a16 n16 c16) ∧
    w_4.cell? ⟨g18, o18 + 5, none⟩ = some (.int .i64 x20) ∧
    Calls Try.prog 82 #[.slice a16 n16 c16, .int .u64 (IntKind.u64.wrap x20), .int .i64 8] w_4 fun e_2 w_5 => KeepG [] w_4 w_5 ∧
    ∃ (a22 : Option Addr) (n22 : Nat) (c22 : Nat),
    e_2 = .returned (.slice a22 n22 c22) ∧
    appO Try.prog [] w_5 5 1 1 22 (some ⟨g, 0, none⟩) 1 1 (.slice a22 n22 c22) fun m23 a23 c23 w_6 =>
    count_k1 K p0 a1 c1 a23 (1 + m23) w_6
  ) ∧
  (
    Calls Try.prog 82 #[.slice none 0 0, .int .u64 (IntKind.u64.wrap x14), .int .i64 8] w_2 fun e_4 w_12 => KeepG [] w_2 w_12 ∧
    ∃ (a16_2 : Option Addr) (n16_2 : Nat) (c16_2 : Nat),
    e_4 = .returned (.slice a16_2 n16_2 c16_2) ∧
    w_12.cell? ⟨g18, o18 + 5, none⟩ = some (.int .i64 x20) ∧
    (
      newO w_12 (.cells #[.int .u8 1] 5) fun g_2 w_13 =>
      w_13.cell? ⟨g18, o18 + 5, none⟩ = some (.int .i64 x20) ∧
      Calls Try.prog 82 #[.slice a16_2 n16_2 c16_2, .int .u64 (IntKind.u64.wrap x20), .int .i64 8] w_13 fun e_5 w_14 => KeepG [] w_13 w_14 ∧
      ∃ (a22_2 : Option Addr) (n22_2 : Nat) (c22_2 : Nat),
      e_5 = .returned (.slice a22_2 n22_2 c22_2) ∧
      appO Try.prog [] w_14 5 1 1 22 (some ⟨g_2, 0, none⟩) 1 1 (.slice a22_2 n22_2 c22_2) fun m23_2 a23_2 c23_2 w_15 =>
      count_k1 K p0 a1 c1 a23_2 (1 + m23_2) w_15
    ) ∧
    (
      Calls Try.prog 82 #[.slice a16_2 n16_2 c16_2, .int .u64 (IntKind.u64.wrap x20), .int .i64 8] w_12 fun e_6 w_16 => KeepG [] w_12 w_16 ∧
      ∃ (a22_3 : Option Addr) (n22_3 : Nat) (c22_3 : Nat),
      e_6 = .returned (.slice a22_3 n22_3 c22_3) ∧
      newO w_16 (.cells #[.int .u8 1] 5) fun g_3 w_17 =>
      appO Try.prog [] w_17 5 1 1 22 (some ⟨g_3, 0, none⟩) 1 1 (.slice a22_3 n22_3 c22_3) fun m23_3 a23_3 c23_3 w_18 =>
      count_k1 K p0 a1 c1 a23_3 (1 + m23_3) w_18
    )
  )
def count_notes : Notes := ⟨[(1, ⟨[0, 0, 2, 6, 14, 30, 62, 0, 128, 384, 896, 1920, 4094, 8191, 16383], [0, 6, 12, 13], [1, 2, 3, 4, 5, 7, 8, 9, 10, 11, 14]⟩), (2, ⟨[0, 0, 2, 7, 15, 0, 32, 127], [], [0, 1, 2, 3, 4, 5, 6, 7]⟩), (10, ⟨[0, 0, 2, 0, 8, 24, 56, 0, 128, 384, 896, 2040, 4094, 7, 16383], [2], [0, 1, 3, 4, 5, 6, 7, 8, 9, 10, 11, 12, 13, 14]⟩)], [(6, ⟨[(7, .lf (.int .i64)), (40, .lf (.int .i64))], [], [41, 42, 43, 9, 44, 45, 46, 47, 48, 7, 49, 40], []⟩)], [], []⟩
theorem count_calls (p0 : Option Addr) (a1 : Option Addr) (n1 : Nat) (c1 : Nat) (w : World) (K : Value → World → Prop) (h : count_vc p0 a1 n1 c1 w K) : Calls Try.prog 78 #[.pointer p0, .slice a1 n1 c1] w fun e w' => ∃ v, e = .returned v ∧ K v w' :=
  calls_of_fvc envOk Try.func78 count_notes [] [.pointer p0, .slice a1 n1 c1] w K (use_vc h (by as_aux_lemma => kernel_rfl))
/-- purser/frame.records -/
def records_k1 (K : Value → World → Prop) (p7 : Option Addr) (a5_2 : Option Addr) (n5_2 : Nat) (c5_2 : Nat) (w_9 : World) : Prop :=
  Calls Try.prog 91 #[.pointer p7] w_9 fun e_5 w_10 => KeepG [] w_9 w_10 ∧
  ∃ (x25 : Int),
  e_5 = .returned (.int .i64 x25) ∧
  K (.tuple #[.slice a5_2 n5_2 c5_2, .bool (decide (x25 = 0))]) w_10
def records_vc (a0 : Option Addr) (n0 : Nat) (c0 : Nat) (w : World) (K : Value → World → Prop) : Prop :=
  Calls Try.prog 89 #[.slice a0 n0 c0] w fun e w_2 => KeepG [] w w_2 ∧
  ∃ (p7 : Option Addr),
  e = .returned (.pointer p7) ∧
  ∃ (I : Option Addr → Nat → Nat → World → Prop) (μ : Option Addr → Nat → Nat → World → Nat),
  I none 0 0 w_2 ∧
  ∀ (a5 : Option Addr) (n5 : Nat) (c5 : Nat) (w_3 : World), I a5 n5 c5 w_3 →
  Calls Try.prog 90 #[.pointer p7] w_3 fun e_2 w_4 => KeepG [] w_3 w_4 ∧
  ∃ (x9 : Int),
  e_2 = .returned (.int .i64 x9) ∧
  br (decide (x9 > 0)) (
    Calls Try.prog 91 #[.pointer p7] w_4 fun e_3 w_5 => KeepG [] w_4 w_5 ∧
    ∃ (x13 : Int),
    e_3 = .returned (.int .i64 x13) ∧
    br (decide (x13 = 4)) (
      Calls Try.prog 92 #[.pointer p7, .int .i64 ((n0 : Nat) : Int)] w_5 fun e_4 w_6 => KeepG [] w_5 w_6 ∧
      ∃ (a20 : Option Addr) (n20 : Nat) (c20 : Nat),
      e_4 = .returned (.slice a20 n20 c20) ∧
      newO w_6 (.cells #[.slice a20 n20 c20] 22) fun g w_7 =>
      appO Try.prog [] w_7 22 1 24 44 a5 n5 c5 (.slice (some ⟨g, 0, none⟩) 1 1) fun m22 a22 c22 w_8 =>
      I a22 (n5 + m22) c22 w_8 ∧ μ a22 (n5 + m22) c22 w_8 < μ a5 n5 c5 w_3
    ) (
      records_k1 K p7 a5 n5 c5 w_5
    )
  ) (
    records_k1 K p7 a5 n5 c5 w_4
  )
def records_notes : Notes := ⟨[], [(3, ⟨[(5, .lf (.slice))], [], [8, 9, 10, 11, 12, 13, 14, 15, 16, 17, 18, 19, 20, 21, 22, 5], []⟩)], [], []⟩
theorem records_calls (a0 : Option Addr) (n0 : Nat) (c0 : Nat) (w : World) (K : Value → World → Prop) (h : records_vc a0 n0 c0 w K) : Calls Try.prog 79 #[.slice a0 n0 c0] w fun e w' => ∃ v, e = .returned v ∧ K v w' :=
  calls_of_fvc envOk Try.func79 records_notes [] [.slice a0 n0 c0] w K (use_vc h (by as_aux_lemma => kernel_rfl))
/-- (*purser/frame.Log).next -/
def next_vc (p0 : Option Addr) (w : World) (K : Value → World → Prop) : Prop :=
  drewO w fun w_2 =>
  withP p0 fun g13 o13 =>
  ∃ (x15 : Int), w_2.cell? ⟨g13, o13 + 4, none⟩ = some (.int .i64 x15) ∧
  withP p0 fun g17 o17 =>
  ∃ (x19 : Int), w_2.cell? ⟨g17, o17 + 2, none⟩ = some (.int .i64 x19) ∧
  br (decide (x15 = x19)) (
    K (.tuple #[.slice none 0 0, .bool false, .int .i64 0]) w_2
  ) (
    withP p0 fun g24 o24 =>
    ∃ (x26 : Int), w_2.cell? ⟨g24, o24 + 4, none⟩ = some (.int .i64 x26) ∧
    Calls Try.prog 77 #[.pointer p0, .int .i64 x26, .int .i64 1] w_2 fun e w_3 => KeepG [] w_2 w_3 ∧
    ∃ (a27_0 : Option Addr) (n27_0 : Nat) (c27_0 : Nat) (x27_1 : Int),
    e = .returned (.tuple #[.slice a27_0 n27_0 c27_0, .int .i64 x27_1]) ∧
    br (decide (x27_1 ≠ 0)) (
      K (.tuple #[.slice none 0 0, .bool false, .int .i64 x27_1]) w_3
    ) (
      Calls Try.prog 78 #[.pointer p0, .slice a27_0 n27_0 c27_0] w_3 fun e_2 w_4 => KeepG [] w_3 w_4 ∧
      ∃ (x36_0 : Int) (b36_1 : Bool),
      e_2 = .returned (.tuple #[.int .i64 x36_0, .bool b36_1]) ∧
      br (!b36_1) (
        K (.tuple #[.slice none 0 0, .bool false, .int .i64 0]) w_4
      ) (
        newO w_4 (.cells #[] 5) fun g w_5 =>
        (0 : Int) ≤ (25 : Int) ∧ (25 : Int) ≤ (((n27_0 : Nat) : Int) : Int) ∧
        appO Try.prog [] w_5 5 1 1 22 (some ⟨g, 0, none⟩) 0 0 (.slice (sliceBase a27_0 c27_0 ((25 : Int).toNat) 1) (n27_0 - (25 : Int).toNat) (c27_0 - (25 : Int).toNat)) fun m44 a44 c44 w_6 =>
        drewO w_6 fun w_7 =>
        withP p0 fun g48 o48 =>
        ∃ (x50 : Int), w_7.cell? ⟨g48, o48 + 4, none⟩ = some (.int .i64 x50) ∧
        Calls Try.prog 61 #[.int .i64 x36_0] w_7 fun e_3 w_8 => KeepG [] w_7 w_8 ∧
        ∃ (x53 : Int),
        e_3 = .returned (.int .i64 x53) ∧
        w_8.cell? ⟨g48, o48 + 4, none⟩ = some (.int .i64 x50) ∧
        Calls Try.prog 77 #[.pointer p0, .int .i64 (IntKind.i64.wrap (x50 + 1)), .int .i64 (IntKind.i64.wrap (x53 - 1))] w_8 fun e_4 w_9 => KeepG [] w_8 w_9 ∧
        ∃ (a55_0 : Option Addr) (n55_0 : Nat) (c55_0 : Nat) (x55_1 : Int),
        e_4 = .returned (.tuple #[.slice a55_0 n55_0 c55_0, .int .i64 x55_1]) ∧
        br (decide (x55_1 ≠ 0)) (
          K (.tuple #[.slice none 0 0, .bool false, .int .i64 x55_1]) w_9
        ) (
          ∃ (I : Option Addr → Nat → Nat → Option Addr → Nat → Nat → World → Prop) (μ : Option Addr → Nat → Nat → Option Addr → Nat → Nat → World → Nat),
          I a44 (0 + m44) c44 a55_0 n55_0 c55_0 w_9 ∧
          ∀ (a9 : Option Addr) (n9 : Nat) (c9 : Nat) (a10 : Option Addr) (n10 : Nat) (c10 : Nat) (w_10 : World), I a9 n9 c9 a10 n10 c10 w_10 →
          br (decide (((n10 : Nat) : Int) > 0)) (
            (0 : Int) ≤ (1 : Int) ∧ (1 : Int) ≤ (64 : Int) ∧ (64 : Int) ≤ (((c10 : Nat) : Int) : Int) ∧
            appO Try.prog [] w_10 5 1 1 22 a9 n9 c9 (.slice (sliceBase a10 c10 ((1 : Int).toNat) 1) ((64 : Int).toNat - (1 : Int).toNat) (c10 - (1 : Int).toNat)) fun m69 a69 c69 w_11 =>
            (0 : Int) ≤ (64 : Int) ∧ (64 : Int) ≤ (((n10 : Nat) : Int) : Int) ∧
            I a69 (n9 + m69) c69 (sliceBase a10 c10 ((64 : Int).toNat) 1) (n10 - (64 : Int).toNat) (c10 - (64 : Int).toNat) w_11 ∧ μ a69 (n9 + m69) c69 (sliceBase a10 c10 ((64 : Int).toNat) 1) (n10 - (64 : Int).toNat) (c10 - (64 : Int).toNat) w_11 < μ a9 n9 c9 a10 n10 c10 w_10
          ) (
            (0 : Int) ≤ x36_0 ∧ x36_0 ≤ (((c9 : Nat) : Int) : Int) ∧
            drewO w_10 fun w_12 =>
            (0 : Int) ≤ (1 : Int) ∧ (1 : Int) ≤ (25 : Int) ∧ (25 : Int) ≤ (((c27_0 : Nat) : Int) : Int) ∧
            ∃ bs75 : List UInt8, bs75.length = (25 : Int).toNat - (1 : Int).toNat ∧ RowAt w_12 (sliceBase a27_0 c27_0 ((1 : Int).toNat) 1) (bs75.map bV) ∧
            withP p0 fun g77 o77 =>
            ∃ (x79 : Int), w_12.cell? ⟨g77, o77 + 3, none⟩ = some (.int .i64 x79) ∧
            withP p0 fun g81 o81 =>
            ∃ (x83 : Int), w_12.cell? ⟨g81, o81 + 5, none⟩ = some (.int .i64 x83) ∧
            Calls Try.prog 63 #[.int .i64 x79, .int .i64 x83, .slice a9 x36_0.toNat c9] w_12 fun e_5 w_13 => KeepG [] w_12 w_13 ∧
            ∃ (a85 : Option Addr) (n85 : Nat) (c85 : Nat),
            e_5 = .returned (.slice a85 n85 c85) ∧
            RowAt w_13 (sliceBase a27_0 c27_0 ((1 : Int).toNat) 1) (bs75.map bV) ∧
            ∃ bs86 : List UInt8, bs86.length = n85 ∧ RowAt w_13 a85 (bs86.map bV) ∧
            br (decide ((strOf bs75) ≠ (strOf bs86))) (
              K (.tuple #[.slice none 0 0, .bool false, .int .i64 0]) w_13
            ) (
              Calls Try.prog 79 #[.slice a9 x36_0.toNat c9] w_13 fun e_6 w_14 => KeepG [] w_13 w_14 ∧
              ∃ (a90_0 : Option Addr) (n90_0 : Nat) (c90_0 : Nat) (b90_1 : Bool),
              e_6 = .returned (.tuple #[.slice a90_0 n90_0 c90_0, .bool b90_1]) ∧
              K (.tuple #[.slice a90_0 n90_0 c90_0, .bool b90_1, .int .i64 0]) w_14
            )
          )
        )
      )
    )
  )
def next_notes : Notes := ⟨[(1, ⟨[0, 1, 3, 7, 0, 16, 48, 112, 255], [], [0, 1, 2, 3, 4, 5, 6, 7, 8]⟩), (10, ⟨[0, 0, 2, 6, 14, 30, 0, 64, 192, 511, 1023, 2047, 2047, 4095, 16383], [7, 9], [0, 1, 2, 3, 4, 5, 6, 8, 10, 11, 12, 13, 14]⟩), (17, ⟨[0, 1, 3, 0, 8, 24, 56, 0, 128, 384, 896, 0, 4088, 8184, 16383], [12], [0, 1, 2, 3, 4, 5, 6, 7, 8, 9, 10, 11, 13, 14]⟩)], [(13, ⟨[(9, .lf (.slice)), (10, .lf (.slice))], [], [61, 62, 63, 66, 67, 68, 69, 9, 64, 65, 10], []⟩)], [], []⟩
theorem next_calls (p0 : Option Addr) (w : World) (K : Value → World → Prop) (h : next_vc p0 w K) : Calls Try.prog 59 #[.pointer p0] w fun e w' => ∃ v, e = .returned v ∧ K v w' :=
  calls_of_fvc envOk Try.func59 next_notes [] [.pointer p0] w K (use_vc h (by as_aux_lemma => kernel_rfl))
/-- purser/frame.Open -/
def open_vc (p0 : Option Addr) (x1 : Int) (x2 : Int) (x3 : Int) (w : World) (K : Value → World → Prop) : Prop :=
  ∃ (I : Option Addr → Option Addr → Nat → Nat → World → Prop) (μ : Option Addr → Option Addr → Nat → Nat → World → Nat),
  (
    br (Option.isNone p0) (
      K (.tuple #[.pointer none, .slice none 0 0, .int .i64 1]) w
    ) (
      br (decide (x1 < 0)) (
        K (.tuple #[.pointer none, .slice none 0 0, .int .i64 1]) w
      ) (
        br (decide (x3 < 0)) (
          K (.tuple #[.pointer none, .slice none 0 0, .int .i64 1]) w
        ) (
          br (decide (x2 < 1)) (
            K (.tuple #[.pointer none, .slice none 0 0, .int .i64 1]) w
          ) (
            Calls Try.prog 58 #[.pointer p0] w fun e w_2 => KeepG [] w w_2 ∧
            ∃ (x33 : Int),
            e = .returned (.int .i64 x33) ∧
            br (decide (x2 > x33)) (
              K (.tuple #[.pointer none, .slice none 0 0, .int .i64 1]) w_2
            ) (
              Calls Try.prog 58 #[.pointer p0] w_2 fun e_2 w_3 => KeepG [] w_2 w_3 ∧
              ∃ (x39 : Int),
              e_2 = .returned (.int .i64 x39) ∧
              br (decide (x1 > (IntKind.i64.wrap (x39 - x2)))) (
                K (.tuple #[.pointer none, .slice none 0 0, .int .i64 1]) w_3
              ) (
                newO w_3 (.cells #[.pointer p0, .int .i64 x1, .int .i64 x2, .int .i64 x3, .int .i64 0, .int .i64 0] 114) fun g w_4 =>
                Calls Try.prog 59 #[.pointer (some ⟨g, 0, none⟩)] w_4 fun e_3 w_5 => KeepG [] w_4 w_5 ∧
                ∃ (a52_0 : Option Addr) (n52_0 : Nat) (c52_0 : Nat) (b52_1 : Bool) (x52_2 : Int),
                e_3 = .returned (.tuple #[.slice a52_0 n52_0 c52_0, .bool b52_1, .int .i64 x52_2]) ∧
                br (decide (x52_2 ≠ 0)) (
                  K (.tuple #[.pointer none, .slice none 0 0, .int .i64 x52_2]) w_5
                ) (
                  br (!b52_1) (
                    K (.tuple #[.pointer (some ⟨g, 0, none⟩), .slice none 0 0, .int .i64 0]) w_5
                  ) (
                    appO Try.prog [] w_5 22 1 24 44 none 0 0 (.slice a52_0 n52_0 c52_0) fun m65 a65 c65 w_6 =>
                    drewO w_6 fun w_7 =>
                    ∃ (x69 : Int), w_7.cell? ⟨g, 4, none⟩ = some (.int .i64 x69) ∧
                    Calls Try.prog 30 #[.slice a52_0 n52_0 c52_0] w_7 fun e_4 w_8 => KeepG [] w_7 w_8 ∧
                    ∃ (x71 : Int),
                    e_4 = .returned (.int .i64 x71) ∧
                    w_8.cell? ⟨g, 4, none⟩ = some (.int .i64 x69) ∧
                    stO [] w_8 g 4 [.int .i64 (IntKind.i64.wrap (x69 + x71))] fun w_9 =>
                    ∃ (x78 : Int), w_9.cell? ⟨g, 5, none⟩ = some (.int .i64 x78) ∧
                    stO [] w_9 g 5 [.int .i64 (IntKind.i64.wrap (x78 + 1))] fun w_10 =>
                    I (some ⟨g, 0, none⟩) a65 (0 + m65) c65 w_10
                  )
                )
              )
            )
          )
        )
      )
    )
  ) ∧
  ∀ (p11 : Option Addr) (a12 : Option Addr) (n12 : Nat) (c12 : Nat) (w_11 : World), I p11 a12 n12 c12 w_11 →
  Calls Try.prog 59 #[.pointer p11] w_11 fun e_5 w_12 => KeepG [] w_11 w_12 ∧
  ∃ (a52_0_2 : Option Addr) (n52_0_2 : Nat) (c52_0_2 : Nat) (b52_1_2 : Bool) (x52_2_2 : Int),
  e_5 = .returned (.tuple #[.slice a52_0_2 n52_0_2 c52_0_2, .bool b52_1_2, .int .i64 x52_2_2]) ∧
  br (decide (x52_2_2 ≠ 0)) (
    K (.tuple #[.pointer none, .slice none 0 0, .int .i64 x52_2_2]) w_12
  ) (
    br (!b52_1_2) (
      K (.tuple #[.pointer p11, .slice a12 n12 c12, .int .i64 0]) w_12
    ) (
      appO Try.prog [] w_12 22 1 24 44 a12 n12 c12 (.slice a52_0_2 n52_0_2 c52_0_2) fun m65_2 a65_2 c65_2 w_13 =>
      drewO w_13 fun w_14 =>
      withP p11 fun g67 o67 =>
      ∃ (x69_2 : Int), w_14.cell? ⟨g67, o67 + 4, none⟩ = some (.int .i64 x69_2) ∧
      Calls Try.prog 30 #[.slice a52_0_2 n52_0_2 c52_0_2] w_14 fun e_6 w_15 => KeepG [] w_14 w_15 ∧
      ∃ (x71_2 : Int),
      e_6 = .returned (.int .i64 x71_2) ∧
      w_15.cell? ⟨g67, o67 + 4, none⟩ = some (.int .i64 x69_2) ∧
      withP p11 fun g73 o73 =>
      stO [] w_15 g73 (o73 + 4) [.int .i64 (IntKind.i64.wrap (x69_2 + x71_2))] fun w_16 =>
      withP p11 fun g76 o76 =>
      ∃ (x78_2 : Int), w_16.cell? ⟨g76, o76 + 5, none⟩ = some (.int .i64 x78_2) ∧
      withP p11 fun g80 o80 =>
      stO [] w_16 g80 (o80 + 5) [.int .i64 (IntKind.i64.wrap (x78_2 + 1))] fun w_17 =>
      I p11 a65_2 (n12 + m65_2) c65_2 w_17 ∧ μ p11 a65_2 (n12 + m65_2) c65_2 w_17 < μ p11 a12 n12 c12 w_11
    )
  )
def open_notes : Notes := ⟨[(11, ⟨[0, 1, 3, 7, 0, 16, 63, 127, 255, 511], [5, 9], [0, 1, 2, 3, 4, 6, 7, 8]⟩)], [], [], [(1, 0, ⟨[(11, .lf (.ptr)), (12, .lf (.slice))], [], [16, 17, 18, 19, 20, 21, 22, 23, 24, 25, 26, 27, 28, 29, 30, 31, 32, 33, 34, 35, 36, 37, 38, 39, 40, 41, 42, 43, 8, 9, 10, 44, 45, 46, 47, 48, 49, 11, 12, 51, 52, 50, 53, 54, 55, 13, 14, 15, 56, 57, 58, 59, 60, 61, 62, 63, 64, 65, 66, 67, 68, 69, 70, 71, 72, 73, 74, 75, 76, 77, 78, 79, 80, 81], []⟩)]⟩
theorem open_calls (p0 : Option Addr) (x1 : Int) (x2 : Int) (x3 : Int) (w : World) (K : Value → World → Prop) (h : open_vc p0 x1 x2 x3 w K) : Calls Try.prog 22 #[.pointer p0, .int .i64 x1, .int .i64 x2, .int .i64 x3] w fun e w' => ∃ v, e = .returned v ∧ K v w' :=
  calls_of_fvc envOk Try.func22 open_notes [] [.pointer p0, .int .i64 x1, .int .i64 x2, .int .i64 x3] w K (use_vc h (by as_aux_lemma => kernel_rfl))
/-- (*purser/frame.Log).tail -/
def tail_vc (p0 : Option Addr) (a1 : Option Addr) (n1 : Nat) (c1 : Nat) (w : World) (K : Value → World → Prop) : Prop :=
  br (decide (((n1 : Nat) : Int) ≤ 39)) (
    K (.int .i64 0) w
  ) (
    (0 : Int) ≤ (39 : Int) ∧ (39 : Int) ≤ (((n1 : Nat) : Int) : Int) ∧
    ∃ (I : Option Addr → Nat → Nat → Option Addr → Nat → Nat → World → Prop) (μ : Option Addr → Nat → Nat → Option Addr → Nat → Nat → World → Nat),
    I (sliceBase a1 c1 ((39 : Int).toNat) 1) (n1 - (39 : Int).toNat) (c1 - (39 : Int).toNat) none 0 0 w ∧
    ∀ (a1_2 : Option Addr) (n1_2 : Nat) (c1_2 : Nat) (a5 : Option Addr) (n5 : Nat) (c5 : Nat) (w_2 : World), I a1_2 n1_2 c1_2 a5 n5 c5 w_2 →
    br (decide (((n1_2 : Nat) : Int) > 0)) (
      drewO w_2 fun w_3 =>
      (0 : Int) ≤ min ((n1_2 : Nat) : Int) 63 ∧ min ((n1_2 : Nat) : Int) 63 ≤ (((c1_2 : Nat) : Int) : Int) ∧
      newO w_3 (.cells #[.int .u8 2] 5) fun g w_4 =>
      appO Try.prog [] w_4 5 1 1 22 a5 n5 c5 (.slice (some ⟨g, 0, none⟩) 1 1) fun m22 a22 c22 w_5 =>
      appO Try.prog [] w_5 5 1 1 22 a22 (n5 + m22) c22 (.slice a1_2 ((min ((n1_2 : Nat) : Int) 63).toNat) c1_2) fun m28 a28 c28 w_6 =>
      Calls Try.prog 64 #[.slice a28 ((n5 + m22) + m28) c28] w_6 fun e w_7 => KeepG [] w_6 w_7 ∧
      ∃ (a29 : Option Addr) (n29 : Nat) (c29 : Nat),
      e = .returned (.slice a29 n29 c29) ∧
      (0 : Int) ≤ min ((n1_2 : Nat) : Int) 63 ∧ min ((n1_2 : Nat) : Int) 63 ≤ (((n1_2 : Nat) : Int) : Int) ∧
      I (sliceBase a1_2 c1_2 ((min ((n1_2 : Nat) : Int) 63).toNat) 1) (n1_2 - (min ((n1_2 : Nat) : Int) 63).toNat) (c1_2 - (min ((n1_2 : Nat) : Int) 63).toNat) a29 n29 c29 w_7 ∧ μ (sliceBase a1_2 c1_2 ((min ((n1_2 : Nat) : Int) 63).toNat) 1) (n1_2 - (min ((n1_2 : Nat) : Int) 63).toNat) (c1_2 - (min ((n1_2 : Nat) : Int) 63).toNat) a29 n29 c29 w_7 < μ a1_2 n1_2 c1_2 a5 n5 c5 w_2
    ) (
      drewO w_2 fun w_8 =>
      withP p0 fun g31 o31 =>
      ∃ (p33 : Option Addr), w_8.cell? ⟨g31, o31, none⟩ = some (.pointer p33) ∧
      withP p0 fun g35 o35 =>
      ∃ (x37 : Int), w_8.cell? ⟨g35, o35 + 1, none⟩ = some (.int .i64 x37) ∧
      withP p0 fun g39 o39 =>
      ∃ (x41 : Int), w_8.cell? ⟨g39, o39 + 4, none⟩ = some (.int .i64 x41) ∧
      Calls Try.prog 17 #[.pointer p33, .int .i64 (IntKind.i64.wrap ((IntKind.i64.wrap (x37 + x41)) + 1)), .slice a5 n5 c5] w_8 fun e_2 w_9 => KeepG [] w_8 w_9 ∧
      ∃ (x45 : Int),
      e_2 = .returned (.int .i64 x45) ∧
      br (decide (x45 ≠ 0)) (
        K (.int .i64 x45) w_9
      ) (
        withP p0 fun g50 o50 =>
        ∃ (p52 : Option Addr), w_9.cell? ⟨g50, o50, none⟩ = some (.pointer p52) ∧
        Calls Try.prog 65 #[.pointer p52] w_9 fun e_3 w_10 => KeepG [] w_9 w_10 ∧
        ∃ (x53 : Int),
        e_3 = .returned (.int .i64 x53) ∧
        K (.int .i64 x53) w_10
      )
    )
  )
def tail_notes : Notes := ⟨[(7, ⟨[0, 0, 3, 0, 0, 16, 48, 120, 255, 511, 1023], [1, 2, 8, 9], [0, 3, 4, 5, 6, 7, 10]⟩), (8, ⟨[0, 1, 3, 7, 0, 16, 48, 112, 0, 256, 768, 1792, 4080, 8176, 0, 32767, 65535], [15], [0, 1, 2, 3, 4, 5, 6, 7, 8, 9, 10, 11, 12, 13, 14, 16]⟩)], [(5, ⟨[(1, .lf (.slice)), (5, .lf (.slice))], [], [12, 13, 14, 20, 21, 22, 23, 24, 25, 26, 27, 28, 29, 5, 15, 16, 17, 18, 19, 1], []⟩)], [], []⟩
theorem tail_calls (p0 : Option Addr) (a1 : Option Addr) (n1 : Nat) (c1 : Nat) (w : World) (K : Value → World → Prop) (h : tail_vc p0 a1 n1 c1 w K) : Calls Try.prog 62 #[.pointer p0, .slice a1 n1 c1] w fun e w' => ∃ v, e = .returned v ∧ K v w' :=
  calls_of_fvc envOk Try.func62 tail_notes [] [.pointer p0, .slice a1 n1 c1] w K (use_vc h (by as_aux_lemma => kernel_rfl))
/-- (*purser/frame.Log).Append -/
def append_k1 (K : Value → World → Prop) (p0 : Option Addr) (a14 : Option Addr) (n14 : Nat) (c14 : Nat) (x17 : Int) (a8 : Option Addr) (n8 : Nat) (c8 : Nat) (w_10 : World) : Prop :=
  drewO w_10 fun w_11 =>
  withP p0 fun g58 o58 =>
  ∃ (p60 : Option Addr), w_11.cell? ⟨g58, o58, none⟩ = some (.pointer p60) ∧
  withP p0 fun g62 o62 =>
  ∃ (x64 : Int), w_11.cell? ⟨g62, o62 + 1, none⟩ = some (.int .i64 x64) ∧
  withP p0 fun g66 o66 =>
  ∃ (x68 : Int), w_11.cell? ⟨g66, o66 + 4, none⟩ = some (.int .i64 x68) ∧
  (0 : Int) ≤ min ((n14 : Nat) : Int) 39 ∧ min ((n14 : Nat) : Int) 39 ≤ (((c14 : Nat) : Int) : Int) ∧
  appO Try.prog [] w_11 5 1 1 22 a8 n8 c8 (.slice a14 ((min ((n14 : Nat) : Int) 39).toNat) c14) fun m76 a76 c76 w_12 =>
  w_12.cell? ⟨g58, o58, none⟩ = some (.pointer p60) ∧
  w_12.cell? ⟨g62, o62 + 1, none⟩ = some (.int .i64 x64) ∧
  w_12.cell? ⟨g66, o66 + 4, none⟩ = some (.int .i64 x68) ∧
  Calls Try.prog 64 #[.slice a76 (n8 + m76) c76] w_12 fun e_5 w_13 => KeepG [] w_12 w_13 ∧
  ∃ (a77 : Option Addr) (n77 : Nat) (c77 : Nat),
  e_5 = .returned (.slice a77 n77 c77) ∧
  w_13.cell? ⟨g58, o58, none⟩ = some (.pointer p60) ∧
  w_13.cell? ⟨g62, o62 + 1, none⟩ = some (.int .i64 x64) ∧
  w_13.cell? ⟨g66, o66 + 4, none⟩ = some (.int .i64 x68) ∧
  Calls Try.prog 17 #[.pointer p60, .int .i64 (IntKind.i64.wrap (x64 + x68)), .slice a77 n77 c77] w_13 fun e_6 w_14 => KeepG [] w_13 w_14 ∧
  ∃ (x78 : Int),
  e_6 = .returned (.int .i64 x78) ∧
  br (decide (x78 ≠ 0)) (
    K (.int .i64 x78) w_14
  ) (
    withP p0 fun g83 o83 =>
    ∃ (p85 : Option Addr), w_14.cell? ⟨g83, o83, none⟩ = some (.pointer p85) ∧
    Calls Try.prog 65 #[.pointer p85] w_14 fun e_7 w_15 => KeepG [] w_14 w_15 ∧
    ∃ (x86 : Int),
    e_7 = .returned (.int .i64 x86) ∧
    br (decide (x86 ≠ 0)) (
      K (.int .i64 x86) w_15
    ) (
      withP p0 fun g91 o91 =>
      ∃ (x93 : Int), w_15.cell? ⟨g91, o91 + 4, none⟩ = some (.int .i64 x93) ∧
      withP p0 fun g96 o96 =>
      stO [] w_15 g96 (o96 + 4) [.int .i64 (IntKind.i64.wrap (x93 + x17))] fun w_16 =>
      withP p0 fun g99 o99 =>
      ∃ (x101 : Int), w_16.cell? ⟨g99, o99 + 5, none⟩ = some (.int .i64 x101) ∧
      withP p0 fun g103 o103 =>
      stO [] w_16 g103 (o103 + 5) [.int .i64 (IntKind.i64.wrap (x101 + 1))] fun w_17 =>
      K (.int .i64 0) w_17
    )
  )
def append_vc (p0 : Option Addr) (a1 : Option Addr) (n1 : Nat) (c1 : Nat) (w : World) (K : Value → World → Prop) : Prop :=
  br (Option.isNone p0) (
    K (.int .i64 1) w
  ) (
    Calls Try.prog 60 #[.slice a1 n1 c1] w fun e w_2 => KeepG [] w w_2 ∧
    ∃ (a14 : Option Addr) (n14 : Nat) (c14 : Nat),
    e = .returned (.slice a14 n14 c14) ∧
    Calls Try.prog 61 #[.int .i64 ((n14 : Nat) : Int)] w_2 fun e_2 w_3 => KeepG [] w_2 w_3 ∧
    ∃ (x17 : Int),
    e_2 = .returned (.int .i64 x17) ∧
    br (decide (((n1 : Nat) : Int) = 0)) (
      K (.int .i64 0) w_3
    ) (
      drewO w_3 fun w_4 =>
      br (decide (((n14 : Nat) : Int) > 2147483647)) (
        K (.int .i64 11) w_4
      ) (
        withP p0 fun g29 o29 =>
        ∃ (x31 : Int), w_4.cell? ⟨g29, o29 + 2, none⟩ = some (.int .i64 x31) ∧
        withP p0 fun g33 o33 =>
        ∃ (x35 : Int), w_4.cell? ⟨g33, o33 + 4, none⟩ = some (.int .i64 x35) ∧
        br (decide (x17 > (IntKind.i64.wrap (x31 - x35)))) (
          K (.int .i64 11) w_4
        ) (
          Calls Try.prog 62 #[.pointer p0, .slice a14 n14 c14] w_4 fun e_3 w_5 => KeepG [] w_4 w_5 ∧
          ∃ (x41 : Int),
          e_3 = .returned (.int .i64 x41) ∧
          br (decide (x41 ≠ 0)) (
            K (.int .i64 x41) w_5
          ) (
            drewO w_5 fun w_6 =>
            withP p0 fun g47 o47 =>
            ∃ (x49 : Int), w_6.cell? ⟨g47, o47 + 3, none⟩ = some (.int .i64 x49) ∧
            withP p0 fun g51 o51 =>
            ∃ (x53 : Int), w_6.cell? ⟨g51, o51 + 5, none⟩ = some (.int .i64 x53) ∧
            (
              newO w_6 (.cells #[.int .u8 1] 5) fun g w_7 =>
              w_7.cell? ⟨g47, o47 + 3, none⟩ = some (.int .i64 x49) ∧
              w_7.cell? ⟨g51, o51 + 5, none⟩ = some (.int .i64 x53) ∧
              Calls Try.prog 63 #[.int .i64 x49, .int .i64 x53, .slice a14 n14 c14] w_7 fun e_4 w_8 => KeepG [] w_7 w_8 ∧
              ∃ (a55 : Option Addr) (n55 : Nat) (c55 : Nat),
              e_4 = .returned (.slice a55 n55 c55) ∧
              appO Try.prog [] w_8 5 1 1 22 (some ⟨g, 0, none⟩) 1 1 (.slice a55 n55 c55) fun m56 a56 c56 w_9 =>
              append_k1 K p0 a14 n14 c14 x17 a56 (1 + m56) c56 w_9
            ) ∧
            (
              Calls Try.prog 63 #[.int .i64 x49, .int .i64 x53, .slice a14 n14 c14] w_6 fun e_8 w_18 => KeepG [] w_6 w_18 ∧
              ∃ (a55_2 : Option Addr) (n55_2 : Nat) (c55_2 : Nat),
              e_8 = .returned (.slice a55_2 n55_2 c55_2) ∧
              newO w_18 (.cells #[.int .u8 1] 5) fun g_2 w_19 =>
              appO Try.prog [] w_19 5 1 1 22 (some ⟨g_2, 0, none⟩) 1 1 (.slice a55_2 n55_2 c55_2) fun m56_2 a56_2 c56_2 w_20 =>
              append_k1 K p0 a14 n14 c14 x17 a56_2 (1 + m56_2) c56_2 w_20
            )
          )
        )
      )
    )
  )
def append_notes : Notes := ⟨[(7, ⟨[0, 1, 3, 7, 15, 15, 47, 111, 239, 15, 527, 1551, 3599, 8175, 16383, 32767, 65535], [], [0, 1, 2, 3, 4, 5, 6, 7, 8, 9, 10, 11, 12, 13, 14, 15, 16]⟩), (12, ⟨[0, 0, 2, 6, 14, 0, 32, 96, 224, 0, 1022, 2047, 4095], [0, 10, 11], [1, 2, 3, 4, 5, 6, 7, 8, 9, 12]⟩), (13, ⟨[0, 1, 3, 7, 0, 16, 48, 112, 0, 256, 768, 1792, 4080, 0, 0, 0, 32768, 98304, 245760, 516096, 1040384, 2097151, 4194303], [19, 20, 21], [0, 1, 2, 3, 4, 5, 6, 7, 8, 9, 10, 11, 12, 13, 14, 15, 16, 17, 18, 22]⟩)], [], [], []⟩
theorem append_calls (p0 : Option Addr) (a1 : Option Addr) (n1 : Nat) (c1 : Nat) (w : World) (K : Value → World → Prop) (h : append_vc p0 a1 n1 c1 w K) : Calls Try.prog 26 #[.pointer p0, .slice a1 n1 c1] w fun e w' => ∃ v, e = .returned v ∧ K v w' :=
  calls_of_fvc envOk Try.func26 append_notes [] [.pointer p0, .slice a1 n1 c1] w K (use_vc h (by as_aux_lemma => kernel_rfl))
/-- (*purser/frame.Log).Groups -/
def groups_vc (p0 : Option Addr) (w : World) (K : Value → World → Prop) : Prop :=
  br (Option.isNone p0) (
    K (.int .i64 0) w
  ) (
    withP p0 fun g6 o6 =>
    ∃ (x8 : Int), w.cell? ⟨g6, o6 + 5, none⟩ = some (.int .i64 x8) ∧
    K (.int .i64 x8) w
  )
def groups_notes : Notes := ⟨[], [], [], []⟩
theorem groups_calls (p0 : Option Addr) (w : World) (K : Value → World → Prop) (h : groups_vc p0 w K) : Calls Try.prog 27 #[.pointer p0] w fun e w' => ∃ v, e = .returned v ∧ K v w' :=
  calls_of_fvc envOk Try.func27 groups_notes [] [.pointer p0] w K (use_vc h (by as_aux_lemma => kernel_rfl))
/-- (*purser/frame.Log).Left -/
def left_vc (p0 : Option Addr) (w : World) (K : Value → World → Prop) : Prop :=
  br (Option.isNone p0) (
    K (.int .i64 0) w
  ) (
    drewO w fun w_2 =>
    withP p0 fun g6 o6 =>
    ∃ (x8 : Int), w_2.cell? ⟨g6, o6 + 2, none⟩ = some (.int .i64 x8) ∧
    withP p0 fun g10 o10 =>
    ∃ (x12 : Int), w_2.cell? ⟨g10, o10 + 4, none⟩ = some (.int .i64 x12) ∧
    K (.int .i64 (IntKind.i64.wrap (x8 - x12))) w_2
  )
def left_notes : Notes := ⟨[(3, ⟨[0, 1, 3, 7, 0, 16, 48, 112, 255, 511], [], [0, 1, 2, 3, 4, 5, 6, 7, 8, 9]⟩)], [], [], []⟩
theorem left_calls (p0 : Option Addr) (w : World) (K : Value → World → Prop) (h : left_vc p0 w K) : Calls Try.prog 28 #[.pointer p0] w fun e w' => ∃ v, e = .returned v ∧ K v w' :=
  calls_of_fvc envOk Try.func28 left_notes [] [.pointer p0] w K (use_vc h (by as_aux_lemma => kernel_rfl))
/-- (*purser/frame.Log).Gen -/
def gen_vc (p0 : Option Addr) (w : World) (K : Value → World → Prop) : Prop :=
  br (Option.isNone p0) (
    K (.int .i64 0) w
  ) (
    withP p0 fun g6 o6 =>
    ∃ (x8 : Int), w.cell? ⟨g6, o6 + 3, none⟩ = some (.int .i64 x8) ∧
    K (.int .i64 x8) w
  )
def gen_notes : Notes := ⟨[], [], [], []⟩
theorem gen_calls (p0 : Option Addr) (w : World) (K : Value → World → Prop) (h : gen_vc p0 w K) : Calls Try.prog 29 #[.pointer p0] w fun e w' => ∃ v, e = .returned v ∧ K v w' :=
  calls_of_fvc envOk Try.func29 gen_notes [] [.pointer p0] w K (use_vc h (by as_aux_lemma => kernel_rfl))
/-- purser/purserref05.number -/
def rnumber_vc (x0 : Int) (x1 : Int) (w : World) (K : Value → World → Prop) : Prop :=
  ∃ (I : ByteArray → Int → World → Prop) (μ : ByteArray → Int → World → Nat),
  I (⟨#[]⟩ : ByteArray) (IntKind.i64.wrap (x1 - 1)) w ∧
  ∀ (s5 : ByteArray) (x6 : Int) (w_2 : World), I s5 x6 w_2 →
  br (decide (x6 ≥ 0)) (
    (0 : Int) ≤ (IntKind.i64.wrap (8 * x6)) ∧
    Calls Try.prog 83 #[.int .i64 (IntKind.i64.wrap (bitsV .and .u64 (Int.fdiv x0 (2 ^ (min (IntKind.i64.wrap (8 * x6)).toNat (IntKind.bits .u64)))) 255))] w_2 fun e w_3 => KeepG [] w_2 w_3 ∧
    ∃ (s20 : ByteArray),
    e = .returned (.string s20) ∧
    s5.size + s20.size ≤ 9223372036854775807 ∧
    I (s5 ++ s20) (IntKind.i64.wrap (x6 - 1)) w_3 ∧ μ (s5 ++ s20) (IntKind.i64.wrap (x6 - 1)) w_3 < μ s5 x6 w_2
  ) (
    K (.string s5) w_2
  )
def rnumber_notes : Notes := ⟨[], [(3, ⟨[(5, .lf (.str)), (6, .lf (.int .i64))], [], [9, 10, 13, 14, 15, 16, 17, 18, 19, 20, 21, 5, 11, 12, 6], []⟩)], [], []⟩
theorem rnumber_calls (x0 : Int) (x1 : Int) (w : World) (K : Value → World → Prop) (h : rnumber_vc x0 x1 w K) : Calls Try.prog 71 #[.int .u64 x0, .int .i64 x1] w fun e w' => ∃ v, e = .returned v ∧ K v w' :=
  calls_of_fvc envOk Try.func71 rnumber_notes [] [.int .u64 x0, .int .i64 x1] w K (use_vc h (by as_aux_lemma => kernel_rfl))
/-- purser/purserref05.Bytes -/
def rbytes_vc (a0 : Option Addr) (n0 : Nat) (c0 : Nat) (w : World) (K : Value → World → Prop) : Prop :=
  ∃ (I : ByteArray → Int → World → Prop) (μ : ByteArray → Int → World → Nat),
  I (⟨#[]⟩ : ByteArray) 0 w ∧
  ∀ (s3 : ByteArray) (x4 : Int) (w_2 : World), I s3 x4 w_2 →
  br (decide (x4 < ((n0 : Nat) : Int))) (
    withP a0 fun g14 o14 =>
    (0 : Int) ≤ x4 ∧ x4 < (((n0 : Nat) : Int) : Int) ∧
    ∃ (a15 : Option Addr) (n15 : Nat) (c15 : Nat), w_2.cell? ⟨g14, o14 + x4.toNat * 1, none⟩ = some (.slice a15 n15 c15) ∧
    ∃ bs16 : List UInt8, bs16.length = n15 ∧ RowAt w_2 a15 (bs16.map bV) ∧
    Calls Try.prog 70 #[.string (strOf bs16)] w_2 fun e w_3 => KeepG [] w_2 w_3 ∧
    ∃ (s17 : ByteArray),
    e = .returned (.string s17) ∧
    s3.size + s17.size ≤ 9223372036854775807 ∧
    I (s3 ++ s17) (IntKind.i64.wrap (x4 + 1)) w_3 ∧ μ (s3 ++ s17) (IntKind.i64.wrap (x4 + 1)) w_3 < μ s3 x4 w_2
  ) (
    K (.string s3) w_2
  )
def rbytes_notes : Notes := ⟨[], [(3, ⟨[(3, .lf (.str)), (4, .lf (.int .i64))], [], [5, 6, 7, 8, 11, 12, 13, 14, 15, 16, 17, 18, 3, 9, 10, 4], []⟩)], [], []⟩
theorem rbytes_calls (a0 : Option Addr) (n0 : Nat) (c0 : Nat) (w : World) (K : Value → World → Prop) (h : rbytes_vc a0 n0 c0 w K) : Calls Try.prog 42 #[.slice a0 n0 c0] w fun e w' => ∃ v, e = .returned v ∧ K v w' :=
  calls_of_fvc envOk Try.func42 rbytes_notes [] [.slice a0 n0 c0] w K (use_vc h (by as_aux_lemma => kernel_rfl))
/-- purser/purserref05.Sectors -/
def rsectors_vc (a0 : Option Addr) (n0 : Nat) (c0 : Nat) (w : World) (K : Value → World → Prop) : Prop :=
  Calls Try.prog 42 #[.slice a0 n0 c0] w fun e w_2 => KeepG [] w w_2 ∧
  ∃ (s7 : ByteArray),
  e = .returned (.string s7) ∧
  ∃ (I : Int → Int → World → Prop) (μ : Int → Int → World → Nat),
  I 1 (IntKind.i64.wrap (((s7.size : Nat) : Int) - 39)) w_2 ∧
  ∀ (x4 : Int) (x5 : Int) (w_3 : World), I x4 x5 w_3 →
  br (decide (x5 > 0)) (
    I (IntKind.i64.wrap (x4 + 1)) (IntKind.i64.wrap (x5 - 63)) w_3 ∧ μ (IntKind.i64.wrap (x4 + 1)) (IntKind.i64.wrap (x5 - 63)) w_3 < μ x4 x5 w_3
  ) (
    K (.int .i64 x4) w_3
  )
def rsectors_notes : Notes := ⟨[], [(4, ⟨[(4, .lf (.int .i64)), (5, .lf (.int .i64))], [], [11, 12, 15, 16, 4, 13, 14, 5], []⟩)], [], []⟩
theorem rsectors_calls (a0 : Option Addr) (n0 : Nat) (c0 : Nat) (w : World) (K : Value → World → Prop) (h : rsectors_vc a0 n0 c0 w K) : Calls Try.prog 31 #[.slice a0 n0 c0] w fun e w' => ∃ v, e = .returned v ∧ K v w' :=
  calls_of_fvc envOk Try.func31 rsectors_notes [] [.slice a0 n0 c0] w K (use_vc h (by as_aux_lemma => kernel_rfl))
/-- purser/purserref05.pad -/
def rpad_vc (s0 : ByteArray) (w : World) (K : Value → World → Prop) : Prop :=
  (0 : Int) ≤ IntKind.i64.wrap (64 - ((s0.size : Nat) : Int)) ∧ IntKind.i64.wrap (64 - ((s0.size : Nat) : Int)) ≤ IntKind.i64.wrap (64 - ((s0.size : Nat) : Int)) ∧ ((1 : Nat) : Int) * (IntKind.i64.wrap (64 - ((s0.size : Nat) : Int))) ≤ 281474976710656 ∧ IntKind.i64.wrap (64 - ((s0.size : Nat) : Int)) ≤ 9223372036854775807 ∧
  newO w (.cells (madeCells (Value.cells (.int .u8 0)) ((IntKind.i64.wrap (64 - ((s0.size : Nat) : Int))).toNat * 1)) 5) fun g w_2 =>
  ∃ bs8 : List UInt8, bs8.length = (IntKind.i64.wrap (64 - ((s0.size : Nat) : Int))).toNat ∧ RowAt w_2 (some ⟨g, 0, none⟩) (bs8.map bV) ∧
  s0.size + (strOf bs8).size ≤ 9223372036854775807 ∧
  K (.string (s0 ++ (strOf bs8))) w_2
def rpad_notes : Notes := ⟨[], [], [], []⟩
theorem rpad_calls (s0 : ByteArray) (w : World) (K : Value → World → Prop) (h : rpad_vc s0 w K) : Calls Try.prog 72 #[.string s0] w fun e w' => ∃ v, e = .returned v ∧ K v w' :=
  calls_of_fvc envOk Try.func72 rpad_notes [] [.string s0] w K (use_vc h (by as_aux_lemma => kernel_rfl))
/-- purser/purserref05.Lay -/
def rlay_vc (x0 : Int) (x1 : Int) (a2 : Option Addr) (n2 : Nat) (c2 : Nat) (w : World) (K : Value → World → Prop) : Prop :=
  Calls Try.prog 42 #[.slice a2 n2 c2] w fun e w_2 => KeepG [] w w_2 ∧
  ∃ (s13 : ByteArray),
  e = .returned (.string s13) ∧
  Calls Try.prog 71 #[.int .u64 (IntKind.u64.wrap x0), .int .i64 8] w_2 fun e_2 w_3 => KeepG [] w_2 w_3 ∧
  ∃ (s16 : ByteArray),
  e_2 = .returned (.string s16) ∧
  Calls Try.prog 71 #[.int .u64 (IntKind.u64.wrap x1), .int .i64 8] w_3 fun e_3 w_4 => KeepG [] w_3 w_4 ∧
  ∃ (s19 : ByteArray),
  e_3 = .returned (.string s19) ∧
  s16.size + s19.size ≤ 9223372036854775807 ∧
  Calls Try.prog 71 #[.int .u64 (IntKind.u64.wrap ((s13.size : Nat) : Int)), .int .i64 4] w_4 fun e_4 w_5 => KeepG [] w_4 w_5 ∧
  ∃ (s24 : ByteArray),
  e_4 = .returned (.string s24) ∧
  (s16 ++ s19).size + s24.size ≤ 9223372036854775807 ∧
  ((s16 ++ s19) ++ s24).size + s13.size ≤ 9223372036854775807 ∧
  Calls Try.prog 67 #[.string (((s16 ++ s19) ++ s24) ++ s13)] w_5 fun e_5 w_6 => KeepG [] w_5 w_6 ∧
  ∃ (x29 : Int),
  e_5 = .returned (.int .u32 x29) ∧
  Calls Try.prog 71 #[.int .u64 (IntKind.u64.wrap x29), .int .i64 4] w_6 fun e_6 w_7 => KeepG [] w_6 w_7 ∧
  ∃ (s31 : ByteArray),
  e_6 = .returned (.string s31) ∧
  (⟨#[1]⟩ : ByteArray).size + ((s16 ++ s19) ++ s24).size ≤ 9223372036854775807 ∧
  ((⟨#[1]⟩ : ByteArray) ++ ((s16 ++ s19) ++ s24)).size + s31.size ≤ 9223372036854775807 ∧
  (0 : Int) ≤ min ((s13.size : Nat) : Int) 39 ∧ min ((s13.size : Nat) : Int) 39 ≤ (((s13.size : Nat) : Int) : Int) ∧
  (((⟨#[1]⟩ : ByteArray) ++ ((s16 ++ s19) ++ s24)) ++ s31).size + (s13.extract 0 ((min ((s13.size : Nat) : Int) 39).toNat)).size ≤ 9223372036854775807 ∧
  Calls Try.prog 72 #[.string ((((⟨#[1]⟩ : ByteArray) ++ ((s16 ++ s19) ++ s24)) ++ s31) ++ (s13.extract 0 ((min ((s13.size : Nat) : Int) 39).toNat)))] w_7 fun e_7 w_8 => KeepG [] w_7 w_8 ∧
  ∃ (s43 : ByteArray),
  e_7 = .returned (.string s43) ∧
  newO w_8 (.cells #[.string s43] 9) fun g w_9 =>
  (0 : Int) ≤ min ((s13.size : Nat) : Int) 39 ∧ min ((s13.size : Nat) : Int) 39 ≤ (((s13.size : Nat) : Int) : Int) ∧
  ∃ (I : ByteArray → Option Addr → Nat → Nat → World → Prop) (μ : ByteArray → Option Addr → Nat → Nat → World → Nat),
  I (s13.extract ((min ((s13.size : Nat) : Int) 39).toNat) s13.size) (some ⟨g, 0, none⟩) 1 1 w_9 ∧
  ∀ (s7 : ByteArray) (a11 : Option Addr) (n11 : Nat) (c11 : Nat) (w_10 : World), I s7 a11 n11 c11 w_10 →
  br (decide (s7 ≠ (⟨#[]⟩ : ByteArray))) (
    (0 : Int) ≤ min ((s7.size : Nat) : Int) 63 ∧ min ((s7.size : Nat) : Int) 63 ≤ (((s7.size : Nat) : Int) : Int) ∧
    (⟨#[2]⟩ : ByteArray).size + (s7.extract 0 ((min ((s7.size : Nat) : Int) 63).toNat)).size ≤ 9223372036854775807 ∧
    Calls Try.prog 72 #[.string ((⟨#[2]⟩ : ByteArray) ++ (s7.extract 0 ((min ((s7.size : Nat) : Int) 63).toNat)))] w_10 fun e_8 w_11 => KeepG [] w_10 w_11 ∧
    ∃ (s61 : ByteArray),
    e_8 = .returned (.string s61) ∧
    newO w_11 (.cells #[.string s61] 9) fun g_2 w_12 =>
    appO Try.prog [] w_12 9 1 16 76 a11 n11 c11 (.slice (some ⟨g_2, 0, none⟩) 1 1) fun m63 a63 c63 w_13 =>
    (0 : Int) ≤ min ((s7.size : Nat) : Int) 63 ∧ min ((s7.size : Nat) : Int) 63 ≤ (((s7.size : Nat) : Int) : Int) ∧
    I (s7.extract ((min ((s7.size : Nat) : Int) 63).toNat) s7.size) a63 (n11 + m63) c63 w_13 ∧ μ (s7.extract ((min ((s7.size : Nat) : Int) 63).toNat) s7.size) a63 (n11 + m63) c63 w_13 < μ s7 a11 n11 c11 w_10
  ) (
    K (.slice a11 n11 c11) w_10
  )
def rlay_notes : Notes := ⟨[], [(7, ⟨[(7, .lf (.str)), (11, .lf (.slice))], [], [48, 49, 53, 54, 55, 10, 56, 57, 58, 59, 60, 61, 62, 63, 11, 50, 51, 52, 7], []⟩)], [], []⟩
theorem rlay_calls (x0 : Int) (x1 : Int) (a2 : Option Addr) (n2 : Nat) (c2 : Nat) (w : World) (K : Value → World → Prop) (h : rlay_vc x0 x1 a2 n2 c2 w K) : Calls Try.prog 43 #[.int .i64 x0, .int .i64 x1, .slice a2 n2 c2] w fun e w' => ∃ v, e = .returned v ∧ K v w' :=
  calls_of_fvc envOk Try.func43 rlay_notes [] [.int .i64 x0, .int .i64 x1, .slice a2 n2 c2] w K (use_vc h (by as_aux_lemma => kernel_rfl))
/-- purser/purserref05.Same -/
def rsame_vc (a0 : Option Addr) (n0 : Nat) (c0 : Nat) (a1 : Option Addr) (n1 : Nat) (c1 : Nat) (w : World) (K : Value → World → Prop) : Prop :=
  br (decide (((n0 : Nat) : Int) ≠ ((n1 : Nat) : Int))) (
    K (.bool false) w
  ) (
    ∃ (I : Int → World → Prop) (μ : Int → World → Nat),
    I 0 w ∧
    ∀ (x5 : Int) (w_2 : World), I x5 w_2 →
    br (decide (x5 < ((n0 : Nat) : Int))) (
      drewO w_2 fun w_3 =>
      withP a0 fun g19 o19 =>
      (0 : Int) ≤ x5 ∧ x5 < (((n0 : Nat) : Int) : Int) ∧
      ∃ (a20 : Option Addr) (n20 : Nat) (c20 : Nat), w_3.cell? ⟨g19, o19 + x5.toNat * 1, none⟩ = some (.slice a20 n20 c20) ∧
      ∃ bs21 : List UInt8, bs21.length = n20 ∧ RowAt w_3 a20 (bs21.map bV) ∧
      withP a1 fun g24 o24 =>
      (0 : Int) ≤ x5 ∧ x5 < (((n1 : Nat) : Int) : Int) ∧
      ∃ (a25 : Option Addr) (n25 : Nat) (c25 : Nat), w_3.cell? ⟨g24, o24 + x5.toNat * 1, none⟩ = some (.slice a25 n25 c25) ∧
      ∃ bs26 : List UInt8, bs26.length = n25 ∧ RowAt w_3 a25 (bs26.map bV) ∧
      br (decide ((strOf bs21) ≠ (strOf bs26))) (
        K (.bool false) w_3
      ) (
        I (IntKind.i64.wrap (x5 + 1)) w_3 ∧ μ (IntKind.i64.wrap (x5 + 1)) w_3 < μ x5 w_2
      )
    ) (
      K (.bool true) w_2
    )
  )
def rsame_notes : Notes := ⟨[(6, ⟨[0, 0, 3, 7, 15, 0, 0, 96, 224, 480, 1023], [], [0, 1, 2, 3, 4, 5, 6, 7, 8, 9, 10]⟩)], [(4, ⟨[(5, .lf (.int .i64))], [], [11, 12, 13, 14, 17, 18, 19, 20, 21, 22, 23, 24, 25, 26, 27, 4, 15, 16, 5], []⟩)], [], []⟩
theorem rsame_calls (a0 : Option Addr) (n0 : Nat) (c0 : Nat) (a1 : Option Addr) (n1 : Nat) (c1 : Nat) (w : World) (K : Value → World → Prop) (h : rsame_vc a0 n0 c0 a1 n1 c1 w K) : Calls Try.prog 44 #[.slice a0 n0 c0, .slice a1 n1 c1] w fun e w' => ∃ v, e = .returned v ∧ K v w' :=
  calls_of_fvc envOk Try.func44 rsame_notes [] [.slice a0 n0 c0, .slice a1 n1 c1] w K (use_vc h (by as_aux_lemma => kernel_rfl))
/-- purser/purserref05.Join -/
def rjoin_vc (a0 : Option Addr) (n0 : Nat) (c0 : Nat) (w : World) (K : Value → World → Prop) : Prop :=
  ∃ (I : Option Addr → Nat → Nat → Int → World → Prop) (μ : Option Addr → Nat → Nat → Int → World → Nat),
  I none 0 0 0 w ∧
  ∀ (a3 : Option Addr) (n3 : Nat) (c3 : Nat) (x4 : Int) (w_2 : World), I a3 n3 c3 x4 w_2 →
  br (decide (x4 < ((n0 : Nat) : Int))) (
    withP a0 fun g14 o14 =>
    (0 : Int) ≤ x4 ∧ x4 < (((n0 : Nat) : Int) : Int) ∧
    ∃ (a15 : Option Addr) (n15 : Nat) (c15 : Nat), w_2.cell? ⟨g14, o14 + x4.toNat * 1, none⟩ = some (.slice a15 n15 c15) ∧
    appO Try.prog [] w_2 22 1 24 44 a3 n3 c3 (.slice a15 n15 c15) fun m16 a16 c16 w_3 =>
    I a16 (n3 + m16) c16 (IntKind.i64.wrap (x4 + 1)) w_3 ∧ μ a16 (n3 + m16) c16 (IntKind.i64.wrap (x4 + 1)) w_3 < μ a3 n3 c3 x4 w_2
  ) (
    K (.slice a3 n3 c3) w_2
  )
def rjoin_notes : Notes := ⟨[], [(3, ⟨[(3, .lf (.slice)), (4, .lf (.int .i64))], [], [5, 6, 7, 8, 11, 12, 13, 14, 15, 16, 3, 9, 10, 4], []⟩)], [], []⟩
theorem rjoin_calls (a0 : Option Addr) (n0 : Nat) (c0 : Nat) (w : World) (K : Value → World → Prop) (h : rjoin_vc a0 n0 c0 w K) : Calls Try.prog 46 #[.slice a0 n0 c0] w fun e w' => ∃ v, e = .returned v ∧ K v w' :=
  calls_of_fvc envOk Try.func46 rjoin_notes [] [.slice a0 n0 c0] w K (use_vc h (by as_aux_lemma => kernel_rfl))
/-- purser/purserlaw05.start -/
def start_vc (x0 : Int) (x1 : Int) (w : World) (K : Value → World → Prop) : Prop :=
  Calls Try.prog 13 #[.int .i64 (IntKind.i64.wrap (x0 + 5))] w fun e w_2 => KeepG [] w w_2 ∧
  ∃ (p15_0 : Option Addr) (x15_1 : Int),
  e = .returned (.tuple #[.pointer p15_0, .int .i64 x15_1]) ∧
  Calls Try.prog 22 #[.pointer p15_0, .int .i64 3, .int .i64 x0, .int .i64 x1] w_2 fun e_2 w_3 => KeepG [] w_2 w_3 ∧
  ∃ (p22_0 : Option Addr) (a22_1 : Option Addr) (n22_1 : Nat) (c22_1 : Nat) (x22_2 : Int),
  e_2 = .returned (.tuple #[.pointer p22_0, .slice a22_1 n22_1 c22_1, .int .i64 x22_2]) ∧
  br (decide (x15_1 = 0)) (
    br (decide (x22_2 = 0)) (
      K (.tuple #[.pointer p22_0, .pointer p15_0, .bool (decide (((n22_1 : Nat) : Int) = 0))]) w_3
    ) (
      K (.tuple #[.pointer p22_0, .pointer p15_0, .bool false]) w_3
    )
  ) (
    K (.tuple #[.pointer p22_0, .pointer p15_0, .bool false]) w_3
  )
def start_notes : Notes := ⟨[], [], [], []⟩
theorem start_calls (x0 : Int) (x1 : Int) (w : World) (K : Value → World → Prop) (h : start_vc x0 x1 w K) : Calls Try.prog 40 #[.int .i64 x0, .int .i64 x1] w fun e w' => ∃ v, e = .returned v ∧ K v w' :=
  calls_of_fvc envOk Try.func40 start_notes [] [.int .i64 x0, .int .i64 x1] w K (use_vc h (by as_aux_lemma => kernel_rfl))
/-- purser/purserlaw05.frames -/
def frames_vc  (w : World) (K : Value → World → Prop) : Prop :=
  Calls Try.prog 40 #[.int .i64 4, .int .i64 7] w fun e w_2 => KeepG [] w w_2 ∧
  ∃ (p11_0 : Option Addr) (p11_1 : Option Addr) (b11_2 : Bool),
  e = .returned (.tuple #[.pointer p11_0, .pointer p11_1, .bool b11_2]) ∧
  br (!b11_2) (
    K (.bool false) w_2
  ) (
    newO w_2 (.cells #[.int .u8 97, .int .u8 98] 5) fun g w_3 =>
    frzO [] w_3 g fun w_4 =>
    (0 : Int) ≤ (40 : Int) ∧ (40 : Int) ≤ (40 : Int) ∧ ((1 : Nat) : Int) * (40 : Int) ≤ 281474976710656 ∧ (40 : Int) ≤ 9223372036854775807 ∧
    newO w_4 (.cells (madeCells (Value.cells (.int .u8 0)) ((40 : Int).toNat * 1)) 5) fun g_2 w_5 =>
    newO w_5 (.cells #[.slice (some ⟨g, 0, none⟩) 2 2, .slice (some ⟨g_2, 0, none⟩) ((40 : Int).toNat) ((40 : Int).toNat)] 22) fun g_3 w_6 =>
    Calls Try.prog 26 #[.pointer p11_0, .slice (some ⟨g_3, 0, none⟩) 2 2] w_6 fun e_2 w_7 => KeepG [] w_6 w_7 ∧
    ∃ (x23 : Int),
    e_2 = .returned (.int .i64 x23) ∧
    br (decide (x23 ≠ 0)) (
      K (.bool false) w_7
    ) (
      Calls Try.prog 28 #[.pointer p11_0] w_7 fun e_3 w_8 => KeepG [] w_7 w_8 ∧
      ∃ (x28 : Int),
      e_3 = .returned (.int .i64 x28) ∧
      br (decide (x28 ≠ 2)) (
        K (.bool false) w_8
      ) (
        Calls Try.prog 27 #[.pointer p11_0] w_8 fun e_4 w_9 => KeepG [] w_8 w_9 ∧
        ∃ (x33 : Int),
        e_4 = .returned (.int .i64 x33) ∧
        br (decide (x33 ≠ 1)) (
          K (.bool false) w_9
        ) (
          Calls Try.prog 22 #[.pointer p11_1, .int .i64 3, .int .i64 4, .int .i64 7] w_9 fun e_5 w_10 => KeepG [] w_9 w_10 ∧
          ∃ (p38_0 : Option Addr) (a38_1 : Option Addr) (n38_1 : Nat) (c38_1 : Nat) (x38_2 : Int),
          e_5 = .returned (.tuple #[.pointer p38_0, .slice a38_1 n38_1 c38_1, .int .i64 x38_2]) ∧
          Calls Try.prog 22 #[.pointer p11_1, .int .i64 3, .int .i64 4, .int .i64 8] w_10 fun e_6 w_11 => KeepG [] w_10 w_11 ∧
          ∃ (p44_0 : Option Addr) (a44_1 : Option Addr) (n44_1 : Nat) (c44_1 : Nat) (x44_2 : Int),
          e_6 = .returned (.tuple #[.pointer p44_0, .slice a44_1 n44_1 c44_1, .int .i64 x44_2]) ∧
          br (decide (x38_2 = 0)) (
            br (decide (x44_2 = 0)) (
              br (decide (((n38_1 : Nat) : Int) = 2)) (
                withP a38_1 fun g61 o61 =>
                (0 : Int) ≤ 0 ∧ 0 < (((n38_1 : Nat) : Int) : Int) ∧
                ∃ (a62 : Option Addr) (n62 : Nat) (c62 : Nat), w_11.cell? ⟨g61, o61 + (0 : Int).toNat * 1, none⟩ = some (.slice a62 n62 c62) ∧
                ∃ bs63 : List UInt8, bs63.length = n62 ∧ RowAt w_11 a62 (bs63.map bV) ∧
                br (decide ((strOf bs63) = (⟨#[97, 98]⟩ : ByteArray))) (
                  K (.bool (decide (((n44_1 : Nat) : Int) = 0))) w_11
                ) (
                  K (.bool false) w_11
                )
              ) (
                K (.bool false) w_11
              )
            ) (
              K (.bool false) w_11
            )
          ) (
            K (.bool false) w_11
          )
        )
      )
    )
  )
def frames_notes : Notes := ⟨[], [], [], []⟩
theorem frames_calls  (w : World) (K : Value → World → Prop) (h : frames_vc  w K) : Calls Try.prog 24 #[] w fun e w' => ∃ v, e = .returned v ∧ K v w' :=
  calls_of_fvc envOk Try.func24 frames_notes [] [] w K (use_vc h (by as_aux_lemma => kernel_rfl))
/-- purser/purserlaw05.none -/
def none_vc  (w : World) (K : Value → World → Prop) : Prop :=
  K (.pointer none) w
def none_notes : Notes := ⟨[], [], [], []⟩
theorem none_calls  (w : World) (K : Value → World → Prop) (h : none_vc  w K) : Calls Try.prog 25 #[] w fun e w' => ∃ v, e = .returned v ∧ K v w' :=
  calls_of_fvc envOk Try.func25 none_notes [] [] w K (use_vc h (by as_aux_lemma => kernel_rfl))
/-- purser/purserlaw05.few -/
def few_vc (a0 : Option Addr) (n0 : Nat) (c0 : Nat) (w : World) (K : Value → World → Prop) : Prop :=
  ∃ (I : Option Addr → Nat → Nat → Int → World → Prop) (μ : Option Addr → Nat → Nat → Int → World → Nat),
  I none 0 0 0 w ∧
  ∀ (a3 : Option Addr) (n3 : Nat) (c3 : Nat) (x4 : Int) (w_2 : World), I a3 n3 c3 x4 w_2 →
  br (decide (x4 < ((n0 : Nat) : Int))) (
    br (decide (x4 < 8)) (
      withP a0 fun g18 o18 =>
      (0 : Int) ≤ x4 ∧ x4 < (((n0 : Nat) : Int) : Int) ∧
      ∃ (a19 : Option Addr) (n19 : Nat) (c19 : Nat), w_2.cell? ⟨g18, o18 + x4.toNat * 1, none⟩ = some (.slice a19 n19 c19) ∧
      Calls Try.prog 23 #[.slice a19 n19 c19, .int .i64 4, .int .i64 150] w_2 fun e w_3 => KeepG [] w_2 w_3 ∧
      ∃ (a20 : Option Addr) (n20 : Nat) (c20 : Nat),
      e = .returned (.slice a20 n20 c20) ∧
      newO w_3 (.cells #[.slice a20 n20 c20] 44) fun g w_4 =>
      appO Try.prog [] w_4 44 1 24 70 a3 n3 c3 (.slice (some ⟨g, 0, none⟩) 1 1) fun m22 a22 c22 w_5 =>
      I a22 (n3 + m22) c22 (IntKind.i64.wrap (x4 + 1)) w_5 ∧ μ a22 (n3 + m22) c22 (IntKind.i64.wrap (x4 + 1)) w_5 < μ a3 n3 c3 x4 w_2
    ) (
      K (.slice a3 n3 c3) w_2
    )
  ) (
    K (.slice a3 n3 c3) w_2
  )
def few_notes : Notes := ⟨[], [(3, ⟨[(3, .lf (.slice)), (4, .lf (.int .i64))], [], [5, 6, 7, 8, 9, 10, 11, 12, 15, 16, 17, 18, 19, 20, 21, 22, 3, 13, 14, 4], []⟩)], [], []⟩
theorem few_calls (a0 : Option Addr) (n0 : Nat) (c0 : Nat) (w : World) (K : Value → World → Prop) (h : few_vc a0 n0 c0 w K) : Calls Try.prog 41 #[.slice a0 n0 c0] w fun e w' => ∃ v, e = .returned v ∧ K v w' :=
  calls_of_fvc envOk Try.func41 few_notes [] [.slice a0 n0 c0] w K (use_vc h (by as_aux_lemma => kernel_rfl))
/-- purser/purserlaw05.fill -/
def fill_vc (p0 : Option Addr) (p1 : Option Addr) (a2 : Option Addr) (n2 : Nat) (c2 : Nat) (w : World) (K : Value → World → Prop) : Prop :=
  ∃ (I : Option Addr → Nat → Nat → Int → World → Prop) (μ : Option Addr → Nat → Nat → Int → World → Nat),
  I none 0 0 0 w ∧
  ∀ (a8 : Option Addr) (n8 : Nat) (c8 : Nat) (x9 : Int) (w_2 : World), I a8 n8 c8 x9 w_2 →
  br (decide (x9 < ((n2 : Nat) : Int))) (
    withP a2 fun g20 o20 =>
    (0 : Int) ≤ x9 ∧ x9 < (((n2 : Nat) : Int) : Int) ∧
    ∃ (a21 : Option Addr) (n21 : Nat) (c21 : Nat), w_2.cell? ⟨g20, o20 + x9.toNat * 1, none⟩ = some (.slice a21 n21 c21) ∧
    Calls Try.prog 26 #[.pointer p0, .slice a21 n21 c21] w_2 fun e w_3 => KeepG [] w_2 w_3 ∧
    ∃ (x22 : Int),
    e = .returned (.int .i64 x22) ∧
    Calls Try.prog 38 #[.pointer p1] w_3 fun e_2 w_4 => KeepG [] w_3 w_4 ∧
    ∃ (b24 : Bool),
    e_2 = .returned (.bool b24) ∧
    br b24 (
      drewO w_4 fun w_5 =>
      withP a2 fun g28 o28 =>
      (0 : Int) ≤ x9 ∧ x9 < (((n2 : Nat) : Int) : Int) ∧
      ∃ (a29 : Option Addr) (n29 : Nat) (c29 : Nat), w_5.cell? ⟨g28, o28 + x9.toNat * 1, none⟩ = some (.slice a29 n29 c29) ∧
      K (.tuple #[.slice a8 n8 c8, .slice a29 n29 c29]) w_5
    ) (
      br (decide (x22 = 0)) (
        withP a2 fun g35 o35 =>
        (0 : Int) ≤ x9 ∧ x9 < (((n2 : Nat) : Int) : Int) ∧
        ∃ (a36 : Option Addr) (n36 : Nat) (c36 : Nat), w_4.cell? ⟨g35, o35 + x9.toNat * 1, none⟩ = some (.slice a36 n36 c36) ∧
        newO w_4 (.cells #[.slice a36 n36 c36] 44) fun g w_6 =>
        appO Try.prog [] w_6 44 1 24 70 a8 n8 c8 (.slice (some ⟨g, 0, none⟩) 1 1) fun m38 a38 c38 w_7 =>
        I a38 (n8 + m38) c38 (IntKind.i64.wrap (x9 + 1)) w_7 ∧ μ a38 (n8 + m38) c38 (IntKind.i64.wrap (x9 + 1)) w_7 < μ a8 n8 c8 x9 w_2
      ) (
        I a8 n8 c8 (IntKind.i64.wrap (x9 + 1)) w_4 ∧ μ a8 n8 c8 (IntKind.i64.wrap (x9 + 1)) w_4 < μ a8 n8 c8 x9 w_2
      )
    )
  ) (
    K (.tuple #[.slice a8 n8 c8, .slice none 0 0]) w_2
  )
def fill_notes : Notes := ⟨[(7, ⟨[0, 0, 0, 6, 14, 1, 63], [], [0, 1, 2, 3, 4, 5, 6]⟩)], [(3, ⟨[(8, .lf (.slice)), (9, .lf (.int .i64))], [], [11, 12, 13, 14, 17, 18, 19, 20, 21, 22, 10, 23, 24, 25, 26, 27, 28, 29, 6, 7, 30, 31, 32, 33, 34, 35, 36, 37, 38, 8, 15, 16, 9], []⟩)], [], []⟩
theorem fill_calls (p0 : Option Addr) (p1 : Option Addr) (a2 : Option Addr) (n2 : Nat) (c2 : Nat) (w : World) (K : Value → World → Prop) (h : fill_vc p0 p1 a2 n2 c2 w K) : Calls Try.prog 45 #[.pointer p0, .pointer p1, .slice a2 n2 c2] w fun e w' => ∃ v, e = .returned v ∧ K v w' :=
  calls_of_fvc envOk Try.func45 fill_notes [] [.pointer p0, .pointer p1, .slice a2 n2 c2] w K (use_vc h (by as_aux_lemma => kernel_rfl))
/-- purser/purserlaw05.FrameOpens -/
def lopens_vc (x0 : Int) (x1_0 : Int) (x1_1 : Int) (x1_2 : Int) (a2 : Option Addr) (n2 : Nat) (c2 : Nat) (w : World) (K : Value → World → Prop) : Prop :=
  newO w (.cells #[.int .i64 x1_0, .int .i64 x1_1, .int .i64 x1_2] 47) fun g w_2 =>
  (20 : Int) ≠ 0 ∧
  Calls Try.prog 13 #[.int .i64 (IntKind.i64.wrap (1 + (IntKind.i64.wrap (Int.tmod (IntKind.u64.wrap x0) 20))))] w_2 fun e w_3 => KeepG [g] w_2 w_3 ∧
  ∃ (p25_0 : Option Addr) (x25_1 : Int),
  e = .returned (.tuple #[.pointer p25_0, .int .i64 x25_1]) ∧
  (20 : Int) ≠ 0 ∧
  drewO w_3 fun w_4 =>
  Calls Try.prog 22 #[.pointer p25_0, .int .i64 x1_0, .int .i64 x1_1, .int .i64 x1_2] w_4 fun e_2 w_5 => KeepG [g] w_4 w_5 ∧
  ∃ (p44_0 : Option Addr) (a44_1 : Option Addr) (n44_1 : Nat) (c44_1 : Nat) (x44_2 : Int),
  e_2 = .returned (.tuple #[.pointer p44_0, .slice a44_1 n44_1 c44_1, .int .i64 x44_2]) ∧
  Calls Try.prog 22 #[.pointer none, .int .i64 0, .int .i64 1, .int .i64 0] w_5 fun e_3 w_6 => KeepG [g] w_5 w_6 ∧
  ∃ (p49_0 : Option Addr) (a49_1 : Option Addr) (n49_1 : Nat) (c49_1 : Nat) (x49_2 : Int),
  e_3 = .returned (.tuple #[.pointer p49_0, .slice a49_1 n49_1 c49_1, .int .i64 x49_2]) ∧
  Calls Try.prog 23 #[.slice a2 n2 c2, .int .i64 6, .int .i64 200] w_6 fun e_4 w_7 => KeepG [g] w_6 w_7 ∧
  ∃ (a54 : Option Addr) (n54 : Nat) (c54 : Nat),
  e_4 = .returned (.slice a54 n54 c54) ∧
  Calls Try.prog 24 #[] w_7 fun e_5 w_8 => KeepG [g] w_7 w_8 ∧
  ∃ (b55 : Bool),
  e_5 = .returned (.bool b55) ∧
  br (!b55) (
    K (.bool false) w_8
  ) (
    br (decide (x25_1 ≠ 0)) (
      K (.bool false) w_8
    ) (
      br (decide (x49_2 ≠ 1)) (
        K (.bool false) w_8
      ) (
        Calls Try.prog 25 #[] w_8 fun e_6 w_9 => KeepG [g] w_8 w_9 ∧
        ∃ (p66 : Option Addr),
        e_6 = .returned (.pointer p66) ∧
        Calls Try.prog 26 #[.pointer p66, .slice none 0 0] w_9 fun e_7 w_10 => KeepG [g] w_9 w_10 ∧
        ∃ (x67 : Int),
        e_7 = .returned (.int .i64 x67) ∧
        br (decide (x67 ≠ 1)) (
          K (.bool false) w_10
        ) (
          Calls Try.prog 25 #[] w_10 fun e_8 w_11 => KeepG [g] w_10 w_11 ∧
          ∃ (p71 : Option Addr),
          e_8 = .returned (.pointer p71) ∧
          Calls Try.prog 27 #[.pointer p71] w_11 fun e_9 w_12 => KeepG [g] w_11 w_12 ∧
          ∃ (x72 : Int),
          e_9 = .returned (.int .i64 x72) ∧
          br (decide (x72 ≠ 0)) (
            K (.bool false) w_12
          ) (
            Calls Try.prog 25 #[] w_12 fun e_10 w_13 => KeepG [g] w_12 w_13 ∧
            ∃ (p76 : Option Addr),
            e_10 = .returned (.pointer p76) ∧
            Calls Try.prog 28 #[.pointer p76] w_13 fun e_11 w_14 => KeepG [g] w_13 w_14 ∧
            ∃ (x77 : Int),
            e_11 = .returned (.int .i64 x77) ∧
            br (decide (x77 ≠ 0)) (
              K (.bool false) w_14
            ) (
              Calls Try.prog 25 #[] w_14 fun e_12 w_15 => KeepG [g] w_14 w_15 ∧
              ∃ (p81 : Option Addr),
              e_12 = .returned (.pointer p81) ∧
              Calls Try.prog 29 #[.pointer p81] w_15 fun e_13 w_16 => KeepG [g] w_15 w_16 ∧
              ∃ (x82 : Int),
              e_13 = .returned (.int .i64 x82) ∧
              br (decide (x82 ≠ 0)) (
                K (.bool false) w_16
              ) (
                Calls Try.prog 30 #[.slice a54 n54 c54] w_16 fun e_14 w_17 => KeepG [g] w_16 w_17 ∧
                ∃ (x87 : Int),
                e_14 = .returned (.int .i64 x87) ∧
                Calls Try.prog 31 #[.slice a54 n54 c54] w_17 fun e_15 w_18 => KeepG [g] w_17 w_18 ∧
                ∃ (x89 : Int),
                e_15 = .returned (.int .i64 x89) ∧
                br (decide (x87 ≠ x89)) (
                  K (.bool false) w_18
                ) (
                  br (decide (x1_0 < 0)) (
                    br (decide (x44_2 = 1)) (
                      K (.bool (Option.isNone p44_0)) w_18
                    ) (
                      K (.bool false) w_18
                    )
                  ) (
                    br (decide (x1_2 < 0)) (
                      br (decide (x44_2 = 1)) (
                        K (.bool (Option.isNone p44_0)) w_18
                      ) (
                        K (.bool false) w_18
                      )
                    ) (
                      br (decide (x1_1 < 1)) (
                        br (decide (x44_2 = 1)) (
                          K (.bool (Option.isNone p44_0)) w_18
                        ) (
                          K (.bool false) w_18
                        )
                      ) (
                        br (decide (x1_1 > (IntKind.i64.wrap (1 + (IntKind.i64.wrap (Int.tmod (IntKind.u64.wrap x0) 20)))))) (
                          br (decide (x44_2 = 1)) (
                            K (.bool (Option.isNone p44_0)) w_18
                          ) (
                            K (.bool false) w_18
                          )
                        ) (
                          br (decide (x1_0 > (IntKind.i64.wrap ((IntKind.i64.wrap (1 + (IntKind.i64.wrap (Int.tmod (IntKind.u64.wrap x0) 20)))) - x1_1)))) (
                            br (decide (x44_2 = 1)) (
                              K (.bool (Option.isNone p44_0)) w_18
                            ) (
                              K (.bool false) w_18
                            )
                          ) (
                            br (decide (x44_2 = 0)) (
                              br (decide (((n44_1 : Nat) : Int) = 0)) (
                                Calls Try.prog 28 #[.pointer p44_0] w_18 fun e_16 w_19 => KeepG [g] w_18 w_19 ∧
                                ∃ (x129 : Int),
                                e_16 = .returned (.int .i64 x129) ∧
                                br (decide (x129 = x1_1)) (
                                  Calls Try.prog 29 #[.pointer p44_0] w_19 fun e_17 w_20 => KeepG [g] w_19 w_20 ∧
                                  ∃ (x135 : Int),
                                  e_17 = .returned (.int .i64 x135) ∧
                                  br (decide (x135 = x1_2)) (
                                    Calls Try.prog 27 #[.pointer p44_0] w_20 fun e_18 w_21 => KeepG [g] w_20 w_21 ∧
                                    ∃ (x141 : Int),
                                    e_18 = .returned (.int .i64 x141) ∧
                                    K (.bool (decide (x141 = 0))) w_21
                                  ) (
                                    K (.bool false) w_20
                                  )
                                ) (
                                  K (.bool false) w_19
                                )
                              ) (
                                K (.bool false) w_18
                              )
                            ) (
                              K (.bool false) w_18
                            )
                          )
                        )
                      )
                    )
                  )
                )
              )
            )
          )
        )
      )
    )
  )
def lopens_notes : Notes := ⟨[(3, ⟨[0, 1, 0, 4, 0, 16, 3, 79, 255], [], [0, 1, 2, 3, 4, 5, 6, 7, 8]⟩)], [], [], []⟩
theorem lopens_calls (x0 : Int) (x1_0 : Int) (x1_1 : Int) (x1_2 : Int) (a2 : Option Addr) (n2 : Nat) (c2 : Nat) (w : World) (K : Value → World → Prop) (h : lopens_vc x0 x1_0 x1_1 x1_2 a2 n2 c2 w K) : Calls Try.prog 5 #[.int .i64 x0, .agg #[.int .i64 x1_0, .int .i64 x1_1, .int .i64 x1_2], .slice a2 n2 c2] w fun e w' => ∃ v, e = .returned v ∧ K v w' :=
  calls_of_fvc envOk Try.func5 lopens_notes [4] [.int .i64 x0, .agg #[.int .i64 x1_0, .int .i64 x1_1, .int .i64 x1_2], .slice a2 n2 c2] w K (use_vc h (by as_aux_lemma => kernel_rfl))
/-- purser/purserlaw05.FrameLays -/
def llays_vc (x0 : Int) (x1 : Int) (a2 : Option Addr) (n2 : Nat) (c2 : Nat) (w : World) (K : Value → World → Prop) : Prop :=
  (12 : Int) ≠ 0 ∧
  (0 : Int) ≤ 1 ∧
  Calls Try.prog 40 #[.int .i64 (IntKind.i64.wrap (1 + (IntKind.i64.wrap (Int.tmod (IntKind.u64.wrap x0) 12)))), .int .i64 (IntKind.i64.wrap (Int.fdiv (IntKind.u64.wrap x1) (2 ^ (min (1 : Int).toNat (IntKind.bits .u64)))))] w fun e w_2 => KeepG [] w w_2 ∧
  ∃ (p36_0 : Option Addr) (p36_1 : Option Addr) (b36_2 : Bool),
  e = .returned (.tuple #[.pointer p36_0, .pointer p36_1, .bool b36_2]) ∧
  Calls Try.prog 24 #[] w_2 fun e_2 w_3 => KeepG [] w_2 w_3 ∧
  ∃ (b40 : Bool),
  e_2 = .returned (.bool b40) ∧
  br (!b40) (
    K (.bool false) w_3
  ) (
    br (!b36_2) (
      K (.bool false) w_3
    ) (
      Calls Try.prog 41 #[.slice a2 n2 c2] w_3 fun e_3 w_4 => KeepG [] w_3 w_4 ∧
      ∃ (a47 : Option Addr) (n47 : Nat) (c47 : Nat),
      e_3 = .returned (.slice a47 n47 c47) ∧
      ∃ (I : Option Addr → Nat → Nat → Int → Int → Int → World → Prop) (μ : Option Addr → Nat → Nat → Int → Int → Int → World → Nat),
      I none 0 0 0 0 0 w_4 ∧
      ∀ (a11 : Option Addr) (n11 : Nat) (c11 : Nat) (x12 : Int) (x13 : Int) (x14 : Int) (w_5 : World), I a11 n11 c11 x12 x13 x14 w_5 →
      br (decide (x14 < ((n47 : Nat) : Int))) (
        withP a47 fun g56 o56 =>
        (0 : Int) ≤ x14 ∧ x14 < (((n47 : Nat) : Int) : Int) ∧
        ∃ (a57 : Option Addr) (n57 : Nat) (c57 : Nat), w_5.cell? ⟨g56, o56 + x14.toNat * 1, none⟩ = some (.slice a57 n57 c57) ∧
        Calls Try.prog 42 #[.slice a57 n57 c57] w_5 fun e_4 w_6 => KeepG [] w_5 w_6 ∧
        ∃ (s58 : ByteArray),
        e_4 = .returned (.string s58) ∧
        withP a47 fun g62 o62 =>
        (0 : Int) ≤ x14 ∧ x14 < (((n47 : Nat) : Int) : Int) ∧
        ∃ (a63 : Option Addr) (n63 : Nat) (c63 : Nat), w_6.cell? ⟨g62, o62 + x14.toNat * 1, none⟩ = some (.slice a63 n63 c63) ∧
        Calls Try.prog 26 #[.pointer p36_0, .slice a63 n63 c63] w_6 fun e_5 w_7 => KeepG [] w_6 w_7 ∧
        ∃ (x64 : Int),
        e_5 = .returned (.int .i64 x64) ∧
        withP a47 fun g67 o67 =>
        (0 : Int) ≤ x14 ∧ x14 < (((n47 : Nat) : Int) : Int) ∧
        ∃ (a68 : Option Addr) (n68 : Nat) (c68 : Nat), w_7.cell? ⟨g67, o67 + x14.toNat * 1, none⟩ = some (.slice a68 n68 c68) ∧
        Calls Try.prog 42 #[.slice a68 n68 c68] w_7 fun e_6 w_8 => KeepG [] w_7 w_8 ∧
        ∃ (s69 : ByteArray),
        e_6 = .returned (.string s69) ∧
        br (decide (s69 ≠ s58)) (
          K (.bool false) w_8
        ) (
          withP a47 fun g74 o74 =>
          (0 : Int) ≤ x14 ∧ x14 < (((n47 : Nat) : Int) : Int) ∧
          ∃ (a75 : Option Addr) (n75 : Nat) (c75 : Nat), w_8.cell? ⟨g74, o74 + x14.toNat * 1, none⟩ = some (.slice a75 n75 c75) ∧
          br (decide (((n75 : Nat) : Int) = 0)) (
            br (decide (x64 ≠ 0)) (
              K (.bool false) w_8
            ) (
              I a11 n11 c11 x12 x13 (IntKind.i64.wrap (x14 + 1)) w_8 ∧ μ a11 n11 c11 x12 x13 (IntKind.i64.wrap (x14 + 1)) w_8 < μ a11 n11 c11 x12 x13 x14 w_5
            )
          ) (
            withP a47 fun g84 o84 =>
            (0 : Int) ≤ x14 ∧ x14 < (((n47 : Nat) : Int) : Int) ∧
            ∃ (a85 : Option Addr) (n85 : Nat) (c85 : Nat), w_8.cell? ⟨g84, o84 + x14.toNat * 1, none⟩ = some (.slice a85 n85 c85) ∧
            Calls Try.prog 43 #[.int .i64 (IntKind.i64.wrap (Int.fdiv (IntKind.u64.wrap x1) (2 ^ (min (1 : Int).toNat (IntKind.bits .u64))))), .int .i64 x13, .slice a85 n85 c85] w_8 fun e_7 w_10 => KeepG [] w_8 w_10 ∧
            ∃ (a86 : Option Addr) (n86 : Nat) (c86 : Nat),
            e_7 = .returned (.slice a86 n86 c86) ∧
            br (decide ((IntKind.i64.wrap (x12 + ((n86 : Nat) : Int))) > (IntKind.i64.wrap (1 + (IntKind.i64.wrap (Int.tmod (IntKind.u64.wrap x0) 12)))))) (
              br (decide (x64 ≠ 11)) (
                K (.bool false) w_10
              ) (
                I a11 n11 c11 x12 x13 (IntKind.i64.wrap (x14 + 1)) w_10 ∧ μ a11 n11 c11 x12 x13 (IntKind.i64.wrap (x14 + 1)) w_10 < μ a11 n11 c11 x12 x13 x14 w_5
              )
            ) (
              ∃ (I_2 : Int → World → Prop) (μ_2 : Int → World → Nat),
              I_2 0 w_10 ∧
              ∀ (x18 : Int) (w_11 : World), I_2 x18 w_11 →
              br (decide (x18 < ((n86 : Nat) : Int))) (
                Calls Try.prog 18 #[.pointer p36_1, .int .i64 (IntKind.i64.wrap ((IntKind.i64.wrap (3 + x12)) + x18)), .int .i64 1] w_11 fun e_8 w_12 => KeepG [] w_11 w_12 ∧
                ∃ (a107_0 : Option Addr) (n107_0 : Nat) (c107_0 : Nat) (x107_1 : Int),
                e_8 = .returned (.tuple #[.slice a107_0 n107_0 c107_0, .int .i64 x107_1]) ∧
                drewO w_12 fun w_13 =>
                br (decide (x64 ≠ 0)) (
                  K (.bool false) w_13
                ) (
                  br (decide (x107_1 ≠ 0)) (
                    K (.bool false) w_13
                  ) (
                    ∃ bs118 : List UInt8, bs118.length = n107_0 ∧ RowAt w_13 a107_0 (bs118.map bV) ∧
                    withP a86 fun g121 o121 =>
                    (0 : Int) ≤ x18 ∧ x18 < (((n86 : Nat) : Int) : Int) ∧
                    ∃ (s122 : ByteArray), w_13.cell? ⟨g121, o121 + x18.toNat * 1, none⟩ = some (.string s122) ∧
                    br (decide ((strOf bs118) ≠ s122)) (
                      K (.bool false) w_13
                    ) (
                      I_2 (IntKind.i64.wrap (x18 + 1)) w_13 ∧ μ_2 (IntKind.i64.wrap (x18 + 1)) w_13 < μ_2 x18 w_11
                    )
                  )
                )
              ) (
                withP a47 fun g134 o134 =>
                (0 : Int) ≤ x14 ∧ x14 < (((n47 : Nat) : Int) : Int) ∧
                ∃ (a135 : Option Addr) (n135 : Nat) (c135 : Nat), w_11.cell? ⟨g134, o134 + x14.toNat * 1, none⟩ = some (.slice a135 n135 c135) ∧
                appO Try.prog [] w_11 22 1 24 44 a11 n11 c11 (.slice a135 n135 c135) fun m136 a136 c136 w_15 =>
                I a136 (n11 + m136) c136 (IntKind.i64.wrap (x12 + ((n86 : Nat) : Int))) (IntKind.i64.wrap (x13 + 1)) (IntKind.i64.wrap (x14 + 1)) w_15 ∧ μ a136 (n11 + m136) c136 (IntKind.i64.wrap (x12 + ((n86 : Nat) : Int))) (IntKind.i64.wrap (x13 + 1)) (IntKind.i64.wrap (x14 + 1)) w_15 < μ a11 n11 c11 x12 x13 x14 w_5
              )
            )
          )
        )
      ) (
        Calls Try.prog 22 #[.pointer p36_1, .int .i64 3, .int .i64 (IntKind.i64.wrap (1 + (IntKind.i64.wrap (Int.tmod (IntKind.u64.wrap x0) 12)))), .int .i64 (IntKind.i64.wrap (Int.fdiv (IntKind.u64.wrap x1) (2 ^ (min (1 : Int).toNat (IntKind.bits .u64)))))] w_5 fun e_9 w_16 => KeepG [] w_5 w_16 ∧
        ∃ (p141_0 : Option Addr) (a141_1 : Option Addr) (n141_1 : Nat) (c141_1 : Nat) (x141_2 : Int),
        e_9 = .returned (.tuple #[.pointer p141_0, .slice a141_1 n141_1 c141_1, .int .i64 x141_2]) ∧
        br (decide (x141_2 = 0)) (
          Calls Try.prog 44 #[.slice a141_1 n141_1 c141_1, .slice a11 n11 c11] w_16 fun e_10 w_17 => KeepG [] w_16 w_17 ∧
          ∃ (b150 : Bool),
          e_10 = .returned (.bool b150) ∧
          br b150 (
            Calls Try.prog 28 #[.pointer p141_0] w_17 fun e_11 w_18 => KeepG [] w_17 w_18 ∧
            ∃ (x154 : Int),
            e_11 = .returned (.int .i64 x154) ∧
            br (decide (x154 = (IntKind.i64.wrap ((IntKind.i64.wrap (1 + (IntKind.i64.wrap (Int.tmod (IntKind.u64.wrap x0) 12)))) - x12)))) (
              Calls Try.prog 28 #[.pointer p36_0] w_18 fun e_12 w_19 => KeepG [] w_18 w_19 ∧
              ∃ (x162 : Int),
              e_12 = .returned (.int .i64 x162) ∧
              br (decide (x162 = (IntKind.i64.wrap ((IntKind.i64.wrap (1 + (IntKind.i64.wrap (Int.tmod (IntKind.u64.wrap x0) 12)))) - x12)))) (
                Calls Try.prog 27 #[.pointer p141_0] w_19 fun e_13 w_20 => KeepG [] w_19 w_20 ∧
                ∃ (x170 : Int),
                e_13 = .returned (.int .i64 x170) ∧
                br (decide (x170 = x13)) (
                  Calls Try.prog 36 #[.pointer p36_1] w_20 fun e_14 w_21 => KeepG [] w_20 w_21 ∧
                  ∃ (a176 : Option Addr) (n176 : Nat) (c176 : Nat),
                  e_14 = .returned (.slice a176 n176 c176) ∧
                  K (.bool (decide (((n176 : Nat) : Int) = 0))) w_21
                ) (
                  K (.bool false) w_20
                )
              ) (
                K (.bool false) w_19
              )
            ) (
              K (.bool false) w_18
            )
          ) (
            K (.bool false) w_17
          )
        ) (
          K (.bool false) w_16
        )
      )
    )
  )
def llays_notes : Notes := ⟨[(26, ⟨[0, 1, 3, 7, 15, 31, 63, 127, 255, 127, 127, 1663, 3711, 8191, 16383], [], [0, 1, 2, 3, 4, 5, 6, 7, 8, 9, 10, 11, 12, 13, 14]⟩)], [(9, ⟨[(11, .lf (.slice)), (12, .lf (.int .i64)), (13, .lf (.int .i64)), (14, .lf (.int .i64))], [], [48, 49, 50, 51, 54, 55, 56, 57, 58, 15, 59, 60, 61, 62, 63, 64, 16, 65, 66, 67, 68, 69, 70, 71, 6, 72, 73, 74, 75, 76, 77, 78, 79, 80, 81, 82, 83, 84, 85, 86, 17, 87, 88, 89, 90, 91, 92, 93, 94, 18, 95, 96, 97, 98, 102, 103, 104, 105, 106, 107, 101, 108, 109, 19, 20, 110, 111, 112, 113, 114, 115, 116, 117, 118, 119, 120, 121, 122, 123, 124, 99, 100, 125, 126, 127, 128, 129, 130, 12, 13, 131, 132, 133, 134, 135, 136, 11, 52, 53, 14], []⟩), (23, ⟨[(18, .lf (.int .i64))], [], [95, 96, 97, 98, 102, 103, 104, 105, 106, 107, 101, 108, 109, 19, 20, 110, 111, 112, 113, 114, 115, 116, 117, 118, 119, 120, 121, 122, 123, 124, 6, 99, 100, 18], []⟩)], [], []⟩
theorem llays_calls (x0 : Int) (x1 : Int) (a2 : Option Addr) (n2 : Nat) (c2 : Nat) (w : World) (K : Value → World → Prop) (h : llays_vc x0 x1 a2 n2 c2 w K) : Calls Try.prog 8 #[.int .i64 x0, .int .i64 x1, .slice a2 n2 c2] w fun e w' => ∃ v, e = .returned v ∧ K v w' :=
  calls_of_fvc envOk Try.func8 llays_notes [] [.int .i64 x0, .int .i64 x1, .slice a2 n2 c2] w K (use_vc h (by as_aux_lemma => kernel_rfl))
/-- purser/purserlaw05.FrameFalls -/
def lfalls_vc (a0 : Option Addr) (n0 : Nat) (c0 : Nat) (w : World) (K : Value → World → Prop) : Prop :=
  Calls Try.prog 40 #[.int .i64 24, .int .i64 3] w fun e w_2 => KeepG [] w w_2 ∧
  ∃ (p15_0 : Option Addr) (p15_1 : Option Addr) (b15_2 : Bool),
  e = .returned (.tuple #[.pointer p15_0, .pointer p15_1, .bool b15_2]) ∧
  Calls Try.prog 24 #[] w_2 fun e_2 w_3 => KeepG [] w_2 w_3 ∧
  ∃ (b19 : Bool),
  e_2 = .returned (.bool b19) ∧
  br (!b19) (
    K (.bool false) w_3
  ) (
    br (!b15_2) (
      K (.bool false) w_3
    ) (
      ∃ (I : Option Addr → Option Addr → Nat → Nat → Int → World → Prop) (μ : Option Addr → Option Addr → Nat → Nat → Int → World → Nat),
      I p15_0 none 0 0 0 w_3 ∧
      ∀ (p3 : Option Addr) (a6 : Option Addr) (n6 : Nat) (c6 : Nat) (x7 : Int) (w_4 : World), I p3 a6 n6 c6 x7 w_4 →
      br (decide (x7 < ((n0 : Nat) : Int))) (
        br (decide (x7 < 3)) (
          withP a0 fun g37 o37 =>
          (0 : Int) ≤ x7 ∧ x7 < (((n0 : Nat) : Int) : Int) ∧
          ∃ (a38_0 : Option Addr) (n38_0 : Nat) (c38_0 : Nat) (x38_1 : Int) (a38_2 : Option Addr) (n38_2 : Nat) (c38_2 : Nat),
          cellsAt w_4 g37 (o37 + x7.toNat * 3) [.slice a38_0 n38_0 c38_0, .int .i64 x38_1, .slice a38_2 n38_2 c38_2] ∧
          newO w_4 (.cells #[.slice none 0 0, .int .i64 0, .slice none 0 0] 86) fun g w_5 =>
          ∀ w_6 : World, BoxSt g w_5 w_6 →
          (12 : Int) ≠ 0 ∧
          Calls Try.prog 37 #[.pointer p15_1, .int .i64 (IntKind.i64.wrap (Int.tmod (IntKind.u64.wrap x38_1) 12))] w_6 fun e_3 w_7 => KeepG [g] w_6 w_7 ∧
          e_3 = .returned (.tuple #[]) ∧
          Calls Try.prog 41 #[.slice a38_0 n38_0 c38_0] w_7 fun e_4 w_8 => KeepG [g] w_7 w_8 ∧
          ∃ (a51 : Option Addr) (n51 : Nat) (c51 : Nat),
          e_4 = .returned (.slice a51 n51 c51) ∧
          Calls Try.prog 45 #[.pointer p3, .pointer p15_1, .slice a51 n51 c51] w_8 fun e_5 w_9 => KeepG [g] w_8 w_9 ∧
          ∃ (a52_0 : Option Addr) (n52_0 : Nat) (c52_0 : Nat) (a52_1 : Option Addr) (n52_1 : Nat) (c52_1 : Nat),
          e_5 = .returned (.tuple #[.slice a52_0 n52_0 c52_0, .slice a52_1 n52_1 c52_1]) ∧
          Calls Try.prog 46 #[.slice a52_0 n52_0 c52_0] w_9 fun e_6 w_10 => KeepG [g] w_9 w_10 ∧
          ∃ (a57 : Option Addr) (n57 : Nat) (c57 : Nat),
          e_6 = .returned (.slice a57 n57 c57) ∧
          appO Try.prog [g] w_10 22 1 24 44 a6 n6 c6 (.slice a57 n57 c57) fun m58 a58 c58 w_11 =>
          Calls Try.prog 39 #[.pointer p15_1, .slice a38_2 n38_2 c38_2] w_11 fun e_7 w_12 => KeepG [g] w_11 w_12 ∧
          e_7 = .returned (.tuple #[]) ∧
          Calls Try.prog 22 #[.pointer p15_1, .int .i64 3, .int .i64 24, .int .i64 3] w_12 fun e_8 w_13 => KeepG [g] w_12 w_13 ∧
          ∃ (p65_0 : Option Addr) (a65_1 : Option Addr) (n65_1 : Nat) (c65_1 : Nat) (x65_2 : Int),
          e_8 = .returned (.tuple #[.pointer p65_0, .slice a65_1 n65_1 c65_1, .int .i64 x65_2]) ∧
          br (decide (x65_2 ≠ 0)) (
            K (.bool false) w_13
          ) (
            Calls Try.prog 44 #[.slice a65_1 n65_1 c65_1, .slice a58 (n6 + m58) c58] w_13 fun e_9 w_14 => KeepG [g] w_13 w_14 ∧
            ∃ (b73 : Bool),
            e_9 = .returned (.bool b73) ∧
            br (!b73) (
              appO Try.prog [g] w_14 22 1 24 44 a58 (n6 + m58) c58 (.slice a52_1 n52_1 c52_1) fun m77 a77 c77 w_15 =>
              br (decide (((n52_1 : Nat) : Int) = 0)) (
                K (.bool false) w_15
              ) (
                Calls Try.prog 44 #[.slice a65_1 n65_1 c65_1, .slice a77 ((n6 + m58) + m77) c77] w_15 fun e_10 w_16 => KeepG [g] w_15 w_16 ∧
                ∃ (b84 : Bool),
                e_10 = .returned (.bool b84) ∧
                br (!b84) (
                  K (.bool false) w_16
                ) (
                  I p65_0 a77 ((n6 + m58) + m77) c77 (IntKind.i64.wrap (x7 + 1)) w_16 ∧ μ p65_0 a77 ((n6 + m58) + m77) c77 (IntKind.i64.wrap (x7 + 1)) w_16 < μ p3 a6 n6 c6 x7 w_4
                )
              )
            ) (
              I p65_0 a58 (n6 + m58) c58 (IntKind.i64.wrap (x7 + 1)) w_14 ∧ μ p65_0 a58 (n6 + m58) c58 (IntKind.i64.wrap (x7 + 1)) w_14 < μ p3 a6 n6 c6 x7 w_4
            )
          )
        ) (
          K (.bool true) w_4
        )
      ) (
        K (.bool true) w_4
      )
    )
  )
def lfalls_notes : Notes := ⟨[], [(6, ⟨[(3, .lf (.ptr)), (6, .lf (.slice)), (7, .lf (.int .i64))], [], [25, 26, 27, 28, 29, 30, 31, 32, 35, 36, 37, 38, 8, 39, 40, 41, 42, 43, 44, 45, 47, 48, 49, 50, 51, 52, 46, 53, 54, 9, 10, 55, 56, 57, 58, 6, 59, 60, 61, 62, 64, 65, 63, 66, 67, 68, 11, 12, 13, 69, 70, 2, 71, 72, 73, 74, 75, 76, 77, 78, 79, 80, 81, 82, 83, 84, 85, 86, 87, 3, 33, 34, 7], [8]⟩)], [], []⟩
theorem lfalls_calls (a0 : Option Addr) (n0 : Nat) (c0 : Nat) (w : World) (K : Value → World → Prop) (h : lfalls_vc a0 n0 c0 w K) : Calls Try.prog 10 #[.slice a0 n0 c0] w fun e w' => ∃ v, e = .returned v ∧ K v w' :=
  calls_of_fvc envOk Try.func10 lfalls_notes [8] [.slice a0 n0 c0] w K (use_vc h (by as_aux_lemma => kernel_rfl))
/-- purser/purserlaw05.FrameGens -/
def lgens_vc (a0 : Option Addr) (n0 : Nat) (c0 : Nat) (a1 : Option Addr) (n1 : Nat) (c1 : Nat) (a2 : Option Addr) (n2 : Nat) (c2 : Nat) (w : World) (K : Value → World → Prop) : Prop :=
  Calls Try.prog 40 #[.int .i64 20, .int .i64 1] w fun e w_2 => KeepG [] w w_2 ∧
  ∃ (p19_0 : Option Addr) (p19_1 : Option Addr) (b19_2 : Bool),
  e = .returned (.tuple #[.pointer p19_0, .pointer p19_1, .bool b19_2]) ∧
  Calls Try.prog 24 #[] w_2 fun e_2 w_3 => KeepG [] w_2 w_3 ∧
  ∃ (b23 : Bool),
  e_2 = .returned (.bool b23) ∧
  br (!b23) (
    K (.bool false) w_3
  ) (
    br (!b19_2) (
      K (.bool false) w_3
    ) (
      Calls Try.prog 41 #[.slice a0 n0 c0] w_3 fun e_3 w_4 => KeepG [] w_3 w_4 ∧
      ∃ (a32 : Option Addr) (n32 : Nat) (c32 : Nat),
      e_3 = .returned (.slice a32 n32 c32) ∧
      Calls Try.prog 45 #[.pointer p19_0, .pointer p19_1, .slice a32 n32 c32] w_4 fun e_4 w_5 => KeepG [] w_4 w_5 ∧
      ∃ (a33_0 : Option Addr) (n33_0 : Nat) (c33_0 : Nat) (a33_1 : Option Addr) (n33_1 : Nat) (c33_1 : Nat),
      e_4 = .returned (.tuple #[.slice a33_0 n33_0 c33_0, .slice a33_1 n33_1 c33_1]) ∧
      Calls Try.prog 22 #[.pointer p19_1, .int .i64 3, .int .i64 20, .int .i64 2] w_5 fun e_5 w_6 => KeepG [] w_5 w_6 ∧
      ∃ (p36_0 : Option Addr) (a36_1 : Option Addr) (n36_1 : Nat) (c36_1 : Nat) (x36_2 : Int),
      e_5 = .returned (.tuple #[.pointer p36_0, .slice a36_1 n36_1 c36_1, .int .i64 x36_2]) ∧
      br (decide (x36_2 ≠ 0)) (
        K (.bool false) w_6
      ) (
        br (decide (((n36_1 : Nat) : Int) ≠ 0)) (
          K (.bool false) w_6
        ) (
          Calls Try.prog 28 #[.pointer p36_0] w_6 fun e_6 w_7 => KeepG [] w_6 w_7 ∧
          ∃ (x49 : Int),
          e_6 = .returned (.int .i64 x49) ∧
          br (decide (x49 ≠ 20)) (
            K (.bool false) w_7
          ) (
            Calls Try.prog 41 #[.slice a1 n1 c1] w_7 fun e_7 w_8 => KeepG [] w_7 w_8 ∧
            ∃ (a56 : Option Addr) (n56 : Nat) (c56 : Nat),
            e_7 = .returned (.slice a56 n56 c56) ∧
            Calls Try.prog 45 #[.pointer p36_0, .pointer p19_1, .slice a56 n56 c56] w_8 fun e_8 w_9 => KeepG [] w_8 w_9 ∧
            ∃ (a57_0 : Option Addr) (n57_0 : Nat) (c57_0 : Nat) (a57_1 : Option Addr) (n57_1 : Nat) (c57_1 : Nat),
            e_8 = .returned (.tuple #[.slice a57_0 n57_0 c57_0, .slice a57_1 n57_1 c57_1]) ∧
            Calls Try.prog 39 #[.pointer p19_1, .slice a2 n2 c2] w_9 fun e_9 w_10 => KeepG [] w_9 w_10 ∧
            e_9 = .returned (.tuple #[]) ∧
            Calls Try.prog 22 #[.pointer p19_1, .int .i64 3, .int .i64 20, .int .i64 2] w_10 fun e_10 w_11 => KeepG [] w_10 w_11 ∧
            ∃ (p65_0 : Option Addr) (a65_1 : Option Addr) (n65_1 : Nat) (c65_1 : Nat) (x65_2 : Int),
            e_10 = .returned (.tuple #[.pointer p65_0, .slice a65_1 n65_1 c65_1, .int .i64 x65_2]) ∧
            Calls Try.prog 22 #[.pointer p19_1, .int .i64 3, .int .i64 20, .int .i64 3] w_11 fun e_11 w_12 => KeepG [] w_11 w_12 ∧
            ∃ (p71_0 : Option Addr) (a71_1 : Option Addr) (n71_1 : Nat) (c71_1 : Nat) (x71_2 : Int),
            e_11 = .returned (.tuple #[.pointer p71_0, .slice a71_1 n71_1 c71_1, .int .i64 x71_2]) ∧
            br (decide (x65_2 = 0)) (
              br (decide (x71_2 = 0)) (
                Calls Try.prog 46 #[.slice a57_0 n57_0 c57_0] w_12 fun e_12 w_13 => KeepG [] w_12 w_13 ∧
                ∃ (a84 : Option Addr) (n84 : Nat) (c84 : Nat),
                e_12 = .returned (.slice a84 n84 c84) ∧
                Calls Try.prog 44 #[.slice a65_1 n65_1 c65_1, .slice a84 n84 c84] w_13 fun e_13 w_14 => KeepG [] w_13 w_14 ∧
                ∃ (b85 : Bool),
                e_13 = .returned (.bool b85) ∧
                br b85 (
                  K (.bool (decide (((n71_1 : Nat) : Int) = 0))) w_14
                ) (
                  K (.bool false) w_14
                )
              ) (
                K (.bool false) w_12
              )
            ) (
              K (.bool false) w_12
            )
          )
        )
      )
    )
  )
def lgens_notes : Notes := ⟨[], [], [], []⟩
theorem lgens_calls (a0 : Option Addr) (n0 : Nat) (c0 : Nat) (a1 : Option Addr) (n1 : Nat) (c1 : Nat) (a2 : Option Addr) (n2 : Nat) (c2 : Nat) (w : World) (K : Value → World → Prop) (h : lgens_vc a0 n0 c0 a1 n1 c1 a2 n2 c2 w K) : Calls Try.prog 9 #[.slice a0 n0 c0, .slice a1 n1 c1, .slice a2 n2 c2] w fun e w' => ∃ v, e = .returned v ∧ K v w' :=
  calls_of_fvc envOk Try.func9 lgens_notes [] [.slice a0 n0 c0, .slice a1 n1 c1, .slice a2 n2 c2] w K (use_vc h (by as_aux_lemma => kernel_rfl))
/-- purser/purserlaw05.FrameForged -/
def lforged_k1 (K : Value → World → Prop) (p20_1 : Option Addr) (p71_0 : Option Addr) (n71_1 : Nat) (w_21 : World) : Prop :=
  newO w_21 (.cells #[.int .u8 121] 5) fun g_7 w_22 =>
  frzO [] w_22 g_7 fun w_23 =>
  newO w_23 (.cells #[.slice (some ⟨g_7, 0, none⟩) 1 1] 22) fun g_8 w_24 =>
  Calls Try.prog 26 #[.pointer p71_0, .slice (some ⟨g_8, 0, none⟩) 1 1] w_24 fun e_9 w_25 => KeepG [] w_24 w_25 ∧
  ∃ (x112 : Int),
  e_9 = .returned (.int .i64 x112) ∧
  br (decide (x112 ≠ 0)) (
    K (.bool false) w_25
  ) (
    Calls Try.prog 22 #[.pointer p20_1, .int .i64 3, .int .i64 24, .int .i64 5] w_25 fun e_10 w_26 => KeepG [] w_25 w_26 ∧
    ∃ (p116_0 : Option Addr) (a116_1 : Option Addr) (n116_1 : Nat) (c116_1 : Nat) (x116_2 : Int),
    e_10 = .returned (.tuple #[.pointer p116_0, .slice a116_1 n116_1 c116_1, .int .i64 x116_2]) ∧
    br (decide (x116_2 = 0)) (
      br (decide (((n116_1 : Nat) : Int) = (IntKind.i64.wrap (((n71_1 : Nat) : Int) + 1)))) (
        withP a116_1 fun g132 o132 =>
        (0 : Int) ≤ ((n71_1 : Nat) : Int) ∧ ((n71_1 : Nat) : Int) < (((n116_1 : Nat) : Int) : Int) ∧
        ∃ (a133 : Option Addr) (n133 : Nat) (c133 : Nat), w_26.cell? ⟨g132, o132 + ((n71_1 : Nat) : Int).toNat * 1, none⟩ = some (.slice a133 n133 c133) ∧
        ∃ bs134 : List UInt8, bs134.length = n133 ∧ RowAt w_26 a133 (bs134.map bV) ∧
        K (.bool (decide ((strOf bs134) = (⟨#[121]⟩ : ByteArray)))) w_26
      ) (
        K (.bool false) w_26
      )
    ) (
      K (.bool false) w_26
    )
  )
def lforged_vc (a0 : Option Addr) (n0 : Nat) (c0 : Nat) (x1 : Int) (x2 : Int) (w : World) (K : Value → World → Prop) : Prop :=
  Calls Try.prog 40 #[.int .i64 24, .int .i64 5] w fun e w_2 => KeepG [] w w_2 ∧
  ∃ (p20_0 : Option Addr) (p20_1 : Option Addr) (b20_2 : Bool),
  e = .returned (.tuple #[.pointer p20_0, .pointer p20_1, .bool b20_2]) ∧
  Calls Try.prog 24 #[] w_2 fun e_2 w_3 => KeepG [] w_2 w_3 ∧
  ∃ (b24 : Bool),
  e_2 = .returned (.bool b24) ∧
  br (!b24) (
    K (.bool false) w_3
  ) (
    br (!b20_2) (
      K (.bool false) w_3
    ) (
      (3 : Int) ≠ 0 ∧
      Calls Try.prog 23 #[.slice a0 n0 c0, .int .i64 2, .int .i64 30] w_3 fun e_3 w_4 => KeepG [] w_3 w_4 ∧
      ∃ (a35 : Option Addr) (n35 : Nat) (c35 : Nat),
      e_3 = .returned (.slice a35 n35 c35) ∧
      Calls Try.prog 43 #[.int .i64 5, .int .i64 (IntKind.i64.wrap (Int.tmod (IntKind.u64.wrap x1) 3)), .slice a35 n35 c35] w_4 fun e_4 w_5 => KeepG [] w_4 w_5 ∧
      ∃ (a36 : Option Addr) (n36 : Nat) (c36 : Nat),
      e_4 = .returned (.slice a36 n36 c36) ∧
      withP a36 fun g37 o37 =>
      (0 : Int) ≤ 0 ∧ 0 < (((n36 : Nat) : Int) : Int) ∧
      ∃ (s38 : ByteArray), w_5.cell? ⟨g37, o37 + (0 : Int).toNat * 1, none⟩ = some (.string s38) ∧
      (0 : Int) ≤ (38 : Int) ∧ (38 : Int) ≤ (38 : Int) ∧ ((1 : Nat) : Int) * (38 : Int) ≤ 281474976710656 ∧ (38 : Int) ≤ 9223372036854775807 ∧
      newO w_5 (.cells (madeCells (Value.cells (.int .u8 0)) ((38 : Int).toNat * 1)) 5) fun g w_6 =>
      ∃ (I : Option Addr → Nat → Nat → Int → World → Prop) (μ : Option Addr → Nat → Nat → Int → World → Nat),
      I (some ⟨g, 0, none⟩) ((38 : Int).toNat) ((38 : Int).toNat) 0 w_6 ∧
      ∀ (a11 : Option Addr) (n11 : Nat) (c11 : Nat) (x12 : Int) (w_7 : World), I a11 n11 c11 x12 w_7 →
      br (decide (x12 < 4)) (
        (0 : Int) ≤ (63 : Int) ∧ (63 : Int) ≤ (((s38.size : Nat) : Int) : Int) ∧
        appO Try.prog [] w_7 5 1 1 9 a11 n11 c11 (.string (s38.extract 0 ((63 : Int).toNat))) fun m47 a47 c47 w_8 =>
        I a47 (n11 + m47) c47 (IntKind.i64.wrap (x12 + 1)) w_8 ∧ μ a47 (n11 + m47) c47 (IntKind.i64.wrap (x12 + 1)) w_8 < μ a11 n11 c11 x12 w_7
      ) (
        (8 : Int) ≠ 0 ∧
        Calls Try.prog 37 #[.pointer p20_1, .int .i64 (IntKind.i64.wrap (Int.tmod (IntKind.u64.wrap x2) 8))] w_7 fun e_5 w_9 => KeepG [] w_7 w_9 ∧
        e_5 = .returned (.tuple #[]) ∧
        newO w_9 (.cells #[.slice a11 n11 c11] 22) fun g_2 w_10 =>
        newO w_10 (.cells #[.int .u8 120] 5) fun g_3 w_11 =>
        frzO [] w_11 g_3 fun w_12 =>
        newO w_12 (.cells #[.slice (some ⟨g_3, 0, none⟩) 1 1] 22) fun g_4 w_13 =>
        newO w_13 (.cells #[.slice (some ⟨g_2, 0, none⟩) 1 1, .slice (some ⟨g_4, 0, none⟩) 1 1] 44) fun g_5 w_14 =>
        Calls Try.prog 45 #[.pointer p20_0, .pointer p20_1, .slice (some ⟨g_5, 0, none⟩) 2 2] w_14 fun e_6 w_15 => KeepG [] w_14 w_15 ∧
        ∃ (a63_0 : Option Addr) (n63_0 : Nat) (c63_0 : Nat) (a63_1 : Option Addr) (n63_1 : Nat) (c63_1 : Nat),
        e_6 = .returned (.tuple #[.slice a63_0 n63_0 c63_0, .slice a63_1 n63_1 c63_1]) ∧
        newO w_15 (.cells #[.bool true, .bool true, .bool true, .bool false, .bool true, .bool true] 4) fun g_6 w_16 =>
        Calls Try.prog 39 #[.pointer p20_1, .slice (some ⟨g_6, 0, none⟩) 6 6] w_16 fun e_7 w_17 => KeepG [] w_16 w_17 ∧
        e_7 = .returned (.tuple #[]) ∧
        Calls Try.prog 22 #[.pointer p20_1, .int .i64 3, .int .i64 24, .int .i64 5] w_17 fun e_8 w_18 => KeepG [] w_17 w_18 ∧
        ∃ (p71_0 : Option Addr) (a71_1 : Option Addr) (n71_1 : Nat) (c71_1 : Nat) (x71_2 : Int),
        e_8 = .returned (.tuple #[.pointer p71_0, .slice a71_1 n71_1 c71_1, .int .i64 x71_2]) ∧
        drewO w_18 fun w_19 =>
        br (decide (x71_2 ≠ 0)) (
          K (.bool false) w_19
        ) (
          br (decide (((n71_1 : Nat) : Int) < ((n63_0 : Nat) : Int))) (
            K (.bool false) w_19
          ) (
            br (decide (((n71_1 : Nat) : Int) > (IntKind.i64.wrap (((n63_0 : Nat) : Int) + 1)))) (
              K (.bool false) w_19
            ) (
              br (decide (((n71_1 : Nat) : Int) > 0)) (
                withP a71_1 fun g98 o98 =>
                (0 : Int) ≤ 0 ∧ 0 < (((n71_1 : Nat) : Int) : Int) ∧
                ∃ (a99 : Option Addr) (n99 : Nat) (c99 : Nat), w_19.cell? ⟨g98, o98 + (0 : Int).toNat * 1, none⟩ = some (.slice a99 n99 c99) ∧
                ∃ bs100 : List UInt8, bs100.length = n99 ∧ RowAt w_19 a99 (bs100.map bV) ∧
                ∃ bs102 : List UInt8, bs102.length = n11 ∧ RowAt w_19 a11 (bs102.map bV) ∧
                br (decide ((strOf bs100) ≠ (strOf bs102))) (
                  K (.bool false) w_19
                ) (
                  lforged_k1 K p20_1 p71_0 n71_1 w_19
                )
              ) (
                lforged_k1 K p20_1 p71_0 n71_1 w_19
              )
            )
          )
        )
      )
    )
  )
def lforged_notes : Notes := ⟨[(14, ⟨[0, 1, 3, 7, 15, 7, 39, 127, 255, 511, 1023, 2047, 1023, 5119, 13311, 32767, 65535, 131071, 262143, 524287, 1048575, 2097151, 4194303, 8388607, 16777215, 33554431, 4194303, 71303167, 268435455, 536870911, 1073741823], [], [0, 1, 2, 3, 4, 5, 6, 7, 8, 9, 10, 11, 12, 13, 14, 15, 16, 17, 18, 19, 20, 21, 22, 23, 24, 25, 26, 27, 28, 29, 30]⟩)], [(7, ⟨[(11, .lf (.slice)), (12, .lf (.int .i64))], [], [40, 41, 44, 45, 46, 47, 11, 42, 43, 12], []⟩)], [], []⟩
theorem lforged_calls (a0 : Option Addr) (n0 : Nat) (c0 : Nat) (x1 : Int) (x2 : Int) (w : World) (K : Value → World → Prop) (h : lforged_vc a0 n0 c0 x1 x2 w K) : Calls Try.prog 11 #[.slice a0 n0 c0, .int .i64 x1, .int .i64 x2] w fun e w' => ∃ v, e = .returned v ∧ K v w' :=
  calls_of_fvc envOk Try.func11 lforged_notes [] [.slice a0 n0 c0, .int .i64 x1, .int .i64 x2] w K (use_vc h (by as_aux_lemma => kernel_rfl))
/-- (*purser/codec.Reader).Left -/
def rleft_vc (p0 : Option Addr) (w : World) (K : Value → World → Prop) : Prop :=
  br (Option.isNone p0) (
    K (.int .i64 0) w
  ) (
    withP p0 fun g6 o6 =>
    ∃ (a8 : Option Addr) (n8 : Nat) (c8 : Nat), w.cell? ⟨g6, o6, none⟩ = some (.slice a8 n8 c8) ∧
    K (.int .i64 ((n8 : Nat) : Int)) w
  )
def rleft_notes : Notes := ⟨[], [], [], []⟩
theorem rleft_calls (p0 : Option Addr) (w : World) (K : Value → World → Prop) (h : rleft_vc p0 w K) : Calls Try.prog 90 #[.pointer p0] w fun e w' => ∃ v, e = .returned v ∧ K v w' :=
  calls_of_fvc envOk Try.func90 rleft_notes [] [.pointer p0] w K (use_vc h (by as_aux_lemma => kernel_rfl))
/-- purser/purserref02.Few -/
def rfew_vc (a0 : Option Addr) (n0 : Nat) (c0 : Nat) (x1 : Int) (x2 : Int) (w : World) (K : Value → World → Prop) : Prop :=
  ∃ (I : Option Addr → Nat → Nat → Int → World → Prop) (μ : Option Addr → Nat → Nat → Int → World → Nat),
  I none 0 0 0 w ∧
  ∀ (a7 : Option Addr) (n7 : Nat) (c7 : Nat) (x8 : Int) (w_2 : World), I a7 n7 c7 x8 w_2 →
  br (decide (x8 < ((n0 : Nat) : Int))) (
    br (decide (x8 < x1)) (
      drewO w_2 fun w_3 =>
      withP a0 fun g24 o24 =>
      (0 : Int) ≤ x8 ∧ x8 < (((n0 : Nat) : Int) : Int) ∧
      ∃ (a25 : Option Addr) (n25 : Nat) (c25 : Nat), w_3.cell? ⟨g24, o24 + x8.toNat * 1, none⟩ = some (.slice a25 n25 c25) ∧
      withP a0 fun g28 o28 =>
      (0 : Int) ≤ x8 ∧ x8 < (((n0 : Nat) : Int) : Int) ∧
      ∃ (a29 : Option Addr) (n29 : Nat) (c29 : Nat), w_3.cell? ⟨g28, o28 + x8.toNat * 1, none⟩ = some (.slice a29 n29 c29) ∧
      (0 : Int) ≤ min ((n29 : Nat) : Int) x2 ∧ min ((n29 : Nat) : Int) x2 ≤ (((c25 : Nat) : Int) : Int) ∧
      newO w_3 (.cells #[] 5) fun g w_4 =>
      w_4.cell? ⟨g24, o24 + x8.toNat * 1, none⟩ = some (.slice a25 n25 c25) ∧
      w_4.cell? ⟨g28, o28 + x8.toNat * 1, none⟩ = some (.slice a29 n29 c29) ∧
      appO Try.prog [] w_4 5 1 1 22 (some ⟨g, 0, none⟩) 0 0 (.slice a25 ((min ((n29 : Nat) : Int) x2).toNat) c25) fun m34 a34 c34 w_5 =>
      newO w_5 (.cells #[.slice a34 (0 + m34) c34] 22) fun g_2 w_6 =>
      appO Try.prog [] w_6 22 1 24 44 a7 n7 c7 (.slice (some ⟨g_2, 0, none⟩) 1 1) fun m36 a36 c36 w_7 =>
      I a36 (n7 + m36) c36 (IntKind.i64.wrap (x8 + 1)) w_7 ∧ μ a36 (n7 + m36) c36 (IntKind.i64.wrap (x8 + 1)) w_7 < μ a7 n7 c7 x8 w_2
    ) (
      K (.slice a7 n7 c7) w_2
    )
  ) (
    K (.slice a7 n7 c7) w_2
  )
def rfew_notes : Notes := ⟨[(5, ⟨[0, 0, 0, 0, 12, 28, 0, 0, 192, 448, 960, 0, 4032, 8188, 16382, 32766, 65535, 131071], [1, 14, 15, 16], [0, 2, 3, 4, 5, 6, 7, 8, 9, 10, 11, 12, 13, 17]⟩)], [(3, ⟨[(7, .lf (.slice)), (8, .lf (.int .i64))], [], [9, 10, 11, 12, 13, 14, 15, 16, 17, 20, 21, 22, 23, 24, 25, 26, 27, 28, 29, 30, 31, 32, 33, 34, 35, 36, 7, 18, 19, 8], []⟩)], [], []⟩
theorem rfew_calls (a0 : Option Addr) (n0 : Nat) (c0 : Nat) (x1 : Int) (x2 : Int) (w : World) (K : Value → World → Prop) (h : rfew_vc a0 n0 c0 x1 x2 w K) : Calls Try.prog 23 #[.slice a0 n0 c0, .int .i64 x1, .int .i64 x2] w fun e w' => ∃ v, e = .returned v ∧ K v w' :=
  calls_of_fvc envOk Try.func23 rfew_notes [] [.slice a0 n0 c0, .int .i64 x1, .int .i64 x2] w K (use_vc h (by as_aux_lemma => kernel_rfl))
end GFr
end Go.Proofs.Ytpfmadinijofeaa
end
