import Derived.Test.YtjjmhmbmjpedkaaMWindowBack5
import Derived.Test.YtjjmhmbmjpedkaaProg
import Derived.Test.YtjjmhmbmjpedkaaMWindowBack2
import Derived.Test.YtjjmhmbmjpedkaaMWindowBack4
import Derived.Test.YtjjmhmbmjpedkaaMWindowBack3
import Derived.Deep.Slices
import Derived.OpenShut
section
/- A window is read; walked. -/
namespace Go.Proofs.Ytjjmhmbmjpedkaa
open Go.RowKit
theorem stO_set {gs : List Nat} {w : World} {g i : Nat} {cs : Array Value} {t : TypeId} {v : Value} {K : World → Prop} (h : Bk w g cs t) (hi : i < cs.size) (hg : ∀ x ∈ gs, x ≠ g) (hk : K (w.setCell ⟨g, i, none⟩ v)) : stO gs w g i [v] K :=
  ⟨hg, h.there (by simp; omega), fun w1 e => by subst e; exact hk⟩
theorem WinRaw.old {w w' : World} {M Lr : List Nat} {n0 p : Nat} {mo la : Int} {st : Bool} {es : List Ent} {kv : Value} {xs : List Value} (h : WinRaw w [p] n0 p mo st la es kv xs M) (hp : n0 ≤ p) (hu : Under Lr n0) (hf : Fr Lr w w') : WinRaw w' [p] n0 p mo st la es kv xs M := by
  have kp : ∀ k, n0 ≤ k → k < w.heap.size → w'.heap[k]? = w.heap[k]? := fun k h1 h2 => hf.block k h2 fun hm => by have := hu k hm; omega
  have hm : ∀ k ∈ M, n0 ≤ k := fun k hk => (h.far k hk).1.elim (fun h1 => by rw [List.mem_singleton] at h1; omega) id
  refine ⟨h.bk.keep (kp p hp h.bk.lt), h.own.keep fun k hk => kp k ((h.mine k hk).elim (fun h1 => by rw [List.mem_singleton] at h1; omega) id) (h.own.lt k hk).2, h.ents.keep fun k hk => kp k (hm k hk) (h.under k hk), h.far, h.mine, h.under.mono hf.size⟩
theorem wFollows_any (p : Nat) (z cnt : Int) (w : World) {L M : List Nat} {n0 : Nat} {mo : Int} {st : Bool} {es : List Ent} {kv : Value} {xs : List Value} (h : WinRaw w L n0 p mo st (lastNum es) es kv xs M) (hl : -1 ≤ lastNum es ∧ lastNum es ≤ 4611686018427387904) :
    Calls Try.prog 76 #[.pointer (some ⟨p, 0, none⟩), .int .i64 z, .int .i64 cnt] w fun e w' => e = .returned (.bool (folOk mo st cnt es z)) ∧ w = w' := by
  refine (GWinWr.wFollows_calls (some ⟨p, 0, none⟩) z cnt w (fun v w' => v = .bool (folOk mo st cnt es z) ∧ w = w') ?_).mono (by rintro e w' ⟨v, rfl, rfl, hb⟩; exact ⟨rfl, hb⟩)
  obtain ⟨ka, kc, rfl⟩ := h.own.isSlice
  have c0 : w.cell? ⟨p, 0, none⟩ = some (.int .i64 mo) := by rw [h.bk.cell]; rfl
  have c1 : w.cell? ⟨p, 0 + 1, none⟩ = some (.bool st) := by rw [h.bk.cell]; rfl
  have c2 : w.cell? ⟨p, 0 + 2, none⟩ = some (.int .i64 (lastNum es)) := by rw [h.bk.cell]; rfl
  have c3 : w.cell? ⟨p, 0 + 3, none⟩ = some (.slice ka es.length kc) := by rw [h.bk.cell]; rfl
  unfold GWinWr.wFollows_vc folOk
  have hw : IntKind.i64.wrap (lastNum es + 1) = lastNum es + 1 := wr64 (by omega) (by omega)
  refine ⟨_, _, _, c3, br_dec (fun h0 => ?_) fun h0 => ?_⟩
  · have h0 : es.length = 0 := by omega
    refine ⟨_, c1, br_split.2 ⟨fun hs => ?_, fun hs => ?_⟩⟩
    · refine ⟨_, c0, br_dec (fun hc => ?_) fun hc => ?_⟩
      · rw [if_pos ⟨h0, hs, hc⟩]; exact ⟨rfl, rfl⟩
      · rw [if_neg (fun h => hc h.2.2), if_pos h0]
        exact ⟨_, _, _, c3, br_y (by omega) ⟨rfl, rfl⟩⟩
    · rw [if_neg (fun h => by rw [hs] at h; cases h.2.1), if_pos h0]
      exact ⟨_, _, _, c3, br_y (by omega) ⟨rfl, rfl⟩⟩
  · rw [if_neg (fun h => h0 (by omega)), if_neg (by omega)]
    refine ⟨_, _, _, c3, br_n h0 ⟨_, c1, br_split.2 ⟨fun hs => ?_, fun hs => ?_⟩⟩⟩
    · rw [if_pos hs]
      refine ⟨_, c2, ?_, rfl⟩
      rw [hw]
    · rw [if_neg (by rw [hs]; decide)]
      exact ⟨_, c2, rfl, rfl⟩
def WRes (w : World) (bs : List UInt8) (v : Value) (w' : World) : Prop :=
  Below w.heap.size w w' ∧ ((rdOk bs ∧ ∃ p L, v = .tuple #[.pointer (some ⟨p, 0, none⟩), .int .i64 0] ∧ WinAt w' L p (rdW bs) ∧ From w.heap.size L) ∨ (¬ rdOk bs ∧ v = .tuple #[.pointer none, .int .i64 2]))
set_option maxRecDepth 10000 in
theorem wRead_any (a : Option Addr) (c : Nat) (bs : List UInt8) (w : World) (h : RowAt w a (bs.map bV)) (hl : bs.length ≤ 100000000) :
    Calls Try.prog 46 #[.slice a bs.length c] w fun e w' => ∃ v, e = .returned v ∧ WRes w bs v w' := by
  refine GWinWr.wRead_calls a bs.length c w (WRes w bs) ?_
  unfold GWinWr.wRead_vc
  refine (cRead_any a c bs w h hl).mono ?_
  rintro e w2 ⟨gr, Lr, rfl, hR2, hf2, b2⟩
  refine ⟨keepG_nil _ _, _, rfl, ?_⟩
  have hu2 := hR2.under
  obtain ⟨m, f, l, n, cs, e0, hH⟩ : ∃ m f l n cs e0, rdHead bs = (m, f, l, n, cs, e0) := ⟨_, _, _, _, _, _, rfl⟩
  have hrg := rdHead_range bs
  rw [hH] at hrg
  have hOk : rdOk bs ↔ (rdAll bs).ok = true ∧ lastNum (rdAll bs).es = l ∧ rdEnd (rdAll bs).bs (rdAll bs).e = 0 := by unfold rdOk; rw [hH]
  have hWd : rdW bs = ⟨m, f, l, (rdAll bs).es⟩ := by unfold rdW; rw [hH]
  have hWo := @rdW_ok bs
  have hL := rdLenU 64 (rdInt (rdFlag (rdUint 64 bs 0).2.1 (rdUint 64 bs 0).2.2).2.1 (rdFlag (rdUint 64 bs 0).2.1 (rdUint 64 bs 0).2.2).2.2).2.1 (rdInt (rdFlag (rdUint 64 bs 0).2.1 (rdUint 64 bs 0).2.2).2.1 (rdFlag (rdUint 64 bs 0).2.1 (rdUint 64 bs 0).2.2).2.2).2.2
  have hA : rdAll bs = rdIter m f n ⟨decide (1 ≤ m) && decide (n ≤ m), [], cs, e0⟩ n.toNat := by unfold rdAll; rw [hH]
  unfold rdHead at hH
  dsimp only at hH
  refine (rUint_any gr 64 (by decide) (by decide) bs 0 Lr w2 hR2 hl).mono ?_
  rintro e w3 ⟨rfl, hR3, f3, _⟩
  have l3 := rdLenU 64 bs 0
  generalize rdUint 64 bs 0 = q at *
  obtain ⟨m', bs3, e3⟩ := q
  dsimp only at *
  refine ⟨keepG_nil _ _, _, rfl, newO_in fun w4 n4 b4 s4 => ?_⟩
  have p4 : w2.heap.size ≤ w3.heap.size := f3.size
  refine (rFlag_any gr bs3 e3 Lr w4 (hR3.below b4)).mono ?_
  rintro e w5 ⟨rfl, hR5, f5, _⟩
  have l5 := flag_len (bs := bs3) (e := e3)
  generalize rdFlag bs3 e3 = q at *
  obtain ⟨f', bs5, e5⟩ := q
  dsimp only at *
  have pL : w3.heap.size ∉ Lr := fun hm => by have := hu2 _ hm; omega
  have B4 : Bk w4 w3.heap.size #[.int .i64 m', .bool false, .int .i64 (-1), .slice none 0 0] 93 := n4
  have B5 := B4.keep (f5.block _ (by omega) pL)
  refine ⟨keepG_nil _ _, _, rfl, stO_bk B5 (by simp) (by simp) fun w6 B6 f6 z6 => ?_⟩
  have hR6 := hR5.fr f6 (fun k h1 h2 => by rw [List.mem_singleton] at h2; subst h2; exact pL h1)
  refine (rInt_any2 gr bs5 e5 Lr w6 hR6 (by omega)).mono ?_
  rintro e w7 ⟨rfl, hR7, f7, _⟩
  have l7 := rdLen bs5 e5
  generalize rdInt bs5 e5 = q at *
  obtain ⟨l', bs7, e7⟩ := q
  dsimp only at *
  have z5 := f5.size
  have B7 := B6.keep (f7.block _ (by omega) pL)
  refine ⟨keepG_nil _ _, _, rfl, (rUint_any gr 64 (by decide) (by decide) bs7 e7 Lr w7 hR7 (by omega)).mono ?_⟩
  rintro e w8 ⟨rfl, hR8, f8, _⟩
  generalize rdUint 64 bs7 e7 = q at *
  obtain ⟨n', cs', e8⟩ := q
  obtain ⟨rfl, rfl, rfl, rfl, rfl, rfl⟩ : m = m' ∧ f = f' ∧ l = l' ∧ n = n' ∧ cs = cs' ∧ e0 = e8 := by
    simp only [Prod.mk.injEq] at hH
    obtain ⟨h1, h2, h3, h4, h5, h6⟩ := hH
    exact ⟨h1.symm, h2.symm, h3.symm, h4.symm, h5.symm, h6.symm⟩
  dsimp only at *
  have z7 := f7.size
  have z8 := f8.size
  have B8 := B7.keep (f8.block _ (by omega) pL)
  refine ⟨keepG_nil _ _, _, rfl, ?_⟩
  have F8 : Fr Lr w2 w8 := (((((f3.trans (Fr.ofBelow (L := Lr) b4) (Gr.refl _ _)).trans f5 (Gr.refl _ _)).trans f6 (fun k hk => by rw [List.mem_singleton] at hk; exact .inr (by omega))).trans f7 (Gr.refl _ _)).trans f8 (Gr.refl _ _))
  have BB8 : Below w.heap.size w w8 := b2.trans (F8.below hf2 b2.size)
  refine ⟨fun b wx => b = (decide (1 ≤ m) && decide (n ≤ m)) ∧ w8 = wx, ?_, ?_⟩
  · refine ⟨m, by rw [B8.cell]; rfl, br_dec (fun h1 => ⟨m, by rw [B8.cell]; rfl, ?_, rfl⟩) fun h1 => ⟨?_, rfl⟩⟩
    · rw [decide_eq_true (show 1 ≤ m from h1), Bool.true_and]
    · rw [decide_eq_false (show ¬ 1 ≤ m from h1), Bool.false_and]
  rintro b wx ⟨rfl, rfl⟩
  generalize hp : w3.heap.size = p at *
  have hpn : w2.heap.size ≤ p := by omega
  generalize hr0 : (⟨decide (1 ≤ m) && decide (n ≤ m), [], cs, e0⟩ : RdS) = r0 at *
  have hbs : ∀ i, (rdIter m f n r0 i).bs.length ≤ 100000000 := fun i => by
    have := iter_bs m f n r0 i
    rw [← hr0] at this ⊢
    dsimp only at this
    omega
  have hnum : ∀ i, ∀ e ∈ (rdIter m f n r0 i).es, e.ok := fun i => iter_num m f n r0 (by rw [← hr0]; simp) i
  have hlen : ∀ i, (rdIter m f n r0 i).es.length = i := fun i => by rw [iter_len, ← hr0]; simp
  refine ⟨fun b x wx => ∃ i : Nat, x = i ∧ i ≤ n ∧ b = (rdIter m f n r0 i).ok ∧ RdAt wx Lr gr (rdIter m f n r0 i).bs (rdIter m f n r0 i).e ∧ (∃ kv xs M, WinRaw wx [p] w2.heap.size p m f (lastNum (rdIter m f n r0 i).es) (rdIter m f n r0 i).es kv xs M) ∧ Below w.heap.size w wx ∧ w2.heap.size ≤ wx.heap.size, fun _ x _ => n.toNat - x.toNat, ?_, ?_⟩
  · refine ⟨0, rfl, by omega, by rw [← hr0]; rfl, by rw [← hr0]; exact hR8, ⟨.slice none 0 0, [], [], ?_⟩, BB8, by omega⟩
    rw [← hr0]
    exact ⟨B8, Own.nil _ _ _ _, EntsOk.nil _ _, fun k hk => (by cases hk), fun k hk => (by simp [Value.ownBlock] at hk), fun k hk => (by cases hk)⟩
  rintro b x wx ⟨i, rfl, hi, rfl, hR, ⟨kv, xs, M, hW⟩, hB, hsz⟩
  have hlr := lastNum_range (hnum i)
  refine br_dec (fun hlt => ?_) fun hge => ?_
  · have hnum1 := hnum (i + 1)
    have hbs1 := hbs (i + 1)
    have hbs0 := hbs i
    have hlen0 := hlen i
    have hS : rdIter m f n r0 (i + 1) = rdStep m f n (rdIter m f n r0 i) := rfl
    rw [hS] at hnum1 hbs1
    have hi1 : rdIter m f n r0 (i + 1) = rdStep m f n (rdIter m f n r0 i) := rfl
    generalize rdIter m f n r0 i = s at *
    refine (rUint_any gr 4611686018427387904 (by decide) (by decide) _ _ Lr wx hR hbs0).mono ?_
    rintro e w11 ⟨rfl, hR11, f11, _⟩
    have hx := rdUint_range 4611686018427387904 s.bs s.e
    have hxl := rdLenU 4611686018427387904 s.bs s.e
    have hE : rdEnt s.bs s.e = (⟨(rdUint 4611686018427387904 s.bs s.e).1, (rdText 65536 (rdUint 4611686018427387904 s.bs s.e).2.1 (rdUint 4611686018427387904 s.bs s.e).2.2).1, (rdText 65536 (rdText 65536 (rdUint 4611686018427387904 s.bs s.e).2.1 (rdUint 4611686018427387904 s.bs s.e).2.2).2.1 (rdText 65536 (rdUint 4611686018427387904 s.bs s.e).2.1 (rdUint 4611686018427387904 s.bs s.e).2.2).2.2).1⟩, (rdText 65536 (rdText 65536 (rdUint 4611686018427387904 s.bs s.e).2.1 (rdUint 4611686018427387904 s.bs s.e).2.2).2.1 (rdText 65536 (rdUint 4611686018427387904 s.bs s.e).2.1 (rdUint 4611686018427387904 s.bs s.e).2.2).2.2).2.1, (rdText 65536 (rdText 65536 (rdUint 4611686018427387904 s.bs s.e).2.1 (rdUint 4611686018427387904 s.bs s.e).2.2).2.1 (rdText 65536 (rdUint 4611686018427387904 s.bs s.e).2.1 (rdUint 4611686018427387904 s.bs s.e).2.2).2.2).2.2) := rfl
    generalize rdUint 4611686018427387904 s.bs s.e = x at *
    obtain ⟨xn, xb, xe⟩ := x
    dsimp only at *
    have hz11 := f11.size
    refine ⟨keepG_nil _ _, _, rfl, newO_in fun w12 n12 b12 s12 w13 bs13 => ?_⟩
    have gL : w11.heap.size ∉ Lr := fun hm => by have := hu2 _ hm; omega
    have gL2 : ∀ k ∈ Lr, k ∉ [w11.heap.size] := fun k h1 h2 => by rw [List.mem_singleton] at h2; subst h2; exact gL h1
    have gL3 : ∀ k ∈ [w11.heap.size], k ∉ Lr := fun k h1 h2 => gL2 k h2 h1
    have hR13 := (hR11.below b12).fr bs13.1 gL2
    have hq := (text_len (most := 65536) (bs := xb) (e := xe))
    refine (rText_any gr 65536 (by decide) (by decide) _ _ Lr w13 hR13 (by omega)).mono ?_
    rintro e w14 ⟨v14, rfl, o14, hR14, f14⟩
    generalize rdText 65536 xb xe = q at *
    obtain ⟨qt, qb, qe⟩ := q
    dsimp only at *
    obtain ⟨a14, c14, rfl⟩ := o14.isSlice
    refine ⟨keepG_fr f14 gL3, _, _, _, rfl, fun w15 bs15 => ?_⟩
    have hR15 := hR14.fr bs15.1 gL2
    have ht := (text_len (most := 65536) (bs := qb) (e := qe))
    refine (rText_any gr 65536 (by decide) (by decide) _ _ Lr w15 hR15 (by omega)).mono ?_
    rintro e w16 ⟨v16, rfl, o16, hR16, f16⟩
    generalize rdText 65536 qb qe = t at *
    obtain ⟨tt, tb, te⟩ := t
    dsimp only at *
    obtain ⟨a16, c16, rfl⟩ := o16.isSlice
    refine ⟨keepG_fr f16 gL3, _, _, _, rfl, fun w17 bs17 => ?_⟩
    have hR17 := hR16.fr bs17.1 gL2
    have z13 := bs13.2
    have z15 := bs15.2
    have z17 := bs17.2
    have z14 := f14.size
    have z16 := f16.size
    have gI : Gr Lr [w11.heap.size] wx.heap.size := fun k hk => by rw [List.mem_singleton] at hk; exact .inr (by omega)
    have F17 : Fr Lr wx w17 := ((((((f11.trans (Fr.ofBelow (L := Lr) b12) (Gr.refl _ _)).trans bs13.1 gI).trans f14 (Gr.refl _ _)).trans bs15.1 gI).trans f16 (Gr.refl _ _)).trans bs17.1 gI)
    have far : ∀ k, w12.heap.size ≤ k → k ∉ Lr ∧ k ∉ [w11.heap.size] := fun k hk => ⟨fun hm => by have := hu2 _ hm; omega, fun hm => by rw [List.mem_singleton] at hm; omega⟩
    have O16 := o16.keep (w' := w17) fun k hk => bs17.1.block k (o16.lt k hk).2 (far k (by have := (o16.lt k hk).1; omega)).2
    have O14 := ((o14.keep (w' := w15) fun k hk => bs15.1.block k (o14.lt k hk).2 (far k (by have := (o14.lt k hk).1; omega)).2).keep (w' := w16) fun k hk => f16.block k (by have := (o14.lt k hk).2; omega) (far k (by have := (o14.lt k hk).1; omega)).1).keep (w' := w17) fun k hk => bs17.1.block k (by have := (o14.lt k hk).2; omega) (far k (by have := (o14.lt k hk).1; omega)).2
    have hW17 := hW.old hpn hu2 F17
    refine ⟨fun b wy => b = (s.ok && folOk m f n s.es xn) ∧ w17 = wy, ?_, ?_⟩
    · refine br_split.2 ⟨fun hs => ?_, fun hs => ⟨by rw [hs]; rfl, rfl⟩⟩
      refine (wFollows_any p _ n w17 hW17 hlr).mono ?_
      rintro e w18 ⟨rfl, rfl⟩
      exact ⟨fun _ _ _ => rfl, _, rfl, by rw [hs]; rfl, rfl⟩
    rintro b wy ⟨rfl, rfl⟩
    refine drewO_in fun w20 b20 _ => ?_
    obtain ⟨ka, kc, rfl⟩ := hW17.own.isSlice
    have hW20 := hW17.below b20
    have z20 := b20.size
    refine ⟨ka, s.es.length, kc, by rw [hW20.bk.cell]; rfl, newO_in fun w21 n21 b21 s21 => ?_⟩
    have hkv : ∀ k, (Value.slice ka s.es.length kc).ownBlock = some k → k < wx.heap.size := fun k hk => (hW.own.lt k hk).2
    have hMB : ∀ k ∈ (Value.slice a14 qt.length c14).ownBlock.toList ++ (Value.slice a16 tt.length c16).ownBlock.toList, w2.heap.size ≤ k ∧ k < w20.heap.size ∧ k ≠ p ∧ (Value.slice ka s.es.length kc).ownBlock ≠ some k := fun k hk => by
      have h1 : w12.heap.size ≤ k ∧ k < w17.heap.size := by
        rcases List.mem_append.1 hk with hk | hk
        · have := O14.lt k (by simpa using hk); omega
        · have := O16.lt k (by simpa using hk); omega
      have h2 := hW.bk.lt
      refine ⟨by omega, by omega, by omega, fun e => ?_⟩
      have := hkv k e
      omega
    have R21 := (hW20.more _ hMB).below b21
    have O14' := (O14.below b20 (Nat.le_refl _)).below b21 (Nat.le_refl _)
    have O16' := (O16.below b20 (Nat.le_refl _)).below b21 (Nat.le_refl _)
    have hp2 : w11.heap.size ≠ p := by have := hW.bk.lt; omega
    refine ⟨by rw [R21.bk.cell]; rfl, 1, xs, cells3 xn a14 qt.length c14 a16 tt.length c16, R21.own, src_block Try.underlying91 (n := 1) (size := 3) n21 rfl rfl, by unfold maxLen; omega, by omega, fun g hg e => ?_, ?_⟩
    · rw [List.mem_singleton] at hg; subst hg
      have := hkv _ e; omega
    intro a22 c22 w22 o22 g22 hor
    obtain ⟨B22, R22⟩ := R21.grow (e := ⟨xn, qt, tt⟩) (c := c14) (c' := c16) ((In.ofOwn O14').mono (by simp +contextual)) ((In.ofOwn O16').mono (by simp +contextual)) (own_cap O14') (own_cap O16') (by omega) o22 g22 hor
    refine stO_set B22 (by simp) (by simpa using hp2) (stO_set R22.bk (by simp) (by simpa using hp2) ?_)
    have R24 := R22.setLast xn
    have z22 := g22.size
    have Bx24 : Below w.heap.size w ((w22.setCell ⟨p, 3, none⟩ (.slice a22 (s.es.length + 1) c22)).setCell ⟨p, 2, none⟩ (.int .i64 xn)) := by
      have h21 : Below w.heap.size w w21 := (hB.trans ((F17.below hf2 hB.size).trans ((b20.mono (by have := hB.size; omega)).trans (b21.mono (by have := hB.size; omega)))))
      have h22 := below_grown h21 (by have := hB.size; omega) g22 fun k hk => by have := (hW.mine k hk).elim (fun h1 => by rw [List.mem_singleton] at h1; omega) id; have := b2.size; omega
      have fp : From w.heap.size [p] := fun k hk => by rw [List.mem_singleton] at hk; have := b2.size; omega
      have h23 := ((Fr.refl [p] w22).setCell (p := ⟨p, 3, none⟩) (.inl (by simp)) (.slice a22 (s.es.length + 1) c22)).setCell (p := ⟨p, 2, none⟩) (.inl (by simp)) (.int .i64 xn)
      exact h22.trans (h23.below fp h22.size)
    have hR24 := ((hR17.below b20).below b21).keep (w' := (w22.setCell ⟨p, 3, none⟩ (.slice a22 (s.es.length + 1) c22)).setCell ⟨p, 2, none⟩ (.int .i64 xn)) (fun k hk => by
      have hk2 := hu2 k hk
      rw [Below.heap_setCell _ _ _ _ (show k ≠ p by omega), Below.heap_setCell _ _ _ _ (show k ≠ p by omega)]
      exact g22.block k (by omega) fun e => by have := (hW.mine k e.symm).elim (fun h1 => by rw [List.mem_singleton] at h1; omega) id; omega) (by simp; omega)
    rw [wr64 (by omega) (by omega)]
    refine ⟨⟨i + 1, by omega, by omega, ?_, ?_, ?_, Bx24, by simp; omega⟩, ?_⟩
    · rw [hi1]; unfold rdStep; rw [hE]
    · rw [hi1]; unfold rdStep; rw [hE]; exact hR24
    · rw [hi1]; unfold rdStep; rw [hE]; rw [lastNum_app]; exact ⟨_, _, _, R24⟩
    · (try dsimp only)
      omega
  · obtain rfl : i = n.toNat := by omega
    rw [← hA] at hR hW hlr ⊢
    refine br_not (br_split.2 ⟨fun hs => ?_, fun hs => ⟨hB, .inr ⟨fun hk => (by have := (hOk.1 hk).1; rw [hs] at this; cases this), rfl⟩⟩⟩)
    have hbs0 := hbs n.toNat
    rw [← hA] at hbs0
    refine ⟨_, by rw [hW.bk.cell]; rfl, br_dec (fun hne => ⟨hB, .inr ⟨fun hk => hne (hOk.1 hk).2.1, rfl⟩⟩) fun heq => (rEnd_any gr _ _ Lr wx hR hbs0).mono ?_⟩
    rintro e w25 ⟨rfl, rfl⟩
    refine ⟨keepG_nil _ _, _, rfl, br_dec (fun hne => ⟨hB, .inr ⟨fun hk => hne (hOk.1 hk).2.2, rfl⟩⟩) fun he => ?_⟩
    have hl1 : lastNum (rdAll bs).es = l := Decidable.not_not.1 heq
    have hk : rdOk bs := hOk.2 ⟨hs, hl1, Decidable.not_not.1 he⟩
    have hwo := hWo hk
    rw [hWd] at hwo
    rw [hl1] at hW
    obtain ⟨L', hWA, hG⟩ := hW.at (by simp) hwo
    refine ⟨hB, .inl ⟨hk, p, L', rfl, by rw [hWd]; exact hWA, hG.from (fun k hk => by rw [List.mem_singleton] at hk; have := b2.size; omega) b2.size⟩⟩
end Go.Proofs.Ytjjmhmbmjpedkaa
end
section
/- Conditions of functions, printed by a program of this claim's own (vcgen.py) out of the loaded code; each is proved to be enough. -/
set_option maxRecDepth 100000
namespace Go.Proofs.Ytjjmhmbmjpedkaa
open Go.RowKit
namespace GRefRd
def env : Env := ⟨[(3, ⟨.int .i64, 1, .int .i64 0, 8, [.int .i64]⟩), (5, ⟨.int .u8, 1, .int .u8 0, 1, [.int .u8]⟩), (9, ⟨.str, 1, .string ByteArray.empty, 16, [.str]⟩), (23, ⟨.int .u64, 1, .int .u64 0, 8, [.int .u64]⟩), (25, ⟨.int .i64, 1, .int .i64 0, 8, [.int .i64]⟩), (130, ⟨.struct [(0, 9), (1, 25)], 2, .agg #[.string ByteArray.empty, .int .i64 0], 24, [.str, .int .i64]⟩)], [(77, [.lf (.int .i64)]), (92, [.lf (.int .u64), .lf (.int .i64)])]⟩
theorem ty3 : TyOk Try.prog 3 ⟨.int .i64, 1, .int .i64 0, 8, [.int .i64]⟩ := tyok (by kernel_rfl) (by kernel_rfl)
theorem ty5 : TyOk Try.prog 5 ⟨.int .u8, 1, .int .u8 0, 1, [.int .u8]⟩ := tyok (by kernel_rfl) (by kernel_rfl)
theorem ty9 : TyOk Try.prog 9 ⟨.str, 1, .string ByteArray.empty, 16, [.str]⟩ := tyok (by kernel_rfl) (by kernel_rfl)
theorem ty23 : TyOk Try.prog 23 ⟨.int .u64, 1, .int .u64 0, 8, [.int .u64]⟩ := tyok (by kernel_rfl) (by kernel_rfl)
theorem ty25 : TyOk Try.prog 25 ⟨.int .i64, 1, .int .i64 0, 8, [.int .i64]⟩ := tyok (by kernel_rfl) (by kernel_rfl)
theorem ty130 : TyOk Try.prog 130 ⟨.struct [(0, 9), (1, 25)], 2, .agg #[.string ByteArray.empty, .int .i64 0], 24, [.str, .int .i64]⟩ := tyok (by kernel_rfl) (by kernel_rfl)
theorem fn77 : FnOk Try.prog 77 := fnok Try.func77 (by kernel_rfl) (by kernel_rfl)
theorem fn92 : FnOk Try.prog 92 := fnok Try.func92 (by kernel_rfl) (by kernel_rfl)
theorem envOk : EOk Try.prog env := ⟨(by simp only [env, List.forall_mem_cons, List.not_mem_nil, false_implies, implies_true, and_true]; exact ⟨ty3, ty5, ty9, ty23, ty25, ty130⟩), (by simp only [env, List.forall_mem_cons, List.not_mem_nil, false_implies, implies_true, and_true]; exact ⟨fn77, fn92⟩), by kernel_rfl⟩
/-- (*purser/purserref03.Reader).groups -/
def grp_vc (p0 : Option Addr) (x1 : Int) (w : World) (K : Value → World → Prop) : Prop :=
  ∃ (I : Int → Int → World → Prop) (μ : Int → Int → World → Nat),
  I 0 0 w ∧
  ∀ (x6 : Int) (x7 : Int) (w_2 : World), I x6 x7 w_2 →
  withP p0 fun g13 o13 =>
  ∃ (s15 : ByteArray), w_2.cell? ⟨g13, o13, none⟩ = some (.string s15) ∧
  br (decide (x7 ≥ ((s15.size : Nat) : Int))) (
    withP p0 fun g19 o19 =>
    stO [] w_2 g19 (o19 + 1) [.int .i64 3] fun w_3 =>
    K (.tuple #[.int .u64 0, .int .i64 0]) w_3
  ) (
    withP p0 fun g22 o22 =>
    ∃ (s24 : ByteArray), w_2.cell? ⟨g22, o22, none⟩ = some (.string s24) ∧
    (0 : Int) ≤ x7 ∧ x7 < (((s24.size : Nat) : Int) : Int) ∧
    ∃ (J : Bool → World → Prop), (
      br (decide (x7 ≥ x1)) (
        J true w_2
      ) (
        br (decide (x7 = 9)) (
          br (decide ((byteAt s24 x7) > 1)) (
            J true w_2
          ) (
            br (decide ((byteAt s24 x7) = 0)) (
              J (decide (x7 > 0)) w_2
            ) (
              J false w_2
            )
          )
        ) (
          br (decide ((byteAt s24 x7) = 0)) (
            J (decide (x7 > 0)) w_2
          ) (
            J false w_2
          )
        )
      )
    ) ∧
    ∀ (b45 : Bool) (w_4 : World), J b45 w_4 →
    br b45 (
      withP p0 fun g47 o47 =>
      stO [] w_4 g47 (o47 + 1) [.int .i64 2] fun w_5 =>
      K (.tuple #[.int .u64 0, .int .i64 0]) w_5
    ) (
      (128 : Int) ≠ 0 ∧
      (0 : Int) ≤ (IntKind.i64.wrap (7 * x7)) ∧
      br (decide ((byteAt s24 x7) < 128)) (
        K (.tuple #[.int .u64 (IntKind.u64.wrap (x6 + (IntKind.u64.wrap ((IntKind.u64.wrap (Int.tmod (byteAt s24 x7) 128)) * 2 ^ (min (IntKind.i64.wrap (7 * x7)).toNat (IntKind.bits .u64)))))), .int .i64 (IntKind.i64.wrap (x7 + 1))]) w_4
      ) (
        I (IntKind.u64.wrap (x6 + (IntKind.u64.wrap ((IntKind.u64.wrap (Int.tmod (byteAt s24 x7) 128)) * 2 ^ (min (IntKind.i64.wrap (7 * x7)).toNat (IntKind.bits .u64)))))) (IntKind.i64.wrap (x7 + 1)) w_4 ∧ μ (IntKind.u64.wrap (x6 + (IntKind.u64.wrap ((IntKind.u64.wrap (Int.tmod (byteAt s24 x7) 128)) * 2 ^ (min (IntKind.i64.wrap (7 * x7)).toNat (IntKind.bits .u64)))))) (IntKind.i64.wrap (x7 + 1)) w_4 < μ x6 x7 w_2
      )
    )
  )
def grp_notes : Notes := ⟨[], [(4, ⟨[(6, .lf (.int .u64)), (7, .lf (.int .i64))], [], [11, 12, 13, 14, 15, 16, 17, 18, 19, 20, 4, 5, 21, 22, 23, 24, 25, 26, 8, 27, 28, 29, 30, 31, 32, 33, 34, 35, 36, 37, 38, 39, 40, 41, 42, 43, 44, 45, 46, 47, 48, 49, 50, 51, 52, 53, 54, 55, 56, 6, 57, 58, 59, 60, 61, 9, 10, 7], []⟩)], [((0, 8), ⟨[(45, .lf (.bool))], [], [27, 28, 29, 30, 31, 32, 33, 34, 35, 36, 37, 38, 39, 40, 41, 42, 43, 44, 45], []⟩)]⟩
theorem grp_calls (p0 : Option Addr) (x1 : Int) (w : World) (K : Value → World → Prop) (h : grp_vc p0 x1 w K) : Calls Try.prog 92 #[.pointer p0, .int .i64 x1] w fun e w' => ∃ v, e = .returned v ∧ K v w' :=
  calls_of_fvc envOk Try.func92 grp_notes [] [.pointer p0, .int .i64 x1] w K (use_vc h (by as_aux_lemma => kernel_rfl))
/-- (*purser/purserref03.Reader).Uint -/
def uint_vc (p0 : Option Addr) (x1 : Int) (w : World) (K : Value → World → Prop) : Prop :=
  withP p0 fun g8 o8 =>
  ∃ (x10 : Int), w.cell? ⟨g8, o8 + 1, none⟩ = some (.int .i64 x10) ∧
  br (decide (x10 ≠ 0)) (
    K (.int .i64 0) w
  ) (
    Calls Try.prog 92 #[.pointer p0, .int .i64 9] w fun e w_2 => KeepG [] w w_2 ∧
    ∃ (x14_0 : Int) (x14_1 : Int),
    e = .returned (.tuple #[.int .u64 x14_0, .int .i64 x14_1]) ∧
    withP p0 fun g18 o18 =>
    ∃ (x20 : Int), w_2.cell? ⟨g18, o18 + 1, none⟩ = some (.int .i64 x20) ∧
    br (decide (x20 ≠ 0)) (
      K (.int .i64 0) w_2
    ) (
      br (decide (x1 < 0)) (
        withP p0 fun g31 o31 =>
        stO [] w_2 g31 (o31 + 1) [.int .i64 5] fun w_3 =>
        K (.int .i64 0) w_3
      ) (
        br (decide (x14_0 > (IntKind.u64.wrap x1))) (
          withP p0 fun g31_2 o31_2 =>
          stO [] w_2 g31_2 (o31_2 + 1) [.int .i64 5] fun w_4 =>
          K (.int .i64 0) w_4
        ) (
          withP p0 fun g35 o35 =>
          ∃ (s37 : ByteArray), w_2.cell? ⟨g35, o35, none⟩ = some (.string s37) ∧
          (0 : Int) ≤ x14_1 ∧ x14_1 ≤ (((s37.size : Nat) : Int) : Int) ∧
          withP p0 fun g40 o40 =>
          stO [] w_2 g40 o40 [.string (s37.extract x14_1.toNat s37.size)] fun w_5 =>
          K (.int .i64 (IntKind.i64.wrap x14_0)) w_5
        )
      )
    )
  )
def uint_notes : Notes := ⟨[], [], []⟩
theorem uint_calls (p0 : Option Addr) (x1 : Int) (w : World) (K : Value → World → Prop) (h : uint_vc p0 x1 w K) : Calls Try.prog 77 #[.pointer p0, .int .i64 x1] w fun e w' => ∃ v, e = .returned v ∧ K v w' :=
  calls_of_fvc envOk Try.func77 uint_notes [] [.pointer p0, .int .i64 x1] w K (use_vc h (by as_aux_lemma => kernel_rfl))
/-- (*purser/purserref03.Reader).Int -/
def int_vc (p0 : Option Addr) (w : World) (K : Value → World → Prop) : Prop :=
  withP p0 fun g6 o6 =>
  ∃ (x8 : Int), w.cell? ⟨g6, o6 + 1, none⟩ = some (.int .i64 x8) ∧
  br (decide (x8 ≠ 0)) (
    K (.int .i64 0) w
  ) (
    Calls Try.prog 92 #[.pointer p0, .int .i64 10] w fun e w_2 => KeepG [] w w_2 ∧
    ∃ (x12_0 : Int) (x12_1 : Int),
    e = .returned (.tuple #[.int .u64 x12_0, .int .i64 x12_1]) ∧
    withP p0 fun g16 o16 =>
    ∃ (x18 : Int), w_2.cell? ⟨g16, o16 + 1, none⟩ = some (.int .i64 x18) ∧
    br (decide (x18 ≠ 0)) (
      K (.int .i64 0) w_2
    ) (
      withP p0 fun g22 o22 =>
      ∃ (s24 : ByteArray), w_2.cell? ⟨g22, o22, none⟩ = some (.string s24) ∧
      (0 : Int) ≤ x12_1 ∧ x12_1 ≤ (((s24.size : Nat) : Int) : Int) ∧
      withP p0 fun g27 o27 =>
      stO [] w_2 g27 o27 [.string (s24.extract x12_1.toNat s24.size)] fun w_3 =>
      (2 : Int) ≠ 0 ∧
      br (decide ((Int.tmod x12_0 2) = 1)) (
        (2 : Int) ≠ 0 ∧
        K (.int .i64 (IntKind.i64.wrap (IntKind.u64.wrap (0 - (IntKind.u64.wrap ((IntKind.u64.wrap (Int.tdiv x12_0 2)) + 1)))))) w_3
      ) (
        (2 : Int) ≠ 0 ∧
        K (.int .i64 (IntKind.i64.wrap (IntKind.u64.wrap (Int.tdiv x12_0 2)))) w_3
      )
    )
  )
def int_notes : Notes := ⟨[], [], []⟩
theorem int_calls (p0 : Option Addr) (w : World) (K : Value → World → Prop) (h : int_vc p0 w K) : Calls Try.prog 79 #[.pointer p0] w fun e w' => ∃ v, e = .returned v ∧ K v w' :=
  calls_of_fvc envOk Try.func79 int_notes [] [.pointer p0] w K (use_vc h (by as_aux_lemma => kernel_rfl))
/-- (*purser/purserref03.Reader).Flag -/
def flag_vc (p0 : Option Addr) (w : World) (K : Value → World → Prop) : Prop :=
  withP p0 fun g5 o5 =>
  ∃ (x7 : Int), w.cell? ⟨g5, o5 + 1, none⟩ = some (.int .i64 x7) ∧
  br (decide (x7 ≠ 0)) (
    K (.bool false) w
  ) (
    withP p0 fun g10 o10 =>
    ∃ (s12 : ByteArray), w.cell? ⟨g10, o10, none⟩ = some (.string s12) ∧
    br (decide (((s12.size : Nat) : Int) = 0)) (
      withP p0 fun g16 o16 =>
      stO [] w g16 (o16 + 1) [.int .i64 3] fun w_2 =>
      K (.bool false) w_2
    ) (
      withP p0 fun g19 o19 =>
      ∃ (s21 : ByteArray), w.cell? ⟨g19, o19, none⟩ = some (.string s21) ∧
      (0 : Int) ≤ 0 ∧ 0 < (((s21.size : Nat) : Int) : Int) ∧
      br (decide ((byteAt s21 0) > 1)) (
        withP p0 fun g25 o25 =>
        stO [] w g25 (o25 + 1) [.int .i64 2] fun w_3 =>
        K (.bool false) w_3
      ) (
        withP p0 fun g28 o28 =>
        ∃ (s30 : ByteArray), w.cell? ⟨g28, o28, none⟩ = some (.string s30) ∧
        (0 : Int) ≤ 0 ∧ 0 < (((s30.size : Nat) : Int) : Int) ∧
        withP p0 fun g35 o35 =>
        ∃ (s37 : ByteArray), w.cell? ⟨g35, o35, none⟩ = some (.string s37) ∧
        (0 : Int) ≤ 1 ∧ 1 ≤ (((s37.size : Nat) : Int) : Int) ∧
        withP p0 fun g39 o39 =>
        stO [] w g39 o39 [.string (s37.extract ((1 : Int).toNat) s37.size)] fun w_4 =>
        K (.bool (decide ((byteAt s30 0) = 1))) w_4
      )
    )
  )
def flag_notes : Notes := ⟨[], [], []⟩
theorem flag_calls (p0 : Option Addr) (w : World) (K : Value → World → Prop) (h : flag_vc p0 w K) : Calls Try.prog 78 #[.pointer p0] w fun e w' => ∃ v, e = .returned v ∧ K v w' :=
  calls_of_fvc envOk Try.func78 flag_notes [] [.pointer p0] w K (use_vc h (by as_aux_lemma => kernel_rfl))
/-- (*purser/purserref03.Reader).Text -/
def text_vc (p0 : Option Addr) (x1 : Int) (w : World) (K : Value → World → Prop) : Prop :=
  withP p0 fun g9 o9 =>
  ∃ (s11 : ByteArray), w.cell? ⟨g9, o9, none⟩ = some (.string s11) ∧
  Calls Try.prog 77 #[.pointer p0, .int .i64 x1] w fun e w_2 => KeepG [] w w_2 ∧
  ∃ (x14 : Int),
  e = .returned (.int .i64 x14) ∧
  withP p0 fun g16 o16 =>
  ∃ (x18 : Int), w_2.cell? ⟨g16, o16 + 1, none⟩ = some (.int .i64 x18) ∧
  br (decide (x18 ≠ 0)) (
    K (.string (⟨#[]⟩)) w_2
  ) (
    withP p0 fun g21 o21 =>
    ∃ (s23 : ByteArray), w_2.cell? ⟨g21, o21, none⟩ = some (.string s23) ∧
    br (decide (((s23.size : Nat) : Int) < x14)) (
      withP p0 fun g30 o30 =>
      stO [] w_2 g30 o30 [.string s11] fun w_3 =>
      withP p0 fun g32 o32 =>
      stO [] w_3 g32 (o32 + 1) [.int .i64 3] fun w_4 =>
      K (.string (⟨#[]⟩)) w_4
    ) (
      withP p0 fun g35 o35 =>
      ∃ (s37 : ByteArray), w_2.cell? ⟨g35, o35, none⟩ = some (.string s37) ∧
      (0 : Int) ≤ x14 ∧ x14 ≤ (((s37.size : Nat) : Int) : Int) ∧
      withP p0 fun g42 o42 =>
      ∃ (s44 : ByteArray), w_2.cell? ⟨g42, o42, none⟩ = some (.string s44) ∧
      (0 : Int) ≤ x14 ∧ x14 ≤ (((s44.size : Nat) : Int) : Int) ∧
      withP p0 fun g47 o47 =>
      stO [] w_2 g47 o47 [.string (s44.extract x14.toNat s44.size)] fun w_5 =>
      K (.string (s37.extract 0 x14.toNat)) w_5
    )
  )
def text_notes : Notes := ⟨[], [], []⟩
theorem text_calls (p0 : Option Addr) (x1 : Int) (w : World) (K : Value → World → Prop) (h : text_vc p0 x1 w K) : Calls Try.prog 80 #[.pointer p0, .int .i64 x1] w fun e w' => ∃ v, e = .returned v ∧ K v w' :=
  calls_of_fvc envOk Try.func80 text_notes [] [.pointer p0, .int .i64 x1] w K (use_vc h (by as_aux_lemma => kernel_rfl))
/-- (*purser/purserref03.Reader).End -/
def end_vc (p0 : Option Addr) (w : World) (K : Value → World → Prop) : Prop :=
  withP p0 fun g4 o4 =>
  ∃ (x6 : Int), w.cell? ⟨g4, o4 + 1, none⟩ = some (.int .i64 x6) ∧
  br (decide (x6 = 0)) (
    withP p0 fun g10 o10 =>
    ∃ (s12 : ByteArray), w.cell? ⟨g10, o10, none⟩ = some (.string s12) ∧
    br (decide (s12 ≠ (⟨#[]⟩))) (
      K (.int .i64 4) w
    ) (
      withP p0 fun g16 o16 =>
      ∃ (x18 : Int), w.cell? ⟨g16, o16 + 1, none⟩ = some (.int .i64 x18) ∧
      K (.int .i64 x18) w
    )
  ) (
    withP p0 fun g16_2 o16_2 =>
    ∃ (x18_2 : Int), w.cell? ⟨g16_2, o16_2 + 1, none⟩ = some (.int .i64 x18_2) ∧
    K (.int .i64 x18_2) w
  )
def end_notes : Notes := ⟨[], [], []⟩
theorem end_calls (p0 : Option Addr) (w : World) (K : Value → World → Prop) (h : end_vc p0 w K) : Calls Try.prog 81 #[.pointer p0] w fun e w' => ∃ v, e = .returned v ∧ K v w' :=
  calls_of_fvc envOk Try.func81 end_notes [] [.pointer p0] w K (use_vc h (by as_aux_lemma => kernel_rfl))
end GRefRd
end Go.Proofs.Ytjjmhmbmjpedkaa
end
section
/- The document's reader: what it takes. -/
namespace Go.Proofs.Ytjjmhmbmjpedkaa
open Go.RowKit
def RfAt (w : World) (g : Nat) (bs : List UInt8) (e : Int) : Prop := Bk w g #[.string (strOf bs), .int .i64 e] 130
theorem RfAt.c0 {w : World} {g : Nat} {bs : List UInt8} {e : Int} (h : RfAt w g bs e) : w.cell? ⟨g, 0, none⟩ = some (.string (strOf bs)) := by rw [Bk.cell h]; rfl
theorem RfAt.c1 {w : World} {g : Nat} {bs : List UInt8} {e : Int} (h : RfAt w g bs e) : w.cell? ⟨g, 0 + 1, none⟩ = some (.int .i64 e) := by rw [Bk.cell h]; rfl
/-- The reader's block alone is written. -/
def F1 (w : World) (g : Nat) (v : Value) (bs : List UInt8) (e : Int) (r : Ending) (w' : World) : Prop :=
  r = .returned v ∧ RfAt w' g bs e ∧ Fr [g] w w' ∧ w'.heap.size = w.heap.size
theorem rf_err {w : World} {g : Nat} {bs : List UInt8} {e : Int} (h : RfAt w g bs e) (k : Int) {K : World → Prop} (hk : ∀ w1, RfAt w1 g bs k → Fr [g] w w1 → w1.heap.size = w.heap.size → K w1) : stO [] w g (0 + 1) [.int .i64 k] K :=
  stO_bk h (by simp) (by simp) fun w1 h1 h2 h3 => hk w1 h1 h2 h3
theorem rf_bytes {w : World} {g : Nat} {bs : List UInt8} {e : Int} (h : RfAt w g bs e) (cs : List UInt8) {K : World → Prop} (hk : ∀ w1, RfAt w1 g cs e → Fr [g] w w1 → w1.heap.size = w.heap.size → K w1) : stO [] w g 0 [.string (strOf cs)] K :=
  stO_bk h (by simp) (by simp) fun w1 h1 h2 h3 => hk w1 h1 h2 h3
theorem grp_shift {i : Nat} (hi : i ≤ 9) : (2 : Int) ^ (min (IntKind.i64.wrap (7 * (i : Int))).toNat (IntKind.bits .u64)) = ((128 ^ i : Nat) : Int) := by
  have H : ∀ i : Fin 10, (2 : Int) ^ (min (IntKind.i64.wrap (7 * (i.val : Int))).toNat (IntKind.bits .u64)) = ((128 ^ i.val : Nat) : Int) := by decide +kernel
  exact H ⟨i, by omega⟩
theorem tk_zero {most : Nat} : ∀ (bs : List UInt8) (i u a n : Nat) (e : Int), tk most i u bs = (a, n, e) → e ≠ 0 → a = 0 ∧ n = 0
  | [], i, u, a, n, e, h, _ => by cases h; exact ⟨rfl, rfl⟩
  | x :: r, i, u, a, n, e, h, he => by
    by_cases hb : i = most ∨ (x.toNat = 0 ∧ 0 < i) ∨ (i = 9 ∧ 1 < x.toNat)
    · rw [tk_bad hb] at h; cases h; exact ⟨rfl, rfl⟩
    · by_cases h2 : 128 ≤ x.toNat
      · rw [tk_more hb h2] at h; exact tk_zero r _ _ _ _ _ h he
      · rw [tk_last hb h2] at h; cases h; exact absurd rfl he
set_option maxRecDepth 100000 in
theorem fgrp_any (g most : Nat) (hm0 : 0 < most) (hm : most ≤ 10) (bs : List UInt8) (w : World) (h : RfAt w g bs 0) (hl : bs.length ≤ 100000000) (u0 n0 : Nat) (e0 : Int) (hr : tk most 0 0 bs = (u0, n0, e0)) :
    Calls Try.prog 92 #[.pointer (some ⟨g, 0, none⟩), .int .i64 most] w (F1 w g (.tuple #[.int .u64 u0, .int .i64 n0]) bs e0) := by
  refine (GRefRd.grp_calls (some ⟨g, 0, none⟩) most w (fun v w' => v = .tuple #[.int .u64 u0, .int .i64 n0] ∧ RfAt w' g bs e0 ∧ Fr [g] w w' ∧ w'.heap.size = w.heap.size) ?_).mono (by rintro e w' ⟨v, rfl, rfl, hb⟩; exact ⟨rfl, hb⟩)
  unfold GRefRd.grp_vc
  refine ⟨fun x y wx => ∃ u i : Nat, x = u ∧ y = i ∧ u < 128 ^ i ∧ i ≤ 9 ∧ i ≤ most ∧ i ≤ bs.length ∧ tk most i u (bs.drop i) = (u0, n0, e0) ∧ w = wx, fun _ y _ => bs.length - y.toNat, ⟨0, 0, rfl, rfl, by decide, by omega, by omega, by omega, hr, rfl⟩, ?_⟩
  rintro x y wx ⟨u, i, rfl, rfl, hu, hi, him, hib, ht, rfl⟩
  have hsz := strOf_size bs
  have fail : ∀ k : Int, (u0, n0, e0) = (0, 0, k) → stO [] w g (0 + 1) [.int .i64 k] fun w3 => Value.tuple #[.int .u64 0, .int .i64 0] = .tuple #[.int .u64 u0, .int .i64 n0] ∧ RfAt w3 g bs e0 ∧ Fr [g] w w3 ∧ w3.heap.size = w.heap.size := by
    intro k hk; cases hk
    exact rf_err h _ fun w1 h1 h2 h3 => ⟨rfl, h1, h2, h3⟩
  refine ⟨_, h.c0, br_dec (fun h1 => fail 3 (by rw [← ht, List.drop_eq_nil_of_le (by omega)]; rfl)) fun h1 => ?_⟩
  have hlt : i < bs.length := by omega
  refine ⟨_, h.c0, by omega, by omega, ?_⟩
  rw [List.drop_eq_getElem_cons hlt] at ht
  have hx : byteAt (strOf bs) (i : Int) = (bs[i].toNat : Int) := by rw [byteAt_strOf]; simp [hlt]
  rw [hx]
  generalize bs[i] = x at *
  refine ⟨fun b wx => b = decide (i = most ∨ (x.toNat = 0 ∧ 0 < i) ∨ (i = 9 ∧ 1 < x.toNat)) ∧ w = wx, ?_, ?_⟩
  · refine br_dec (fun h1 => ⟨(decide_eq_true (by omega)).symm, rfl⟩) fun h1 => br_dec (fun h2 => br_dec (fun h3 => ⟨(decide_eq_true (by omega)).symm, rfl⟩) fun h3 => br_dec (fun h4 => ⟨?_, rfl⟩) fun h4 => ⟨(decide_eq_false (by omega)).symm, rfl⟩) fun h2 => br_dec (fun h4 => ⟨?_, rfl⟩) fun h4 => ⟨(decide_eq_false (by omega)).symm, rfl⟩
    · exact decide_eq_decide.2 (by omega)
    · exact decide_eq_decide.2 (by omega)
  rintro b wx ⟨rfl, rfl⟩
  refine br_dec (fun hb => fail 2 (by rw [← ht, tk_bad hb])) fun hb => ⟨by omega, by rw [wr64 (by omega) (by omega)]; omega, ?_⟩
  rw [grp_shift hi]
  have hx8 : x.toNat < 256 := x.toNat_lt
  have hy : IntKind.u64.wrap (Int.tmod (x.toNat : Int) 128) = ((x.toNat % 128 : Nat) : Int) := by
    rw [Int.tmod_eq_emod_of_nonneg (by omega), wru64 (by omega) (by omega)]; omega
  rw [hy]
  have key : u + x.toNat % 128 * 128 ^ i < 18446744073709551616 ∧ (i ≤ 8 → u + x.toNat % 128 * 128 ^ i < 128 ^ (i + 1)) := by
    have e1 : 128 ^ (i + 1) = 128 * 128 ^ i := by rw [Nat.pow_succ, Nat.mul_comm]
    have k8 : i ≤ 8 → 128 ^ i ≤ 128 ^ 8 := fun h => Nat.pow_le_pow_right (by decide) h
    have k9 : i = 9 → 128 ^ i = 9223372036854775808 := fun h => by subst h; decide
    generalize 128 ^ i = P at *
    have m1 : x.toNat % 128 * P ≤ 127 * P := Nat.mul_le_mul_right _ (by omega)
    refine ⟨?_, fun h8 => by omega⟩
    by_cases h9 : i = 9
    · have := k9 h9
      have m2 : x.toNat % 128 * P ≤ 1 * P := Nat.mul_le_mul_right _ (by omega)
      omega
    · have := k8 (by omega)
      have : (128 : Nat) ^ 8 = 72057594037927936 := by decide
      omega
  have hs : IntKind.u64.wrap (((x.toNat % 128 : Nat) : Int) * ((128 ^ i : Nat) : Int)) = ((x.toNat % 128 * 128 ^ i : Nat) : Int) := by
    rw [← Int.natCast_mul, wru64 (by omega) (by omega)]
  rw [hs]
  have hS : IntKind.u64.wrap ((u : Int) + ((x.toNat % 128 * 128 ^ i : Nat) : Int)) = ((u + x.toNat % 128 * 128 ^ i : Nat) : Int) := by
    rw [wru64 (by omega) (by omega)]; omega
  rw [hS, wr64 (z := (i : Int) + 1) (by omega) (by omega)]
  refine br_dec (fun h2 => ?_) fun h2 => ?_
  · rw [tk_last hb (by omega)] at ht
    cases ht
    exact ⟨rfl, h, Fr.refl _ _, rfl⟩
  · rw [tk_more hb (by omega)] at ht
    exact ⟨⟨_, i + 1, rfl, by omega, key.2 (by omega), by omega, by omega, by omega, ht, rfl⟩, by dsimp only; omega⟩
theorem F1.of {g : Nat} {w : World} {bs : List UInt8} {e : Int} {v : Value} {r : Ending} {w' : World} (h : F1 w g v bs e r w') : r = .returned v ∧ RfAt w' g bs e ∧ Fr [g] w w' ∧ w'.heap.size = w.heap.size := h
theorem fRuint_any (g : Nat) (most : Int) (hm : most ≤ 9223372036854775807) (hm2 : -9223372036854775808 ≤ most) (bs : List UInt8) (e : Int) (w : World) (h : RfAt w g bs e) (hl : bs.length ≤ 100000000) :
    Calls Try.prog 77 #[.pointer (some ⟨g, 0, none⟩), .int .i64 most] w (F1 w g (.int .i64 (rdUint most bs e).1) (rdUint most bs e).2.1 (rdUint most bs e).2.2) := by
  refine (GRefRd.uint_calls (some ⟨g, 0, none⟩) most w (fun v w' => v = .int .i64 (rdUint most bs e).1 ∧ RfAt w' g (rdUint most bs e).2.1 (rdUint most bs e).2.2 ∧ Fr [g] w w' ∧ w'.heap.size = w.heap.size) ?_).mono (by rintro e w' ⟨v, rfl, rfl, hb⟩; exact ⟨rfl, hb⟩)
  unfold GRefRd.uint_vc rdUint
  refine ⟨_, h.c1, br_dec (fun he => ?_) fun he => ?_⟩
  · rw [if_pos he]; exact ⟨rfl, h, Fr.refl _ _, rfl⟩
  rw [if_neg he]
  have he : e = 0 := by omega
  subst he
  obtain ⟨u, n, e0, ht⟩ : ∃ u n e0, tk 9 0 0 bs = (u, n, e0) := ⟨_, _, _, rfl⟩
  refine (fgrp_any g 9 (by decide) (by decide) bs w h hl u n e0 ht).mono ?_
  rintro r w2 ⟨rfl, h2, f2, z2⟩
  refine ⟨keepG_nil _ _, _, _, rfl, _, h2.c1, ?_⟩
  rw [ht]
  refine br_dec (fun h0 => ?_) fun h0 => ?_
  · rw [if_pos h0]; exact ⟨rfl, h2, f2, z2⟩
  rw [if_neg h0]
  have h0 : e0 = 0 := by omega
  subst h0
  have hu := tk9_lt ht
  have hn := tk_enc0 ht
  refine br_dec (fun hneg => ?_) fun hneg => ?_
  · rw [if_pos (.inl hneg)]
    exact rf_err h2 _ fun w3 h3 f3 z3 => ⟨rfl, h3, f2.trans f3 (Gr.refl _ _), by omega⟩
  rw [wru64 (by omega) (by omega)]
  refine br_dec (fun hbig => ?_) fun hbig => ?_
  · rw [if_pos (.inr hbig)]
    exact rf_err h2 _ fun w3 h3 f3 z3 => ⟨rfl, h3, f2.trans f3 (Gr.refl _ _), by omega⟩
  rw [if_neg (by omega)]
  refine ⟨_, h2.c0, by omega, by rw [strOf_size]; omega, ?_⟩
  rw [strOf_extract, strOf_size, List.take_of_length_le (by rw [List.length_drop]; omega), wr64 (by omega) (by omega), Int.toNat_natCast]
  exact rf_bytes h2 _ fun w3 h3 f3 z3 => ⟨rfl, h3, f2.trans f3 (Gr.refl _ _), by omega⟩
theorem fRint_any (g : Nat) (bs : List UInt8) (e : Int) (w : World) (h : RfAt w g bs e) (hl : bs.length ≤ 100000000) :
    Calls Try.prog 79 #[.pointer (some ⟨g, 0, none⟩)] w (F1 w g (.int .i64 (rdInt bs e).1) (rdInt bs e).2.1 (rdInt bs e).2.2) := by
  refine (GRefRd.int_calls (some ⟨g, 0, none⟩) w (fun v w' => v = .int .i64 (rdInt bs e).1 ∧ RfAt w' g (rdInt bs e).2.1 (rdInt bs e).2.2 ∧ Fr [g] w w' ∧ w'.heap.size = w.heap.size) ?_).mono (by rintro e w' ⟨v, rfl, rfl, hb⟩; exact ⟨rfl, hb⟩)
  unfold GRefRd.int_vc rdInt
  refine ⟨_, h.c1, br_dec (fun he => ?_) fun he => ?_⟩
  · rw [if_pos he]; exact ⟨rfl, h, Fr.refl _ _, rfl⟩
  rw [if_neg he]
  have he : e = 0 := by omega
  subst he
  obtain ⟨u, n, e0, ht⟩ : ∃ u n e0, tk 10 0 0 bs = (u, n, e0) := ⟨_, _, _, rfl⟩
  refine (fgrp_any g 10 (by decide) (by decide) bs w h hl u n e0 ht).mono ?_
  rintro r w2 ⟨rfl, h2, f2, z2⟩
  refine ⟨keepG_nil _ _, _, _, rfl, _, h2.c1, ?_⟩
  rw [ht]
  refine br_dec (fun h0 => ?_) fun h0 => ?_
  · rw [if_pos h0]; exact ⟨rfl, h2, f2, z2⟩
  rw [if_neg h0]
  have h0 : e0 = 0 := by omega
  subst h0
  have hu := tk_lt 10 bs 0 0 u n (by omega) (by decide) ht
  have hn := tk_enc0 ht
  refine ⟨_, h2.c0, by omega, by rw [strOf_size]; omega, ?_⟩
  rw [strOf_extract, strOf_size, List.take_of_length_le (by rw [List.length_drop]; omega), Int.toNat_natCast]
  refine rf_bytes h2 _ fun w3 h3 f3 z3 => ⟨by omega, ?_⟩
  have f23 : Fr [g] w w3 := f2.trans f3 (Gr.refl _ _)
  rw [Int.tmod_eq_emod_of_nonneg (by omega), Int.tdiv_eq_ediv_of_nonneg (by omega)]
  unfold zag
  refine br_dec (fun ho => ⟨by omega, ?_, h3, f23, by omega⟩) fun ho => ⟨by omega, ?_, h3, f23, by omega⟩
  · rw [if_pos (by omega)]
    congr 1
    simp only [IntKind.wrap_u64, IntKind.wrap_i64]
    omega
  · rw [if_neg (by omega)]
    congr 1
    simp only [IntKind.wrap_u64, IntKind.wrap_i64]
    omega
theorem fRflag_any (g : Nat) (bs : List UInt8) (e : Int) (w : World) (h : RfAt w g bs e) :
    Calls Try.prog 78 #[.pointer (some ⟨g, 0, none⟩)] w (F1 w g (.bool (rdFlag bs e).1) (rdFlag bs e).2.1 (rdFlag bs e).2.2) := by
  refine (GRefRd.flag_calls (some ⟨g, 0, none⟩) w (fun v w' => v = .bool (rdFlag bs e).1 ∧ RfAt w' g (rdFlag bs e).2.1 (rdFlag bs e).2.2 ∧ Fr [g] w w' ∧ w'.heap.size = w.heap.size) ?_).mono (by rintro e w' ⟨v, rfl, rfl, hb⟩; exact ⟨rfl, hb⟩)
  unfold GRefRd.flag_vc rdFlag
  refine ⟨_, h.c1, br_dec (fun he => ?_) fun he => ?_⟩
  · rw [if_pos he]; exact ⟨rfl, h, Fr.refl _ _, rfl⟩
  rw [if_neg he]
  have he : e = 0 := by omega
  subst he
  refine ⟨_, h.c0, ?_⟩
  cases bs with
  | nil => exact br_y rfl (rf_err h _ fun w3 h3 f3 z3 => ⟨rfl, h3, f3, z3⟩)
  | cons x r =>
    have hsz : (strOf (x :: r)).size = r.length + 1 := rfl
    have hb : byteAt (strOf (x :: r)) 0 = (x.toNat : Int) := byteAt_strOf (x :: r) 0
    refine br_n (by omega) ⟨_, h.c0, by omega, by omega, ?_⟩
    rw [hb]
    dsimp only
    refine br_dec (fun h1 => ?_) fun h1 => ?_
    · rw [if_pos (by omega)]
      exact rf_err h _ fun w3 h3 f3 z3 => ⟨rfl, h3, f3, z3⟩
    rw [if_neg (by omega)]
    refine ⟨_, h.c0, by omega, by omega, _, h.c0, by omega, by omega, ?_⟩
    rw [hb]
    rw [strOf_extract, hsz, List.take_of_length_le (by simp)]
    refine rf_bytes h _ fun w3 h3 f3 z3 => ⟨?_, h3, f3, z3⟩
    congr 1
    exact decide_eq_decide.2 (by omega)
theorem fRtext_any (g : Nat) (most : Int) (hm : most ≤ 9223372036854775807) (hm2 : -9223372036854775808 ≤ most) (bs : List UInt8) (e : Int) (w : World) (h : RfAt w g bs e) (hl : bs.length ≤ 100000000) :
    Calls Try.prog 80 #[.pointer (some ⟨g, 0, none⟩), .int .i64 most] w (F1 w g (.string (strOf (rdText most bs e).1)) (rdText most bs e).2.1 (rdText most bs e).2.2) := by
  refine (GRefRd.text_calls (some ⟨g, 0, none⟩) most w (fun v w' => v = .string (strOf (rdText most bs e).1) ∧ RfAt w' g (rdText most bs e).2.1 (rdText most bs e).2.2 ∧ Fr [g] w w' ∧ w'.heap.size = w.heap.size) ?_).mono (by rintro e w' ⟨v, rfl, rfl, hb⟩; exact ⟨rfl, hb⟩)
  unfold GRefRd.text_vc
  refine ⟨_, h.c0, (fRuint_any g most hm hm2 bs e w h hl).mono ?_⟩
  rintro r w2 ⟨rfl, h2, f2, z2⟩
  refine ⟨keepG_nil _ _, _, rfl, _, h2.c1, ?_⟩
  have hr := rdUint_range most bs e
  have hlen := rdLenU most bs e
  unfold rdText
  by_cases he : e = 0
  · subst he
    rw [if_neg (by omega)]
    dsimp only
    generalize rdUint most bs 0 = q at *
    obtain ⟨z, cs, e1⟩ := q
    dsimp only at *
    refine br_dec (fun h1 => ?_) fun h1 => ?_
    · rw [if_pos h1]; exact ⟨rfl, h2, f2, z2⟩
    rw [if_neg h1]
    have h1 : e1 = 0 := by omega
    subst h1
    have hsz := strOf_size cs
    refine ⟨_, h2.c0, br_dec (fun h3 => ?_) fun h3 => ?_⟩
    · rw [if_pos (by omega)]
      refine rf_bytes h2 bs fun w3 h3 f3 z3 => rf_err h3 _ fun w4 h4 f4 z4 => ⟨rfl, h4, (f2.trans f3 (Gr.refl _ _)).trans f4 (Gr.refl _ _), by omega⟩
    rw [if_neg (by omega)]
    refine ⟨_, h2.c0, by omega, by omega, _, h2.c0, by omega, by omega, ?_⟩
    rw [strOf_extract, strOf_extract, hsz, List.take_of_length_le (by rw [List.length_drop]; omega)]
    exact rf_bytes h2 _ fun w3 h3 f3 z3 => ⟨rfl, h3, f2.trans f3 (Gr.refl _ _), by omega⟩
  · rw [if_pos he]
    have hq : rdUint most bs e = (0, bs, e) := by unfold rdUint; rw [if_pos he]
    rw [hq] at h2 ⊢
    exact br_y he ⟨rfl, h2, f2, z2⟩
theorem strOf_nil (bs : List UInt8) : (strOf bs ≠ (⟨#[]⟩ : ByteArray)) ↔ bs ≠ [] := by
  refine not_congr ⟨fun h => ?_, fun h => by subst h; rfl⟩
  have := congrArg ByteArray.size h
  exact List.eq_nil_of_length_eq_zero this
theorem fRend_any (g : Nat) (bs : List UInt8) (e : Int) (w : World) (h : RfAt w g bs e) :
    Calls Try.prog 81 #[.pointer (some ⟨g, 0, none⟩)] w fun r w' => r = .returned (.int .i64 (rdEnd bs e)) ∧ w = w' := by
  refine (GRefRd.end_calls (some ⟨g, 0, none⟩) w (fun v w' => v = .int .i64 (rdEnd bs e) ∧ w = w') ?_).mono (by rintro e w' ⟨v, rfl, rfl, rfl⟩; exact ⟨rfl, rfl⟩)
  unfold GRefRd.end_vc rdEnd
  refine ⟨_, h.c1, br_dec (fun he => ?_) fun he => ?_⟩
  · refine ⟨_, h.c0, br_dec (fun h1 => ?_) fun h1 => ⟨_, h.c1, ?_, rfl⟩⟩
    · rw [if_pos ⟨he, (strOf_nil bs).1 h1⟩]; exact ⟨rfl, rfl⟩
    · rw [if_neg (fun h2 => h1 ((strOf_nil bs).2 h2.2))]
  · exact ⟨_, h.c1, by rw [if_neg (fun h2 => he h2.1)], rfl⟩
end Go.Proofs.Ytjjmhmbmjpedkaa
end
section
/- A window is read by the document; walked. -/
namespace Go.Proofs.Ytjjmhmbmjpedkaa
open Go.RowKit
theorem own_not {w : World} {g : Nat} {cs : Array Value} {t e : TypeId} {size n : Nat} {v : Value} {xs : List Value} (h1 : Bk w g cs t) (h2 : Own w 0 e size v n xs) (hne : t ≠ e) : v.ownBlock ≠ some g := by
  intro h
  rcases h2.2 with ⟨rfl, _⟩ | ⟨g', off, cap, cur, rfl, hb, hg, _⟩
  · cases h
  · simp [Value.ownBlock] at h
    subst h
    unfold Bk at h1
    rw [h1] at hg
    injection hg with hg
    injection hg with h3 h4 h5
    exact hne h4
theorem lastNum_at {es : List Ent} {i : Nat} (h : es.length = i + 1) : ∃ e, es[i]? = some e ∧ lastNum es = e.num := by
  have hlt : i < es.length := by omega
  refine ⟨es[i], List.getElem?_eq_getElem hlt, ?_⟩
  unfold lastNum
  rw [List.getLast?_eq_getElem?, h, Nat.add_sub_cancel, List.getElem?_eq_getElem hlt]
set_option maxRecDepth 10000 in
theorem rRead_any (bs : List UInt8) (w : World) (hl : bs.length ≤ 100000000) :
    Calls Try.prog 47 #[.string (strOf bs)] w fun e w' => ∃ p b, e = .returned (.tuple #[.pointer p, .bool b]) ∧ (b = true ↔ rdOk bs) ∧ Below w.heap.size w w' := by
  refine (GWinWr.rRead_calls (strOf bs) w (fun v w' => ∃ p b, v = .tuple #[.pointer p, .bool b] ∧ (b = true ↔ rdOk bs) ∧ Below w.heap.size w w') ?_).mono (by rintro e w' ⟨v, rfl, p, b, rfl, hb⟩; exact ⟨p, b, rfl, hb⟩)
  unfold GWinWr.rRead_vc
  obtain ⟨m, f, l, n, cs, e0, hH⟩ : ∃ m f l n cs e0, rdHead bs = (m, f, l, n, cs, e0) := ⟨_, _, _, _, _, _, rfl⟩
  have hrg := rdHead_range bs
  rw [hH] at hrg
  have hOk : rdOk bs ↔ (rdAll bs).ok = true ∧ lastNum (rdAll bs).es = l ∧ rdEnd (rdAll bs).bs (rdAll bs).e = 0 := by unfold rdOk; rw [hH]
  have hL := rdLenU 64 (rdInt (rdFlag (rdUint 64 bs 0).2.1 (rdUint 64 bs 0).2.2).2.1 (rdFlag (rdUint 64 bs 0).2.1 (rdUint 64 bs 0).2.2).2.2).2.1 (rdInt (rdFlag (rdUint 64 bs 0).2.1 (rdUint 64 bs 0).2.2).2.1 (rdFlag (rdUint 64 bs 0).2.1 (rdUint 64 bs 0).2.2).2.2).2.2
  have hA : rdAll bs = rdIter m f n ⟨decide (1 ≤ m) && decide (n ≤ m), [], cs, e0⟩ n.toNat := by unfold rdAll; rw [hH]
  unfold rdHead at hH
  dsimp only at hH
  refine newO_in fun w2 n2 b2 s2 => ?_
  have R2 : RfAt w2 w.heap.size bs 0 := n2
  generalize hg : w.heap.size = g at *
  refine (fRuint_any g 64 (by decide) (by decide) bs 0 w2 R2 hl).mono ?_
  rintro e w3 ⟨rfl, R3, f3, z3⟩
  have l3 := rdLenU 64 bs 0
  generalize rdUint 64 bs 0 = q at *
  obtain ⟨m', bs3, e3⟩ := q
  dsimp only at *
  refine ⟨keepG_nil _ _, _, rfl, newO_in fun w4 n4 b4 s4 => ?_⟩
  have B4 : Bk w4 w3.heap.size #[.int .i64 m', .bool false, .slice none 0 0] 61 := n4
  generalize hp : w3.heap.size = p at *
  have gp : g ≠ p := by omega
  have R4 : RfAt w4 g bs3 e3 := Bk.keep R3 (b4.block _ (by omega))
  refine (fRflag_any g bs3 e3 w4 R4).mono ?_
  rintro e w5 ⟨rfl, R5, f5, z5⟩
  have l5 := flag_len (bs := bs3) (e := e3)
  generalize rdFlag bs3 e3 = q at *
  obtain ⟨f', bs5, e5⟩ := q
  dsimp only at *
  have kp : ∀ {wa wb : World}, Fr [g] wa wb → p < wa.heap.size → wb.heap[p]? = wa.heap[p]? := fun f h => f.block _ h (by rw [List.mem_singleton]; exact fun e => gp e.symm)
  have B5 := B4.keep (kp f5 (by omega))
  refine ⟨keepG_nil _ _, _, rfl, stO_bk B5 (by simp) (by simp) fun w6 B6 f6 z6 => ?_⟩
  have R6 : RfAt w6 g bs5 e5 := Bk.keep R5 (f6.block _ (by omega) (by rw [List.mem_singleton]; exact gp))
  refine (fRint_any g bs5 e5 w6 R6 (by omega)).mono ?_
  rintro e w7 ⟨rfl, R7, f7, z7⟩
  have l7 := rdLen bs5 e5
  generalize rdInt bs5 e5 = q at *
  obtain ⟨l', bs7, e7⟩ := q
  dsimp only at *
  have B7 := B6.keep (kp f7 (by omega))
  refine ⟨keepG_nil _ _, _, rfl, (fRuint_any g 64 (by decide) (by decide) bs7 e7 w7 R7 (by omega)).mono ?_⟩
  rintro e w8 ⟨rfl, R8, f8, z8⟩
  have B8 := B7.keep (kp f8 (by omega))
  generalize rdUint 64 bs7 e7 = q at *
  obtain ⟨n', cs', e8⟩ := q
  obtain ⟨rfl, rfl, rfl, rfl, rfl, rfl⟩ : m = m' ∧ f = f' ∧ l = l' ∧ n = n' ∧ cs = cs' ∧ e0 = e8 := by
    simp only [Prod.mk.injEq] at hH
    obtain ⟨h1, h2, h3, h4, h5, h6⟩ := hH
    exact ⟨h1.symm, h2.symm, h3.symm, h4.symm, h5.symm, h6.symm⟩
  dsimp only at *
  have fg : From g [g] := fun k hk => by rw [List.mem_singleton] at hk; omega
  have fp : From g [p] := fun k hk => by rw [List.mem_singleton] at hk; omega
  have BB8 : Below g w w8 := ((((b2.trans (f3.below fg (by omega))).trans (b4.mono (by omega))).trans (f5.below fg (by omega))).trans (f6.below fp (by omega))).trans ((f7.below fg (by omega)).trans (f8.below fg (by omega)))
  refine ⟨keepG_nil _ _, _, rfl, ?_⟩
  refine ⟨fun b wx => b = (decide (1 ≤ m) && decide (n ≤ m)) ∧ w8 = wx, ?_, ?_⟩
  · refine ⟨m, by rw [B8.cell]; rfl, br_dec (fun h1 => ⟨m, by rw [B8.cell]; rfl, ?_, rfl⟩) fun h1 => ⟨?_, rfl⟩⟩
    · rw [decide_eq_true (show 1 ≤ m from h1), Bool.true_and]
    · rw [decide_eq_false (show ¬ 1 ≤ m from h1), Bool.false_and]
  rintro b wx ⟨rfl, rfl⟩
  generalize hr0 : (⟨decide (1 ≤ m) && decide (n ≤ m), [], cs, e0⟩ : RdS) = r0 at *
  have hbs : ∀ i, (rdIter m f n r0 i).bs.length ≤ 100000000 := fun i => by
    have := iter_bs m f n r0 i
    rw [← hr0] at this ⊢
    dsimp only at this
    omega
  have hnum : ∀ i, ∀ e ∈ (rdIter m f n r0 i).es, e.ok := fun i => iter_num m f n r0 (by rw [← hr0]; simp) i
  have hlen : ∀ i, (rdIter m f n r0 i).es.length = i := fun i => by rw [iter_len, ← hr0]; simp
  have hokat : ∀ i, i ≤ n.toNat → (rdAll bs).ok = true → (rdIter m f n r0 i).ok = true := fun i hi h => by rw [hA] at h; exact iter_okAt m f n r0 i _ hi h
  have hdead : ∀ i, i ≤ n.toNat → (rdIter m f n r0 i).e ≠ 0 → ¬ rdOk bs := fun i hi h hk => by
    have h1 := iter_dead m f n r0 i h n.toNat hi
    have h2 := (hOk.1 hk).2.2
    rw [hA, end_dead h1] at h2
    exact h1 h2
  refine ⟨fun b x wx => ∃ i : Nat, x = i ∧ i ≤ n ∧ b = (rdIter m f n r0 i).ok ∧ RfAt wx g (rdIter m f n r0 i).bs (rdIter m f n r0 i).e ∧ (∃ a c, Bk wx p #[.int .i64 m, .bool f, .slice a (rdIter m f n r0 i).es.length c] 61 ∧ Own wx g 116 3 (.slice a (rdIter m f n r0 i).es.length c) (rdIter m f n r0 i).es.length (rRow (rdIter m f n r0 i).es)) ∧ Below g w wx ∧ p < wx.heap.size, fun _ x _ => n.toNat - x.toNat, ?_, ?_⟩
  · refine ⟨0, rfl, by omega, by rw [← hr0]; rfl, by rw [← hr0]; exact R8, ⟨none, 0, ?_⟩, BB8, by omega⟩
    rw [← hr0]
    exact ⟨B8, Own.nil _ _ _ _⟩
  rintro b x wx ⟨i, rfl, hi, rfl, hR, ⟨a, c, hB, hO⟩, hb, hsz⟩
  have hlr := lastNum_range (hnum i)
  refine ⟨fun b wy => b = decide ((i : Int) < n ∧ (rdIter m f n r0 i).e = 0) ∧ wx = wy, ?_, ?_⟩
  · refine br_dec (fun h1 => ⟨_, hR.c1, ?_, rfl⟩) fun h1 => ⟨(decide_eq_false (fun h => h1 h.1)).symm, rfl⟩
    exact decide_eq_decide.2 ⟨fun h => ⟨h1, h⟩, fun h => h.2⟩
  rintro b wy ⟨rfl, rfl⟩
  refine br_dec (fun hlt => ?_) fun hge => ?_
  · obtain ⟨hlt, he0⟩ := hlt
    have hbs0 := hbs i
    have hlen0 := hlen i
    have hi1 : rdIter m f n r0 (i + 1) = rdStep m f n (rdIter m f n r0 i) := rfl
    generalize rdIter m f n r0 i = s at *
    refine (fRuint_any g 4611686018427387904 (by decide) (by decide) _ _ wx hR hbs0).mono ?_
    rintro e w12 ⟨rfl, R12, f12, z12⟩
    have hxl := rdLenU 4611686018427387904 s.bs s.e
    have hE : rdEnt s.bs s.e = (⟨(rdUint 4611686018427387904 s.bs s.e).1, (rdText 65536 (rdUint 4611686018427387904 s.bs s.e).2.1 (rdUint 4611686018427387904 s.bs s.e).2.2).1, (rdText 65536 (rdText 65536 (rdUint 4611686018427387904 s.bs s.e).2.1 (rdUint 4611686018427387904 s.bs s.e).2.2).2.1 (rdText 65536 (rdUint 4611686018427387904 s.bs s.e).2.1 (rdUint 4611686018427387904 s.bs s.e).2.2).2.2).1⟩, (rdText 65536 (rdText 65536 (rdUint 4611686018427387904 s.bs s.e).2.1 (rdUint 4611686018427387904 s.bs s.e).2.2).2.1 (rdText 65536 (rdUint 4611686018427387904 s.bs s.e).2.1 (rdUint 4611686018427387904 s.bs s.e).2.2).2.2).2.1, (rdText 65536 (rdText 65536 (rdUint 4611686018427387904 s.bs s.e).2.1 (rdUint 4611686018427387904 s.bs s.e).2.2).2.1 (rdText 65536 (rdUint 4611686018427387904 s.bs s.e).2.1 (rdUint 4611686018427387904 s.bs s.e).2.2).2.2).2.2) := rfl
    generalize rdUint 4611686018427387904 s.bs s.e = x at *
    obtain ⟨xn, xb, xe⟩ := x
    dsimp only at *
    have hgl : g < wx.heap.size := Bk.lt hR
    refine ⟨keepG_nil _ _, _, rfl, newO_in fun w13 n13 b13 s13 w14 bs14 => ?_⟩
    have ne3 : ∀ {k : Nat}, k < w12.heap.size → k ∉ [w12.heap.size] := fun h hm => by rw [List.mem_singleton] at hm; omega
    have g3g : ∀ k ∈ [w12.heap.size], k ∉ [g] := fun k h1 h2 => by rw [List.mem_singleton] at h1 h2; omega
    have z14 := bs14.2
    have R14 : RfAt w14 g xb xe := Bk.keep (Bk.keep R12 (b13.block _ (by omega))) (bs14.1.block _ (by omega) (ne3 (by omega)))
    have hq := (text_len (most := 65536) (bs := xb) (e := xe))
    refine (fRtext_any g 65536 (by decide) (by decide) _ _ w14 R14 (by omega)).mono ?_
    rintro e w15 ⟨rfl, R15, f15, z15⟩
    generalize rdText 65536 xb xe = q at *
    obtain ⟨qt, qb, qe⟩ := q
    dsimp only at *
    refine ⟨keepG_fr f15 g3g, _, rfl, fun w16 bs16 => ?_⟩
    have z16 := bs16.2
    have R16 : RfAt w16 g qb qe := Bk.keep R15 (bs16.1.block _ (by omega) (ne3 (by omega)))
    refine (fRtext_any g 65536 (by decide) (by decide) _ _ w16 R16 (by omega)).mono ?_
    rintro e w17 ⟨rfl, R17, f17, z17⟩
    generalize rdText 65536 qb qe = t at *
    obtain ⟨tt, tb, te⟩ := t
    dsimp only at *
    refine ⟨keepG_fr f17 g3g, _, rfl, fun w18 bs18 => ?_⟩
    have z18 := bs18.2
    have R18 : RfAt w18 g tb te := Bk.keep R17 (bs18.1.block _ (by omega) (ne3 (by omega)))
    have gI : Gr [g] [w12.heap.size] wx.heap.size := fun k hk => by rw [List.mem_singleton] at hk; exact .inr (by omega)
    have F18 : Fr [g] wx w18 := (((((f12.trans (Fr.ofBelow (L := [g]) b13) (Gr.refl _ _)).trans bs14.1 gI).trans f15 (Gr.refl _ _)).trans bs16.1 gI).trans f17 (Gr.refl _ _)).trans bs18.1 gI
    have B18 := hB.keep (kp F18 hsz)
    have nog := own_not hR (hO.base_le fun _ _ => Nat.zero_le _) (by decide)
    have O18 := hO.keep (w' := w18) fun k hk => F18.block k (hO.lt k hk).2 (by rw [List.mem_singleton]; rintro rfl; exact nog hk)
    refine ⟨fun b wy => b = (s.ok && folOk m f n s.es xn) ∧ Below w18.heap.size w18 wy, ?_, ?_⟩
    · refine br_dec (fun h0 => drewO_in fun w19 b19 _ => ?_) fun h0 => ?_
      · obtain ⟨j, rfl⟩ : ∃ j, i = j + 1 := ⟨i - 1, by omega⟩
        obtain ⟨e1, he1, hl1⟩ := lastNum_at hlen0
        have B19 := B18.keep (b19.block _ B18.lt)
        obtain ⟨b1, off, rfl, _, hc⟩ := ref_cell ((O18.below b19 (Nat.le_refl _)).base_le fun _ _ => Nat.zero_le _) he1
        have hc0 := hc 0 (by omega)
        have hfol : folOk m f n s.es xn = if f = true then decide (xn = lastNum s.es + 1) else decide (xn > lastNum s.es) := by unfold folOk; rw [if_neg (by omega), if_neg (by omega)]
        rw [hl1] at hfol hlr
        have c1 : w19.cell? ⟨p, 1, none⟩ = some (.bool f) := by rw [B19.cell]; rfl
        have c2 : w19.cell? ⟨p, 2, none⟩ = some (.slice (some ⟨b1, off, none⟩) s.es.length c) := by rw [B19.cell]; rfl
        rw [wr64 (z := ((j + 1 : Nat) : Int) - 1) (by omega) (by omega), show ((j + 1 : Nat) : Int) - 1 = (j : Int) by omega, Int.toNat_natCast]
        refine br_split.2 ⟨fun hs => ⟨f, c1, br_split.2 ⟨fun hf => ?_, fun hf => ?_⟩⟩, fun hs => ⟨by rw [hs]; rfl, b19⟩⟩
        · rw [if_pos hf] at hfol
          rw [hs, hfol, Bool.true_and]
          refine ⟨_, _, _, c2, by omega, by omega, e1.num, hc0, ?_⟩
          rw [wr64 (by omega) (by omega)]
          exact br_dec (fun h => ⟨(decide_eq_true h).symm, b19⟩) fun h => ⟨f, c1, br_f (by rw [hf]; rfl) ⟨(decide_eq_false h).symm, b19⟩⟩
        · rw [if_neg (by rw [hf]; decide)] at hfol
          rw [hs, hfol, Bool.true_and]
          exact ⟨f, c1, br_t (by rw [hf]; rfl) ⟨_, _, _, c2, by omega, by omega, e1.num, hc0, rfl, b19⟩⟩
      · have hz : s.es.length = 0 := by omega
        have c1 : w18.cell? ⟨p, 1, none⟩ = some (.bool f) := by rw [B18.cell]; rfl
        unfold folOk
        refine ⟨f, c1, br_split.2 ⟨fun hf => ⟨m, by rw [B18.cell]; rfl, br_dec (fun hc => ?_) fun hc => ?_⟩, fun hf => ?_⟩⟩
        · rw [if_pos ⟨hz, hf, hc⟩]
          exact br_split.2 ⟨fun hs => ⟨by rw [hs, Bool.true_and], Below.refl _ _⟩, fun hs => ⟨by rw [hs, Bool.false_and], Below.refl _ _⟩⟩
        · rw [if_neg (fun h => hc h.2.2), if_pos hz, Bool.and_true]
          exact ⟨rfl, Below.refl _ _⟩
        · rw [if_neg (fun h => by rw [hf] at h; cases h.2.1), if_pos hz, Bool.and_true]
          exact ⟨rfl, Below.refl _ _⟩
    rintro b wy ⟨rfl, bwy⟩
    refine drewO_in fun w21 b21 _ => ?_
    have b1821 : Below w18.heap.size w18 w21 := bwy.trans (b21.mono bwy.size)
    have B21 := B18.keep (b1821.block _ B18.lt)
    have O21 := O18.below b1821 (Nat.le_refl _)
    have z21 := b1821.size
    refine ⟨a, s.es.length, c, by rw [B21.cell]; rfl, newO_in fun w22 n22 b22 s22 => ?_⟩
    have b1822 : Below w18.heap.size w18 w22 := b1821.trans (b22.mono b1821.size)
    have B22 := B18.keep (b1822.block _ B18.lt)
    have O22 := O18.below b1822 (Nat.le_refl _)
    have R22 : RfAt w22 g tb te := Bk.keep R18 (b1822.block _ (Bk.lt R18))
    have O22b := O22.base_le (b' := 0) fun _ _ => Nat.zero_le _
    refine ⟨by rw [B22.cell]; rfl, 1, rRow s.es, rCells ⟨xn, qt, tt⟩, O22b, src_block Try.underlying59 (n := 1) (size := 3) n22 rfl rfl, by unfold maxLen; omega, by omega, fun k hk e => ?_, ?_⟩
    · rw [List.mem_singleton] at hk; subst hk
      have := (hO.lt _ e).2; omega
    intro a23 c23 w23 o23 g23 hor
    have nop := own_not B22 O22b (by decide)
    have z23 := g23.size
    have B23 := B22.keep (g23.block p B22.lt fun e => nop e.symm)
    refine stO_bk B23 (by simp) (fun k hk => by rw [List.mem_singleton] at hk; omega) fun w24 B24 f24 z24 => ?_
    have R24 : RfAt w24 g tb te := Bk.keep (Bk.keep R22 (g23.block g (Bk.lt R22) fun e => nog e.symm)) (f24.block g (by omega) (by rw [List.mem_singleton]; exact gp))
    have nop3 := own_not B23 o23 (by decide)
    have O24 := (o23.keep (w' := w24) fun k hk => f24.block k (o23.lt k hk).2 (by rw [List.mem_singleton]; rintro rfl; exact nop3 hk)).base_le (b' := g) fun k hk => by
      rcases hor with h1 | ⟨g', h1, h2⟩
      · exact (O22.lt k (h1 ▸ hk)).1
      · rw [h1] at hk; injection hk with hk; omega
    have h22 : Below g w w22 := (hb.trans (F18.below fg (by omega))).trans (b1822.mono (by omega))
    have BB24 : Below g w w24 := (below_grown h22 (by omega) g23 fun k hk => (O22.lt k hk).1).trans (f24.below fp (by omega))
    rw [wr64 (by omega) (by omega)]
    refine ⟨⟨i + 1, by omega, by omega, ?_, ?_, ?_, BB24, by omega⟩, ?_⟩
    · rw [hi1]; unfold rdStep; rw [hE]
    · rw [hi1]; unfold rdStep; rw [hE]; exact R24
    · rw [hi1]; unfold rdStep; rw [hE]
      refine ⟨a23, c23, ?_, ?_⟩
      · rw [List.length_append]; exact B24
      · rw [List.length_append, rRow_app]; exact O24
    · (try dsimp only)
      omega
  · have cont : (rdIter m f n r0 i).e = 0 → i = n.toNat := fun h => by
      have : ¬ (i : Int) < n := fun h2 => hge ⟨h2, h⟩
      omega
    refine br_split.2 ⟨fun hs => (fRend_any g _ _ wx hR).mono ?_, fun hs => ⟨_, _, rfl, ⟨fun h => (by cases h), fun h => (by have := hokat i (by omega) (hOk.1 h).1; rw [hs] at this; cases this)⟩, hb⟩⟩
    rintro e w25 ⟨rfl, rfl⟩
    refine ⟨keepG_nil _ _, _, rfl, br_dec (fun he => ?_) fun he => ?_⟩
    · obtain ⟨he0, hnil⟩ := end_zero he
      obtain rfl := cont he0
      refine (rLast_raw p m f _ a c wx hB (hO.base_le fun _ _ => Nat.zero_le _) (by rw [hlen]; omega)).mono ?_
      rintro e w26 ⟨rfl, b26⟩
      refine ⟨keepG_nil _ _, _, rfl, _, _, rfl, ?_, hb.trans (b26.mono (by have := hb.size; omega))⟩
      rw [decide_eq_true_eq, hOk, hA]
      exact ⟨fun h => ⟨hs, h.symm, he⟩, fun h => h.2.1.symm⟩
    · refine ⟨_, _, rfl, ⟨fun h => (by cases h), fun h => ?_⟩, hb⟩
      by_cases h0 : (rdIter m f n r0 i).e = 0
      · obtain rfl := cont h0
        rw [← hA] at he
        exact absurd (hOk.1 h).2.2 he
      · exact absurd h (hdead i (by omega) h0)
end Go.Proofs.Ytjjmhmbmjpedkaa
end
section
/- Data that came in, opened by their shape. No program in sight. -/
namespace Go.Proofs.Ytjjmhmbmjpedkaa
open Go.RowKit Go.WideShapes Go.ChangeShapes
/-- What a type looks like; a struct's fields one behind the other: offset, cells, shape. -/
inductive Sh where
  | int (k : IntKind)
  | bool
  | str
  | slice (e : Sh) (n : Nat)
  | arr (len : Nat) (e : Sh) (n : Nat)
  | agg (fs : Sh)
  | fnil
  | fcons (off n : Nat) (f r : Sh)
mutual
def fitsB (P : Program) : Sh → TypeId → Bool
  | .int k, t => match P.underlying t with | some (.int k') => k == k' | _ => false
  | .bool, t => match P.underlying t with | some .bool => true | _ => false
  | .str, t => match P.underlying t with | some .string => true | _ => false
  | .slice e n, t => match P.underlying t with | some (.slice et) => P.cellsOf et == n && fitsB P e et | _ => false
  | .arr len e n, t => match P.underlying t with | some (.array l et) => l == len && P.cellsOf et == n && fitsB P e et | _ => false
  | .agg fs, t => match P.underlying t with | some (.struct fl) => fitsF P fs fl 0 | _ => false
  | .fnil, _ => false
  | .fcons _ _ _ _, _ => false
def fitsF (P : Program) : Sh → Array Field → Nat → Bool
  | .fnil, _, _ => true
  | .fcons off n f r, fl, i => (match fl[i]? with | some fd => fd.offset == off && P.cellsOf fd.type == n && fitsB P f fd.type | none => false) && fitsF P r fl (i + 1)
  | _, _, _ => false
end
/-- What the cells of a shape hold, in a world. -/
def Sh.Has (w : World) : Sh → List Value → Prop
  | .int k, cs => ∃ z, cs = [.int k z] ∧ (Lit.int k z).wf = true
  | .bool, cs => ∃ b, cs = [.bool b]
  | .str, cs => ∃ s : ByteArray, cs = [.string s] ∧ s.size ≤ maxLen
  | .slice e n, cs => cs = [.slice none 0 0] ∨ ∃ a len cap, cs = [.slice (some a) len cap] ∧ len ≤ cap ∧ cap ≤ maxLen ∧ ∀ i, i < len → ∃ cs', (cs'.length = n ∧ ∀ j, j < n → w.cell? (a.add (i * n + j)) = cs'[j]?) ∧ e.Has w cs'
  | .arr len e n, cs => ∀ i, i < len → e.Has w ((cs.drop (i * n)).take n)
  | .agg fs, cs => fs.Has w cs
  | .fnil, _ => True
  | .fcons off n f r, cs => f.Has w ((cs.drop off).take n) ∧ r.Has w cs
section
variable {H : Type} {enc : TypeId × Value → H} {P : Program} {W : World}
mutual
theorem has_of (sh : Sh) : ∀ (t : TypeId) (fuel : Nat) (cs : List Value) (x : DataW H × List MemPlace), fitsB P sh t = true → DataW.trod enc P W 0 (fun _ => true) true fuel t cs = some x → sh.Has W cs := by
  intro t fuel cs x hf h
  cases sh with
  | int k =>
    simp only [fitsB] at hf
    split at hf
    · rename_i k' hu
      have : k = k' := eq_of_beq hf
      subst this
      obtain ⟨n, h1, _, h2⟩ := DataW.trod_int hu h
      exact ⟨n, h1, h2⟩
    · cases hf
  | bool =>
    simp only [fitsB] at hf
    split at hf
    · rename_i hu
      obtain ⟨b, h1, _⟩ := DataW.trod_bool hu h
      exact ⟨b, h1⟩
    · cases hf
  | str =>
    simp only [fitsB] at hf
    split at hf
    · rename_i hu
      obtain ⟨s, h1, _, h2⟩ := DataW.trod_string hu h
      exact ⟨s, h1, h2⟩
    · cases hf
  | slice e n =>
    simp only [fitsB] at hf
    split at hf
    · rename_i et hu
      rw [Bool.and_eq_true] at hf
      have hn : P.cellsOf et = n := eq_of_beq hf.1
      rcases Deep.open_slice hu h with ⟨h1, _⟩ | ⟨a, len, cap, m, nf, D, Pl, h1, _, hl, hm, hmm, _, hall⟩
      · exact .inl h1
      · refine .inr ⟨a, len, cap, h1, hl, hm, fun i hi => ?_⟩
        simp only [if_true] at hmm
        obtain ⟨cs', hc, ht⟩ := hall i (by omega)
        rw [hn] at hc
        obtain ⟨_, c1, c2⟩ := World.cells?_some hc
        refine ⟨cs', ⟨c1, fun j hj => ?_⟩, has_of e et _ _ _ hf.2 ht⟩
        rw [← c2 j hj, Addr.add_add]
    · cases hf
  | arr len e n =>
    simp only [fitsB] at hf
    split at hf
    · rename_i l et hu
      rw [Bool.and_eq_true, Bool.and_eq_true] at hf
      have hl : l = len := eq_of_beq hf.1.1
      have hn : P.cellsOf et = n := eq_of_beq hf.1.2
      subst hl
      obtain ⟨xs, m, _, _, _, hxl, hall⟩ := DataW.trod_array hu h
      intro i hi
      have := hall i hi
      rw [hn] at this
      rw [List.getElem?_eq_getElem (by omega)] at this
      exact has_of e et _ _ _ hf.2 this
    · cases hf
  | agg fs =>
    simp only [fitsB] at hf
    split at hf
    · rename_i fl hu
      obtain ⟨xs, n, _, _, _, hxl, hall⟩ := DataW.trod_struct hu h
      exact hasF_of fs fl 0 n cs xs hf hxl hall
    · cases hf
  | fnil => simp [fitsB] at hf
  | fcons off n f r => simp [fitsB] at hf
theorem hasF_of (sh : Sh) : ∀ (fl : Array Field) (i n : Nat) (cs : List Value) (xs : List (DataW H × List MemPlace)), fitsF P sh fl i = true → xs.length = fl.size →
    (∀ (i : Nat) (f : Field), fl[i]? = some f → DataW.trod enc P W 0 (fun _ => true) true n f.type ((cs.drop f.offset).take (P.cellsOf f.type)) = xs[i]?) → sh.Has W cs := by
  intro fl i n cs xs hf hl hall
  cases sh with
  | fnil => trivial
  | fcons off m f r =>
    simp only [fitsF, Bool.and_eq_true] at hf
    obtain ⟨h1, h2⟩ := hf
    refine ⟨?_, hasF_of r fl (i + 1) n cs xs h2 hl hall⟩
    split at h1
    · rename_i fd hfd
      rw [Bool.and_eq_true, Bool.and_eq_true] at h1
      have ho : fd.offset = off := eq_of_beq h1.1.1
      have hm : P.cellsOf fd.type = m := eq_of_beq h1.1.2
      have ht := hall i fd hfd
      have hi : i < xs.length := by rw [hl]; exact (Array.getElem?_eq_some_iff.1 hfd).1
      rw [List.getElem?_eq_getElem hi, ho, hm] at ht
      exact has_of f fd.type _ _ _ h1.2 ht
    · cases h1
  | int k => simp [fitsF] at hf
  | bool => simp [fitsF] at hf
  | str => simp [fitsF] at hf
  | slice e n => simp [fitsF] at hf
  | arr l e n => simp [fitsF] at hf
  | agg fs => simp [fitsF] at hf
end
theorem open_sh {sh : Sh} {t : TypeId} {v : Value} {d : DataW H} {p : List MemPlace} (hf : fitsB P sh t = true) (h : DataW.Trod enc P W 0 (fun _ => true) true t v d p) : sh.Has W v.cells.toList := by
  obtain ⟨fuel, hf'⟩ := h
  exact has_of sh t fuel _ _ hf hf'
end
theorem exists_list {α : Type} {p : Nat → α → Prop} : ∀ (n : Nat), (∀ i, i < n → ∃ x, p i x) → ∃ l : List α, l.length = n ∧ ∀ i x, l[i]? = some x → p i x := by
  intro n
  induction n with
  | zero => intro _; exact ⟨[], rfl, fun i x h => by cases h⟩
  | succ n ih =>
    intro h
    obtain ⟨l, hl, hp⟩ := ih fun i hi => h i (by omega)
    obtain ⟨x, hx⟩ := h n (by omega)
    refine ⟨l ++ [x], by simp [hl], fun i y hy => ?_⟩
    by_cases hi : i < l.length
    · rw [List.getElem?_append_left hi] at hy; exact hp i y hy
    · rw [List.getElem?_append_right (by omega)] at hy
      have h0 : i - l.length = 0 := by
        have := (List.getElem?_eq_some_iff.1 hy).1; simp at this; omega
      rw [h0] at hy
      simp at hy
      subst hy
      rw [show i = n by omega]; exact hx
/-- Where a slice's elements lie. -/
theorem slice_addr {w : World} {a : Addr} {v : Value} (h : w.cell? (a.add 0) = some v) : a = ⟨a.block, a.off, none⟩ := addr_plain h
def shBytes : Sh := .slice (.int .u8) 1
theorem has_bytes {w : World} {cs : List Value} (h : shBytes.Has w cs) : ∃ (bs : List UInt8) (a : Option Addr) (c : Nat), cs = [.slice a bs.length c] ∧ bs.length ≤ c ∧ c ≤ maxLen ∧ RowAt w a (bs.map bV) := by
  rcases h with rfl | ⟨a, len, cap, rfl, hl, hm, hall⟩
  · exact ⟨[], none, 0, rfl, Nat.le_refl _, by decide, .inl rfl⟩
  · obtain ⟨zs, hz, hp⟩ := exists_list (p := fun i z => w.cell? (a.add i) = some (.int .u8 z) ∧ (Lit.int .u8 z).wf = true) len (fun i hi => by
      obtain ⟨cs', ⟨h1, h2⟩, z, rfl, hw⟩ := hall i hi
      have := h2 0 (by omega)
      simp at this
      exact ⟨z, this, hw⟩)
    obtain ⟨h1, h2⟩ := row_of_cells (W := w) (a := a) (zs := zs) (len := len) (by omega) (fun i hi => by
      have := (hp i zs[i] (List.getElem?_eq_getElem hi)).1
      rw [this]; congr 2; simp [List.getD, List.getElem?_eq_getElem hi]) (fun n hn => by
      obtain ⟨i, hi⟩ := List.getElem?_of_mem hn
      exact (hp i n hi).2)
    exact ⟨ofI (zs.take len), some a, cap, by rw [h1], by rw [h1]; exact hl, hm, h2⟩
theorem has_int {w : World} {k : IntKind} {cs : List Value} (h : (Sh.int k).Has w cs) : ∃ z, cs = [.int k z] ∧ (Lit.int k z).wf = true := h
end Go.Proofs.Ytjjmhmbmjpedkaa
end
section
/- Slices of structs that came in: their elements, one behind the other. No program in sight. -/
namespace Go.Proofs.Ytjjmhmbmjpedkaa
open Go.RowKit Go.WideShapes Go.ChangeShapes
/-- Elements of n cells each, of which R tells where they lie. -/
def RowsAt {α : Type} (R : World → Nat → Nat → α → Prop) (n : Nat) (w : World) (a : Option Addr) (xs : List α) : Prop := xs = [] ∨ ∃ b off, a = some ⟨b, off, none⟩ ∧ ∀ i x, xs[i]? = some x → R w b (off + i * n) x
theorem RowsAt.mono {α : Type} {R : World → Nat → Nat → α → Prop} {n : Nat} {w w' : World} {a : Option Addr} {xs : List α} (h : RowsAt R n w a xs) (hm : ∀ b off x, R w b off x → R w' b off x) : RowsAt R n w' a xs := by
  rcases h with h | ⟨b, off, ha, h⟩
  · exact .inl h
  · exact .inr ⟨b, off, ha, fun i x hx => hm _ _ _ (h i x hx)⟩
theorem RowsAt.get {α : Type} {R : World → Nat → Nat → α → Prop} {n : Nat} {w : World} {a : Option Addr} {xs : List α} (h : RowsAt R n w a xs) {i : Nat} (hi : i < xs.length) : ∃ b off, a = some ⟨b, off, none⟩ ∧ R w b (off + i * n) xs[i] := by
  rcases h with rfl | ⟨b, off, ha, h⟩
  · simp at hi
  · exact ⟨b, off, ha, h i _ (List.getElem?_eq_getElem hi)⟩
theorem has_rows {α : Type} {e : Sh} {n : Nat} (hn : 0 < n) {R : World → Nat → Nat → α → Prop} {w : World} (elem : ∀ (cs' : List Value) (b off : Nat), cs'.length = n → cellsAt w b off cs' → e.Has w cs' → ∃ x, R w b off x) {cs : List Value} (h : (Sh.slice e n).Has w cs) :
    ∃ (xs : List α) (a : Option Addr) (c : Nat), cs = [.slice a xs.length c] ∧ xs.length ≤ c ∧ c ≤ maxLen ∧ RowsAt R n w a xs := by
  rcases h with rfl | ⟨a, len, cap, rfl, hl, hm, hall⟩
  · exact ⟨[], none, 0, rfl, Nat.le_refl _, by decide, .inl rfl⟩
  · obtain ⟨xs, hz, hp⟩ := exists_list (p := fun i (x : α) => R w a.block (a.off + i * n) x ∧ a = ⟨a.block, a.off, none⟩) len (fun i hi => by
      obtain ⟨cs0, ⟨h01, h02⟩, _⟩ := hall 0 (by omega)
      have ha : a = ⟨a.block, a.off, none⟩ := by
        have := h02 0 (by omega)
        rw [List.getElem?_eq_getElem (by omega)] at this
        simp only [Nat.zero_mul, Nat.zero_add] at this
        exact addr_plain this
      obtain ⟨cs', ⟨h1, h2⟩, h3⟩ := hall i hi
      obtain ⟨x, hx⟩ := elem cs' a.block (a.off + i * n) h1 (cellsAt_of fun j v hj => by
        have hjn : j < n := by have := (List.getElem?_eq_some_iff.1 hj).1; omega
        have := h2 j hjn
        rw [ha, Addr.add_lit, ← Nat.add_assoc, hj] at this
        exact this) h3
      exact ⟨x, hx, ha⟩)
    refine ⟨xs, some a, cap, by rw [hz], by omega, hm, ?_⟩
    by_cases h0 : xs = []
    · exact .inl h0
    · have h1 : 0 < xs.length := List.length_pos_iff.2 h0
      have ha := (hp 0 _ (List.getElem?_eq_getElem h1)).2
      exact .inr ⟨a.block, a.off, by rw [← ha], fun i p hi => (hp i p hi).1⟩
theorem cellsAt_below {w w' : World} {b off : Nat} {vs : List Value} (h : cellsAt w b off vs) {B : Nat} (hb : Below B w w') (hB : w.heap.size ≤ B) : cellsAt w' b off vs :=
  cellsAt_of fun j v hj => by
    have h1 := cellsAt_get h j v hj
    exact (hb.cell (p := ⟨b, off + j, none⟩) (Nat.lt_of_lt_of_le (block_lt_of_cell h1) hB)).trans h1
theorem open_rows {P : Program} {α : Type} {e : Sh} {n : Nat} {R : World → Nat → Nat → α → Prop} {H : Type} {enc : TypeId × Value → H} {W : World} {t : TypeId} {v : Value} {d : DataW H} {p : List MemPlace} (hn : 0 < n) (elem : ∀ (cs' : List Value) (b off : Nat), cs'.length = n → cellsAt W b off cs' → e.Has W cs' → ∃ x, R W b off x)
    (hf : fitsB P (.slice e n) t = true) (hv : ∃ a l c, v = .slice a l c) (h : DataW.Trod enc P W 0 (fun _ => true) true t v d p) : ∃ (xs : List α) (a : Option Addr) (c : Nat), v = .slice a xs.length c ∧ RowsAt R n W a xs ∧ xs.length ≤ c ∧ c ≤ maxLen := by
  obtain ⟨a, l, c, rfl⟩ := hv
  obtain ⟨xs, a', c', h1, h2, h3, h4⟩ := has_rows hn elem (open_sh hf h)
  simp [Value.cells] at h1
  obtain ⟨rfl, rfl, rfl⟩ := h1
  exact ⟨xs, a, c, rfl, h4, h2, h3⟩
end Go.Proofs.Ytjjmhmbmjpedkaa
end
section
/- WindowActs: in every row of calls a window answers what the chapter says; of none nothing is told. -/
namespace Go.Proofs.Ytjjmhmbmjpedkaa
open Go.RowKit Go.WideShapes Go.ChangeShapes
structure ActD where
  kp : Bool
  by' : Int
  raw : Bool
  q : List UInt8
  a : List UInt8
def ActAt (w : World) (b off : Nat) (x : ActD) : Prop := ∃ a3 c3 a4 c4, cellsAt w b off [.bool x.kp, .int .i64 x.by', .bool x.raw, .slice a3 x.q.length c3, .slice a4 x.a.length c4] ∧ RowAt w a3 (x.q.map bV) ∧ x.q.length ≤ c3 ∧ RowAt w a4 (x.a.map bV) ∧ x.a.length ≤ c4
theorem ActAt.below {w w' : World} {b off : Nat} {x : ActD} (h : ActAt w b off x) {B : Nat} (hb : Below B w w') (hB : w.heap.size ≤ B) : ActAt w' b off x := by
  obtain ⟨a3, c3, a4, c4, h1, h2, h3, h4, h5⟩ := h
  exact ⟨a3, c3, a4, c4, cellsAt_below h1 hb hB, h2.below hb hB, h3, h4.below hb hB, h5⟩
def shAct : Sh := .agg (.fcons 0 1 .bool (.fcons 1 1 (.int .i64) (.fcons 2 1 .bool (.fcons 3 1 shBytes (.fcons 4 1 shBytes .fnil)))))
theorem act_elem {w : World} (cs' : List Value) (b off : Nat) (hl : cs'.length = 5) (hc : cellsAt w b off cs') (h : shAct.Has w cs') : ∃ x, ActAt w b off x := by
  obtain ⟨⟨k, hk⟩, ⟨z, hz, _⟩, ⟨y, hy⟩, hq, hr, _⟩ := h
  obtain ⟨q, a3, c3, hq1, hq2, _, hq3⟩ := has_bytes hq
  obtain ⟨r, a4, c4, hr1, hr2, _, hr3⟩ := has_bytes hr
  match cs', hl with
  | [v0, v1, v2, v3, v4], _ =>
    simp at hk hz hy hq1 hr1
    subst hk; subst hz; subst hy; subst hq1; subst hr1
    exact ⟨⟨k, z, y, q, r⟩, a3, c3, a4, c4, hc, hq3, hq2, hr3, hr2⟩
theorem open_acts {H : Type} {enc : TypeId × Value → H} {W : World} {t : TypeId} {v : Value} {d : DataW H} {p : List MemPlace} (hf : fitsB Try.prog (.slice shAct 5) t = true) (hv : ∃ a l c, v = .slice a l c) (h : DataW.Trod enc Try.prog W 0 (fun _ => true) true t v d p) :
    ∃ (xs : List ActD) (a : Option Addr) (c : Nat), v = .slice a xs.length c ∧ RowsAt ActAt 5 W a xs ∧ xs.length ≤ c ∧ c ≤ maxLen := open_rows (by decide) act_elem hf hv h
theorem wLook_nil (n : Int) (a : Option Addr) (m c : Nat) (w : World) : Calls Try.prog 16 #[.pointer none, .int .i64 n, .slice a m c] w fun e w' => e = .returned (.tuple #[.slice none 0 0, .int .i64 1]) ∧ Below w.heap.size w w' := by
  refine (GWin.wLook_calls none n a m c w (fun v w' => v = .tuple #[.slice none 0 0, .int .i64 1] ∧ Below w.heap.size w w') ?_).mono (by rintro e w' ⟨v, rfl, rfl, hb⟩; exact ⟨rfl, hb⟩)
  unfold GWin.wLook_vc
  exact newO_in fun w2 h2 b2 s2 => br_t rfl ⟨rfl, b2⟩
theorem wKeep_nil (n : Int) (a a2 : Option Addr) (m c m2 c2 : Nat) (w : World) : Calls Try.prog 15 #[.pointer none, .int .i64 n, .slice a m c, .slice a2 m2 c2] w fun e w' => e = .returned (.int .i64 1) ∧ Below w.heap.size w w' := by
  refine (GWin.wKeep_calls none n a m c a2 m2 c2 w (fun v w' => v = .int .i64 1 ∧ Below w.heap.size w w') ?_).mono (by rintro e w' ⟨v, rfl, rfl, hb⟩; exact ⟨rfl, hb⟩)
  unfold GWin.wKeep_vc
  refine (wLook_nil n a m c w).mono ?_
  rintro e w2 ⟨rfl, b2⟩
  exact ⟨keepG_nil _ _, _, _, _, _, rfl, br_n (by decide) (br_y (by decide) ⟨rfl, b2⟩)⟩
theorem wLast_nil (w : World) : Calls Try.prog 17 #[.pointer none] w fun e w' => e = .returned (.int .i64 0) ∧ w = w' := by
  refine (GWin.wLast_calls none w (fun v w' => v = .int .i64 0 ∧ w = w') ?_).mono (by rintro e w' ⟨v, rfl, rfl, rfl⟩; exact ⟨rfl, rfl⟩)
  exact br_t rfl ⟨rfl, rfl⟩
theorem wLen_nil (w : World) : Calls Try.prog 31 #[.pointer none] w fun e w' => e = .returned (.int .i64 0) ∧ w = w' := by
  refine (GWin.wLen_calls none w (fun v w' => v = .int .i64 0 ∧ w = w') ?_).mono (by rintro e w' ⟨v, rfl, rfl, rfl⟩; exact ⟨rfl, rfl⟩)
  exact br_t rfl ⟨rfl, rfl⟩
theorem wWrite_nil (w : World) : Calls Try.prog 30 #[.pointer none] w fun e w' => e = .returned (.tuple #[.slice none 0 0, .int .i64 1]) ∧ w = w' := by
  refine (GWinActs.wWrite_calls none w (fun v w' => v = .tuple #[.slice none 0 0, .int .i64 1] ∧ w = w') ?_).mono (by rintro e w' ⟨v, rfl, rfl, rfl⟩; exact ⟨rfl, rfl⟩)
  exact br_t rfl ⟨rfl, rfl⟩
theorem lNone_any (w : World) : Calls Try.prog 29 #[] w fun e w' => e = .returned (.pointer none) ∧ w = w' := by
  refine (GWinActs.lNone_calls w (fun v w' => v = .pointer none ∧ w = w') ?_).mono (by rintro e w' ⟨v, rfl, rfl, rfl⟩; exact ⟨rfl, rfl⟩)
  exact ⟨rfl, rfl⟩
theorem refWin_len {m : Nat} {st : Bool} {es : List Ent} : ((refWin m st es).ents.length : Int) = (((es.drop (es.length - m)).length : Nat) : Int) := rfl
theorem refWin_last {m : Nat} {st : Bool} {es : List Ent} : (refWin m st es).last = lastNum es := rfl
theorem lActs_walk (z : Int) (st : Bool) (a : Option Addr) (ca : Nat) (xs : List ActD) (w : World) (hl : xs.length ≤ maxLen) (hr : RowsAt ActAt 5 w a xs) :
    Calls Try.prog 7 #[.int .i64 z, .bool st, .slice a xs.length ca] w fun e w' => e = .returned (.bool true) ∧ Below w.heap.size w w' := by
  refine (GWinActs.lActs_calls z st a xs.length ca w (fun v w' => v = .bool true ∧ Below w.heap.size w w') ?_).mono (by rintro e w' ⟨v, rfl, rfl, hb⟩; exact ⟨rfl, hb⟩)
  unfold GWinActs.lActs_vc
  refine (lNone_any w).mono ?_
  rintro e w' ⟨rfl, rfl⟩
  refine ⟨keepG_nil _ _, _, rfl, (wLook_nil 0 none 0 0 w).mono ?_⟩
  rintro e w2 ⟨rfl, b2⟩
  refine ⟨keepG_nil _ _, _, _, _, _, rfl, (lNone_any w2).mono ?_⟩
  rintro e w' ⟨rfl, rfl⟩
  refine ⟨keepG_nil _ _, _, rfl, (wWrite_nil w2).mono ?_⟩
  rintro e w'' ⟨rfl, rfl⟩
  refine ⟨keepG_nil _ _, _, _, _, _, rfl, (windows_any w2).mono ?_⟩
  rintro e w3 ⟨rfl, b3⟩
  have B3 := b2.trans (b3.mono b2.size)
  refine ⟨keepG_nil _ _, _, rfl, br_f rfl (br_n (by decide) (br_n (by decide) ?_))⟩
  refine (lNone_any w3).mono ?_
  rintro e w4 ⟨rfl, rfl⟩
  refine ⟨keepG_nil _ _, _, rfl, (wKeep_nil 0 none none 0 0 0 0 w3).mono ?_⟩
  rintro e w5 ⟨rfl, b5⟩
  have B5 := B3.trans (b5.mono B3.size)
  refine ⟨keepG_nil _ _, _, rfl, br_n (by decide) ((lNone_any w5).mono ?_)⟩
  rintro e w6 ⟨rfl, rfl⟩
  refine ⟨keepG_nil _ _, _, rfl, (wLast_nil w5).mono ?_⟩
  rintro e w7 ⟨rfl, rfl⟩
  refine ⟨keepG_nil _ _, _, rfl, br_n (by decide) ((lNone_any w5).mono ?_)⟩
  rintro e w8 ⟨rfl, rfl⟩
  refine ⟨keepG_nil _ _, _, rfl, (wLen_nil w5).mono ?_⟩
  rintro e w9 ⟨rfl, rfl⟩
  refine ⟨keepG_nil _ _, _, rfl, br_n (by decide) ?_⟩
  by_cases hz : z < 1 ∨ 64 < z
  · refine (wNew_bad z st w5 hz).mono ?_
    rintro e w10 ⟨rfl, rfl⟩
    refine ⟨keepG_nil _ _, _, _, rfl, br_dec (fun h1 => br_t rfl ⟨rfl, B5⟩) fun h1 => br_y (by omega) (br_t rfl ⟨rfl, B5⟩)⟩
  · obtain ⟨m, rfl⟩ : ∃ m : Nat, z = m := ⟨z.toNat, by omega⟩
    refine (wNew_any m st w5 (by omega) (by omega)).mono ?_
    rintro e w10 ⟨rfl, hw10, b10⟩
    have B10 := B5.trans (b10.mono B5.size)
    refine ⟨keepG_nil _ _, _, _, rfl, br_n (by omega) (br_n (by omega) ?_)⟩
    refine newO_in fun w11 h11 b11 s11 => ?_
    have B11 := B10.trans (b11.mono B10.size)
    have hp10 := hw10.under w5.heap.size (by simp)
    have hs5 := B5.size
    refine ⟨fun x wx => ∃ (i : Nat) (es : List Ent) (L M : List Nat), x = i ∧ i ≤ xs.length ∧ i ≤ 100 ∧ es.length ≤ i ∧ WinAt wx L w5.heap.size (refWin m st es) ∧ RefAt wx M w10.heap.size m st es ∧ Apart L M ∧ From w.heap.size L ∧ From w.heap.size M ∧ Below w.heap.size w wx, fun x _ => 100 - x.toNat, ?_, ?_⟩
    · refine ⟨0, [], [w5.heap.size], [w10.heap.size], rfl, by omega, by omega, by simp, ?_, ?_, fun k h1 h2 => ?_, fun k h1 => ?_, fun k h1 => ?_, B11⟩
      · rw [show refWin m st [] = (⟨m, st, -1, []⟩ : Win) by simp [refWin, lastWin, lastNum]]
        exact hw10.below b11
      · exact ⟨⟨none, 0, h11, Own.nil _ _ _ _, (by simp [Value.ownBlock]), fun k hk => by simp [Value.ownBlock] at hk⟩, by simp, fun k hk => by rw [List.mem_singleton] at hk; omega, by simp, by omega, by omega, by simp, Rise.nil _⟩
      · rw [List.mem_singleton] at h1 h2; omega
      · rw [List.mem_singleton] at h1; omega
      · rw [List.mem_singleton] at h1; have := B10.size; omega
    rintro x wx ⟨i, es, L, M, rfl, hi, hi2, hes, hW, hR, hap, hfL, hfM, hb⟩
    have fin : (Value.bool (decide ((0 : Int) = 0)) = .bool true) ∧ Below w.heap.size w wx := ⟨rfl, hb⟩
    refine br_dec (fun hlt => br_dec (fun hlt2 => ?_) fun _ => fin) fun _ => fin
    have hil : i < xs.length := by omega
    obtain ⟨b, off, rfl, a3, c3, a4, c4, hc, r3, l3, r4, l4⟩ := RowsAt.get (RowsAt.mono hr fun b off x h => h.below hb (Nat.le_refl _)) hil
    refine ⟨by omega, by omega, _, _, _, _, _, _, _, _, _, hc, ?_⟩
    refine (aDo_any _ _ _ a3 a4 c3 c4 _ _ _ _ m st es L M wx hW hR hap (by omega) r3 l3 r4 l4).mono ?_
    rintro e w16 ⟨rfl, L', M', es', hW', hR', hap', hlen, hF, hG1, hG2⟩
    have B16 : Below w.heap.size w w16 := hb.trans (hF.below (fun k hk => (List.mem_append.1 hk).elim (hfL k) (hfM k)) hb.size)
    refine ⟨keepG_nil _ _, _, rfl, br_f rfl ?_⟩
    refine (wLast_any _ _ L' w16 hW').mono ?_
    rintro e w17 ⟨rfl, rfl⟩
    refine ⟨keepG_nil _ _, _, rfl, (rLast_any _ m st es' M' w17 hR').mono ?_⟩
    rintro e w18 ⟨rfl, b18⟩
    have B18 := B16.trans (b18.mono B16.size)
    refine ⟨keepG_nil _ _, _, rfl, br_n (by rw [refWin_last]; simp) ?_⟩
    refine (wLen_any _ _ L' w18 (hW'.below b18)).mono ?_
    rintro e w19 ⟨rfl, rfl⟩
    refine ⟨keepG_nil _ _, _, rfl, (rKept_any _ m st es' M' w19 (hR'.below b18)).mono ?_⟩
    rintro e w20 ⟨⟨a100, c100, rfl, _⟩, b20⟩
    refine ⟨keepG_nil _ _, _, _, _, rfl, br_n (by rw [refWin_len]; simp) ?_⟩
    rw [wr64 (by omega) (by omega)]
    exact ⟨⟨i + 1, es', L', M', by omega, by omega, by omega, by omega, (hW'.below b18).below b20, (hR'.below b18).below b20, hap', hG1.from hfL hb.size, hG2.from hfM hb.size, B18.trans (b20.mono B18.size)⟩, by dsimp only; omega⟩
end Go.Proofs.Ytjjmhmbmjpedkaa
end
section
/- WindowReads: of all bytes the window is told, or that they are none's; what is taken has just its bytes. -/
namespace Go.Proofs.Ytjjmhmbmjpedkaa
open Go.RowKit
theorem row_take {w : World} {a : Option Addr} {bs : List UInt8} (h : RowAt w a (bs.map bV)) (n : Nat) : RowAt w a ((bs.take n).map bV) := by rw [List.map_take]; exact h.take n
theorem lWReads_walk (a : Option Addr) (c : Nat) (bl : List UInt8) (w : World) (hl : bl.length ≤ c) (hr : RowAt w a (bl.map bV)) :
    Calls Try.prog 11 #[.slice a bl.length c] w fun e w' => e = .returned (.bool true) ∧ Below w.heap.size w w' := by
  refine (GWinWr.lWReads_calls a bl.length c w (fun v w' => v = .bool true ∧ Below w.heap.size w w') ?_).mono (by rintro e w' ⟨v, rfl, rfl, hb⟩; exact ⟨rfl, hb⟩)
  unfold GWinWr.lWReads_vc
  have hm : (min ((bl.length : Nat) : Int) 1500).toNat = (bl.take 1500).length := by rw [List.length_take]; omega
  have hr := row_take hr 1500
  have hlt : (bl.take 1500).length ≤ 1500 := by rw [List.length_take]; omega
  refine ⟨by omega, by omega, ?_⟩
  rw [hm]
  generalize bl.take 1500 = bs at *
  refine (wRead_any a c bs w hr (by omega)).mono ?_
  rintro e w2 ⟨v, rfl, b2, hv⟩
  have R2 := hr.below b2 (Nat.le_refl _)
  rcases hv with ⟨hok, p, L, rfl, hW, hf⟩ | ⟨hno, rfl⟩
  · refine ⟨keepG_nil _ _, _, _, rfl, bs, rfl, R2, (rRead_any bs w2 (by omega)).mono ?_⟩
    rintro e w3 ⟨p3, b, rfl, hb, b3⟩
    have B3 := b2.trans (b3.mono b2.size)
    refine ⟨keepG_nil _ _, _, _, rfl, (windows_any w3).mono ?_⟩
    rintro e w4 ⟨rfl, b4⟩
    have B4 := B3.trans (b4.mono B3.size)
    have b24 := b3.trans (b4.mono b3.size)
    obtain rfl : b = true := hb.2 hok
    refine ⟨keepG_nil _ _, _, rfl, br_f rfl (br_n (by decide) (br_f rfl ?_))⟩
    refine (wWrite_any p _ L w4 (hW.below b24)).mono ?_
    rintro e w5 ⟨a5, c5, rfl, o5, b5⟩
    have B5 := B4.trans (b5.mono B4.size)
    rw [rdW_bytes hok] at o5 ⊢
    refine ⟨keepG_nil _ _, _, _, _, _, rfl, br_y rfl ⟨bs, rfl, o5.row, bs, rfl, hr.below B5 (Nat.le_refl _), ?_, B5⟩⟩
    simp
  · refine ⟨keepG_nil _ _, _, _, rfl, bs, rfl, R2, (rRead_any bs w2 (by omega)).mono ?_⟩
    rintro e w3 ⟨p3, b, rfl, hb, b3⟩
    have B3 := b2.trans (b3.mono b2.size)
    refine ⟨keepG_nil _ _, _, _, rfl, (windows_any w3).mono ?_⟩
    rintro e w4 ⟨rfl, b4⟩
    have B4 := B3.trans (b4.mono B3.size)
    obtain rfl : b = false := by cases b with
      | false => rfl
      | true => exact absurd (hb.1 rfl) hno
    refine ⟨keepG_nil _ _, _, rfl, br_f rfl (br_n (by decide) (br_t rfl (br_y rfl ⟨rfl, B4⟩)))⟩
end Go.Proofs.Ytjjmhmbmjpedkaa
end
section
/- Arrays and structs that came in as values: their numbers. -/
namespace Go.Proofs.Ytjjmhmbmjpedkaa
open Go.RowKit Go.WideShapes Go.ChangeShapes
theorem okWide_arr {P : Program} {W : World} {r : Reach} {base : Nat} {t : TypeId} {v : Value} {n : Nat} {e : Sh} {k : Nat} (hf : fitsB P (.arr n e k) t = true) (hv : Value.okWide P W r base t v) : ∃ cs, v = .agg cs ∧ cs.size = P.cellsOf t := by
  unfold fitsB at hf
  split at hf
  · rename_i l et hu
    unfold Value.okWide at hv
    rw [hu] at hv
    obtain ⟨cs, h1, h2, _⟩ := hv
    exact ⟨cs, h1, h2⟩
  · cases hf
theorem open_arrI {H : Type} {enc : TypeId × Value → H} {P : Program} {W : World} {r : Reach} {base : Nat} {t : TypeId} {v : Value} {d : DataW H} {p : List MemPlace} (n : Nat) (hf : fitsB P (.arr n (.int .i64) 1) t = true) (hc : P.cellsOf t = n) (hv : Value.okWide P W r base t v)
    (h : DataW.Trod enc P W 0 (fun _ => true) true t v d p) : ∃ zs : List Int, zs.length = n ∧ v = .agg (zs.map (Value.int .i64)).toArray ∧ ∀ z ∈ zs, -9223372036854775808 ≤ z ∧ z ≤ 9223372036854775807 := by
  obtain ⟨cs, rfl, hs⟩ := okWide_arr hf hv
  have hh := open_sh hf h
  obtain ⟨zs, hz, hp⟩ := exists_list (p := fun i z => cs.toList[i]? = some (Value.int .i64 z) ∧ (Lit.int .i64 z).wf = true) n (fun i hi => by
    obtain ⟨z, h1, h2⟩ := hh i hi
    refine ⟨z, ?_, h2⟩
    have := congrArg (·[0]?) h1
    simpa [Value.cells] using this)
  refine ⟨zs, hz, ?_, fun z hm => ?_⟩
  · congr 1
    apply Array.ext'
    apply List.ext_getElem?
    intro i
    rw [List.getElem?_map]
    by_cases hi : i < n
    · rw [List.getElem?_eq_getElem (show i < zs.length by omega)]
      exact (hp i _ (List.getElem?_eq_getElem (by omega))).1
    · rw [List.getElem?_eq_none (by simp; omega), List.getElem?_eq_none (by omega)]
      rfl
  · obtain ⟨i, hi⟩ := List.getElem?_of_mem hm
    exact i64_range (hp i z hi).2
theorem open_arr2 {H : Type} {enc : TypeId × Value → H} {P : Program} {W : World} {r : Reach} {base : Nat} {t : TypeId} {v : Value} {d : DataW H} {p : List MemPlace} (hf : fitsB P (.arr 2 (.int .i64) 1) t = true) (hc : P.cellsOf t = 2) (hv : Value.okWide P W r base t v)
    (h : DataW.Trod enc P W 0 (fun _ => true) true t v d p) : ∃ x y : Int, v = .agg #[.int .i64 x, .int .i64 y] ∧ (-9223372036854775808 ≤ x ∧ x ≤ 9223372036854775807) ∧ -9223372036854775808 ≤ y ∧ y ≤ 9223372036854775807 := by
  obtain ⟨zs, hz, rfl, hr⟩ := open_arrI 2 hf hc hv h
  match zs, hz with
  | [x, y], _ => exact ⟨x, y, rfl, hr x (by simp), hr y (by simp)⟩
theorem open_arr4 {H : Type} {enc : TypeId × Value → H} {P : Program} {W : World} {r : Reach} {base : Nat} {t : TypeId} {v : Value} {d : DataW H} {p : List MemPlace} (hf : fitsB P (.arr 4 (.int .i64) 1) t = true) (hc : P.cellsOf t = 4) (hv : Value.okWide P W r base t v)
    (h : DataW.Trod enc P W 0 (fun _ => true) true t v d p) : ∃ x y z u : Int, v = .agg #[.int .i64 x, .int .i64 y, .int .i64 z, .int .i64 u] ∧ (-9223372036854775808 ≤ x ∧ x ≤ 9223372036854775807) ∧ (-9223372036854775808 ≤ y ∧ y ≤ 9223372036854775807) ∧ (-9223372036854775808 ≤ z ∧ z ≤ 9223372036854775807) ∧ -9223372036854775808 ≤ u ∧ u ≤ 9223372036854775807 := by
  obtain ⟨zs, hz, rfl, hr⟩ := open_arrI 4 hf hc hv h
  match zs, hz with
  | [x, y, z, u], _ => exact ⟨x, y, z, u, rfl, hr x (by simp), hr y (by simp), hr z (by simp), hr u (by simp)⟩
end Go.Proofs.Ytjjmhmbmjpedkaa
end
section
/- WindowBack: a window's bytes are told; it comes back, the same, and goes on the same. -/
namespace Go.Proofs.Ytjjmhmbmjpedkaa
open Go.RowKit
/-- Both windows, of the same entries, above B. -/
structure Both (w0 w : World) (B p r m : Nat) (st : Bool) (k : Nat) : Prop where
  ex : ∃ es L M, WinAt w L p (refWin m st es) ∧ RefAt w M r m st es ∧ Apart L M ∧ From B L ∧ From B M ∧ es.length ≤ k
  size : B ≤ w.heap.size
  lt : w0.heap.size < B
  below : Below w0.heap.size w0 w
theorem both_act {w0 w : World} {B p r m k : Nat} {st : Bool} (h : Both w0 w B p r m st k) (hk : k < 1000) {xs : List ActD} {a : Option Addr} (hr : RowsAt ActAt 5 w0 a xs) {i : Nat} (hi : i < xs.length) :
    ∃ b off, a = some ⟨b, off, none⟩ ∧ ∃ (x1 : Bool) (x2 : Int) (x3 : Bool) (a3 : Option Addr) (n3 c3 : Nat) (a4 : Option Addr) (n4 c4 : Nat), cellsAt w b (off + i * 5) [.bool x1, .int .i64 x2, .bool x3, .slice a3 n3 c3, .slice a4 n4 c4] ∧
      Calls Try.prog 32 #[.agg #[.bool x1, .int .i64 x2, .bool x3, .slice a3 n3 c3, .slice a4 n4 c4], .pointer (some ⟨p, 0, none⟩), .pointer (some ⟨r, 0, none⟩)] w fun e w' => KeepG [w0.heap.size] w w' ∧ e = .returned (.bool true) ∧ Both w0 w' B p r m st (k + 1) := by
  obtain ⟨⟨es, L, M, hW, hR, hap, hL, hM, hes⟩, hs, hlt, hb⟩ := h
  obtain ⟨b, off, rfl, a3, c3, a4, c4, hc, r3, l3, r4, l4⟩ := RowsAt.get (RowsAt.mono hr fun b off x h => h.below hb (Nat.le_refl _)) hi
  refine ⟨b, off, rfl, _, _, _, _, _, _, _, _, _, hc, ?_⟩
  refine (aDo_any _ _ _ a3 a4 c3 c4 _ _ _ _ m st es L M w hW hR hap (by omega) r3 l3 r4 l4).mono ?_
  rintro e w16 ⟨rfl, L', M', es', hW', hR', hap', hlen, hF, hG1, hG2⟩
  have hLM : From B (L ++ M) := fun k hk => (List.mem_append.1 hk).elim (hL k) (hM k)
  have hs2 := hF.size
  exact ⟨keepG_fr hF fun k hk hm => by rw [List.mem_singleton] at hk; have := hLM k hm; omega, rfl, ⟨es', L', M', hW', hR', hap', hG1.from hL hs, hG2.from hM hs, by omega⟩, by omega, hlt, hb.trans (hF.below (b := w0.heap.size) (fun k hk => by have := hLM k hk; omega) (by omega))⟩
set_option maxRecDepth 10000 in
theorem lWBack_walk (x0 x1 : Int) (a1 : Option Addr) (c1 : Nat) (xs : List ActD) (a2 : Option Addr) (c2 : Nat) (ys : List ActD) (w : World) (h1 : RowsAt ActAt 5 w a1 xs) (h2 : RowsAt ActAt 5 w a2 ys) :
    Calls Try.prog 12 #[.agg #[.int .i64 x0, .int .i64 x1], .slice a1 xs.length c1, .slice a2 ys.length c2] w fun e w' => e = .returned (.bool true) ∧ Below w.heap.size w w' := by
  refine (GWinWr.lWBack_calls x0 x1 a1 xs.length c1 a2 ys.length c2 w (fun v w' => v = .bool true ∧ Below w.heap.size w w') ?_).mono (by rintro e w' ⟨v, rfl, rfl, hb⟩; exact ⟨rfl, hb⟩)
  unfold GWinWr.lWBack_vc
  refine newO_in fun w2 n2 b2 s2 => drewO_in fun w3 b3 q3 => ⟨by decide, by decide, ?_⟩
  obtain ⟨m0, hm0, hmm⟩ := u64_mod x0 9 (by decide)
  have z3 := b3.size
  have s3 : w3.heap.size = w2.heap.size := by rw [q3]
  have hm1 : IntKind.i64.wrap (1 + IntKind.i64.wrap (Int.tmod (IntKind.u64.wrap x0) 9)) = ((m0 + 1 : Nat) : Int) := by
    rw [show Int.tmod (IntKind.u64.wrap x0) 9 = (m0 : Int) from hmm, wr64 (z := (m0 : Int)) (by omega) (by omega), wr64 (by omega) (by omega)]; omega
  rw [hm1]
  generalize hst : decide (Int.tmod x1 2 = 0) = st
  have hm9 : m0 + 1 ≤ 9 := by omega
  have hm1' : 1 ≤ m0 + 1 := by omega
  generalize m0 + 1 = m at *
  have B3 := b2.trans (b3.mono (by omega))
  refine (wNew_any m st w3 (by omega) (by omega)).mono ?_
  rintro e w4 ⟨rfl, hw4, b4⟩
  have B4 := B3.trans (b4.mono (by omega))
  have z4 := b4.size
  refine ⟨keepG_below b4, _, _, rfl, newO_in fun w5 n5 b5 s5 => (windows_any w5).mono ?_⟩
  rintro e w6 ⟨rfl, b6⟩
  have b56 := b5.trans (b6.mono (by omega))
  have B6 := B4.trans (b56.mono (by omega))
  have z6 := b6.size
  refine ⟨keepG_below b6, _, rfl, br_f rfl (br_n (by decide) ?_)⟩
  have hp4 := hw4.under w3.heap.size (by simp)
  have n6 : Bk w6 w4.heap.size #[.int .i64 m, .bool st, .slice none 0 0] 61 := Bk.keep n5 (b6.block _ (by omega))
  have start : Both w w6 w3.heap.size w3.heap.size w4.heap.size m st 0 := by
    refine ⟨⟨[], [w3.heap.size], [w4.heap.size], ?_, ?_, fun k h1 h2 => ?_, fun k h1 => ?_, fun k h1 => ?_, Nat.le_refl _⟩, by omega, by omega, B6⟩
    · rw [show refWin m st [] = (⟨m, st, -1, []⟩ : Win) by simp [refWin, lastWin, lastNum]]
      exact hw4.below b56
    · exact ⟨⟨none, 0, n6, Own.nil _ _ _ _, (by simp [Value.ownBlock]), fun k hk => by simp [Value.ownBlock] at hk⟩, by simp, fun k hk => by rw [List.mem_singleton] at hk; omega, by simp, by omega, by omega, by simp, Rise.nil _⟩
    · rw [List.mem_singleton] at h1 h2; omega
    · rw [List.mem_singleton] at h1; omega
    · rw [List.mem_singleton] at h1; omega
  refine ⟨fun x wx => ∃ i : Nat, x = i ∧ i ≤ xs.length ∧ i ≤ 60 ∧ Both w wx w3.heap.size w3.heap.size w4.heap.size m st i, fun x _ => 60 - x.toNat, ⟨0, rfl, by omega, by omega, start⟩, ?_⟩
  clear start n6 hp4 hw4
  rintro x wx ⟨i, rfl, hi, hi2, hB⟩
  refine ⟨fun b wy => b = decide (i < xs.length ∧ i < 60) ∧ wx = wy, ?_, ?_⟩
  · exact br_dec (fun h => ⟨decide_eq_decide.2 (by omega), rfl⟩) fun h => ⟨(decide_eq_false (by omega)).symm, rfl⟩
  rintro b wy ⟨rfl, rfl⟩
  refine br_dec (fun hlt => ?_) fun hge => ?_
  · obtain ⟨bb, off, rfl, y1, y2, y3, y4, y5, y6, y7, y8, y9, hc, hcall⟩ := both_act hB (by omega) h1 hlt.1
    refine ⟨by omega, by omega, y1, y2, y3, y4, y5, y6, y7, y8, y9, hc, hcall.mono ?_⟩
    rintro e w16 ⟨kg, rfl, hB'⟩
    refine ⟨kg, _, rfl, br_f rfl ?_⟩
    rw [wr64 (by omega) (by omega)]
    exact ⟨⟨i + 1, by omega, by omega, by omega, hB'⟩, by dsimp only; omega⟩
  · obtain ⟨⟨es, L, M, hW, hR, hap, hL, hM, hes⟩, hs, hlt, hb⟩ := hB
    have hok := hW.ok
    have hback := refWin_back hok hR.rise
    refine (wWrite_any _ _ L wx hW).mono ?_
    rintro e w10 ⟨a10, c10, rfl, o10, b10⟩
    have B10 := hb.trans (b10.mono hb.size)
    have hlen : (winB (refWin m st es)).length ≤ 10000000 := by
      have h1 := winHd_len hok
      have h2 := entsB_len hok.each
      have h3 := hok.le
      have h4 := hok.m2
      rw [show winB (refWin m st es) = winHd (refWin m st es) ++ (refWin m st es).ents.flatMap entB from rfl, List.length_append]
      omega
    refine ⟨keepG_below b10, _, _, _, _, rfl, (wRead_any a10 c10 _ w10 o10.row (by omega)).mono ?_⟩
    rintro e w11 ⟨v, rfl, b11, hv⟩
    have B11 := B10.trans (b11.mono B10.size)
    have z10 := b10.size
    have z11 := b11.size
    rcases hv with ⟨_, p, K, rfl, hW2, hK⟩ | ⟨hno, _⟩
    · rw [hback.2] at hW2
      refine ⟨keepG_below b11, _, _, rfl, drewO_in fun w12 b12 _ => br_n (by decide) (br_n (by decide) ?_)⟩
      have b1012 : Below w10.heap.size w10 w12 := b11.trans (b12.mono z11)
      have b012 : Below wx.heap.size wx w12 := b10.trans (b1012.mono z10)
      refine ⟨_, rfl, (o10.below b1012 (Nat.le_refl _)).row, (rWrite_any _ m st es M w12 (hR.below b012) hok).mono ?_⟩
      rintro e w13 ⟨rfl, b13⟩
      have z12 := b12.size
      have z13 := b13.size
      have b1013 : Below w10.heap.size w10 w13 := b1012.trans (b13.mono b1012.size)
      have b013 : Below wx.heap.size wx w13 := b10.trans (b1013.mono z10)
      refine ⟨keepG_below b13, _, rfl, (o10.below b1013 (Nat.le_refl _)).row, br_n (by simp) ?_⟩
      have start : Both w w13 w3.heap.size p w4.heap.size m st i := by
        refine ⟨⟨es, K, M, hW2.below (b12.trans (b13.mono z12)), hR.below b013, fun k hk hk2 => ?_, fun k hk => ?_, hM, hes⟩, by omega, hlt, hb.trans (b013.mono hb.size)⟩
        · have := hK k hk; have := hR.under k hk2; omega
        · have := hK k hk; omega
      refine ⟨fun x wx => ∃ j : Nat, x = j ∧ j ≤ ys.length ∧ j ≤ 60 ∧ Both w wx w3.heap.size p w4.heap.size m st (i + j), fun x _ => 60 - x.toNat, ⟨0, rfl, by omega, by omega, start⟩, ?_⟩
      clear start
      rintro x wz ⟨j, rfl, hj, hj2, hB⟩
      refine ⟨fun b wy => b = decide (j < ys.length ∧ j < 60) ∧ wz = wy, ?_, ?_⟩
      · exact br_dec (fun h => ⟨decide_eq_decide.2 (by omega), rfl⟩) fun h => ⟨(decide_eq_false (by omega)).symm, rfl⟩
      rintro b wy ⟨rfl, rfl⟩
      refine br_dec (fun hlt => ?_) fun hge => ?_
      · obtain ⟨bb, off, rfl, y1, y2, y3, y4, y5, y6, y7, y8, y9, hc, hcall⟩ := both_act hB (by omega) h2 hlt.1
        refine ⟨by omega, by omega, y1, y2, y3, y4, y5, y6, y7, y8, y9, hc, hcall.mono ?_⟩
        rintro e w16 ⟨kg, rfl, hB'⟩
        refine ⟨kg, _, rfl, br_f rfl ?_⟩
        rw [wr64 (by omega) (by omega)]
        exact ⟨⟨j + 1, by omega, by omega, by omega, by rw [← Nat.add_assoc]; exact hB'⟩, by dsimp only; omega⟩
      · obtain ⟨⟨es2, L2, M2, hW2, hR2, hap2, hL2, hM2, hes2⟩, hs2, hlt2, hb2⟩ := hB
        refine (wLast_any _ _ L2 wz hW2).mono ?_
        rintro e w17 ⟨rfl, rfl⟩
        refine ⟨fun _ _ _ => rfl, _, rfl, (rLast_any _ m st es2 M2 _ hR2).mono ?_⟩
        rintro e w18 ⟨rfl, b18⟩
        refine ⟨keepG_below b18, _, rfl, ?_, hb2.trans (b18.mono hb2.size)⟩
        rw [refWin_last]
        simp
    · exact absurd hback.1 hno
end Go.Proofs.Ytjjmhmbmjpedkaa
end
