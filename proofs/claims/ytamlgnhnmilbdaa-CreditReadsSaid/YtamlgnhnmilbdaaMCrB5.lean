import Derived.Test.YtamlgnhnmilbdaaMCrB4
import Derived.Test.YtamlgnhnmilbdaaMCrB1
import Derived.Laws.BitsAllLaws
import Derived.Test.YtamlgnhnmilbdaaRows
import Derived.Deep.Cut
import Derived.Lib.Mul64
import Derived.Laws.Bits64b
import Derived.Laws.Externs
import Derived.Test.YtamlgnhnmilbdaaMCrB3
import Derived.Test.YtamlgnhnmilbdaaMCrB2
set_option linter.unusedVariables false
section
/- CreditActs: both tables: Set and Add, the same answers; walked. -/
namespace Go.Proofs.Ytamlgnhnmilbdaa
open Go.RowKit
theorem set_pair {w : World} {B p r : Nat} {pl la : Int} {es : List Ses} {L M B2 : List Nat} (hT : TabAt w L p pl la es) (hR : RTabAt w M r pl la es) (hap : Apart L M) (hL : From B L) (hM : From B M) (hids : Ids es) (hok : ∀ s ∈ es, SesOk s ∧ s.id ≤ la) (hlen : (es.length : Int) ≤ pl) (hpl : pl ≤ 16) (hB : B ≤ w.heap.size)
    (s : Ses) (a1 a2 : Option Addr) (c1 c2 : Nat) (h1 : GrAt w a1 s.gs) (hc1 : s.gs.length ≤ c1) (h2 : GrIn w B2 a2 s.gs) (hc2 : s.gs.length ≤ c2) (hgl : s.gs.length ≤ 100000) (hBu : Under B2 w.heap.size) (hBf : From B B2) (hBL : Apart B2 L) (hBM : Apart B2 M) :
    ∃ k : Int, Calls Try.prog 21 #[.pointer (some ⟨p, 0, none⟩), sesV s a1 c1] w fun e w' => e = .returned (.int .i64 k) ∧ Fr L w w' ∧ Calls Try.prog 57 #[.pointer (some ⟨r, 0, none⟩), sesV s a2 c2] w' fun e w'' => e = .returned (.int .i64 k) ∧ Fr M w' w'' ∧ ∃ es', CBoth w'' B p r pl la es' := by
  have fin : ∀ {w' w'' : World} {L' M' : List Nat} {es' : List Ses}, TabAt w' L' p pl la es' → RTabAt w'' M' r pl la es' → Fr L w w' → Fr M w' w'' → Gr L L' w.heap.size → Gr (M ++ B2) M' w'.heap.size → Ids es' → (∀ s ∈ es', SesOk s ∧ s.id ≤ la) → (es'.length : Int) ≤ pl → CBoth w'' B p r pl la es' := by
    intro w' w'' L' M' es' k1 k2 f1 f2 g1 g2 k3 k4 k5
    have hz := f1.size
    have hap1 : Apart L' M := hap.gr g1 hR.under
    have hap2 : Apart L' B2 := hBL.symm.gr g1 hBu
    have hap3 : Apart L' M' := fun b hb hb2 => by
      rcases g2 b hb2 with h | h
      · exact (List.mem_append.1 h).elim (hap1 b hb) (hap2 b hb)
      · have := k1.under b hb; omega
    refine ⟨⟨L', M', k1.fr sesR f2 hap1, k2, hap3, g1.from hL hB, fun b hb => ?_⟩, k3, k4, k5, hpl⟩
    rcases g2 b hb with h | h
    · exact (List.mem_append.1 h).elim (hM b) (hBf b)
    · omega
  by_cases hs : SesOk s
  · by_cases hx : ∃ i t, At es s.id i t
    · obtain ⟨i, t, hi⟩ := hx
      refine ⟨0, (set_any hT (by omega) hids s a1 c1 h1 hc1 hgl).mono ?_⟩
      rintro e w' ⟨L', es', hT', hcase, f, g⟩
      rcases hcase with ⟨hno, _⟩ | ⟨_, ⟨j, u, hj, rfl⟩, rfl⟩ | ⟨_, hno, _⟩
      · exact absurd hs hno
      · obtain rfl : i = j := ids_inj hids hi.1 hj.1 (hi.2.trans hj.2.symm)
        have hg2 := h2.keep (w' := w') fun b hb => f.block b (hBu b hb) (hBL b hb)
        refine ⟨rfl, f, (rDocSet_any (hR.fr sesR f hap.symm) (by omega) s a2 c2 hg2 hc2 hgl (hBu.mono f.size) hBM).mono ?_⟩
        rintro e w'' ⟨M', es2, hR', hcase2, f2, g2⟩
        rcases hcase2 with ⟨hno, _⟩ | ⟨_, ⟨j, v, hj2, rfl⟩, rfl⟩ | ⟨_, hno, _⟩
        · exact absurd hs hno
        · obtain rfl : i = j := ids_inj hids hi.1 hj2.1 (hi.2.trans hj2.2.symm)
          refine ⟨rfl, f2, es.set i s, fin hT' hR' f f2 g g2 (ids_set hids hi.1 hi.2) (fun u hu => ?_) (by rw [List.length_set]; exact hlen)⟩
          rcases List.mem_or_eq_of_mem_set hu with hu | rfl
          · exact hok u hu
          · exact ⟨hs, by rw [← hi.2]; exact (hok t (List.mem_of_getElem? hi.1)).2⟩
        · exact absurd hi.2 (hno t (List.mem_of_getElem? hi.1))
      · exact absurd hi.2 (hno t (List.mem_of_getElem? hi.1))
    · refine ⟨7, (set_any hT (by omega) hids s a1 c1 h1 hc1 hgl).mono ?_⟩
      rintro e w' ⟨L', es', hT', hcase, f, g⟩
      rcases hcase with ⟨hno, _⟩ | ⟨_, ⟨j, u, hj, _⟩, _⟩ | ⟨_, hno, rfl, rfl⟩
      · exact absurd hs hno
      · exact absurd ⟨j, u, hj⟩ hx
      · have hg2 := h2.keep (w' := w') fun b hb => f.block b (hBu b hb) (hBL b hb)
        refine ⟨rfl, f, (rDocSet_any (hR.fr sesR f hap.symm) (by omega) s a2 c2 hg2 hc2 hgl (hBu.mono f.size) hBM).mono ?_⟩
        rintro e w'' ⟨M', es2, hR', hcase2, f2, g2⟩
        rcases hcase2 with ⟨hno2, _⟩ | ⟨_, ⟨j, v, hj2, _⟩, _⟩ | ⟨_, _, rfl, rfl⟩
        · exact absurd hs hno2
        · exact absurd ⟨j, v, hj2⟩ hx
        · exact ⟨rfl, f2, _, fin hT' hR' f f2 g g2 hids hok hlen⟩
  · refine ⟨1, (set_any hT (by omega) hids s a1 c1 h1 hc1 hgl).mono ?_⟩
    rintro e w' ⟨L', es', hT', hcase, f, g⟩
    rcases hcase with ⟨_, rfl, rfl⟩ | ⟨h, _⟩ | ⟨h, _⟩
    · have hg2 := h2.keep (w' := w') fun b hb => f.block b (hBu b hb) (hBL b hb)
      refine ⟨rfl, f, (rDocSet_any (hR.fr sesR f hap.symm) (by omega) s a2 c2 hg2 hc2 hgl (hBu.mono f.size) hBM).mono ?_⟩
      rintro e w'' ⟨M', es2, hR', hcase2, f2, g2⟩
      rcases hcase2 with ⟨_, rfl, rfl⟩ | ⟨h, _⟩ | ⟨h, _⟩
      · exact ⟨rfl, f2, _, fin hT' hR' f f2 g g2 hids hok hlen⟩
      · exact absurd h hs
      · exact absurd h hs
    · exact absurd h hs
    · exact absurd h hs
/-- What both tables are behind an Add. -/
def addLa (pl la : Int) (es : List Ses) (s : Ses) : Int := if SesOk s ∧ la < s.id ∧ (es.length : Int) < pl then s.id else la
def addEs (pl la : Int) (es : List Ses) (s : Ses) : List Ses := if SesOk s ∧ la < s.id ∧ (es.length : Int) < pl then es ++ [s] else es
def addE (pl la : Int) (es : List Ses) (s : Ses) : Int := if ¬ SesOk s then 1 else if s.id ≤ la then 13 else if (es.length : Int) ≥ pl then 10 else 0
theorem add_code {w : World} {L : List Nat} {p : Nat} {pl la : Int} {es : List Ses} (h : TabAt w L p pl la es) (hlen : (es.length : Int) ≤ pl) (hpl : pl ≤ 16) (s : Ses) (a : Option Addr) (c : Nat) (hg : GrAt w a s.gs) (hc : s.gs.length ≤ c) (hgl : s.gs.length ≤ 100000) :
    Calls Try.prog 14 #[.pointer (some ⟨p, 0, none⟩), sesV s a c] w fun e w' => ∃ L', TabAt w' L' p pl (addLa pl la es s) (addEs pl la es s) ∧ e = .returned (.int .i64 (addE pl la es s)) ∧ Fr L w w' ∧ Gr L L' w.heap.size := by
  have e1 : ((es.length : Int) ≠ pl) = ((es.length : Int) < pl) := propext ⟨fun h => by omega, fun h => by omega⟩
  have e2 : ((es.length : Int) = pl) = ((es.length : Int) ≥ pl) := propext ⟨fun h => by omega, fun h => by omega⟩
  refine (add_any h (by omega) s a c hg hc hgl).mono ?_
  rintro e w' ⟨L', h1, h2, h3⟩
  refine ⟨L', ?_, ?_, h3⟩
  · unfold addLa addEs
    simpa only [e1] using h1
  · unfold addE
    simpa only [e2] using h2
theorem add_ids {pl la : Int} {es : List Ses} {s : Ses} (hids : Ids es) (hok : ∀ s ∈ es, SesOk s ∧ s.id ≤ la) (hlen : (es.length : Int) ≤ pl) : Ids (addEs pl la es s) ∧ (∀ t ∈ addEs pl la es s, SesOk t ∧ t.id ≤ addLa pl la es s) ∧ ((addEs pl la es s).length : Int) ≤ pl := by
  unfold addEs addLa
  split
  · rename_i h
    obtain ⟨h1, h2, h3⟩ := h
    refine ⟨ids_push hids fun t ht => by have := (hok t ht).2; omega, fun t ht => ?_, by rw [List.length_append, List.length_singleton]; omega⟩
    rcases List.mem_append.1 ht with ht | ht
    · have := hok t ht; exact ⟨this.1, by omega⟩
    · rw [List.mem_singleton] at ht; subst ht; exact ⟨h1, Int.le_refl _⟩
  · exact ⟨hids, hok, hlen⟩
end Go.Proofs.Ytamlgnhnmilbdaa
end
section
/- CreditActs: one call on both tables; walked. -/
namespace Go.Proofs.Ytamlgnhnmilbdaa
open Go.RowKit
theorem stO_in {w : World} {b0 : Nat} {t : TypeId} {k g off n c j : Nat} {xs : List Value} (h : Own w b0 t k (.slice (some ⟨g, off, none⟩) n c) n xs) (hj : j < n * k) {v : Value} {gs : List Nat} (hgs : ∀ x ∈ gs, x ≠ g) {K : World → Prop}
    (hk : ∀ w1, Own w1 b0 t k (.slice (some ⟨g, off, none⟩) n c) n (xs.set j v) → Fr [g] w w1 → w1.heap.size = w.heap.size → K w1) : stO gs w g (off + j) [v] K := by
  obtain ⟨k1, k2, k3, k4⟩ := own_setL [v] j w xs h (by simp only [List.length_singleton]; omega)
  exact ⟨hgs, k1, fun w1 e1 => by subst e1; exact hk _ k2 k3 k4⟩
set_option maxRecDepth 10000 in
theorem do_any {w : World} {B p r : Nat} {pl la : Int} {es : List Ses} (h : CBoth w B p r pl la es) (hB : B ≤ w.heap.size) (what num : Int) (s : Ses) (a : Option Addr) (c : Nat) (hg : GrAt w a s.gs) (hc : s.gs.length ≤ c) :
    Calls Try.prog 24 #[.agg #[.int .i64 what, .int .i64 s.id, .int .i64 s.node, .int .i64 s.num, .int .i64 s.dl, .slice a s.gs.length c, .int .i64 num], .pointer (some ⟨p, 0, none⟩), .pointer (some ⟨r, 0, none⟩)] w fun e w' => e = .returned (.bool true) ∧ (∃ la' es', CBoth w' B p r pl la' es' ∧ (0 ≤ la ∧ la ≤ 4611686018427387904 → 0 ≤ la' ∧ la' ≤ 4611686018427387904)) ∧ Below B w w' := by
  refine (GCred2.ado_calls what s.id s.node s.num s.dl a s.gs.length c num (some ⟨p, 0, none⟩) (some ⟨r, 0, none⟩) w (fun v w' => v = .bool true ∧ (∃ la' es', CBoth w' B p r pl la' es' ∧ (0 ≤ la ∧ la ≤ 4611686018427387904 → 0 ≤ la' ∧ la' ≤ 4611686018427387904)) ∧ Below B w w') ?_).mono (by rintro e w' ⟨v, rfl, rfl, h⟩; exact ⟨rfl, h⟩)
  unfold GCred2.ado_vc
  obtain ⟨⟨L, M, hT, hR, hap, hL, hM⟩, hids, hok, hlen, hpl⟩ := id h
  have hLu := hT.under
  have hMu := hR.under
  refine newO_in fun w2 n2 b2 s2 => (tame_any s a c w2 (hg.below b2) hc).mono ?_
  rintro e w3 ⟨a3, c3, rfl, o3, b3⟩
  have B3 := b2.trans (b3.mono b2.size)
  have z3 := b3.size
  have h6 : (tamed s).gs.length ≤ 6 := by show (s.gs.take 6).length ≤ 6; rw [List.length_take]; omega
  refine ⟨keepG_below b3, _, _, _, _, _, _, _, rfl, newO_in fun w4 n4 b4 s4 w5 h5 => ⟨by decide, ?_⟩⟩
  generalize tamed s = t at *
  have z5 := h5.2
  have B4 := B3.trans (b4.mono B3.size)
  have B5 := box_below B4 (by omega) h5
  have o5 := (o3.below b4 (Nat.le_refl _)).keep (w' := w5) fun k hk => h5.1.block k (by have := (o3.lt k hk).2; omega) (by rw [List.mem_singleton]; have := (o3.lt k hk).2; omega)
  have hc3 : t.gs.length ≤ c3 := (Own.cap o3).1
  have B2lt : ∀ k ∈ (Value.slice a3 t.gs.length c3).ownBlock.toList, w2.heap.size ≤ k ∧ k < w3.heap.size := fun k hk => o3.lt k (by simpa using hk)
  have gin : ∀ {wx : World}, (∀ k, w2.heap.size ≤ k → k < w3.heap.size → wx.heap[k]? = w5.heap[k]?) → GrIn wx (Value.slice a3 t.gs.length c3).ownBlock.toList a3 t.gs := fun hk => (gr_own o5).keep fun k hm => hk k (B2lt k hm).1 (B2lt k hm).2
  obtain ⟨q, hq, hqq⟩ := u64_mod what 4 (by decide)
  have hq1 : IntKind.i64.wrap (Int.tmod (IntKind.u64.wrap what) 4) = (q : Int) := by
    rw [show Int.tmod (IntKind.u64.wrap what) 4 = (q : Int) from hqq, wr64 (by omega) (by omega)]
  rw [hq1]
  have notbox : ∀ g ∈ [w3.heap.size, w.heap.size], g ∉ L ∧ g ∉ M := fun g hg => by
    simp at hg
    refine ⟨fun hm => ?_, fun hm => ?_⟩
    · have := hLu g hm; omega
    · have := hMu g hm; omega
  refine br_dec (fun h0 => ?_) fun h0 => br_dec (fun h1 => ?_) fun h1 => br_dec (fun h2 => ?_) fun h2 => ?_
  · refine (to_any t a3 c3 w5 (gin fun _ _ _ => rfl).anywhere (by omega)).mono ?_
    rintro e w6 ⟨a6, c6, rfl, o6, b6⟩
    have z6 := b6.size
    refine ⟨keepG_below b6, _, _, _, _, _, _, _, rfl, newO_in fun w7 n7 b7 s7 w8 h8 => ?_⟩
    have z8 := h8.2
    have B6 := B5.trans (b6.mono B5.size)
    have B8 := box_below (B6.trans (b7.mono B6.size)) (by have := B6.size; omega) h8
    have o8 := (o6.below b7 (Nat.le_refl _)).keep (w' := w8) fun k hk => h8.1.block k (by have := (o6.lt k hk).2; omega) (by rw [List.mem_singleton]; have := (o6.lt k hk).2; omega)
    have kp8 : ∀ k, k < w6.heap.size → w8.heap[k]? = w6.heap[k]? := fun k hk => (h8.1.block k (by omega) (by rw [List.mem_singleton]; omega)).trans (b7.block k hk)
    have x8 : ∀ k, (Value.slice a6 t.gs.length c6).ownBlock = some k → w5.heap.size ≤ k ∧ k < w6.heap.size := fun k hk => o6.lt k hk
    refine (add_code (hT.below sesR B8) hlen hpl t a6 c6 (gr_own o8).anywhere (Own.cap o8).1 (by omega)).mono ?_
    rintro e w9 ⟨L', hT9, rfl, f9, g9⟩
    have z9 := f9.size
    have nL : ∀ k, w.heap.size ≤ k → k ∉ L := fun k hk hm => by have := hLu k hm; omega
    have nM : ∀ k, w.heap.size ≤ k → k ∉ M := fun k hk hm => by have := hMu k hm; omega
    have zB5 := B5.size
    refine ⟨keepG_fr f9 (fun g hg => nL g (by simp at hg; omega)), _, rfl, ?_⟩
    have o9 := o8.keep (w' := w9) fun k hk => f9.block k (by have := x8 k hk; omega) (nL k (by have := x8 k hk; omega))
    have ints0 : ∀ j, j < t.gs.length → ∃ z : Int, (t.gs.flatMap g4Cells)[j * 4 + 1]? = some (.int .i64 z) := fun j hj => ⟨t.gs[j].units, by rw [flat_get g4_len t.gs j _ 1 (List.getElem?_eq_getElem hj) (by omega)]; rfl⟩
    refine ⟨fun y wx => ∃ (i : Nat) (xs : List Value), y = i ∧ i ≤ t.gs.length ∧ Own wx w5.heap.size 115 4 (.slice a6 t.gs.length c6) t.gs.length xs ∧ (∀ j, j < t.gs.length → ∃ z : Int, xs[j * 4 + 1]? = some (.int .i64 z)) ∧ Fr (Value.slice a6 t.gs.length c6).ownBlock.toList w9 wx ∧ wx.heap.size = w9.heap.size, fun y _ => t.gs.length - y.toNat, ⟨0, _, rfl, by omega, o9, ints0, Fr.refl _ _, rfl⟩, ?_⟩
    rintro y wx ⟨i, xs, rfl, hi, ox, hin, fx, zx⟩
    refine br_dec (fun hlt => ?_) fun hge => ?_
    · have hil : i < t.gs.length := by omega
      obtain ⟨g, off, rfl, _⟩ := own_somewhere ox (by omega)
      obtain ⟨z, hz⟩ := hin i hil
      have hgx := x8 g rfl
      refine ⟨by omega, by omega, z, ?_, by omega, by omega, ?_⟩
      · rw [Int.toNat_natCast, Nat.add_assoc]; exact ox.cells g off c6 rfl _ _ hz
      rw [Int.toNat_natCast, Nat.add_assoc]
      refine stO_in ox (by omega) (fun x hx => by simp at hx; omega) fun w11 o11 f11 z11 => ?_
      rw [wr64 (by omega) (by omega)]
      refine ⟨⟨i + 1, _, by omega, by omega, o11, fun j hj => ?_, fx.trans f11 (fun b hb => by rw [List.mem_singleton] at hb; subst hb; exact .inl (by simp [Value.ownBlock])), by omega⟩, by dsimp only; omega⟩
      by_cases hij : i = j
      · subst hij
        exact ⟨_, List.getElem?_set_self (by have := (List.getElem?_eq_some_iff.1 hz).1; omega)⟩
      · obtain ⟨z2, hz2⟩ := hin j hj
        exact ⟨z2, by rw [List.getElem?_set_ne (by omega)]; exact hz2⟩
    · have apx : ∀ k ∈ (Value.slice a6 t.gs.length c6).ownBlock.toList, w5.heap.size ≤ k ∧ k < w6.heap.size := fun k hk => x8 k (by simpa using hk)
      have hTx := hT9.fr sesR fx fun b hb hm => by
        have := apx b hm
        rcases g9 b hb with h | h
        · have := hLu b h; omega
        · omega
      have hRx := ((hR.below sesR B8).fr sesR f9 hap.symm).fr sesR fx fun b hb hm => by have := apx b hm; have := hMu b hb; omega
      have hgx := gin (wx := wx) fun k k1 k2 => by
        rw [fx.block k (by omega) (fun hm => by have := apx k hm; omega), f9.block k (by omega) (nL k (by omega)), kp8 k (by omega)]
        exact b6.block k (by omega)
      refine (rDocAdd_any hRx (by omega) t a3 c3 hgx hc3 (by omega) (fun b hb => by have := B2lt b hb; omega) (fun b hb hm => by have := B2lt b hb; have := hMu b hm; omega)).mono ?_
      rintro e w12 ⟨M', hR12, rfl, f12, g12⟩
      have z12 := f12.size
      obtain ⟨i1, i2, i3⟩ := add_ids (pl := pl) (la := la) (es := es) (s := t) hids hok hlen
      have hapM : Apart L' M := fun b hb hm => (g9 b hb).elim (fun h => hap b h hm) fun h => by have := hMu b hm; omega
      have hapLM : Apart L' M' := fun b hb hm => by
        rcases g12 b hm with h | h
        · rcases List.mem_append.1 h with h | h
          · exact hapM b hb h
          · have := B2lt b h
            rcases g9 b hb with h | h
            · have := hLu b h; omega
            · omega
        · have := hTx.under b hb; omega
      refine ⟨keepG_fr f12 (fun g hg => nM g (by simp at hg; omega)), _, rfl, by simp [addE], ⟨_, _, ⟨⟨L', M', hTx.fr sesR f12 hapM, hR12, hapLM, fun b hb => ?_, fun b hb => ?_⟩, i1, i2, i3, hpl⟩, fun k => ?_⟩, ?_⟩
      · exact (g9 b hb).elim (hL b) fun h => by omega
      · rcases g12 b hb with h | h
        · exact (List.mem_append.1 h).elim (hM b) fun h => by have := B2lt b h; omega
        · omega
      · unfold addLa; split
        · rename_i hh; have := hh.1.1; omega
        · exact k
      · exact ((((B8.mono hB).trans (f9.below hL (by omega))).trans (fx.below (b := B) (fun b hb => by have := apx b hb; omega) (by omega))).trans (f12.below hM (by omega)))
  · refine drewO_in fun w13 b13 _ => ?_
    have z13 := b13.size
    have zB5 := B5.size
    have B13 := B5.trans (b13.mono B5.size)
    refine (to_any t a3 c3 w13 (gin fun k k1 k2 => b13.block k (by omega)).anywhere (by omega)).mono ?_
    rintro e w14 ⟨a14, c14, rfl, o14, b14⟩
    have B14 := B13.trans (b14.mono B13.size)
    have z14 := b14.size
    obtain ⟨k, hk⟩ := set_pair (hT.below sesR B14) (hR.below sesR B14) hap hL hM hids hok hlen hpl (by omega) t a14 a3 c14 c3 (gr_own o14).anywhere (Own.cap o14).1 (gin fun k k1 k2 => by rw [b14.block k (by omega)]; exact b13.block k (by omega)) hc3 (by omega) (fun b hb => by have := B2lt b hb; omega) (fun b hb => by have := B2lt b hb; omega) (fun b hb hm => by have := B2lt b hb; have := hLu b hm; omega) (fun b hb hm => by have := B2lt b hb; have := hMu b hm; omega)
    refine ⟨keepG_below b14, _, _, _, _, _, _, _, rfl, hk.mono ?_⟩
    rintro e w15 ⟨rfl, f15, hk2⟩
    have z15 := f15.size
    refine ⟨keepG_fr f15 fun g hg => (notbox g hg).1, _, rfl, hk2.mono ?_⟩
    rintro e w16 ⟨rfl, f16, es', hCB⟩
    exact ⟨keepG_fr f16 fun g hg => (notbox g hg).2, _, rfl, by simp, ⟨la, es', hCB, id⟩, ((B14.mono hB).trans (f15.below hL (by omega))).trans (f16.below hM (by omega))⟩
  · refine drewO_in fun w17 b17 _ => ?_
    have B17 := B5.trans (b17.mono B5.size)
    have zB := B17.size
    obtain ⟨k, hk⟩ := ends_pair (hT.below sesR B17) (hR.below sesR B17) hap hL hM hids hok hlen hpl (by omega) t.id
    refine hk.mono ?_
    rintro e w18 ⟨rfl, f18, hk2⟩
    have z18 := f18.size
    refine ⟨keepG_fr f18 fun g hg => (notbox g hg).1, _, rfl, hk2.mono ?_⟩
    rintro e w19 ⟨rfl, f19, es', hCB⟩
    exact ⟨keepG_fr f19 fun g hg => (notbox g hg).2, _, rfl, by simp, ⟨la, es', hCB, id⟩, ((B17.mono hB).trans (f18.below hL (by omega))).trans (f19.below hM (by omega))⟩
  · refine drewO_in fun w20 b20 _ => ?_
    have B20 := B5.trans (b20.mono B5.size)
    obtain ⟨k, hk1, hk2⟩ := step_both (h.below B20) t.id num
    refine hk1.mono ?_
    rintro e w21 ⟨rfl, b21⟩
    refine ⟨keepG_below b21, _, rfl, (hk2 w21 b21).mono ?_⟩
    rintro e w22 ⟨rfl, rfl⟩
    have B21 := B20.trans (b21.mono B20.size)
    exact ⟨fun _ _ _ => rfl, _, rfl, by simp, ⟨la, es, h.below B21, id⟩, B21.mono hB⟩
end Go.Proofs.Ytamlgnhnmilbdaa
end
section
/- CreditActs: what is told of no table; sessions handed back; walked. -/
namespace Go.Proofs.Ytamlgnhnmilbdaa
open Go.RowKit
theorem from_any (s : Ses) (a : Option Addr) (c : Nat) (w : World) (h : GrAt w a s.gs) (hm : s.gs.length ≤ 100000) :
    Calls Try.prog 61 #[sesV s a c] w fun e w' => ∃ a' c', e = .returned (sesV s a' c') ∧ Own w' w.heap.size 161 4 (.slice a' s.gs.length c') s.gs.length (s.gs.flatMap g4Cells) ∧ Below w.heap.size w w' := by
  refine (GCred2.lfrom_calls s.id s.node s.num s.dl a s.gs.length c w (fun v w' => ∃ a' c', v = sesV s a' c' ∧ Own w' w.heap.size 161 4 (.slice a' s.gs.length c') s.gs.length (s.gs.flatMap g4Cells) ∧ Below w.heap.size w w') ?_).mono (by rintro e w' ⟨v, rfl, a', c', rfl, h⟩; exact ⟨a', c', rfl, h⟩)
  unfold GCred2.lfrom_vc
  refine newO_in fun w2 n2 b2 s2 => newO_in fun w3 n3 b3 s3 => newO_in fun w4 n4 b4 s4 w5 h5 => ?_
  have B4 := (b2.trans (b3.mono b2.size)).trans (b4.mono (by omega))
  have B5 := box_below B4 (by omega) h5
  have z5 := h5.2
  refine ⟨fun x4 y0 y1 y2 y3 a3 n3 c3 wx => ∃ i : Nat, x4 = i ∧ y0 = s.id ∧ y1 = s.node ∧ y2 = s.num ∧ y3 = s.dl ∧ i ≤ s.gs.length ∧ i = n3 ∧ Own wx (w.heap.size + 3) 161 4 (.slice a3 i c3) i ((s.gs.take i).flatMap g4Cells) ∧ Below w.heap.size w wx ∧ w.heap.size + 3 ≤ wx.heap.size, fun x4 _ _ _ _ _ _ _ _ => s.gs.length - x4.toNat, ⟨0, rfl, rfl, rfl, rfl, rfl, by omega, rfl, Own.nil _ _ _ _, B5, by omega⟩, ?_⟩
  rintro x4 y0 y1 y2 y3 a3 n3 c3 wx ⟨i, rfl, rfl, rfl, rfl, rfl, hi, rfl, hO, hb, hsz⟩
  refine br_dec (fun hlt => ?_) fun hge => ?_
  · have hil : i < s.gs.length := by omega
    obtain ⟨b, off, ha, hc4⟩ := RowsAt.get (h.below hb) hil
    subst ha
    refine ⟨by omega, by omega, s.gs[i].grp, s.gs[i].units, s.gs[i].amount, s.gs[i].fin, by rw [Int.toNat_natCast]; exact hc4, newO_in fun w7 n7 b7 s7 w8 h8 => newO_in fun w9 n9 b9 s9 => ?_⟩
    have hlx : ∀ k, (Value.slice a3 i c3).ownBlock = some k → w.heap.size + 3 ≤ k ∧ k < wx.heap.size := fun k hk => hO.lt k hk
    have z8 := h8.2
    have o8 := (hO.below b7 (Nat.le_refl _)).keep (w' := w8) fun k hk => h8.1.block k (by have := hlx k hk; omega) (by rw [List.mem_singleton]; have := hlx k hk; omega)
    have o9 := o8.below b9 (Nat.le_refl _)
    refine ⟨1, (s.gs.take i).flatMap g4Cells, g4Cells s.gs[i], o9.base_le fun _ _ => Nat.zero_le _, src_block Try.underlying51 (n := 1) (size := 4) n9 rfl rfl, by unfold maxLen; omega, by omega, fun g hg e => ?_, ?_⟩
    · have := hlx g e
      simp at hg
      omega
    intro a10 c10 w10 o10 g10 or10 _ w11 h11
    have z10 := g10.size
    have far : ∀ k, (Value.slice a10 (i + 1) c10).ownBlock = some k → w.heap.size + 3 ≤ k := fun k hk => by
      rcases or10 with h1 | ⟨g, h1, hg⟩
      · exact (hlx k (h1 ▸ hk)).1
      · rw [h1] at hk; injection hk with hk; omega
    have o11 := (o10.keep (w' := w11) fun k hk => h11.1.block k (o10.lt k hk).2 (by rw [List.mem_singleton]; have := far k hk; omega)).base_le far
    have B8 : Below w.heap.size w w8 := hb.trans ((box_below b7 (Nat.le_refl _) h8).mono hb.size)
    have B9 := B8.trans (b9.mono B8.size)
    have B10 : Below w.heap.size w w10 := below_gr B9 B9.size g10 fun k hk => by have := hlx k hk; omega
    have B11 := box_below B10 (by omega) h11
    rw [wr64 (by omega) (by omega)]
    refine ⟨⟨i + 1, by omega, rfl, rfl, rfl, rfl, by omega, rfl, ?_, B11, by have := h11.2; omega⟩, by dsimp only; omega⟩
    rw [List.take_add_one, List.getElem?_eq_getElem hil, List.flatMap_append]
    simpa using o11
  · obtain rfl : i = s.gs.length := by omega
    intro w12 h12
    rw [List.take_length] at hO
    have o12 := hO.keep (w' := w12) fun k hk => h12.1.block k (hO.lt k hk).2 (by rw [List.mem_singleton]; have := (hO.lt k hk).1; omega)
    exact ⟨a3, c3, rfl, o12.base_le fun k hk => by have := (hO.lt k hk).1; omega, box_below hb (by omega) h12⟩
theorem none_any (w : World) : Calls Try.prog 18 #[] w fun e w' => e = .returned (.pointer none) ∧ w = w' := by
  refine (GCred2.lnone_calls w (fun v w' => v = .pointer none ∧ w = w') ?_).mono (by rintro e w' ⟨v, rfl, rfl, rfl⟩; exact ⟨rfl, rfl⟩)
  exact ⟨rfl, rfl⟩
theorem find_nil (x : Int) (w : World) : Calls Try.prog 46 #[.pointer none, .int .i64 x] w fun e w' => e = .returned (.tuple #[.int .i64 0, .int .i64 1]) ∧ w = w' := by
  refine (GCred.find_calls none x w (fun v w' => v = .tuple #[.int .i64 0, .int .i64 1] ∧ w = w') ?_).mono (by rintro e w' ⟨v, rfl, rfl, rfl⟩; exact ⟨rfl, rfl⟩)
  exact br_t rfl ⟨rfl, rfl⟩
theorem get_nil (x : Int) (w : World) : Calls Try.prog 19 #[.pointer none, .int .i64 x] w fun e w' => e = .returned (.tuple #[sesV ⟨0, 0, 0, 0, []⟩ none 0, .int .i64 1]) ∧ Below w.heap.size w w' := by
  refine (GCred2.get_calls none x w (fun v w' => v = .tuple #[sesV ⟨0, 0, 0, 0, []⟩ none 0, .int .i64 1] ∧ Below w.heap.size w w') ?_).mono (by rintro e w' ⟨v, rfl, rfl, h⟩; exact ⟨rfl, h⟩)
  unfold GCred2.get_vc
  refine newO_in fun w2 n2 b2 s2 => (find_nil x w2).mono ?_
  rintro e w3 ⟨rfl, rfl⟩
  exact ⟨fun _ _ _ => rfl, _, _, rfl, br_y (by decide) fun w4 h4 => ⟨rfl, box_below b2 (Nat.le_refl _) h4⟩⟩
theorem end_nil' (x : Int) (w : World) : Calls Try.prog 13 #[.pointer none, .int .i64 x] w fun e w' => e = .returned (.int .i64 1) ∧ w = w' := by
  refine (GCred.tend_calls none x w (fun v w' => v = .int .i64 1 ∧ w = w') ?_).mono (by rintro e w' ⟨v, rfl, rfl, rfl⟩; exact ⟨rfl, rfl⟩)
  unfold GCred.tend_vc
  refine (find_nil x w).mono ?_
  rintro e w3 ⟨rfl, rfl⟩
  exact ⟨keepG_nil _ _, _, _, rfl, br_y (by decide) ⟨rfl, rfl⟩⟩
theorem step_nil (x n : Int) (w : World) : Calls Try.prog 22 #[.pointer none, .int .i64 x, .int .i64 n] w fun e w' => e = .returned (.int .i64 1) ∧ w = w' := by
  refine (GCred2.step_calls none x n w (fun v w' => v = .int .i64 1 ∧ w = w') ?_).mono (by rintro e w' ⟨v, rfl, rfl, rfl⟩; exact ⟨rfl, rfl⟩)
  unfold GCred2.step_vc
  refine (find_nil x w).mono ?_
  rintro e w3 ⟨rfl, rfl⟩
  exact ⟨keepG_nil _ _, _, _, rfl, br_y (by decide) ⟨rfl, rfl⟩⟩
theorem add_none (w : World) : Calls Try.prog 14 #[.pointer none, .agg #[.int .i64 0, .int .i64 0, .int .i64 0, .int .i64 0, .slice none 0 0]] w fun e w' => e = .returned (.int .i64 1) ∧ Below w.heap.size w w' := by
  refine (GCred.add_calls none 0 0 0 0 none 0 0 w (fun v w' => v = .int .i64 1 ∧ Below w.heap.size w w') ?_).mono (by rintro e w' ⟨v, rfl, rfl, h⟩; exact ⟨rfl, h⟩)
  unfold GCred.add_vc
  exact newO_in fun w2 n2 b2 s2 => br_t rfl ⟨rfl, b2⟩
theorem set_none (w : World) : Calls Try.prog 21 #[.pointer none, .agg #[.int .i64 0, .int .i64 0, .int .i64 0, .int .i64 0, .slice none 0 0]] w fun e w' => e = .returned (.int .i64 1) ∧ Below w.heap.size w w' := by
  refine (GCred2.set_calls none 0 0 0 0 none 0 0 w (fun v w' => v = .int .i64 1 ∧ Below w.heap.size w w') ?_).mono (by rintro e w' ⟨v, rfl, rfl, h⟩; exact ⟨rfl, h⟩)
  unfold GCred2.set_vc
  refine newO_in fun w2 n2 b2 s2 => (right_any ⟨0, 0, 0, 0, []⟩ none 0 w2 (.inl rfl) (Nat.le_refl _) (Nat.zero_le _)).mono ?_
  rintro e w3 ⟨rfl, b3⟩
  exact ⟨keepG_below b3, _, rfl, br_t (by decide) ⟨rfl, b2.trans (b3.mono b2.size)⟩⟩
theorem ids_nil (w : World) : Calls Try.prog 16 #[.pointer none] w fun e w' => e = .returned (.slice none 0 0) ∧ w = w' := by
  refine (GCred.ids_calls none w (fun v w' => v = .slice none 0 0 ∧ w = w') ?_).mono (by rintro e w' ⟨v, rfl, rfl, rfl⟩; exact ⟨rfl, rfl⟩)
  exact br_t rfl ⟨rfl, rfl⟩
theorem last_nil (w : World) : Calls Try.prog 17 #[.pointer none] w fun e w' => e = .returned (.int .i64 0) ∧ w = w' := by
  refine (GCred.last_calls none w (fun v w' => v = .int .i64 0 ∧ w = w') ?_).mono (by rintro e w' ⟨v, rfl, rfl, rfl⟩; exact ⟨rfl, rfl⟩)
  exact br_t rfl ⟨rfl, rfl⟩
theorem held_nil (x : Int) (w : World) : Calls Try.prog 23 #[.pointer none, .int .i64 x] w fun e w' => e = .returned (.int .i64 0) ∧ w = w' := by
  refine (GCred2.held_calls none x w (fun v w' => v = .int .i64 0 ∧ w = w') ?_).mono (by rintro e w' ⟨v, rfl, rfl, rfl⟩; exact ⟨rfl, rfl⟩)
  exact br_t rfl ⟨rfl, rfl⟩
theorem cNew_bad (m : Int) (w : World) (h : m < 1 ∨ 16 < m) : Calls Try.prog 11 #[.int .i64 m] w fun e w' => e = .returned (.tuple #[.pointer none, .int .i64 1]) ∧ w = w' := by
  refine (GCred.new_calls m w (fun v w' => v = .tuple #[.pointer none, .int .i64 1] ∧ w = w') ?_).mono (by rintro e w' ⟨v, rfl, rfl, rfl⟩; exact ⟨rfl, rfl⟩)
  unfold GCred.new_vc
  refine (within_any m 1 16 w).mono ?_
  rintro e w2 ⟨rfl, rfl⟩
  exact ⟨keepG_nil _ _, _, rfl, br_t (by rw [decide_eq_false (by omega)]; rfl) ⟨rfl, rfl⟩⟩
end Go.Proofs.Ytamlgnhnmilbdaa
end
section
/- CreditActs: the rows of calls that come in; two sessions that are the same. -/
namespace Go.Proofs.Ytamlgnhnmilbdaa
open Go.RowKit Go.WideShapes Go.ChangeShapes
structure CAct where
  what : Int
  s : Ses
  num : Int
def CActAt (w : World) (b off : Nat) (x : CAct) : Prop := ∃ a c, cellsAt w b off [.int .i64 x.what, .int .i64 x.s.id, .int .i64 x.s.node, .int .i64 x.s.num, .int .i64 x.s.dl, .slice a x.s.gs.length c, .int .i64 x.num] ∧ GrAt w a x.s.gs ∧ x.s.gs.length ≤ c
theorem CActAt.below {w w' : World} {b off : Nat} {x : CAct} (h : CActAt w b off x) (hb : Below w.heap.size w w') : CActAt w' b off x := by
  obtain ⟨a, c, h1, h2, h3⟩ := h
  exact ⟨a, c, cellsAt_below h1 hb (Nat.le_refl _), h2.below hb, h3⟩
def shGr : Sh := .agg (.fcons 0 1 (.int .i64) (.fcons 1 1 (.int .i64) (.fcons 2 1 (.int .i64) (.fcons 3 1 .bool .fnil))))
def shSes : Sh := .agg (.fcons 0 1 (.int .i64) (.fcons 1 1 (.int .i64) (.fcons 2 1 (.int .i64) (.fcons 3 1 (.int .i64) (.fcons 4 1 (.slice shGr 4) .fnil)))))
def shCAct : Sh := .agg (.fcons 0 1 (.int .i64) (.fcons 1 5 shSes (.fcons 6 1 (.int .i64) .fnil)))
theorem gr_elem {w : World} (cs' : List Value) (b off : Nat) (hl : cs'.length = 4) (hc : cellsAt w b off cs') (h : shGr.Has w cs') : ∃ g, cellsAt w b off (g4Cells g) := by
  obtain ⟨⟨x, hx, _⟩, ⟨y, hy, _⟩, ⟨z, hz, _⟩, ⟨k, hk⟩, _⟩ := h
  match cs', hl with
  | [v0, v1, v2, v3], _ =>
    simp at hx hy hz hk
    subst hx; subst hy; subst hz; subst hk
    exact ⟨⟨x, y, z, k⟩, hc⟩
theorem cact_elem {w : World} (cs' : List Value) (b off : Nat) (hl : cs'.length = 7) (hc : cellsAt w b off cs') (h : shCAct.Has w cs') : ∃ x, CActAt w b off x := by
  obtain ⟨⟨x, hx, _⟩, ⟨⟨y1, h1, _⟩, ⟨y2, h2, _⟩, ⟨y3, h3, _⟩, ⟨y4, h4, _⟩, hg, _⟩, ⟨z, hz, _⟩, _⟩ := h
  obtain ⟨gs, a, c, hg1, hg2, _, hg3⟩ := has_rows (R := fun w b off g => cellsAt w b off (g4Cells g)) (by decide) gr_elem hg
  match cs', hl with
  | [v0, v1, v2, v3, v4, v5, v6], _ =>
    simp at hx h1 h2 h3 h4 hz hg1
    subst hx; subst h1; subst h2; subst h3; subst h4; subst hz; subst hg1
    exact ⟨⟨x, ⟨y1, y2, y3, y4, gs⟩, z⟩, a, c, hc, hg3, hg2⟩
theorem open_cacts {H : Type} {enc : TypeId × Value → H} {W : World} {t : TypeId} {v : Value} {d : DataW H} {p : List MemPlace} (hf : fitsB Try.prog (.slice shCAct 7) t = true) (hv : ∃ a l c, v = .slice a l c) (h : DataW.Trod enc Try.prog W 0 (fun _ => true) true t v d p) :
    ∃ (xs : List CAct) (a : Option Addr) (c : Nat), v = .slice a xs.length c ∧ RowsAt CActAt 7 W a xs ∧ xs.length ≤ c ∧ c ≤ maxLen := open_rows (by decide) cact_elem hf hv h
theorem same17_eq (s : Ses) (a a2 : Option Addr) (c c2 : Nat) (w : World) (h1 : GrAt w a s.gs) (h2 : GrAt w a2 s.gs) (hm : s.gs.length ≤ 100000) :
    Calls Try.prog 60 #[sesV s a c, sesV s a2 c2] w fun e w' => e = .returned (.bool true) ∧ Below w.heap.size w w' := by
  refine (GCred2.rSame_calls s.id s.node s.num s.dl a s.gs.length c s.id s.node s.num s.dl a2 s.gs.length c2 w (fun v w' => v = .bool true ∧ Below w.heap.size w w') ?_).mono (by rintro e w' ⟨v, rfl, rfl, h⟩; exact ⟨rfl, h⟩)
  unfold GCred2.rSame_vc
  refine newO_in fun w2 n2 b2 s2 => newO_in fun w3 n3 b3 s3 => br_n (by simp) (br_n (by simp) (br_n (by simp) (br_n (by simp) (br_n (by simp) ?_))))
  have B3 := b2.trans (b3.mono b2.size)
  refine ⟨fun x wx => ∃ i : Nat, x = i ∧ i ≤ s.gs.length ∧ Below w.heap.size w wx, fun x _ => s.gs.length - x.toNat, ⟨0, rfl, by omega, B3⟩, ?_⟩
  rintro x wx ⟨i, rfl, hi, hb⟩
  refine br_dec (fun hlt => drewO_in fun w5 b5 _ => ?_) fun hge => ⟨rfl, hb⟩
  have B5 := hb.trans (b5.mono hb.size)
  have hil : i < s.gs.length := by omega
  obtain ⟨b, off, ha, hc1⟩ := RowsAt.get (h1.below B5) hil
  obtain ⟨b', off', ha2, hc2⟩ := RowsAt.get (h2.below B5) hil
  subst ha; subst ha2
  refine ⟨by omega, by omega, s.gs[i].grp, s.gs[i].units, s.gs[i].amount, s.gs[i].fin, by rw [Int.toNat_natCast]; exact hc1, by omega, by omega, s.gs[i].grp, s.gs[i].units, s.gs[i].amount, s.gs[i].fin, by rw [Int.toNat_natCast]; exact hc2, br_f (by simp) ?_⟩
  rw [wr64 (by omega) (by omega)]
  exact ⟨⟨i + 1, by omega, by omega, B5⟩, by dsimp only; omega⟩
end Go.Proofs.Ytamlgnhnmilbdaa
end
section
/- Numbers in ten parts of 32 bits: what one part of a sum, a difference, a product is. No program in sight. -/
namespace Go.Proofs.Ytamlgnhnmilbdaa
open Go.RowKit
def limb (n i : Nat) : Nat := n / 2 ^ (32 * i) % 4294967296
def uV (n : Nat) : Value := .int .u64 n
def arr (f : Nat → Nat) (neg : Bool) : Array Value := #[uV (f 0), uV (f 1), uV (f 2), uV (f 3), uV (f 4), uV (f 5), uV (f 6), uV (f 7), uV (f 8), uV (f 9), .bool neg]
def bigM (n : Nat) (neg : Bool) : Value := .agg (arr (limb n) neg)
def bigOf (z : Int) : Value := bigM z.natAbs (decide (z < 0))
theorem limb_lt (n i : Nat) : limb n i < 4294967296 := Nat.mod_lt _ (by omega)
theorem cases10 {P : Nat → Prop} (h0 : P 0) (h1 : P 1) (h2 : P 2) (h3 : P 3) (h4 : P 4) (h5 : P 5) (h6 : P 6) (h7 : P 7) (h8 : P 8) (h9 : P 9) : ∀ i, i < 10 → P i := by
  intro i hi
  match i, hi with
  | 0, _ => exact h0
  | 1, _ => exact h1
  | 2, _ => exact h2
  | 3, _ => exact h3
  | 4, _ => exact h4
  | 5, _ => exact h5
  | 6, _ => exact h6
  | 7, _ => exact h7
  | 8, _ => exact h8
  | 9, _ => exact h9
  | n + 10, h => omega
theorem arr_get (f : Nat → Nat) (neg : Bool) : ∀ i, i < 10 → (arr f neg)[i]? = some (.int .u64 (f i)) := cases10 rfl rfl rfl rfl rfl rfl rfl rfl rfl rfl
theorem arr_neg (f : Nat → Nat) (neg : Bool) : (arr f neg)[10]? = some (.bool neg) := rfl
theorem arr_size (f : Nat → Nat) (neg : Bool) : (arr f neg).size = 11 := rfl
theorem arr_congr {f g : Nat → Nat} (neg : Bool) (h : ∀ i, i < 10 → f i = g i) : arr f neg = arr g neg := by
  unfold arr
  rw [h 0 (by omega), h 1 (by omega), h 2 (by omega), h 3 (by omega), h 4 (by omega), h 5 (by omega), h 6 (by omega), h 7 (by omega), h 8 (by omega), h 9 (by omega)]
theorem arr_set (f : Nat → Nat) (neg : Bool) (v : Nat) : ∀ i, i < 10 → (arr f neg).setIfInBounds i (.int .u64 v) = arr (fun k => if k = i then v else f k) neg := cases10 rfl rfl rfl rfl rfl rfl rfl rfl rfl rfl
theorem arr_setNeg (f : Nat → Nat) (neg b : Bool) : (arr f neg).setIfInBounds 10 (.bool b) = arr f b := rfl
theorem arr_one (f : Nat → Nat) (neg : Bool) : (arr f neg).all (·.oneCell') = true := by simp [arr, uV, Value.oneCell']
theorem arr_zero : arr (fun _ => 0) false = #[.int .u64 0, .int .u64 0, .int .u64 0, .int .u64 0, .int .u64 0, .int .u64 0, .int .u64 0, .int .u64 0, .int .u64 0, .int .u64 0, .bool false] := rfl
theorem limb_zero (i : Nat) : limb 0 i = 0 := by unfold limb; rw [Nat.zero_div]
theorem bigOf_zero : bigOf 0 = .agg (arr (fun _ => 0) false) := by
  show Value.agg (arr (limb 0) false) = _
  rw [arr_congr false (g := fun _ => 0) (fun i _ => limb_zero i)]

/-! One step of a sum. -/
def carry (n m i : Nat) : Nat := (n % 2 ^ (32 * i) + m % 2 ^ (32 * i)) / 2 ^ (32 * i)
theorem pow_succ32 (i : Nat) : 2 ^ (32 * (i + 1)) = 2 ^ (32 * i) * 4294967296 := by rw [Nat.mul_add, Nat.pow_add]
theorem mod_limb (n i : Nat) : n % 2 ^ (32 * (i + 1)) = n % 2 ^ (32 * i) + 2 ^ (32 * i) * limb n i := by
  rw [pow_succ32, Nat.mod_mul]; rfl
theorem carry_zero (n m : Nat) : carry n m 0 = 0 := by unfold carry; simp [Nat.mod_one]
theorem carry_le (n m i : Nat) : carry n m i ≤ 1 := by
  unfold carry
  have hp : 0 < 2 ^ (32 * i) := Nat.pow_pos (by omega)
  have h1 := Nat.mod_lt n hp
  have h2 := Nat.mod_lt m hp
  have : (n % 2 ^ (32 * i) + m % 2 ^ (32 * i)) / 2 ^ (32 * i) < 2 := by rw [Nat.div_lt_iff_lt_mul hp]; omega
  omega
theorem add_step (n m i : Nat) : (limb n i + limb m i + carry n m i) / 4294967296 = carry n m (i + 1) ∧ (limb n i + limb m i + carry n m i) % 4294967296 = limb (n + m) i := by
  have hp : 0 < 2 ^ (32 * i) := Nat.pow_pos (by omega)
  constructor
  · unfold carry
    rw [mod_limb, mod_limb, pow_succ32]
    generalize 2 ^ (32 * i) = p at *
    rw [← Nat.div_div_eq_div_mul]
    congr 1
    rw [show n % p + p * limb n i + (m % p + p * limb m i) = (n % p + m % p) + p * (limb n i + limb m i) by rw [Nat.mul_add]; omega, Nat.add_mul_div_left _ _ hp]
    omega
  · unfold carry limb
    generalize 2 ^ (32 * i) = p at *
    have h : (n + m) / p = n / p + m / p + (n % p + m % p) / p := by
      conv => lhs; rw [← Nat.div_add_mod n p, ← Nat.div_add_mod m p]
      rw [show p * (n / p) + n % p + (p * (m / p) + m % p) = (n % p + m % p) + p * (n / p + m / p) by rw [Nat.mul_add]; omega, Nat.add_mul_div_left _ _ hp]
      omega
    rw [h]
    omega
theorem u64_mask (s : Nat) (h : s < 18446744073709551616) : bits BinOp.and IntKind.u64 (s : Int) 4294967295 = ((s % 4294967296 : Nat) : Int) := by
  rw [show (4294967295 : Int) = ((4294967295 : Nat) : Int) from rfl, u64_and_nat _ _ h (by omega), show (4294967295 : Nat) = 2 ^ 32 - 1 from rfl, Nat.and_two_pow_sub_one_eq_mod]
/-! One step of a difference. -/
def borrow (n m i : Nat) : Nat := if n % 2 ^ (32 * i) < m % 2 ^ (32 * i) then 1 else 0
theorem borrow_zero (n m : Nat) : borrow n m 0 = 0 := by unfold borrow; simp [Nat.mod_one]
theorem borrow_le (n m i : Nat) : borrow n m i ≤ 1 := by unfold borrow; split <;> omega
theorem sub_step (n m i : Nat) (h : m ≤ n) : 1 - (limb n i + 4294967296 - limb m i - borrow n m i) / 4294967296 = borrow n m (i + 1) ∧ (limb n i + 4294967296 - limb m i - borrow n m i) % 4294967296 = limb (n - m) i := by
  have hp : 0 < 2 ^ (32 * i) := Nat.pow_pos (by omega)
  constructor
  · unfold borrow
    rw [mod_limb, mod_limb]
    have lx := limb_lt n i
    have ly := limb_lt m i
    have r1 := Nat.mod_lt n hp
    have r2 := Nat.mod_lt m hp
    generalize limb n i = x at *
    generalize limb m i = y at *
    generalize 2 ^ (32 * i) = p at *
    generalize n % p = r at *
    generalize m % p = s at *
    rcases Nat.lt_trichotomy x y with hxy | hxy | hxy
    · have h1 : p * (x + 1) ≤ p * y := Nat.mul_le_mul_left p hxy
      rw [Nat.mul_add, Nat.mul_one] at h1
      rw [if_pos (show r + p * x < s + p * y by omega)]
      split <;> omega
    · subst hxy
      by_cases hrs : r < s
      · rw [if_pos hrs, if_pos (by omega)]; omega
      · rw [if_neg hrs, if_neg (by omega)]; omega
    · have h1 : p * (y + 1) ≤ p * x := Nat.mul_le_mul_left p hxy
      rw [Nat.mul_add, Nat.mul_one] at h1
      rw [if_neg (show ¬ (r + p * x < s + p * y) by omega)]
      split <;> omega
  · unfold borrow limb
    have r1 := Nat.mod_lt n hp
    have r2 := Nat.mod_lt m hp
    generalize 2 ^ (32 * i) = p at *
    have e1 := Nat.div_add_mod n p
    have e2 := Nat.div_add_mod m p
    have hd : m / p ≤ n / p := Nat.div_le_div_right h
    have key : (n - m) / p = n / p - m / p - (if n % p < m % p then 1 else 0) := by
      split
      · rename_i hlt
        have hne : m / p < n / p := by
          rcases Nat.lt_or_ge (m / p) (n / p) with h1 | h1
          · exact h1
          · have : n / p = m / p := by omega
            rw [this] at e1
            omega
        have hm : p * (m / p + 1) ≤ p * (n / p) := Nat.mul_le_mul_left p hne
        rw [Nat.mul_add, Nat.mul_one] at hm
        have e3 : n - m = (p + n % p - m % p) + p * (n / p - m / p - 1) := by
          rw [Nat.mul_sub, Nat.mul_sub]
          omega
        rw [e3, Nat.add_mul_div_left _ _ hp, Nat.div_eq_of_lt (by omega)]
        omega
      · have hm : p * (m / p) ≤ p * (n / p) := Nat.mul_le_mul_left p hd
        have e3 : n - m = (n % p - m % p) + p * (n / p - m / p) := by
          rw [Nat.mul_sub]
          omega
        rw [e3, Nat.add_mul_div_left _ _ hp, Nat.div_eq_of_lt (by omega)]
        omega
    rw [key]
    have hb : n % p < m % p → m / p < n / p := fun hlt => by
      rcases Nat.lt_or_ge (m / p) (n / p) with h1 | h1
      · exact h1
      · have : n / p = m / p := by omega
        rw [this] at e1
        omega
    generalize n / p = a at *
    generalize m / p = b at *
    split
    · rename_i hlt
      have := hb hlt
      omega
    · omega
/-! From the top: the first part that parts them decides. -/
theorem div_limb (n i : Nat) : n / 2 ^ (32 * i) = 4294967296 * (n / 2 ^ (32 * (i + 1))) + limb n i := by
  rw [pow_succ32, ← Nat.div_div_eq_div_mul]
  unfold limb
  omega
theorem less_same {n m i : Nat} (h : n / 2 ^ (32 * (i + 1)) = m / 2 ^ (32 * (i + 1))) (h2 : limb n i = limb m i) : n / 2 ^ (32 * i) = m / 2 ^ (32 * i) := by rw [div_limb n, div_limb m, h, h2]
theorem less_apart {n m i : Nat} (h : n / 2 ^ (32 * (i + 1)) = m / 2 ^ (32 * (i + 1))) (h2 : limb n i ≠ limb m i) : decide (limb n i < limb m i) = decide (n < m) := by
  have e1 := div_limb n i
  have e2 := div_limb m i
  rw [h] at e1
  have hp : 0 < 2 ^ (32 * i) := Nat.pow_pos (by omega)
  have f1 := Nat.div_add_mod n (2 ^ (32 * i))
  have f2 := Nat.div_add_mod m (2 ^ (32 * i))
  have r1 := Nat.mod_lt n hp
  have r2 := Nat.mod_lt m hp
  generalize 2 ^ (32 * i) = p at *
  generalize limb n i = x at *
  generalize limb m i = y at *
  rcases Nat.lt_or_gt_of_ne h2 with hxy | hxy
  · have h3 : n / p + 1 ≤ m / p := by omega
    have h4 := Nat.mul_le_mul_left p h3
    rw [Nat.mul_add, Nat.mul_one] at h4
    rw [decide_eq_true hxy, decide_eq_true (by omega)]
  · have h3 : m / p + 1 ≤ n / p := by omega
    have h4 := Nat.mul_le_mul_left p h3
    rw [Nat.mul_add, Nat.mul_one] at h4
    rw [decide_eq_false (by omega), decide_eq_false (by omega)]
/-- More than all ten parts hold. (A name: the number itself is never to be reckoned.) -/
def lim : Nat := 2 ^ (32 * 10)
theorem lim_eq : lim = 2 ^ (32 * 10) := by unfold lim; rfl
theorem lim_div {n : Nat} (h : n < lim) : n / 2 ^ (32 * 10) = 0 := by rw [← lim_eq]; exact Nat.div_eq_of_lt h
theorem lim_big {n k : Nat} (hk : k ≤ 32 * 10) (h : n < 2 ^ k) : n < lim := by
  have h2 := Nat.pow_le_pow_right (n := 2) (by omega) hk
  rw [← lim_eq] at h2
  exact Nat.lt_of_lt_of_le h h2
theorem top_zero {n : Nat} (h : n < lim) : n / 2 ^ (32 * (9 + 1)) = 0 := by
  rw [show 9 + 1 = 10 from rfl]; exact lim_div h
theorem all_same {n m : Nat} (h : n / 2 ^ (32 * 0) = m / 2 ^ (32 * 0)) : n = m := by simpa using h
/-- Nought has no part. -/
theorem limb_all_zero {n : Nat} (h : n < lim) (h0 : ∀ i, i < 10 → limb n i = 0) : n = 0 := by
  have e : ∀ k, k ≤ 10 → n / 2 ^ (32 * (10 - k)) = 0 := by
    intro k
    induction k with
    | zero => intro _; rw [Nat.sub_zero]; exact lim_div h
    | succ k ih =>
      intro hk
      have h1 := ih (by omega)
      rw [div_limb, show 10 - (k + 1) + 1 = 10 - k by omega, h1, h0 _ (by omega)]
  have := e 10 (by omega)
  simpa using this
theorem limb_small {n i : Nat} (h : n < 2 ^ (32 * i)) : limb n i = 0 := by unfold limb; rw [Nat.div_eq_of_lt h]
end Go.Proofs.Ytamlgnhnmilbdaa
end
section
/- 'add' of the reference, walked. -/
namespace Go.Proofs.Ytamlgnhnmilbdaa
open Go.RowKit
/-- A block that holds a row, whole. -/
def Blk (w : World) (g : Nat) (cs : Array Value) (t : TypeId) : Prop := w.heap[g]? = some (.cells cs t (0, 0))
theorem Blk.cell {w : World} {g : Nat} {cs : Array Value} {t : TypeId} (h : Blk w g cs t) (i : Nat) : w.cell? ⟨g, i, none⟩ = cs[i]? := cell_of_row _ _ _ _ _ _ h
theorem Blk.frozen {w : World} {g : Nat} {cs : Array Value} {t : TypeId} (h : Blk w g cs t) (i : Nat) : w.frozen? ⟨g, i, none⟩ = false := frozen_of_row _ _ _ _ _ h
theorem Blk.setCell {w : World} {g : Nat} {cs : Array Value} {t : TypeId} (h : Blk w g cs t) (i : Nat) (v : Value) : Blk (w.setCell ⟨g, i, none⟩ v) g (cs.setIfInBounds i v) t := heap_setCell_same _ _ _ _ _ _ h
theorem Blk.other {w : World} {g k i : Nat} {cs : Array Value} {t : TypeId} {v : Value} (h : Blk w g cs t) (hne : g ≠ k) : Blk (w.setCell ⟨k, i, none⟩ v) g cs t := (heap_setCell_other _ _ _ _ hne).trans h
theorem Blk.new {w : World} {cs : Array Value} {t : TypeId} {k : Nat} (h : k = w.heap.size) : Blk (w.alloc (.cells cs t)) k cs t := al_new h
theorem Blk.alloc {w : World} {g : Nat} {cs : Array Value} {t : TypeId} (h : Blk w g cs t) (o : Obj) : Blk (w.alloc o) g cs t := al_old h
theorem Blk.setRow {w : World} {g : Nat} {cs : Array Value} {t : TypeId} (h : Blk w g cs t) (ds : Array Value) : Blk (w.setRow g ds) g ds t := setRow_heap _ _ _ _ _ _ h
theorem Blk.otherRow {w : World} {g k : Nat} {cs : Array Value} {t : TypeId} (h : Blk w g cs t) (ds : Array Value) (hne : g ≠ k) : Blk (w.setRow k ds) g cs t := by
  unfold Blk at *
  simp only [World.setRow, Array.getElem?_modify]
  rw [if_neg (fun e => hne e.symm)]
  exact h
theorem Blk.lt {w : World} {g : Nat} {cs : Array Value} {t : TypeId} (h : Blk w g cs t) : g < w.heap.size := heap_lt h
theorem Blk.below {w w' : World} {g B : Nat} {cs : Array Value} {t : TypeId} (h : Blk w g cs t) (hb : Below B w w') (hB : w.heap.size ≤ B) : Blk w' g cs t := Below.kept hb (Nat.lt_of_lt_of_le h.lt hB) h
theorem al3 (w : World) (A B C : Obj) : ((w.alloc A).alloc B |>.alloc C).heap[w.heap.size]? = some A ∧ ((w.alloc A).alloc B |>.alloc C).heap[w.heap.size + 1]? = some B ∧ ((w.alloc A).alloc B |>.alloc C).heap[w.heap.size + 1 + 1]? = some C ∧
    Below w.heap.size w ((w.alloc A).alloc B |>.alloc C) :=
  ⟨al_old (al_old (al_new rfl)), al_old (al_new (by simp)), al_new (by simp), ((Below_one A).alloc (by simp) B).alloc (by simp; omega) C⟩
def mix (n m i k : Nat) : Nat := if k < i then limb (n + m) k else limb n k
set_option maxRecDepth 100000 in
set_option maxHeartbeats 1000000 in
theorem radd_any (n m : Nat) (na nb : Bool) (w : World) :
    Calls Try.prog 134 #[bigM n na, bigM m nb] w fun e w' => e = .returned (bigM (n + m) na) ∧ Below w.heap.size w w' := by
  unfold bigM
  go_enter Try.func134, Try.ntmps134
  go_wp2
  rw [← arr_zero]
  obtain ⟨h1, h2, h3, hb⟩ := al3 w (.cells (arr (limb n) na) 199) (.cells (arr (limb m) nb) 199) (.cells (arr (fun _ => 0) false) 199)
  generalize ((w.alloc (.cells (arr (limb n) na) 199)).alloc (.cells (arr (limb m) nb) 199)).alloc (.cells (arr (fun _ => 0) false) 199) = W at *
  have H1 := hid h1; have H2 := hid h2; have H3 := hid h3; have HB := hid hb
  clear h1 h2 h3 hb
  go_loopw [5,6,7,8,9,10,11,12,13,14,15,16,17,18,19,20,21,22,23,24,25,26,27,28,29] (fun t5 t6 _ _ _ _ _ _ _ _ _ _ _ _ _ _ _ _ _ _ _ _ _ _ _ wr => ∃ i : Nat, i ≤ 10 ∧ t6 = .int .i64 i ∧ t5 = uV (carry n m i) ∧ Blk wr w.heap.size (arr (mix n m i) na) 199 ∧ Blk wr (w.heap.size + 1) (arr (limb m) nb) 199 ∧ Blk wr (w.heap.size + 1 + 1) (arr (fun _ => 0) false) 199 ∧ Below w.heap.size w wr) (fun t5 t6 _ _ _ _ _ _ _ _ _ _ _ _ _ _ _ _ _ _ _ _ _ _ _ wr => 10 - (intOf t6).toNat)
  case atStart => exact ⟨0, by omega, rfl, by rw [carry_zero]; rfl, by rw [arr_congr (g := limb n) na (fun i _ => by unfold mix; rw [if_neg (by omega)])]; exact H1.out, H2.out, H3.out, HB.out⟩
  case round =>
    obtain ⟨i, hi, rfl, rfl, hA, hB, hC, hW⟩ := hrel
    have HA := hid hA; have HBb := hid hB; have HC := hid hC; have HW := hid hW
    clear hA hB hC hW
    by_cases hlt : i < 10
    · have c1 : wr.cell? ⟨w.heap.size, i, none⟩ = some (.int .u64 (limb n i : Nat)) := by rw [HA.out.cell, arr_get _ _ i hlt]; unfold mix; rw [if_neg (by omega)]
      have c2 : wr.cell? ⟨w.heap.size + 1, i, none⟩ = some (.int .u64 (limb m i : Nat)) := by rw [HBb.out.cell, arr_get _ _ i hlt]
      have hst := add_step n m i
      have l1 := limb_lt n i
      have l2 := limb_lt m i
      have l3 := carry_le n m i
      generalize limb n i = x at *
      generalize limb m i = y at *
      generalize carry n m i = o at *
      obtain ⟨s1, s2⟩ := hst
      have S1 := hid s1; have S2 := hid s2
      clear s1 s2
      have q1 : IntKind.u64.wrap ((x : Int) + (y : Int)) = (x : Int) + (y : Int) := by rw [IntKind.wrap_u64]; omega
      have q2 : IntKind.u64.wrap ((x : Int) + (y : Int) + (o : Int)) = (x : Int) + (y : Int) + (o : Int) := by rw [IntKind.wrap_u64]; omega
      have q3 : bits BinOp.and IntKind.u64 ((x : Int) + (y : Int) + (o : Int)) 4294967295 = (((x + y + o) % 4294967296 : Nat) : Int) := by rw [← u64_mask (x + y + o) (by omega)]; simp
      have i0 : (0 : Int) ≤ (i : Int) := by omega
      have i1 : (i : Int) < 10 := by omega
      unfold uV
      go_wp2
      refine wp_region_early [0, 1, 2, 3, 4, 5, 6, 7, 8, 9, 10, 11] [] [] (fun wx => wx.cell? ⟨w.heap.size, i, none⟩ = some (.int .u64 (x : Int)) ∧ wx.cell? ⟨w.heap.size + 1, i, none⟩ = some (.int .u64 (y : Int))) (by kernel_rfl) (by kernel_rfl) (by kernel_rfl) (by rfl) ⟨c1, c2⟩ ?_
      apply Exists.intro
      refine ⟨fun wx hx => ?_, ?_⟩
      · obtain ⟨x1, x2⟩ := hx
        repeat (refine seI_step rfl (fun K hK => ?_); go_simp; refine hK _ ?_; clear hK K)
        exact seI_nil rfl
      refine wpTA_nil .nil ?_
      go_wp2
      refine NoPanic.normal ?_
      have f1 : wr.frozen? ⟨w.heap.size, i, none⟩ = false := HA.out.frozen i
      go_wp2
      go_roundw
      case rel =>
        refine ⟨i + 1, by omega, by go_num, by rw [← S1.out]; rfl, ?_, HBb.out.other (by omega), HC.out.other (by omega), (HW.out.setCell (p := ⟨w.heap.size, i, none⟩) (Nat.le_refl _) _).drew⟩
        have h1 := HA.out.setCell i (.int .u64 (((x + y + o) % 4294967296 : Nat) : Int))
        rw [arr_set _ _ _ i hlt, S2.out] at h1
        rw [arr_congr (g := fun k => if k = i then limb (n + m) i else mix n m i k) na (fun k _ => by
          unfold mix
          by_cases hk : k = i
          · subst hk; simp
          · by_cases hk2 : k < i
            · simp [hk, hk2, show k < i + 1 by omega]
            · simp [hk, hk2, show ¬ k < i + 1 by omega])]
        have q4 : ((x : Int) + (y : Int) + (o : Int)) % 4294967296 = ((limb (n + m) i : Nat) : Int) := by rw [← S2.out]; omega
        rw [q4]
        exact h1
      case measure => simp [intOf]; omega
    · obtain rfl : i = 10 := by omega
      have hA : Blk wr w.heap.size (arr (limb (n + m)) na) 199 := by
        have := HA.out
        rw [arr_congr (g := limb (n + m)) na (fun k hk => by unfold mix; rw [if_pos hk])] at this
        exact this
      have HA := hid hA
      clear hA
      go_wp2_with (first | (refine wpList_load_row rfl 199 (.tmp 2) rfl w.heap.size rfl 199 (arr (limb (n + m)) na) (0, 0) _ HA.out Try.underlying199 rfl (by kernel_rfl) ?_) | (refine wpList_store_row rfl 199 (.tmp 4) (.tmp 30) rfl (w.heap.size + 1 + 1) (arr (limb (n + m)) na) rfl rfl 199 (arr (fun _ => 0) false) HC.out (by kernel_rfl) rfl (arr_one _ _) ?_))
      refine bodyPost_ret (results_cell_row rfl _ _ (w.heap.size + 1 + 1) 199 (arr (limb (n + m)) na) (0, 0) _ rfl (HC.out.setRow _) Try.underlying199 rfl (by kernel_rfl)) rfl ⟨rfl, ?_⟩
      exact HW.out.trans (Below_setRow (Below.refl _ _) (by omega) _)
end Go.Proofs.Ytamlgnhnmilbdaa
end
section
/- '==' of two arrays of integers. No program in sight. -/
namespace Go.Proofs.Ytamlgnhnmilbdaa
open Go.RowKit
variable {P : Program}
theorem run_part1 {e : TypeId} {k : IntKind} (he : P.underlying e = some (.int k)) (w : World) (cs : Array Value) (i : Nat) (v : Value) (h : cs[i]? = some v) : (part e cs i).run P w = .ok v w := by
  simp [part, isAgg, run_underlying he, h]
theorem run_eqRange {e : TypeId} {k : IntKind} (he : P.underlying e = some (.int k)) (w : World) (xs ys : Array Value) (d : Nat) (f g : Nat → Int) : ∀ (l : List Nat), (∀ i ∈ l, xs[i]? = some (.int k (f i)) ∧ ys[i]? = some (.int k (g i))) →
    (forIn (m := Sem) l ((none, ()) : Option Bool × Unit) fun i (_ : Option Bool × Unit) => do
      let a ← part e xs (i * 1)
      let b ← part e ys (i * 1)
      let r ← Op.equalIn (d + 1) e a b
      if (!r) = true then pure (ForInStep.done (some false, ())) else pure (ForInStep.yield (none, ()))).run P w =
      .ok (if l.all (fun i => f i == g i) then (none, ()) else (some false, ())) w := by
  intro l
  induction l with
  | nil => intro _; rfl
  | cons i l ih =>
    intro h
    obtain ⟨h1, h2⟩ := h i (by simp)
    have e1 := run_part1 he w xs (i * 1) _ (by rw [Nat.mul_one]; exact h1)
    have e2 := run_part1 he w ys (i * 1) _ (by rw [Nat.mul_one]; exact h2)
    have e3 := run_equalIn_int (P := P) w d e k k (f i) (g i) he
    simp only [List.forIn_cons, Sem.run_bind, e1, e2, e3, Result.andThen_ok]
    cases hq : (f i == g i)
    · simp [hq]
    · simp only [Bool.not_true, Bool.false_eq_true, if_false, Sem.run_pure, Result.andThen_ok, List.all_cons, hq, Bool.true_and]
      exact ih fun j hj => h j (by simp [hj])
theorem run_equalIn_arr {t e : TypeId} {k : IntKind} {n : Nat} (d : Nat) (ht : P.underlying t = some (.array n e)) (he : P.underlying e = some (.int k)) (hs : ∀ w, (sizeOf e).run P w = .ok 1 w) (xs ys : Array Value) (f g : Nat → Int)
    (h : ∀ i, i < n → xs[i]? = some (.int k (f i)) ∧ ys[i]? = some (.int k (g i))) (w : World) : (Op.equalIn (d + 2) t (.agg xs) (.agg ys)).run P w = .ok ((List.range n).all fun i => f i == g i) w := by
  unfold Op.equalIn
  simp only [Sem.run_bind, run_underlying ht, Result.andThen_ok, hs]
  rw [Std.Legacy.Range.forIn_eq_forIn_range']
  have hr := run_eqRange (P := P) he w xs ys d f g (List.range n) (fun i hi => h i (List.mem_range.1 hi))
  simp only [Std.Legacy.Range.size, Nat.sub_zero, Nat.add_sub_cancel, Nat.div_one, ← List.range_eq_range']
  rw [hr]
  split
  · rename_i hq
    simp [hq]
  · rename_i hq
    simp [hq]
end Go.Proofs.Ytamlgnhnmilbdaa
end
section
/- 'sub', 'less', 'zero' of the reference, walked. -/
namespace Go.Proofs.Ytamlgnhnmilbdaa
open Go.RowKit
def mixS (n m i k : Nat) : Nat := if k < i then limb (n - m) k else limb n k
set_option maxRecDepth 100000 in
set_option maxHeartbeats 1000000 in
theorem rsub_any (n m : Nat) (na nb : Bool) (hmn : m ≤ n) (w : World) :
    Calls Try.prog 136 #[bigM n na, bigM m nb] w fun e w' => e = .returned (bigM (n - m) na) ∧ Below w.heap.size w w' := by
  unfold bigM
  have HMN := hid hmn; clear hmn
  go_enter Try.func136, Try.ntmps136
  go_wp2
  rw [← arr_zero]
  obtain ⟨h1, h2, h3, hb⟩ := al3 w (.cells (arr (limb n) na) 199) (.cells (arr (limb m) nb) 199) (.cells (arr (fun _ => 0) false) 199)
  generalize ((w.alloc (.cells (arr (limb n) na) 199)).alloc (.cells (arr (limb m) nb) 199)).alloc (.cells (arr (fun _ => 0) false) 199) = W at *
  have H1 := hid h1; have H2 := hid h2; have H3 := hid h3; have HB := hid hb
  clear h1 h2 h3 hb
  go_loopw [5,6,7,8,9,10,11,12,13,14,15,16,17,18,19,20,21,22,23,24,25,26,27,28,29,30,31] (fun t5 t6 _ _ _ _ _ _ _ _ _ _ _ _ _ _ _ _ _ _ _ _ _ _ _ _ _ wr => ∃ i : Nat, i ≤ 10 ∧ t6 = .int .i64 i ∧ t5 = uV (borrow n m i) ∧ Blk wr w.heap.size (arr (mixS n m i) na) 199 ∧ Blk wr (w.heap.size + 1) (arr (limb m) nb) 199 ∧ Blk wr (w.heap.size + 1 + 1) (arr (fun _ => 0) false) 199 ∧ Below w.heap.size w wr) (fun t5 t6 _ _ _ _ _ _ _ _ _ _ _ _ _ _ _ _ _ _ _ _ _ _ _ _ _ wr => 10 - (intOf t6).toNat)
  case atStart => exact ⟨0, by omega, rfl, by rw [borrow_zero]; rfl, by rw [arr_congr (g := limb n) na (fun i _ => by unfold mixS; rw [if_neg (by omega)])]; exact H1.out, H2.out, H3.out, HB.out⟩
  case round =>
    obtain ⟨i, hi, rfl, rfl, hA, hB, hC, hW⟩ := hrel
    have HA := hid hA; have HBb := hid hB; have HC := hid hC; have HW := hid hW
    clear hA hB hC hW
    by_cases hlt : i < 10
    · have c1 : wr.cell? ⟨w.heap.size, i, none⟩ = some (.int .u64 (limb n i : Nat)) := by rw [HA.out.cell, arr_get _ _ i hlt]; unfold mixS; rw [if_neg (by omega)]
      have c2 : wr.cell? ⟨w.heap.size + 1, i, none⟩ = some (.int .u64 (limb m i : Nat)) := by rw [HBb.out.cell, arr_get _ _ i hlt]
      have hst := sub_step n m i HMN.out
      have l1 := limb_lt n i
      have l2 := limb_lt m i
      have l3 := borrow_le n m i
      generalize limb n i = x at *
      generalize limb m i = y at *
      generalize borrow n m i = o at *
      obtain ⟨s1, s2⟩ := hst
      have S1 := hid s1; have S2 := hid s2
      clear s1 s2
      have q0 : IntKind.u64.wrap ((x : Int) + 4294967296) = (x : Int) + 4294967296 := by rw [IntKind.wrap_u64]; omega
      have q1 : IntKind.u64.wrap ((x : Int) + 4294967296 - (y : Int)) = (x : Int) + 4294967296 - (y : Int) := by rw [IntKind.wrap_u64]; omega
      have q2 : IntKind.u64.wrap ((x : Int) + 4294967296 - (y : Int) - (o : Int)) = (x : Int) + 4294967296 - (y : Int) - (o : Int) := by rw [IntKind.wrap_u64]; omega
      have i0 : (0 : Int) ≤ (i : Int) := by omega
      have i1 : (i : Int) < 10 := by omega
      unfold uV
      go_wp2
      refine wp_region_early [0, 1, 2, 3, 4, 5, 6, 7, 8, 9, 10, 11, 12] [] [] (fun wx => wx.cell? ⟨w.heap.size, i, none⟩ = some (.int .u64 (x : Int)) ∧ wx.cell? ⟨w.heap.size + 1, i, none⟩ = some (.int .u64 (y : Int))) (by kernel_rfl) (by kernel_rfl) (by kernel_rfl) (by rfl) ⟨c1, c2⟩ ?_
      apply Exists.intro
      refine ⟨fun wx hx => ?_, ?_⟩
      · obtain ⟨x1, x2⟩ := hx
        repeat (refine seI_step rfl (fun K hK => ?_); go_simp; refine hK _ ?_; clear hK K)
        exact seI_nil rfl
      refine wpTA_nil .nil ?_
      go_wp2
      refine NoPanic.normal ?_
      have f1 : wr.frozen? ⟨w.heap.size, i, none⟩ = false := HA.out.frozen i
      clear q0 q1 q2
      go_wp2
      go_roundw
      case rel =>
        refine ⟨i + 1, by omega, by go_num, by rw [← S1.out]; congr 1; omega, ?_, HBb.out.other (by omega), HC.out.other (by omega), (HW.out.setCell (p := ⟨w.heap.size, i, none⟩) (Nat.le_refl _) _).drew⟩
        have h1 := HA.out.setCell i (.int .u64 (((x + 4294967296 - y - o) % 4294967296 : Nat) : Int))
        rw [arr_set _ _ _ i hlt, S2.out] at h1
        rw [arr_congr (g := fun k => if k = i then limb (n - m) i else mixS n m i k) na (fun k _ => by
          unfold mixS
          by_cases hk : k = i
          · subst hk; simp
          · by_cases hk2 : k < i
            · simp [hk, hk2, show k < i + 1 by omega]
            · simp [hk, hk2, show ¬ k < i + 1 by omega])]
        have q4 : bits BinOp.and IntKind.u64 ((x : Int) + 4294967296 - (y : Int) - (o : Int)) 4294967295 = ((limb (n - m) i : Nat) : Int) := by rw [show (x : Int) + 4294967296 - (y : Int) - (o : Int) = ((x + 4294967296 - y - o : Nat) : Int) by omega, u64_mask _ (by omega), S2.out]
        rw [q4]
        exact h1
      case measure => simp [intOf]; omega
    · obtain rfl : i = 10 := by omega
      have hA : Blk wr w.heap.size (arr (limb (n - m)) na) 199 := by
        have := HA.out
        rw [arr_congr (g := limb (n - m)) na (fun k hk => by unfold mixS; rw [if_pos hk])] at this
        exact this
      have HA := hid hA
      clear hA
      go_wp2_with (first | (refine wpList_load_row rfl 199 (.tmp 2) rfl w.heap.size rfl 199 (arr (limb (n - m)) na) (0, 0) _ HA.out Try.underlying199 rfl (by kernel_rfl) ?_) | (refine wpList_store_row rfl 199 (.tmp 4) (.tmp 32) rfl (w.heap.size + 1 + 1) (arr (limb (n - m)) na) rfl rfl 199 (arr (fun _ => 0) false) HC.out (by kernel_rfl) rfl (arr_one _ _) ?_))
      refine bodyPost_ret (results_cell_row rfl _ _ (w.heap.size + 1 + 1) 199 (arr (limb (n - m)) na) (0, 0) _ rfl (HC.out.setRow _) Try.underlying199 rfl (by kernel_rfl)) rfl ⟨rfl, ?_⟩
      exact HW.out.trans (Below_setRow (Below.refl _ _) (by omega) _)
theorem al2 (w : World) (A B : Obj) : ((w.alloc A).alloc B).heap[w.heap.size]? = some A ∧ ((w.alloc A).alloc B).heap[w.heap.size + 1]? = some B ∧ Below w.heap.size w ((w.alloc A).alloc B) :=
  ⟨al_old (al_new rfl), al_new (by simp), (Below_one A).alloc (by simp) B⟩
set_option maxRecDepth 100000 in
set_option maxHeartbeats 1000000 in
theorem rless_any (n m : Nat) (na nb : Bool) (hn : n < lim) (hm : m < lim) (w : World) :
    Calls Try.prog 135 #[bigM n na, bigM m nb] w fun e w' => e = .returned (.bool (decide (n < m))) ∧ Below w.heap.size w w' := by
  unfold bigM
  have HT := hid (show n / 2 ^ (32 * (9 + 1)) = m / 2 ^ (32 * (9 + 1)) by rw [top_zero hn, top_zero hm])
  clear hn hm
  go_enter Try.func135, Try.ntmps135
  go_wp2
  obtain ⟨h1, h2, hb⟩ := al2 w (.cells (arr (limb n) na) 199) (.cells (arr (limb m) nb) 199)
  generalize (w.alloc (.cells (arr (limb n) na) 199)).alloc (.cells (arr (limb m) nb) 199) = W at *
  have H1 := hid h1; have H2 := hid h2; have HB := hid hb
  clear h1 h2 hb
  go_loopw [5,6,7,8,9,10,11,12,13,14,15,16,17,18,19,20,21,22,23,24,25,26,27] (fun t5 _ _ _ _ _ _ _ _ _ _ _ _ _ _ _ _ _ _ _ _ _ _ wr => ∃ j : Int, -1 ≤ j ∧ j ≤ 9 ∧ t5 = .int .i64 j ∧ n / 2 ^ (32 * (j + 1).toNat) = m / 2 ^ (32 * (j + 1).toNat) ∧ Blk wr w.heap.size (arr (limb n) na) 199 ∧ Blk wr (w.heap.size + 1) (arr (limb m) nb) 199 ∧ Below w.heap.size w wr) (fun t5 _ _ _ _ _ _ _ _ _ _ _ _ _ _ _ _ _ _ _ _ _ _ wr => (intOf t5 + 1).toNat)
  case atStart => exact ⟨9, by omega, by omega, rfl, (by rw [show ((9 : Int) + 1).toNat = 9 + 1 from rfl]; exact HT.out), H1.out, H2.out, HB.out⟩
  case round =>
    obtain ⟨j, hj1, hj2, rfl, hup, hA, hB, hW⟩ := hrel
    have HU := hid hup; have HA := hid hA; have HBb := hid hB; have HW := hid hW
    clear hup hA hB hW
    by_cases hlt : 0 ≤ j
    · obtain ⟨i, rfl⟩ := Int.eq_ofNat_of_zero_le hlt
      have hU := HU.out
      rw [show ((i : Int) + 1).toNat = i + 1 by omega] at hU
      have hlt : i < 10 := by omega
      have c1 : wr.cell? ⟨w.heap.size, i, none⟩ = some (.int .u64 (limb n i : Nat)) := by rw [HA.out.cell, arr_get _ _ i hlt]
      have c2 : wr.cell? ⟨w.heap.size + 1, i, none⟩ = some (.int .u64 (limb m i : Nat)) := by rw [HBb.out.cell, arr_get _ _ i hlt]
      have i0 : (0 : Int) ≤ (i : Int) := by omega
      have i1 : (i : Int) < 10 := by omega
      have HU2 := hid hU
      clear hU HU
      by_cases hxy : limb n i = limb m i
      · have hs := hid (less_same HU2.out hxy)
        rw [hxy] at c1
        clear hxy
        generalize limb m i = y at *
        have hne : ((y : Int) != (y : Int)) = false := by simp
        go_wp2
        refine wp_region_early [0, 1, 2, 3, 4, 5, 6, 7, 8] [] [] (fun wx => wx.cell? ⟨w.heap.size, i, none⟩ = some (.int .u64 (y : Int)) ∧ wx.cell? ⟨w.heap.size + 1, i, none⟩ = some (.int .u64 (y : Int))) (by kernel_rfl) (by kernel_rfl) (by kernel_rfl) (by rfl) ⟨c1, c2⟩ ?_
        apply Exists.intro
        refine ⟨fun wx hx => ?_, ?_⟩
        · obtain ⟨x1, x2⟩ := hx
          repeat (refine seI_step rfl (fun K hK => ?_); go_simp; refine hK _ ?_; clear hK K)
          exact seI_nil rfl
        refine wpTA_nil .nil ?_
        go_wp2
        refine NoPanic.normal ?_
        go_wp2
        go_roundw
        case rel => exact ⟨(i : Int) - 1, by omega, by omega, rfl, by rw [show ((i : Int) - 1 + 1).toNat = i by omega]; exact hs.out, HA.out, HBb.out, HW.out.drew⟩
        case measure => simp [intOf]
      · have hs := hid (less_apart HU2.out hxy)
        have hne : ((limb n i : Int) != (limb m i : Int)) = true := by simp; omega
        generalize limb n i = x at *
        generalize limb m i = y at *
        clear hxy
        go_wp2
        refine wp_region_early [0, 1, 2, 3, 4, 5, 6, 7, 8] [] [] (fun wx => wx.cell? ⟨w.heap.size, i, none⟩ = some (.int .u64 (x : Int)) ∧ wx.cell? ⟨w.heap.size + 1, i, none⟩ = some (.int .u64 (y : Int))) (by kernel_rfl) (by kernel_rfl) (by kernel_rfl) (by rfl) ⟨c1, c2⟩ ?_
        apply Exists.intro
        refine ⟨fun wx hx => ?_, ?_⟩
        · obtain ⟨x1, x2⟩ := hx
          repeat (refine seI_step rfl (fun K hK => ?_); go_simp; refine hK _ ?_; clear hK K)
          exact seI_nil rfl
        refine wpTA_nil .nil ?_
        go_wp2
        refine NoPanic.normal ?_
        go_wp2
        refine wp_region_early [0, 1, 2, 3, 4, 5, 6, 7, 8, 9] [] [] (fun wx => wx.cell? ⟨w.heap.size, i, none⟩ = some (.int .u64 (x : Int)) ∧ wx.cell? ⟨w.heap.size + 1, i, none⟩ = some (.int .u64 (y : Int))) (by kernel_rfl) (by kernel_rfl) (by kernel_rfl) (by rfl) ⟨c1, c2⟩ ?_
        apply Exists.intro
        refine ⟨fun wx hx => ?_, ?_⟩
        · obtain ⟨x1, x2⟩ := hx
          repeat (refine seI_step rfl (fun K hK => ?_); go_simp; refine hK _ ?_; clear hK K)
          exact seI_nil rfl
        refine wpTA_nil .nil ?_
        go_wp2
        refine NoPanic.normal ?_
        go_wp2
        go_ret
        exact ⟨by rw [← hs.out]; simp, HW.out.drew.drew⟩
    · obtain rfl : j = -1 := by omega
      have hs := hid (show n = m from all_same HU.out)
      go_wp2
      go_ret
      exact ⟨by rw [hs.out]; simp, HW.out⟩
theorem all_limbs (n : Nat) (hn : n < lim) : ((List.range 10).all fun i => ((limb n i : Nat) : Int) == 0) = decide (n = 0) := by
  by_cases h : n = 0
  · subst h
    rw [decide_eq_true rfl, List.all_eq_true]
    intro i _
    rw [limb_zero]; rfl
  · rw [decide_eq_false h, List.all_eq_false]
    refine Classical.byContradiction fun hc => h (limb_all_zero hn fun i hi => Classical.byContradiction fun h0 => hc ⟨i, List.mem_range.2 hi, ?_⟩)
    simp; omega
set_option maxRecDepth 100000 in
set_option maxHeartbeats 1000000 in
theorem rzero_any (n : Nat) (na : Bool) (hn : n < lim) (w : World) :
    Calls Try.prog 137 #[bigM n na] w fun e w' => e = .returned (.bool (decide (n = 0))) ∧ Below w.heap.size w w' := by
  have heq : ∀ W : World, (Op.equalIn 10000 197 (.agg #[uV (limb n 0), uV (limb n 1), uV (limb n 2), uV (limb n 3), uV (limb n 4), uV (limb n 5), uV (limb n 6), uV (limb n 7), uV (limb n 8), uV (limb n 9)])
      (.agg #[.int .u64 0, .int .u64 0, .int .u64 0, .int .u64 0, .int .u64 0, .int .u64 0, .int .u64 0, .int .u64 0, .int .u64 0, .int .u64 0])).run Try.prog W = .ok (decide (n = 0)) W := fun W => by
    have h := run_equalIn_arr (P := Try.prog) 9998 Try.underlying197 Try.underlying23 (fun w => by kernel_rfl) #[uV (limb n 0), uV (limb n 1), uV (limb n 2), uV (limb n 3), uV (limb n 4), uV (limb n 5), uV (limb n 6), uV (limb n 7), uV (limb n 8), uV (limb n 9)]
      #[.int .u64 0, .int .u64 0, .int .u64 0, .int .u64 0, .int .u64 0, .int .u64 0, .int .u64 0, .int .u64 0, .int .u64 0, .int .u64 0] (fun i => ((limb n i : Nat) : Int)) (fun _ => 0) (cases10 ⟨rfl, rfl⟩ ⟨rfl, rfl⟩ ⟨rfl, rfl⟩ ⟨rfl, rfl⟩ ⟨rfl, rfl⟩ ⟨rfl, rfl⟩ ⟨rfl, rfl⟩ ⟨rfl, rfl⟩ ⟨rfl, rfl⟩ ⟨rfl, rfl⟩) W
    rw [all_limbs n hn] at h
    exact h
  unfold bigM arr
  clear hn
  generalize decide (n = 0) = r at *
  go_enter Try.func137, Try.ntmps137
  go_wp2
  go_ret
  exact ⟨by simp, Below_one _⟩
end Go.Proofs.Ytamlgnhnmilbdaa
end
section
/- 'Plus', 'Of', 'Minus', 'Int' of the reference, walked. -/
namespace Go.Proofs.Ytamlgnhnmilbdaa
open Go.RowKit
theorem loadBig {ops : Array Oper} {rest : List Oper} {o : Oper} {a : Act} {w : World} {Q : Exit → Act → World → Prop} (hgd : o.guard = none) (x : Operand) (ho : o.op = .load 199 x) (g : Nat) (hx : a.eval x = .pointer (some ⟨g, 0, none⟩))
    (f : Nat → Nat) (neg : Bool) (hg : Blk w g (arr f neg) 199) (h : wpList Try.prog ops Q rest (a.put o.dst (.agg (arr f neg))) w) : wpList Try.prog ops Q (o :: rest) a w :=
  wpList_load_row hgd 199 x ho g hx 199 (arr f neg) (0, 0) _ hg Try.underlying199 rfl (by kernel_rfl) h
theorem storeBig {ops : Array Oper} {rest : List Oper} {o : Oper} {a : Act} {w : World} {Q : Exit → Act → World → Prop} (hgd : o.guard = none) (x y : Operand) (ho : o.op = .store 199 x y) (g : Nat) (f : Nat → Nat) (neg : Bool) (hx : a.eval x = .pointer (some ⟨g, 0, none⟩)) (hy : a.eval y = .agg (arr f neg))
    (old : Array Value) (hg : Blk w g old 199) (ho2 : old.size = 11) (h : wpList Try.prog ops Q rest (a.put o.dst undef) (w.setRow g (arr f neg))) : wpList Try.prog ops Q (o :: rest) a w :=
  wpList_store_row hgd 199 x y ho g (arr f neg) hx hy 199 old hg (by kernel_rfl) ho2 (arr_one _ _) h
theorem retBig {fn : Func} {p : Tmp} (h : fn.results = #[.cell p 199]) (tmps : Array Value) (w : World) (g : Nat) (f : Nat → Nat) (neg : Bool) (hp : tmps.getD p undef = .pointer (some ⟨g, 0, none⟩)) (hg : Blk w g (arr f neg) 199) : (results fn tmps).run Try.prog w = .ok (.agg (arr f neg)) w :=
  results_cell_row h tmps w g 199 (arr f neg) (0, 0) _ hp hg Try.underlying199 rfl (by kernel_rfl)
set_option maxRecDepth 100000 in
set_option maxHeartbeats 1000000 in
theorem plus_same (n m : Nat) (na : Bool) (w : World) :
    Calls Try.prog 126 #[bigM n na, bigM m na] w fun e w' => e = .returned (bigM (n + m) na) ∧ Below w.heap.size w w' := by
  unfold bigM
  have hn := arr_neg (limb n) na
  have hm := arr_neg (limb m) na
  go_enter Try.func126, Try.ntmps126
  have hbool : ((na == na) = true) := by simp
  obtain ⟨h1, h2, h3, hb⟩ := al3 w (.cells (arr (limb n) na) 199) (.cells (arr (limb m) na) 199) (.cells (arr (fun _ => 0) false) 199)
  rw [arr_zero] at h1 h2 h3 hb
  have H1 := hid h1; have H2 := hid h2; have H3 := hid h3; have HB := hid hb
  clear h1 h2 h3 hb
  go_wp2_with (first
    | (refine loadBig rfl (.tmp 2) rfl w.heap.size rfl (limb n) na H1.out ?_)
    | (refine loadBig rfl (.tmp 3) rfl (w.heap.size + 1) rfl (limb m) na H2.out ?_))
  refine (radd_any n m na na _).mono ?_
  rintro e W1 ⟨rfl, hb1⟩
  have K3 := hid (Blk.below (show Blk _ (w.heap.size + 1 + 1) _ 199 from H3.out) hb1 (Nat.le_refl _))
  have B1 := hid (HB.out.trans (hb1.mono HB.out.size))
  clear hb1 hn hm hbool H1 H2 H3 HB
  go_wp2_with (refine storeBig rfl (.tmp 4) (.tmp 13) rfl (w.heap.size + 1 + 1) (limb (n + m)) na rfl rfl _ (K3.out) rfl ?_)
  refine bodyPost_ret (retBig rfl _ _ (w.heap.size + 1 + 1) (limb (n + m)) na rfl (K3.out.setRow _)) rfl ⟨rfl, ?_⟩
  exact B1.out.trans (Below_setRow (Below.refl _ _) (by omega) _)
/-- What is left of two numbers of unlike signs. -/
def diffM (n m : Nat) (na nb : Bool) : Value := if n < m then bigM (m - n) nb else bigM (n - m) (if n = m then false else na)
set_option maxRecDepth 100000 in
set_option maxHeartbeats 2000000 in
theorem plus_less (n m : Nat) (na nb : Bool) (hne : na ≠ nb) (hn3 : n < lim) (hm3 : m < lim) (hlt : n < m) (w : World) :
    Calls Try.prog 126 #[bigM n na, bigM m nb] w fun e w' => e = .returned (bigM (m - n) nb) ∧ Below w.heap.size w w' := by
  unfold bigM
  have hn := arr_neg (limb n) na
  have hm := arr_neg (limb m) nb
  have hbool : ((na == nb) = false) := by simpa using hne
  have HN := hid hn3; have HM := hid hm3; have HL := hid hlt
  clear hn3 hm3 hne hlt
  go_enter Try.func126, Try.ntmps126
  obtain ⟨h1, h2, h3, hb⟩ := al3 w (.cells (arr (limb n) na) 199) (.cells (arr (limb m) nb) 199) (.cells (arr (fun _ => 0) false) 199)
  rw [arr_zero] at h1 h2 h3 hb
  have H1 := hid h1; have H2 := hid h2; have H3 := hid h3; have HB := hid hb
  clear h1 h2 h3 hb
  go_wp2_with (first
    | (refine loadBig rfl (.tmp 2) rfl w.heap.size rfl (limb n) na H1.out ?_)
    | (refine loadBig rfl (.tmp 3) rfl (w.heap.size + 1) rfl (limb m) nb H2.out ?_))
  refine (rless_any n m na nb HN.out HM.out _).mono ?_
  rintro e W1 ⟨rfl, hb1⟩
  rw [decide_eq_true HL.out]
  have K1 := hid (Blk.below (show Blk _ w.heap.size _ 199 from H1.out) hb1 (Nat.le_refl _))
  have K2 := hid (Blk.below (show Blk _ (w.heap.size + 1) _ 199 from H2.out) hb1 (Nat.le_refl _))
  have K3 := hid (Blk.below (show Blk _ (w.heap.size + 1 + 1) _ 199 from H3.out) hb1 (Nat.le_refl _))
  have B1 := hid (HB.out.trans (hb1.mono HB.out.size))
  clear hb1 hn hm hbool H1 H2 H3 HB
  have L2 := hid ((K2.out.otherRow (k := w.heap.size) (arr (limb m) nb) (by omega)).setRow (arr (limb n) na))
  have L1 := hid ((K1.out.setRow (arr (limb m) nb)).otherRow (k := w.heap.size + 1) (arr (limb n) na) (by omega))
  have L3 := hid ((K3.out.otherRow (k := w.heap.size) (arr (limb m) nb) (by omega)).otherRow (k := w.heap.size + 1) (arr (limb n) na) (by omega))
  have LB := hid (Below_setRow (Below_setRow B1.out (Nat.le_refl _) (arr (limb m) nb)) (show w.heap.size ≤ w.heap.size + 1 by omega) (arr (limb n) na))
  go_wp2_with (first
    | (refine loadBig rfl (.tmp 3) rfl (w.heap.size + 1) rfl (limb m) nb K2.out ?_)
    | (refine loadBig rfl (.tmp 2) rfl w.heap.size rfl (limb n) na K1.out ?_)
    | (refine storeBig rfl (.tmp 2) (.tmp 17) rfl w.heap.size (limb m) nb rfl rfl _ (K1.out) rfl ?_)
    | (refine storeBig rfl (.tmp 3) (.tmp 18) rfl (w.heap.size + 1) (limb n) na rfl rfl _ ((K2.out.otherRow _ (by omega))) rfl ?_)
    | (refine loadBig rfl (.tmp 2) rfl w.heap.size rfl (limb m) nb L1.out ?_)
    | (refine loadBig rfl (.tmp 3) rfl (w.heap.size + 1) rfl (limb n) na L2.out ?_))
  generalize (W1.setRow w.heap.size (arr (limb m) nb)).setRow (w.heap.size + 1) (arr (limb n) na) = W2 at *
  refine (rsub_any m n nb na (Nat.le_of_lt HL.out) _).mono ?_
  rintro e W3 ⟨rfl, hb3⟩
  clear K1 K2 K3 L1 L2
  have M3 := hid (L3.out.below hb3 (Nat.le_refl _))
  have MB := hid (LB.out.trans (hb3.mono LB.out.size))
  clear hb3 L3
  have hsz : ∀ k, k < w.heap.size + 1 + 1 + 1 → k < W3.heap.size ∨ k = w.heap.size + 1 + 1 := fun k hk => by have := M3.out.lt; omega
  have HS := hid hsz; clear hsz
  go_wp2_with (first
    | (refine storeBig rfl (.tmp 5) (.tmp 21) rfl W3.heap.size (limb (m - n)) nb rfl rfl _ (.new rfl) rfl ?_)
    | (refine loadBig rfl (.tmp 5) rfl W3.heap.size rfl (limb (m - n)) nb ((Blk.new rfl).setRow _) ?_))
  refine (rzero_any (m - n) nb (by have := HM.out; omega) _).mono ?_
  rintro e W4 ⟨rfl, hb4⟩
  rw [decide_eq_false (show ¬ (m - n = 0) by have := HL.out; omega)]
  have N5 := hid (Blk.below ((Blk.new (w := W3) rfl).setRow (arr (limb (m - n)) nb)) hb4 (Nat.le_refl _))
  have N3 := hid (Blk.below ((M3.out.alloc _).otherRow (arr (limb (m - n)) nb) (by have := M3.out.lt; omega)) hb4 (Nat.le_refl _))
  have NB := hid ((Below_setRow (MB.out.alloc MB.out.size _) (g := W3.heap.size) MB.out.size (arr (limb (m - n)) nb)).trans (hb4.mono (by have := MB.out.size; simp; omega)))
  clear hb4
  go_wp2_with (first
    | (refine loadBig rfl (.tmp 5) rfl W3.heap.size rfl (limb (m - n)) nb N5.out ?_)
    | (refine storeBig rfl (.tmp 4) (.tmp 25) rfl (w.heap.size + 1 + 1) (limb (m - n)) nb rfl rfl _ N3.out rfl ?_))
  refine bodyPost_ret (retBig rfl _ _ (w.heap.size + 1 + 1) (limb (m - n)) nb rfl (N3.out.setRow _)) rfl ⟨rfl, ?_⟩
  exact NB.out.trans (Below_setRow (Below.refl _ _) (by omega) _)
set_option maxRecDepth 100000 in
set_option maxHeartbeats 2000000 in
theorem plus_ge (n m : Nat) (na nb : Bool) (hne : na ≠ nb) (hn3 : n < lim) (hm3 : m < lim) (hlt : m ≤ n) (r : Bool) (hr0 : r = if n = m then false else na) (w : World) :
    Calls Try.prog 126 #[bigM n na, bigM m nb] w fun e w' => e = .returned (bigM (n - m) r) ∧ Below w.heap.size w w' := by
  unfold bigM
  have hn := arr_neg (limb n) na
  have hm := arr_neg (limb m) nb
  have hbool : ((na == nb) = false) := by simpa using hne
  have HN := hid hn3; have HM := hid hm3; have HL := hid hlt; have HR := hid hr0
  clear hn3 hm3 hne hlt hr0
  go_enter Try.func126, Try.ntmps126
  obtain ⟨h1, h2, h3, hb⟩ := al3 w (.cells (arr (limb n) na) 199) (.cells (arr (limb m) nb) 199) (.cells (arr (fun _ => 0) false) 199)
  rw [arr_zero] at h1 h2 h3 hb
  have H1 := hid h1; have H2 := hid h2; have H3 := hid h3; have HB := hid hb
  clear h1 h2 h3 hb
  go_wp2_with (first
    | (refine loadBig rfl (.tmp 2) rfl w.heap.size rfl (limb n) na H1.out ?_)
    | (refine loadBig rfl (.tmp 3) rfl (w.heap.size + 1) rfl (limb m) nb H2.out ?_))
  refine (rless_any n m na nb HN.out HM.out _).mono ?_
  rintro e W1 ⟨rfl, hb1⟩
  rw [decide_eq_false (show ¬ n < m by have := HL.out; omega)]
  have K1 := hid (Blk.below (show Blk _ w.heap.size _ 199 from H1.out) hb1 (Nat.le_refl _))
  have K2 := hid (Blk.below (show Blk _ (w.heap.size + 1) _ 199 from H2.out) hb1 (Nat.le_refl _))
  have K3 := hid (Blk.below (show Blk _ (w.heap.size + 1 + 1) _ 199 from H3.out) hb1 (Nat.le_refl _))
  have B1 := hid (HB.out.trans (hb1.mono HB.out.size))
  clear hb1 hn hm hbool H1 H2 H3 HB
  go_wp2_with (first
    | (refine loadBig rfl (.tmp 2) rfl w.heap.size rfl (limb n) na K1.out ?_)
    | (refine loadBig rfl (.tmp 3) rfl (w.heap.size + 1) rfl (limb m) nb K2.out ?_))
  refine (rsub_any n m na nb HL.out _).mono ?_
  rintro e W3 ⟨rfl, hb3⟩
  have M3 := hid (K3.out.below hb3 (Nat.le_refl _))
  have MB := hid (B1.out.trans (hb3.mono B1.out.size))
  clear hb3 K1 K2 K3
  go_wp2_with (first
    | (refine storeBig rfl (.tmp 5) (.tmp 21) rfl W3.heap.size (limb (n - m)) na rfl rfl _ (.new rfl) rfl ?_)
    | (refine loadBig rfl (.tmp 5) rfl W3.heap.size rfl (limb (n - m)) na ((Blk.new rfl).setRow _) ?_))
  refine (rzero_any (n - m) na (by have := HN.out; omega) _).mono ?_
  rintro e W4 ⟨rfl, hb4⟩
  have N5 := hid (Blk.below ((Blk.new (w := W3) rfl).setRow (arr (limb (n - m)) na)) hb4 (Nat.le_refl _))
  have N3 := hid (Blk.below ((M3.out.alloc _).otherRow (arr (limb (n - m)) na) (by have := M3.out.lt; omega)) hb4 (Nat.le_refl _))
  have NB := hid ((Below_setRow (MB.out.alloc MB.out.size _) (g := W3.heap.size) MB.out.size (arr (limb (n - m)) na)).trans (hb4.mono (by have := MB.out.size; simp; omega)))
  have hl5 := M3.out.lt
  have HL5 := hid hl5
  clear hb4 hl5
  by_cases heq : n = m
  · have hl := HL.out
    obtain rfl : r = false := by rw [HR.out, if_pos heq]
    rw [decide_eq_true (show n - m = 0 by omega)]
    clear heq hl
    have hc : W4.cell? ⟨W3.heap.size, 10, none⟩ = some (.bool na) := N5.out.cell 10
    have hf := N5.out.frozen 10
    have P5 := hid ((N5.out.setCell 10 (.bool false)))
    have P3 := hid (N3.out.other (k := W3.heap.size) (i := 10) (v := .bool false) (by have := HL5.out; omega))
    have PB := hid (NB.out.setCell (p := ⟨W3.heap.size, 10, none⟩) MB.out.size (.bool false))
    rw [arr_setNeg] at P5
    go_wp2_with (first
      | (refine loadBig rfl (.tmp 5) rfl W3.heap.size rfl (limb (n - m)) false P5.out ?_)
      | (refine storeBig rfl (.tmp 4) (.tmp 25) rfl (w.heap.size + 1 + 1) (limb (n - m)) false rfl rfl _ P3.out rfl ?_))
    refine bodyPost_ret (retBig rfl _ _ (w.heap.size + 1 + 1) (limb (n - m)) false rfl (P3.out.setRow _)) rfl ⟨rfl, ?_⟩
    exact PB.out.trans (Below_setRow (Below.refl _ _) (by omega) _)
  · have hl := HL.out
    obtain rfl : na = r := by rw [HR.out, if_neg heq]
    rw [decide_eq_false (show ¬ n - m = 0 by omega)]
    clear heq hl
    go_wp2_with (first
      | (refine loadBig rfl (.tmp 5) rfl W3.heap.size rfl (limb (n - m)) na N5.out ?_)
      | (refine storeBig rfl (.tmp 4) (.tmp 25) rfl (w.heap.size + 1 + 1) (limb (n - m)) na rfl rfl _ N3.out rfl ?_))
    refine bodyPost_ret (retBig rfl _ _ (w.heap.size + 1 + 1) (limb (n - m)) na rfl (N3.out.setRow _)) rfl ⟨rfl, ?_⟩
    exact NB.out.trans (Below_setRow (Below.refl _ _) (by omega) _)
theorem rPlus_any (x y : Int) (hx : 2 * x.natAbs < lim) (hy : 2 * y.natAbs < lim) (w : World) :
    Calls Try.prog 126 #[bigOf x, bigOf y] w fun e w' => e = .returned (bigOf (x + y)) ∧ Below w.heap.size w w' := by
  have p1 : x.natAbs < lim := by omega
  have p2 : y.natAbs < lim := by omega
  by_cases h : decide (x < 0) = decide (y < 0)
  · refine (show Calls Try.prog 126 #[bigM x.natAbs (decide (x < 0)), bigM y.natAbs (decide (y < 0))] w _ from ?_)
    rw [← h]
    refine (plus_same x.natAbs y.natAbs (decide (x < 0)) w).mono ?_
    rintro e w' ⟨rfl, hb⟩
    refine ⟨?_, hb⟩
    unfold bigOf
    have h2 : (x < 0) ↔ (y < 0) := by simpa using h
    rw [show (x + y).natAbs = x.natAbs + y.natAbs by omega, show decide (x + y < 0) = decide (x < 0) by rw [decide_eq_decide]; omega]
  · have h2 : ¬ ((x < 0) ↔ (y < 0)) := by simpa using h
    by_cases hlt : x.natAbs < y.natAbs
    · refine (plus_less x.natAbs y.natAbs _ _ h p1 p2 hlt w).mono ?_
      rintro e w' ⟨rfl, hb⟩
      refine ⟨?_, hb⟩
      unfold bigOf
      rw [show (x + y).natAbs = y.natAbs - x.natAbs by omega, show decide (x + y < 0) = decide (y < 0) by rw [decide_eq_decide]; omega]
    · refine (plus_ge x.natAbs y.natAbs _ _ h p1 p2 (by omega) _ rfl w).mono ?_
      rintro e w' ⟨rfl, hb⟩
      refine ⟨?_, hb⟩
      unfold bigOf
      rw [show (x + y).natAbs = x.natAbs - y.natAbs by omega]
      split
      · rw [show decide (x + y < 0) = false by rw [decide_eq_false_iff_not]; omega]
      · rw [show decide (x + y < 0) = decide (x < 0) by rw [decide_eq_decide]; omega]
end Go.Proofs.Ytamlgnhnmilbdaa
end
section
/- 'Of', 'Minus', 'Int' of the reference, walked. -/
namespace Go.Proofs.Ytamlgnhnmilbdaa
open Go.RowKit
theorem ofArr (u : Nat) (h : u < 18446744073709551616) (neg : Bool) : arr (limb u) neg = #[.int .u64 ((u % 4294967296 : Nat) : Int), .int .u64 ((u / 4294967296 : Nat) : Int), .int .u64 0, .int .u64 0, .int .u64 0, .int .u64 0, .int .u64 0, .int .u64 0, .int .u64 0, .int .u64 0, .bool neg] := by
  have hz : ∀ i, 2 ≤ i → limb u i = 0 := fun i hi => limb_small (Nat.lt_of_lt_of_le h (Nat.pow_le_pow_right (n := 2) (by omega) (show 64 ≤ 32 * i by omega)))
  have h0 : limb u 0 = u % 4294967296 := by unfold limb; simp
  have h1 : limb u 1 = u / 4294967296 := by unfold limb; rw [show 2 ^ (32 * 1) = 4294967296 from rfl]; omega
  unfold arr uV
  rw [h0, h1, hz 2 (by omega), hz 3 (by omega), hz 4 (by omega), hz 5 (by omega), hz 6 (by omega), hz 7 (by omega), hz 8 (by omega), hz 9 (by omega)]
  rfl
set_option maxRecDepth 100000 in
set_option maxHeartbeats 1000000 in
theorem rOf_any (n : Int) (w : World) (h1 : -9223372036854775808 ≤ n) (h2 : n ≤ 9223372036854775807) :
    Calls Try.prog 127 #[.int .i64 n] w fun e w' => e = .returned (bigOf n) ∧ Below w.heap.size w w' := by
  by_cases hn : 0 ≤ n
  · obtain ⟨u, rfl⟩ := Int.eq_ofNat_of_zero_le hn
    have ha := hid (ofArr u (by omega) false)
    have hm := u64_mask u (by omega)
    have hf : ¬ ((u : Int) < 0) := by omega
    go_enter Try.func127, Try.ntmps127
    go_wp2
    refine bodyPost_ret (retBig rfl _ _ w.heap.size (limb u) false rfl ?_) rfl ⟨?_, (Below_one _).alloc (by simp) _⟩
    · rw [ha.out]
      exact al_old (al_new rfl)
    · unfold bigOf bigM
      rw [show ((u : Int)).natAbs = u by omega, show decide ((u : Int) < 0) = false by simp]
  · obtain ⟨u, rfl⟩ : ∃ u : Nat, n = -(u : Int) := ⟨n.natAbs, by omega⟩
    have ha := hid (ofArr u (by omega) true)
    have hm := u64_mask u (by omega)
    have hw : IntKind.u64.wrap (-(u : Int)) = 18446744073709551616 - (u : Int) := by rw [IntKind.wrap_u64]; omega
    have hw2 : IntKind.u64.wrap (-(18446744073709551616 - (u : Int))) = (u : Int) := by rw [IntKind.wrap_u64]; omega
    have hlt : (-(u : Int) < 0) = True := by simp; omega
    go_enter Try.func127, Try.ntmps127
    go_wp2
    refine bodyPost_ret (retBig rfl _ _ w.heap.size (limb u) true rfl ?_) rfl ⟨?_, (Below_one _).alloc (by simp) _⟩
    · rw [ha.out]
      exact al_old (al_new rfl)
    · unfold bigOf bigM
      rw [show (-(u : Int)).natAbs = u by omega, show decide (-(u : Int) < 0) = true by simp; omega]
def fitB (z : Int) : Bool := decide (-9223372036854775808 ≤ z ∧ z ≤ 9223372036854775807)
/-- A number and whether it is an int. -/
def fitV (z : Int) : Value := .tuple #[.int .i64 (if fitB z = true then z else 0), .bool (fitB z)]
theorem fitV_yes {z : Int} (h1 : -9223372036854775808 ≤ z) (h2 : z ≤ 9223372036854775807) : fitV z = .tuple #[.int .i64 z, .bool true] := by
  have : fitB z = true := by unfold fitB; simp [h1, h2]
  unfold fitV; rw [this]; rfl
theorem fitV_no {z : Int} (h : z < -9223372036854775808 ∨ 9223372036854775807 < z) : fitV z = .tuple #[.int .i64 0, .bool false] := by
  have : fitB z = false := by unfold fitB; simp; omega
  unfold fitV; rw [this]; rfl
theorem high_zero {n : Nat} (hn : n < lim) (h : ∀ k, 2 ≤ k → k < 10 → limb n k = 0) : n < 18446744073709551616 := by
  have e : ∀ k, k ≤ 8 → n / 2 ^ (32 * (10 - k)) = 0 := by
    intro k
    induction k with
    | zero => intro _; rw [Nat.sub_zero]; exact lim_div hn
    | succ k ih =>
      intro hk
      rw [div_limb, show 10 - (k + 1) + 1 = 10 - k by omega, ih (by omega), h _ (by omega) (by omega)]
  have := e 8 (by omega)
  have h2 : n / 18446744073709551616 = 0 := this
  omega
theorem or_limbs (n : Nat) (h : n < 18446744073709551616) : bits BinOp.or IntKind.u64 ((limb n 0 : Nat) : Int) (((limb n 1 : Nat) : Int) * 4294967296) = (n : Int) := by
  have h0 : limb n 0 = n % 4294967296 := by unfold limb; simp
  have h1 : limb n 1 = n / 4294967296 := by unfold limb; rw [show 2 ^ (32 * 1) = 4294967296 from rfl]; omega
  rw [h0, h1, show ((n / 4294967296 : Nat) : Int) * 4294967296 = ((n / 4294967296 * 4294967296 : Nat) : Int) by omega, u64_or_nat _ _ (by omega) (by omega), Nat.or_comm, nat_join 32 _ _ (by omega) (by omega)]
  omega
set_option maxRecDepth 100000 in
set_option maxHeartbeats 1000000 in
theorem rInt_any (n : Nat) (neg : Bool) (hn : n < lim) (w : World) (v : Value) (hv : v = fitV (if neg = true then -(n : Int) else n)) :
    Calls Try.prog 128 #[bigM n neg] w fun e w' => e = .returned v ∧ Below w.heap.size w w' := by
  unfold bigM
  have HV := hid hv; have HN := hid hn
  clear hv hn
  go_enter Try.func128, Try.ntmps128
  go_wp2
  have hB := hid (Blk.new (w := w) (cs := arr (limb n) neg) (t := 199) rfl)
  have hb := hid (Below_one (w := w) (.cells (arr (limb n) neg) 199))
  generalize w.alloc (.cells (arr (limb n) neg) 199) = W at *
  go_loop [4,6,7,8,9,10,11,12,13,14] (fun t4 _ _ _ _ _ _ _ _ _ => ∃ i : Nat, 2 ≤ i ∧ i ≤ 10 ∧ t4 = .int .i64 i ∧ ∀ k, 2 ≤ k → k < i → limb n k = 0) (fun t4 _ _ _ _ _ _ _ _ _ => 10 - (intOf t4).toNat)
  case atStart => exact ⟨2, by omega, by omega, rfl, fun k _ _ => by omega⟩
  case round =>
    obtain ⟨i, hi2, hi, rfl, hz⟩ := hrel
    have HZ := hid hz; clear hz
    by_cases hlt : i < 10
    · have hc : W.cell? ⟨w.heap.size, i, none⟩ = some (.int .u64 (limb n i : Nat)) := by rw [hB.out.cell, arr_get _ _ i hlt]
      by_cases h0 : limb n i = 0
      · rw [h0] at hc
        have H0 := hid h0; clear h0
        go_wp2
        go_round
        case rel => exact ⟨i + 1, by omega, by omega, by go_num, fun k hk hk2 => by
          by_cases hki : k = i
          · rw [hki]; exact H0.out
          · exact HZ.out k hk (by omega)⟩
        case measure => simp [intOf]; omega
      · have hne : (((limb n i : Nat) : Int) != 0) = true := by simp; omega
        have hbig : 18446744073709551616 ≤ n := by
          refine Classical.byContradiction fun hc => h0 (limb_small (Nat.lt_of_lt_of_le (show n < 2 ^ 64 by omega) (Nat.pow_le_pow_right (by omega) (by omega))))
        obtain rfl : v = .tuple #[.int .i64 0, .bool false] := by rw [HV.out]; split <;> exact fitV_no (by omega)
        clear HV h0 hbig
        generalize limb n i = x at *
        go_wp2
        go_ret2
        exact ⟨rfl, hb.out⟩
    · obtain rfl : i = 10 := by omega
      have hsm := high_zero HN.out HZ.out
      have c0 : W.cell? ⟨w.heap.size, 0, none⟩ = some (.int .u64 (limb n 0 : Nat)) := by rw [hB.out.cell, arr_get _ _ 0 (by omega)]
      have c1 : W.cell? ⟨w.heap.size, 1, none⟩ = some (.int .u64 (limb n 1 : Nat)) := by rw [hB.out.cell, arr_get _ _ 1 (by omega)]
      have c2 : W.cell? ⟨w.heap.size, 10, none⟩ = some (.bool neg) := by rw [hB.out.cell, arr_neg]
      have l0 := limb_lt n 0
      have l1 := limb_lt n 1
      have hor := or_limbs n hsm
      have HSM := hid hsm; clear hsm
      generalize limb n 0 = x0 at *
      generalize limb n 1 = x1 at *
      cases neg with
      | true =>
        by_cases hbig : (9223372036854775808 : Int) < (n : Int)
        · obtain rfl : v = .tuple #[.int .i64 0, .bool false] := by rw [HV.out]; simp; exact fitV_no (by omega)
          go_wp2
          go_ret2
          exact ⟨rfl, hb.out⟩
        · obtain rfl : v = .tuple #[.int .i64 (-(n : Int)), .bool true] := by rw [HV.out]; simp; exact fitV_yes (by omega) (by omega)
          have hw : wrap64 (IntKind.u64.wrap (-(n : Int))) = -(n : Int) := by rw [IntKind.wrap_u64]; unfold wrap64; omega
          go_wp2
          go_ret2
          exact ⟨rfl, hb.out⟩
      | false =>
        by_cases hbig : (9223372036854775808 : Int) ≤ (n : Int)
        · obtain rfl : v = .tuple #[.int .i64 0, .bool false] := by rw [HV.out]; simp; exact fitV_no (by omega)
          go_wp2
          go_ret2
          exact ⟨rfl, hb.out⟩
        · obtain rfl : v = .tuple #[.int .i64 (n : Int), .bool true] := by rw [HV.out]; simp; exact fitV_yes (by omega) (by omega)
          go_wp2
          go_ret2
          exact ⟨rfl, hb.out⟩
theorem rIntZ_any (z : Int) (hz : z.natAbs < lim) (w : World) : Calls Try.prog 128 #[bigOf z] w fun e w' => e = .returned (fitV z) ∧ Below w.heap.size w w' :=
  rInt_any z.natAbs (decide (z < 0)) hz w (fitV z) (by
    by_cases h : z < 0
    · rw [decide_eq_true h, if_pos rfl, show -((z.natAbs : Nat) : Int) = z by omega]
    · rw [decide_eq_false h, if_neg (by simp), show ((z.natAbs : Nat) : Int) = z by omega])
/-- The same load behind a guard that lets it run. -/
theorem loadBigG {ops : Array Oper} {rest : List Oper} {o : Oper} {a : Act} {w : World} {Q : Exit → Act → World → Prop} (hgd : Region.wanted o (yielded ops a.tmps) = true) (x : Operand) (ho : o.op = .load 199 x) (g : Nat) (hx : a.eval x = .pointer (some ⟨g, 0, none⟩))
    (f : Nat → Nat) (neg : Bool) (hg : Blk w g (arr f neg) 199) (h : wpList Try.prog ops Q rest (a.put o.dst (.agg (arr f neg))) w) : wpList Try.prog ops Q (o :: rest) a w :=
  wpList_step fun _ hK => by
    rw [if_pos hgd]
    exact wp_load_row 199 x ho g hx 199 (arr f neg) (0, 0) _ hg Try.underlying199 rfl (by kernel_rfl) (hK _ _ h)
end Go.Proofs.Ytamlgnhnmilbdaa
end
section
/- 'Add', 'Sub', 'Mul' of the code, walked. -/
namespace Go.Proofs.Ytamlgnhnmilbdaa
open Go.RowKit
theorem maskN (a : Nat) (ha : a < 18446744073709551616) : bits .and .u64 (a : Int) 4294967295 = ((a % 4294967296 : Nat) : Int) := u64_mask a ha
theorem divN (a : Nat) : (a : Int) / 4294967296 = ((a / 4294967296 : Nat) : Int) := by omega
theorem mulN (a b : Nat) : (a : Int) * (b : Int) = ((a * b : Nat) : Int) := (Int.natCast_mul a b).symm
theorem addN (a b : Nat) : (a : Int) + (b : Int) = ((a + b : Nat) : Int) := (Int.natCast_add a b).symm
theorem wrapN (a : Nat) (ha : a < 18446744073709551616) : IntKind.u64.wrap (a : Int) = (a : Int) := by rw [IntKind.wrap_u64]; omega
theorem wrapM (a : Nat) : IntKind.u64.wrap (a : Int) = ((a % 18446744073709551616 : Nat) : Int) := by rw [IntKind.wrap_u64]; omega
end Go.Proofs.Ytamlgnhnmilbdaa
end
section
/- Lists of ints: 'Sum' of the code and of the reference, 'Same'. -/
namespace Go.Proofs.Ytamlgnhnmilbdaa
open Go.RowKit
theorem seI_load_row {P : Program} {ops : Array Oper} {wx : World} {Q : Act → Prop} {i : Nat} {r : List Nat} {a : Act} {o : Oper} (ho : ops[i]? = some o) (hgd : o.guard = none) (ty : TypeId) (x : Operand) (hop : o.op = .load ty x)
    (g : Nat) (hx : a.eval x = .pointer (some ⟨g, 0, none⟩)) (t : TypeId) (cs : Array Value) (fr : Nat × Nat) (d : TypeDesc) (hg : wx.heap[g]? = some (.cells cs t fr))
    (hu : P.underlying ty = some d) (hd : (match d with | .struct _ | .array _ _ => true | _ => false) = true) (hi : (P.info? ty).map (·.size) = some cs.size)
    (h : seI P ops wx Q r (a.put o.dst (.agg cs))) : seI P ops wx Q (i :: r) a := by
  refine seI_step ho fun K hK => ?_
  rw [if_pos (by simp [Region.wanted, hgd])]
  unfold Oper.still execOp
  simp only [hop, hx, Instr.loadAt, Instr.sureAddr, Sem.run_bind, Sem.run_pure, Result.andThen_ok, run_loadVar_row wx g t ty cs fr d hg hu hd hi]
  rw [Oper.stillUpon_value]
  exact hK _ h
theorem seI_loadBig {ops : Array Oper} {wx : World} {Q : Act → Prop} {i : Nat} {r : List Nat} {a : Act} {o : Oper} (ho : ops[i]? = some o) (hgd : o.guard = none) (x : Operand) (hop : o.op = .load 199 x) (g : Nat) (hx : a.eval x = .pointer (some ⟨g, 0, none⟩))
    (f : Nat → Nat) (neg : Bool) (hg : Blk wx g (arr f neg) 199) (h : seI Try.prog ops wx Q r (a.put o.dst (.agg (arr f neg)))) : seI Try.prog ops wx Q (i :: r) a :=
  seI_load_row ho hgd 199 x hop g hx 199 (arr f neg) (0, 0) _ hg Try.underlying199 rfl (by kernel_rfl) h
def total (zs : List Int) : Int := zs.foldl (· + ·) 0
theorem total_take_succ {zs : List Int} {k : Nat} (h : k < zs.length) : total (zs.take (k + 1)) = total (zs.take k) + zs[k] := by
  unfold total
  rw [List.take_succ_eq_append_getElem h, List.foldl_append]
  rfl
theorem total_bound {zs : List Int} (h : ints zs) : ∀ k, k ≤ zs.length → -9223372036854775808 * (k : Int) ≤ total (zs.take k) ∧ total (zs.take k) ≤ 9223372036854775808 * (k : Int) := by
  intro k
  induction k with
  | zero => intro _; simp [total]
  | succ k ih =>
    intro hk
    have := ih (by omega)
    have hz := h zs[k] (List.getElem_mem _)
    rw [total_take_succ (by omega)]
    omega
theorem add64 (x y : Int) (hx : 0 ≤ x) (hy : 0 ≤ y) (w : World) : (callFunc 125 #[.int .u64 x, .int .u64 y, .int .u64 0]).run Try.prog w =
    .ok (.value (.tuple #[.int .u64 ((x + y) % 18446744073709551616), .int .u64 ((x + y) / 18446744073709551616)])) w := by
  rw [run_callFunc_extern Try.func125 (by kernel_rfl) (by kernel_rfl) (by kernel_rfl) (e := add64Entry) (by kernel_rfl), run_add64 x y 0 hx hy (by omega) (by omega)]
  simp [Result.andThen]
def sLo (z : Int) : Int := z % 18446744073709551616
def sHi (z : Int) : Int := z / 18446744073709551616 % 18446744073709551616
theorem lo_step (s n : Int) : (sLo s + IntKind.u64.wrap n) % 18446744073709551616 = sLo (s + n) := by rw [IntKind.wrap_u64]; unfold sLo; omega
theorem hi_step (s n : Int) (h1 : -9223372036854775808 ≤ n) (h2 : n ≤ 9223372036854775807) :
    IntKind.u64.wrap (sHi s + IntKind.u64.wrap (IntKind.u64.wrap (n / 9223372036854775808) + (sLo s + IntKind.u64.wrap n) / 18446744073709551616)) = sHi (s + n) := by
  simp only [IntKind.wrap_u64]
  have e1 : n = n % 18446744073709551616 + 18446744073709551616 * (n / 9223372036854775808) := by omega
  have e2 : s = sLo s + 18446744073709551616 * (s / 18446744073709551616) := by unfold sLo; omega
  have e3 : (s + n) / 18446744073709551616 = s / 18446744073709551616 + n / 9223372036854775808 + (sLo s + n % 18446744073709551616) / 18446744073709551616 := by
    have e4 : s + n = (sLo s + n % 18446744073709551616) + 18446744073709551616 * (s / 18446744073709551616 + n / 9223372036854775808) := by omega
    generalize sLo s + n % 18446744073709551616 = z at *
    generalize s / 18446744073709551616 = q at *
    generalize n / 9223372036854775808 = r at *
    omega
  unfold sHi
  rw [e3]
  generalize (sLo s + n % 18446744073709551616) / 18446744073709551616 = z
  generalize s / 18446744073709551616 = q
  generalize n / 9223372036854775808 = r
  omega
set_option maxRecDepth 100000 in
set_option maxHeartbeats 2000000 in
theorem aSum_any (a : Option Addr) (cap : Nat) (zs : List Int) (w : World) (v : Value) (hv : v = fitV (total zs)) (hi : ints zs) (hl : zs.length ≤ 1000000) (hr : RowAt w a (zs.map iV)) :
    Calls Try.prog 105 #[.slice a zs.length cap] w fun e w' => e = .returned v ∧ w' = w := by
  have HR := hid hr; have HI := hid hi; have HV := hid hv; have HL := hid hl
  clear hr hi hv
  go_enter Try.func105, Try.ntmps105
  go_wp2
  go_loop [4,5,7,8,11,12,13,14,15,16,17,18,19,20,21,22,23,24,25,26,27,28,29] (fun t4 t5 _ _ t11 _ _ _ _ _ _ _ _ _ _ _ _ _ _ _ _ _ _ => ∃ k : Nat, k ≤ zs.length ∧ t11 = .int .i64 k ∧ t4 = .int .u64 (sHi (total (zs.take k))) ∧ t5 = .int .u64 (sLo (total (zs.take k)))) (fun _ _ _ _ t11 _ _ _ _ _ _ _ _ _ _ _ _ _ _ _ _ _ _ => zs.length - (intOf t11).toNat)
  case atStart => exact ⟨0, by omega, rfl, rfl, rfl⟩
  case round =>
    obtain ⟨k, hk, rfl, rfl, rfl⟩ := hrel
    by_cases hlt : k < zs.length
    · obtain ⟨b, off, rfl, hc⟩ := HR.out.int hlt
      have hz := HI.out zs[k] (List.getElem_mem _)
      have HT := hid (total_take_succ hlt)
      have hB := hid (total_bound HI.out k (by omega))
      have hB2 := hid (total_bound HI.out (k + 1) (by omega))
      generalize zs[k] = n at *
      obtain ⟨s, hs⟩ : ∃ s, s = total (zs.take k) := ⟨_, rfl⟩
      rw [← hs] at HT hB ⊢
      clear hs
      obtain ⟨x, hx⟩ : ∃ x, x = sLo s := ⟨_, rfl⟩
      obtain ⟨y, hy⟩ : ∃ y, y = sHi s := ⟨_, rfl⟩
      rw [← hx, ← hy]
      have x1 : 0 ≤ x := by rw [hx]; unfold sLo; omega
      obtain ⟨u, hu⟩ : ∃ u, u = IntKind.u64.wrap n := ⟨_, rfl⟩
      have hn := hu.symm
      have u1 : 0 ≤ u := by rw [hu, IntKind.wrap_u64]; omega
      have HX := hid hx; have HY := hid hy; have HU := hid hu; have HZ := hid hz
      clear hx hy hu hz
      have hadd := fun w => add64 x u x1 u1 w
      go_wp2_with (simp only [hadd])
      go_round
      case rel =>
        refine ⟨k + 1, by omega, by go_num, ?_, ?_⟩
        · rw [HT.out, ← hi_step s n HZ.out.1 HZ.out.2, HX.out, HY.out, HU.out]
        · rw [HT.out, ← lo_step, HX.out, HU.out]
      case measure => simp [intOf]; omega
    · obtain rfl : k = zs.length := by omega
      have hB := hid (total_bound HI.out zs.length (by omega))
      rw [List.take_length] at hB ⊢
      generalize total zs = s at *
      obtain ⟨x, hx⟩ : ∃ x, x = sLo s := ⟨_, rfl⟩
      obtain ⟨y, hy⟩ : ∃ y, y = sHi s := ⟨_, rfl⟩
      rw [← hx, ← hy]
      by_cases hf : fitB s = true
      · have hf2 : -9223372036854775808 ≤ s ∧ s ≤ 9223372036854775807 := by simpa [fitB] using hf
        obtain rfl : v = .tuple #[.int .i64 s, .bool true] := by rw [HV.out]; exact fitV_yes hf2.1 hf2.2
        have hw : wrap64 x = s := by rw [hx]; unfold sLo wrap64; omega
        have hy2 : (y != IntKind.u64.wrap (s / 9223372036854775808)) = false := by rw [hy, IntKind.wrap_u64]; unfold sHi; simp; omega
        clear HV hf hf2 hx hy hB
        have HW := hid hw
        go_wp2
        go_ret2
        exact ⟨rfl, rfl⟩
      · have hf2 : s < -9223372036854775808 ∨ 9223372036854775807 < s := by simp [fitB] at hf; omega
        obtain rfl : v = .tuple #[.int .i64 0, .bool false] := by rw [HV.out]; exact fitV_no hf2
        have hy2 : (y != IntKind.u64.wrap (wrap64 x / 9223372036854775808)) = true := by
          have := hB.out; rw [hy, hx, IntKind.wrap_u64]; unfold sHi sLo wrap64; simp; omega
        clear HV hf hf2 hx hy hB
        go_wp2
        go_ret2
        exact ⟨rfl, rfl⟩
set_option maxRecDepth 100000 in
set_option maxHeartbeats 2000000 in
theorem rSame_any (a b : Option Addr) (ca cb : Nat) (zs : List Int) (w : World) (hl : zs.length ≤ 1000000) (hra : RowAt w a (zs.map iV)) (hrb : RowAt w b (zs.map iV)) :
    Calls Try.prog 15 #[.slice a zs.length ca, .slice b zs.length cb] w fun e w' => e = .returned (.bool true) ∧ Below w.heap.size w w' := by
  have HA := hid hra; have HB := hid hrb
  clear hra hrb
  go_enter Try.func15, Try.ntmps15
  go_wp2
  go_loopw [5,11,12,13,14,15,16,17,18,19,20,21,22,23,24,25] (fun t5 _ _ _ _ _ _ _ _ _ _ _ _ _ _ _ wr => ∃ k : Nat, k ≤ zs.length ∧ t5 = .int .i64 k ∧ Below w.heap.size w wr) (fun t5 _ _ _ _ _ _ _ _ _ _ _ _ _ _ _ wr => zs.length - (intOf t5).toNat)
  case atStart => exact ⟨0, by omega, rfl, Below.refl _ _⟩
  case round =>
    obtain ⟨k, hk, rfl, hb⟩ := hrel
    have HW := hid hb; clear hb
    by_cases hlt : k < zs.length
    · obtain ⟨b1, off1, rfl, hc1⟩ := (HA.out.below HW.out (Nat.le_refl _)).int hlt
      obtain ⟨b2, off2, rfl, hc2⟩ := (HB.out.below HW.out (Nat.le_refl _)).int hlt
      generalize zs[k] = n at *
      have i0 : (0 : Int) ≤ (k : Int) := by omega
      have i1 : (k : Int) < (zs.length : Int) := by omega
      go_wp2
      refine wp_region_early [0, 1, 2, 3, 4, 5, 6, 7, 8] [] [] (fun wx => wx.cell? ⟨b1, off1 + k, none⟩ = some (.int .i64 n) ∧ wx.cell? ⟨b2, off2 + k, none⟩ = some (.int .i64 n)) (by kernel_rfl) (by kernel_rfl) (by kernel_rfl) (by rfl) ⟨hc1, hc2⟩ ?_
      apply Exists.intro
      refine ⟨fun wx hx => ?_, ?_⟩
      · obtain ⟨x1, x2⟩ := hx
        repeat (refine seI_step rfl (fun K hK => ?_); go_simp; refine hK _ ?_; clear hK K)
        exact seI_nil rfl
      refine wpTA_nil .nil ?_
      go_wp2
      refine NoPanic.normal ?_
      go_wp2
      go_roundw
      case rel => exact ⟨k + 1, by omega, by go_num, HW.out.drew⟩
      case measure => simp [intOf]; omega
    · obtain rfl : k = zs.length := by omega
      go_wp2
      go_ret
      exact ⟨rfl, HW.out⟩
set_option maxRecDepth 100000 in
set_option maxHeartbeats 2000000 in
theorem rSum_any (a : Option Addr) (cap : Nat) (zs : List Int) (w : World) (v : Value) (hv : v = fitV (total zs)) (hi : ints zs) (hl : zs.length ≤ 1000000) (hr : RowAt w a (zs.map iV)) :
    Calls Try.prog 106 #[.slice a zs.length cap] w fun e w' => e = .returned v ∧ Below w.heap.size w w' := by
  obtain ⟨x, o, hf⟩ : ∃ x o, fitV (total zs) = .tuple #[.int .i64 x, .bool o] := ⟨_, _, rfl⟩
  have HF := hid hf
  rw [hf] at hv
  subst hv
  clear hf
  have HR := hid hr; have HI := hid hi
  have B40 : ∀ k, k ≤ zs.length → 2 * (total (zs.take k)).natAbs < lim := fun k hk => by
    have := total_bound hi k hk
    exact lim_big (k := 100) (by omega) (by omega)
  have HBN := hid B40
  clear hr hi B40
  go_enter Try.func106, Try.ntmps106
  go_wp2
  rw [← arr_zero]
  have hB := hid (Blk.new (w := w) (cs := arr (fun _ => 0) false) (t := 199) rfl)
  have hb := hid (Below_one (w := w) (.cells (arr (fun _ => 0) false) 199))
  generalize w.alloc (.cells (arr (fun _ => 0) false) 199) = W at *
  go_loopw [5,6,7,8,9,10,11,12,13,14,15,16,17,18] (fun t5 _ _ _ _ _ _ _ _ _ _ _ _ _ wr => ∃ k : Nat, k ≤ zs.length ∧ t5 = .int .i64 k ∧ Blk wr w.heap.size (arr (limb (total (zs.take k)).natAbs) (decide (total (zs.take k) < 0))) 199 ∧ Below w.heap.size w wr) (fun t5 _ _ _ _ _ _ _ _ _ _ _ _ _ wr => zs.length - (intOf t5).toNat)
  case atStart => exact ⟨0, by omega, rfl, by rw [List.take_zero]; show Blk _ _ (arr (limb 0) false) _; rw [arr_congr false (g := fun _ => 0) (fun i _ => limb_zero i)]; exact hB.out, hb.out⟩
  case round =>
    obtain ⟨k, hk, rfl, hblk, hbw⟩ := hrel
    have HK := hid hblk; have HW := hid hbw
    clear hblk hbw
    by_cases hlt : k < zs.length
    · obtain ⟨b, off, rfl, hc⟩ := (HR.out.below HW.out (Nat.le_refl _)).int hlt
      have HZ := hid (HI.out zs[k] (List.getElem_mem _))
      have HT := hid (total_take_succ hlt)
      have HN := hid (HBN.out k hk)
      generalize zs[k] = n at *
      obtain ⟨s, hs⟩ : ∃ s, s = total (zs.take k) := ⟨_, rfl⟩
      rw [← hs] at HT HN HK
      clear hs
      have i0 : (0 : Int) ≤ (k : Int) := by omega
      have i1 : (k : Int) < (zs.length : Int) := by omega
      go_wp2
      refine wp_region_early [0, 1, 2, 3, 4] [5] [6, 7] (fun wx => Blk wx w.heap.size (arr (limb s.natAbs) (decide (s < 0))) 199 ∧ wx.cell? ⟨b, off + k, none⟩ = some (.int .i64 n)) (by kernel_rfl) (by kernel_rfl) (by kernel_rfl) (by rfl) ⟨HK.out, hc⟩ ?_
      apply Exists.intro
      refine ⟨fun wx hx => ?_, ?_⟩
      · obtain ⟨x1, x2⟩ := hx
        refine seI_loadBig rfl rfl (.tmp 4) rfl w.heap.size rfl (limb s.natAbs) (decide (s < 0)) x1 ?_
        repeat (refine seI_step rfl (fun K hK => ?_); go_simp; refine hK _ ?_; clear hK K)
        exact seI_nil rfl
      refine wpTA_cons rfl ?_
      have HB1 := hid (HW.out.drew)
      have HK1 := hid (show Blk wr.drew w.heap.size (arr (limb s.natAbs) (decide (s < 0))) 199 from HK.out)
      have HC1 := hid (show wr.drew.cell? ⟨b, off + k, none⟩ = some (.int .i64 n) from hc)
      clear hc
      generalize wr.drew = W1 at *
      go_wp2_with fail
      refine (rOf_any n _ HZ.out.1 (by have := HZ.out.2; omega)).mono ?_
      rintro e W2 ⟨rfl, hb2⟩
      have HB2 := hid (HB1.out.trans (hb2.mono HB1.out.size))
      have HK2 := hid (HK1.out.below hb2 (Nat.le_refl _))
      have hc2 : W2.cell? ⟨b, off + k, none⟩ = some (.int .i64 n) := (hb2.cell (p := ⟨b, off + k, none⟩) (block_lt_of_cell HC1.out)).trans HC1.out
      have HC2 := hid hc2
      have HB12 := hid hb2
      clear hc2 hb2
      go_wp2
      refine ⟨⟨HK2.out, HC2.out⟩, wpTA_nil (.cons rfl (.cons rfl .nil)) ?_⟩
      have HNN := hid (show 2 * n.natAbs < lim from lim_big (k := 100) (by omega) (by have := HZ.out; omega))
      go_wp2_with fail
      refine (rPlus_any s n HN.out HNN.out _).mono ?_
      rintro e W3 ⟨rfl, hb3⟩
      rw [← HT.out]
      have HB3 := hid (HB2.out.trans (hb3.mono HB2.out.size))
      have HK3 := hid (HK2.out.below hb3 (Nat.le_refl _))
      clear hb3
      obtain ⟨s2, hs2⟩ : ∃ s2, s2 = total (zs.take (k + 1)) := ⟨_, rfl⟩
      rw [← hs2]
      have HS2 := hid hs2; clear hs2
      go_wp2_with (refine storeBig rfl (.tmp 4) (.tmp 18) rfl w.heap.size (limb s2.natAbs) (decide (s2 < 0)) rfl rfl _ HK3.out rfl ?_)
      refine NoPanic.normal ?_
      go_wp2
      go_roundw
      case rel => exact ⟨k + 1, by omega, by go_num, by rw [← HS2.out]; exact HK3.out.setRow _, HB3.out.trans (Below_setRow (Below.refl _ _) (Nat.le_refl _) _)⟩
      case measure => simp [intOf]; omega
    · obtain rfl : k = zs.length := by omega
      have hN := hid (HBN.out zs.length (Nat.le_refl _))
      rw [List.take_length] at HK hN
      have hcall := fun W => hid (rIntZ_any (total zs) (by have := hN.out; omega) W)
      go_wp2_with (refine loadBig rfl (.tmp 4) rfl w.heap.size rfl (limb (total zs).natAbs) (decide (total zs < 0)) HK.out ?_)
      refine (hcall _).out.mono ?_
      rintro e W3 ⟨rfl, hb3⟩
      have HB3 := hid (HW.out.trans (hb3.mono HW.out.size))
      clear hb3 hcall
      rw [HF.out]
      go_wp2
      go_ret2
      exact ⟨rfl, HB3.out⟩
end Go.Proofs.Ytamlgnhnmilbdaa
end
section
/- CreditActs: what is held of grants, by both; walked. -/
namespace Go.Proofs.Ytamlgnhnmilbdaa
open Go.RowKit
def heldI (zs : List Int) : Int := if fitB (total zs) = true then total zs else 0
def amts (gs : List Gr4) : List Int := gs.map (·.amount)
theorem amts_len (gs : List Gr4) : (amts gs).length = gs.length := List.length_map _
theorem gHeld_any (a : Option Addr) (c : Nat) (gs : List Gr4) (w : World) (h : GrAt w a gs) (hm : gs.length ≤ 1000) (hi : ints (amts gs)) :
    Calls Try.prog 53 #[.slice a gs.length c] w fun e w' => e = .returned (.int .i64 (heldI (amts gs))) ∧ Below w.heap.size w w' := by
  refine (GCred2.gHeld_calls a gs.length c w (fun v w' => v = .int .i64 (heldI (amts gs)) ∧ Below w.heap.size w w') ?_).mono (by rintro e w' ⟨v, rfl, rfl, h⟩; exact ⟨rfl, h⟩)
  unfold GCred2.gHeld_vc
  refine ⟨fun a3 n3 c3 x wx => ∃ i : Nat, x = i ∧ i ≤ gs.length ∧ i = n3 ∧ Own wx w.heap.size 3 1 (.slice a3 i c3) i ((amts (gs.take i)).map iV) ∧ Below w.heap.size w wx, fun _ _ _ x _ => gs.length - x.toNat, ⟨0, rfl, by omega, rfl, Own.nil _ _ _ _, Below.refl _ _⟩, ?_⟩
  rintro a3 n3 c3 x wx ⟨i, rfl, hil, rfl, hO, hb⟩
  refine br_dec (fun hlt => ?_) fun hge => ?_
  · have hil : i < gs.length := by omega
    have hbs := hb.size
    obtain ⟨b, off, ha, hc4⟩ := RowsAt.get (h.below hb) hil
    subst ha
    refine ⟨by omega, by omega, gs[i].grp, gs[i].units, gs[i].amount, gs[i].fin, by rw [Int.toNat_natCast]; exact hc4, newO_in fun w4 n4 b4 s4 w5 bs5 => newO_in fun w6 n6 b6 s6 => ?_⟩
    have hlt4 : ∀ k, (Value.slice a3 i c3).ownBlock = some k → k < wx.heap.size := fun k hk => (hO.lt k hk).2
    have z5 := bs5.2
    have O5 := (hO.below b4 (Nat.le_refl _)).keep (w' := w5) fun k hk => bs5.1.block k (by have := hlt4 k hk; omega) (by rw [List.mem_singleton]; have := hlt4 k hk; omega)
    have O6 := O5.below b6 (Nat.le_refl _)
    refine app_ints O6 (src_int n6 1) (by omega) (by omega) (fun g hg e => by rw [List.mem_singleton] at hg; subst hg; have := hlt4 _ e; omega) fun a7 c7 w7 o7 f7 _ => ?_
    have B6 : Below w.heap.size w w6 := (hb.trans ((box_below (Below.trans (Below.refl _ _) b4) (Nat.le_refl _) bs5).mono (by omega))).trans (b6.mono (by omega))
    have B7 := B6.trans (f7.below (b := w.heap.size) (fun k hk => (hO.lt k (by simpa using hk)).1) (by omega))
    rw [wr64 (by omega) (by omega)]
    refine ⟨⟨i + 1, by omega, by omega, rfl, ?_, B7⟩, by dsimp only; omega⟩
    unfold amts at o7 ⊢
    rw [List.take_add_one, List.getElem?_eq_getElem hil, List.map_append]
    exact o7
  · obtain rfl : i = gs.length := by omega
    rw [List.take_length] at hO
    have hs := aSum_any a3 c3 (amts gs) wx _ rfl hi (by rw [amts_len]; omega) hO.row
    rw [amts_len] at hs
    refine hs.mono ?_
    rintro e w7 ⟨rfl, rfl⟩
    exact ⟨keepG_nil _ _, _, _, rfl, rfl, hb⟩
theorem r16Held_any (a : Option Addr) (c : Nat) (gs : List Gr4) (w : World) (h : GrAt w a gs) (hm : gs.length ≤ 1000) (hi : ints (amts gs)) :
    Calls Try.prog 62 #[.slice a gs.length c] w fun e w' => e = .returned (.int .i64 (heldI (amts gs))) ∧ Below w.heap.size w w' := by
  refine (GCred2.rHeld_calls a gs.length c w (fun v w' => v = .int .i64 (heldI (amts gs)) ∧ Below w.heap.size w w') ?_).mono (by rintro e w' ⟨v, rfl, rfl, h⟩; exact ⟨rfl, h⟩)
  unfold GCred2.rHeld_vc
  refine ⟨fun a3 n3 c3 x wx => ∃ i : Nat, x = i ∧ i ≤ gs.length ∧ i = n3 ∧ Own wx w.heap.size 3 1 (.slice a3 i c3) i ((amts (gs.take i)).map iV) ∧ Below w.heap.size w wx, fun _ _ _ x _ => gs.length - x.toNat, ⟨0, rfl, by omega, rfl, Own.nil _ _ _ _, Below.refl _ _⟩, ?_⟩
  rintro a3 n3 c3 x wx ⟨i, rfl, hil, rfl, hO, hb⟩
  refine br_dec (fun hlt => ?_) fun hge => ?_
  · have hil : i < gs.length := by omega
    have hbs := hb.size
    obtain ⟨b, off, ha, hc4⟩ := RowsAt.get (h.below hb) hil
    subst ha
    refine ⟨by omega, by omega, gs[i].amount, by rw [Int.toNat_natCast]; exact cellsAt_get hc4 2 _ rfl, newO_in fun w6 n6 b6 s6 => ?_⟩
    have O6 := hO.below b6 (Nat.le_refl _)
    refine app_ints O6 (src_int n6 1) (by omega) (by omega) (by simp) fun a7 c7 w7 o7 f7 _ => ?_
    have B6 := hb.trans (b6.mono hb.size)
    have B7 := B6.trans (f7.below (b := w.heap.size) (fun k hk => (hO.lt k (by simpa using hk)).1) (by omega))
    rw [wr64 (by omega) (by omega)]
    refine ⟨⟨i + 1, by omega, by omega, rfl, ?_, B7⟩, by dsimp only; omega⟩
    unfold amts at o7 ⊢
    rw [List.take_add_one, List.getElem?_eq_getElem hil, List.map_append]
    exact o7
  · obtain rfl : i = gs.length := by omega
    rw [List.take_length] at hO
    have hs := rSum_any a3 c3 (amts gs) wx _ rfl hi (by rw [amts_len]; omega) hO.row
    rw [amts_len] at hs
    refine hs.mono ?_
    rintro e w7 ⟨rfl, b7⟩
    exact ⟨keepG_nil _ _, _, _, rfl, rfl, hb.trans (b7.mono hb.size)⟩
end Go.Proofs.Ytamlgnhnmilbdaa
end
section
/- CreditActs: what a table holds for a node; walked. -/
namespace Go.Proofs.Ytamlgnhnmilbdaa
open Go.RowKit
def nodeGs (es : List Ses) (x : Int) : List Gr4 := es.flatMap fun s => if s.node = x then s.gs else []
theorem nodeGs_len {es : List Ses} (h : ∀ s ∈ es, s.gs.length ≤ 4) (x : Int) : (nodeGs es x).length ≤ 4 * es.length := by
  induction es with
  | nil => simp [nodeGs]
  | cons s r ih =>
    have h1 := h s (by simp)
    have h2 := ih fun t ht => h t (by simp [ht])
    unfold nodeGs at *
    rw [List.flatMap_cons, List.length_append, List.length_cons]
    split
    · omega
    · simp only [List.length_nil]; omega
theorem nodeGs_take {es : List Ses} {i : Nat} (h : i < es.length) (x : Int) : nodeGs (es.take (i + 1)) x = nodeGs (es.take i) x ++ if es[i].node = x then es[i].gs else [] := by
  unfold nodeGs
  rw [List.take_add_one, List.getElem?_eq_getElem h, List.flatMap_append]
  simp
theorem held_any {w : World} {L : List Nat} {p : Nat} {pl la : Int} {es : List Ses} (h : TabAt w L p pl la es) (hl : es.length ≤ 100) (hg : ∀ s ∈ es, s.gs.length ≤ 4) (x : Int) (hi : ints (amts (nodeGs es x))) :
    Calls Try.prog 23 #[.pointer (some ⟨p, 0, none⟩), .int .i64 x] w fun e w' => e = .returned (.int .i64 (heldI (amts (nodeGs es x)))) ∧ Below w.heap.size w w' := by
  refine (GCred2.held_calls (some ⟨p, 0, none⟩) x w (fun v w' => v = .int .i64 (heldI (amts (nodeGs es x))) ∧ Below w.heap.size w w') ?_).mono (by rintro e w' ⟨v, rfl, rfl, h⟩; exact ⟨rfl, h⟩)
  unfold GCred2.held_vc
  obtain ⟨kv, xs, M, hr⟩ := h.raw w.heap.size
  obtain ⟨ka, kc, rfl⟩ := hr.own.isSlice
  have hlen := fun i => nodeGs_len (es := es.take i) (fun s hs => hg s (List.mem_of_mem_take hs)) x
  refine br_f rfl ⟨_, _, _, (tab_cell hr).2.2, fun a5 n5 c5 y wx => ∃ i : Nat, y = i ∧ i ≤ es.length ∧ (nodeGs (es.take i) x).length = n5 ∧ Own wx w.heap.size 115 4 (.slice a5 n5 c5) n5 ((nodeGs (es.take i) x).flatMap g4Cells) ∧ Below w.heap.size w wx, fun _ _ _ y _ => es.length - y.toNat, ⟨0, rfl, by omega, rfl, Own.nil _ _ _ _, Below.refl _ _⟩, ?_⟩
  rintro a5 n5 c5 y wx ⟨i, rfl, hil, rfl, hO, hb⟩
  refine br_dec (fun hlt => ?_) fun hge => ?_
  · have hil : i < es.length := by omega
    have hbs := hb.size
    have hw := hr.below sesR hb
    obtain ⟨cs, ⟨a', c', rfl, hgr, _⟩, b, off, rfl, _, hc⟩ := hw.els.cells sesR hw.own (List.getElem?_eq_getElem hil)
    refine ⟨by omega, by omega, _, _, _, _, _, _, _, by rw [Int.toNat_natCast]; exact hc, newO_in fun w4 n4 b4 s4 w5 bs5 => ?_⟩
    have hlt4 : ∀ k, (Value.slice a5 (nodeGs (es.take i) x).length c5).ownBlock = some k → w.heap.size ≤ k ∧ k < wx.heap.size := fun k hk => hO.lt k hk
    have z5 := bs5.2
    have O5 := (hO.below b4 (Nat.le_refl _)).keep (w' := w5) fun k hk => bs5.1.block k (by have := hlt4 k hk; omega) (by rw [List.mem_singleton]; have := hlt4 k hk; omega)
    have B5 : Below w.heap.size w w5 := hb.trans ((box_below b4 (Nat.le_refl _) bs5).mono hbs)
    have hx5 : Below wx.heap.size wx w5 := box_below b4 (Nat.le_refl _) bs5
    have hn := nodeGs_take hil x
    rw [wr64 (by omega) (by omega)]
    refine br_dec (fun he => ?_) fun he => ?_
    · rw [if_pos he] at hn
      have hl1 := hlen (i + 1)
      have hl0 := hlen i
      rw [List.length_take] at hl1 hl0
      have hg4 := hg _ (List.getElem_mem hil)
      refine ⟨es[i].gs.length, _, _, O5.base_le fun _ _ => Nat.zero_le _, gr_srcs Try.underlying31 (hgr.anywhere.below hx5), by unfold maxLen; omega, by omega, fun g hg2 e => by rw [List.mem_singleton] at hg2; subst hg2; have := hlt4 _ e; omega, ?_⟩
      intro a6 c6 w6 o6 g6 or6 _
      have far : ∀ k, (Value.slice a6 ((nodeGs (es.take i) x).length + es[i].gs.length) c6).ownBlock = some k → w.heap.size ≤ k := fun k hk => by
        rcases or6 with h1 | ⟨g, h1, hg2⟩
        · exact (hlt4 k (h1 ▸ hk)).1
        · rw [h1] at hk; injection hk with hk; omega
      refine ⟨⟨i + 1, by omega, by omega, by rw [hn, List.length_append], ?_, below_gr B5 B5.size g6 fun k hk => (hlt4 k hk).1⟩, by dsimp only; omega⟩
      rw [hn, List.flatMap_append]
      exact o6.base_le far
    · rw [if_neg he, List.append_nil] at hn
      exact ⟨⟨i + 1, by omega, by omega, by rw [hn], by rw [hn]; exact O5, B5⟩, by dsimp only; omega⟩
  · obtain rfl : i = es.length := by omega
    have hl0 := hlen es.length
    rw [List.take_length] at hO hl0 ⊢
    refine (gHeld_any a5 c5 (nodeGs es x) wx (gr_own hO).anywhere (by omega) hi).mono ?_
    rintro e w7 ⟨rfl, b7⟩
    exact ⟨keepG_nil _ _, _, rfl, rfl, hb.trans (b7.mono hb.size)⟩
end Go.Proofs.Ytamlgnhnmilbdaa
end
section
/- CreditActs: are both tables the same? walked. -/
namespace Go.Proofs.Ytamlgnhnmilbdaa
open Go.RowKit
/-- What is held for each node, of the first sessions. -/
structure HeldAt (w : World) (b0 g : Nat) (cs : Array Value) (es : List Ses) : Prop where
  bk : Bk w g cs 121
  size : cs.size = 33
  each : ∀ n : Nat, n < 33 → ∃ a c, cs[n]? = some (.slice a (nodeGs es n).length c) ∧ Own w b0 161 4 (.slice a (nodeGs es n).length c) (nodeGs es n).length ((nodeGs es n).flatMap g4Cells)
  apart : ∀ (n m : Nat) (v u : Value) (k : Nat), n < 33 → m < 33 → n ≠ m → cs[n]? = some v → cs[m]? = some u → v.ownBlock = some k → u.ownBlock ≠ some k
theorem HeldAt.below {w w' : World} {b0 g : Nat} {cs : Array Value} {es : List Ses} (h : HeldAt w b0 g cs es) (hb : Below w.heap.size w w') : HeldAt w' b0 g cs es :=
  ⟨h.bk.keep (hb.block g h.bk.lt), h.size, fun n hn => by
    obtain ⟨a, c, h1, h2⟩ := h.each n hn
    exact ⟨a, c, h1, h2.below hb (Nat.le_refl _)⟩, h.apart⟩
theorem HeldAt.keep {w w' : World} {b0 g : Nat} {cs : Array Value} {es : List Ses} (h : HeldAt w b0 g cs es) (hg : w'.heap[g]? = w.heap[g]?) (hk : ∀ (n : Nat) (v : Value) (k : Nat), cs[n]? = some v → v.ownBlock = some k → w'.heap[k]? = w.heap[k]?) : HeldAt w' b0 g cs es :=
  ⟨h.bk.keep hg, h.size, fun n hn => by
    obtain ⟨a, c, h1, h2⟩ := h.each n hn
    exact ⟨a, c, h1, h2.keep fun k hk2 => hk n _ k h1 hk2⟩, h.apart⟩
theorem held_start {w w2 : World} (n2 : w2.heap[w.heap.size]? = some (.cells (Array.replicate 33 (Value.slice none 0 0)) 121 (0, 0))) : HeldAt w2 w.heap.size w.heap.size (Array.replicate 33 (Value.slice none 0 0)) [] :=
  ⟨n2, by simp, fun n hn => ⟨none, 0, by simp [hn, nodeGs], Own.nil _ _ _ _⟩, fun n m v u k hn hm hne hv hu hk => by
    simp [hn] at hv
    subst hv
    simp [Value.ownBlock] at hk⟩
/-- One node's list grows; the slice is stored. -/
theorem HeldAt.turn {w w' : World} {b0 g : Nat} {cs : Array Value} {es : List Ses} {s : Ses} (h : HeldAt w b0 g cs es) {n : Nat} (hn : n < 33) (hsn : s.node = n) {v v' : Value} (hv : cs[n]? = some v) {a' : Option Addr} {c' : Nat} (hv' : v' = .slice a' (nodeGs (es ++ [s]) n).length c')
    (ho : Own w' b0 161 4 v' (nodeGs (es ++ [s]) n).length ((nodeGs (es ++ [s]) n).flatMap g4Cells)) (hg : w.grownBy w' v.ownBlock) (hor : v'.ownBlock = v.ownBlock ∨ ∃ k, v'.ownBlock = some k ∧ w.heap.size ≤ k) : HeldAt (w'.setCell ⟨g, n, none⟩ v') b0 g (cs.setIfInBounds n v') (es ++ [s]) := by
  obtain ⟨a0, c0, hv0, ho0⟩ := h.each n hn
  rw [hv] at hv0; injection hv0 with hv0
  have hne : v.ownBlock ≠ some g := by rw [hv0]; exact own_apart h.bk ho0 (by decide)
  have bk' := h.bk.keep (hg.block g h.bk.lt fun e => hne e.symm)
  have hne' : v'.ownBlock ≠ some g := own_apart bk' ho (by decide)
  have other : ∀ m : Nat, m < 33 → m ≠ n → nodeGs (es ++ [s]) m = nodeGs es m := fun m _ hmn => by
    unfold nodeGs
    rw [List.flatMap_append]
    simp [hsn]
    intro e; omega
  have keep : ∀ (m : Nat) (u : Value) (k : Nat), m < 33 → m ≠ n → cs[m]? = some u → u.ownBlock = some k → k < w.heap.size ∧ k ≠ g ∧ v.ownBlock ≠ some k := fun m u k hm hmn hu hk => by
    obtain ⟨a1, c1, h1, h2⟩ := h.each m hm
    rw [hu] at h1; injection h1 with h1; subst h1
    exact ⟨(h2.lt k hk).2, fun e => own_apart h.bk h2 (by decide) (e ▸ hk), fun e => h.apart n m v _ k hn hm (fun e2 => hmn e2.symm) hv hu e hk⟩
  refine ⟨bk'.setCell n v', by simpa using h.size, fun m hm => ?_, fun m q x y k hm hq hmq hx hy hk => ?_⟩
  · by_cases hmn : m = n
    · subst hmn
      refine ⟨a', c', by rw [Array.getElem?_setIfInBounds_self_of_lt (by rw [h.size]; exact hn), hv'], ?_⟩
      rw [← hv']
      exact ho.keep fun k hk => Below.heap_setCell _ _ _ _ (fun e : k = g => hne' (e ▸ hk))
    · obtain ⟨a1, c1, h1, h2⟩ := h.each m hm
      rw [other m hm hmn]
      refine ⟨a1, c1, by rw [Array.getElem?_setIfInBounds_ne (fun e => hmn e.symm)]; exact h1, h2.keep fun k hk => ?_⟩
      obtain ⟨k1, k2, k3⟩ := keep m _ k hm hmn h1 hk
      rw [Below.heap_setCell _ _ _ _ k2]
      exact hg.block k k1 fun e => k3 e.symm
  · have get : ∀ (m : Nat) (x : Value), m ≠ n → (cs.setIfInBounds n v')[m]? = some x → cs[m]? = some x := fun m x hmn hx => by rwa [Array.getElem?_setIfInBounds_ne (fun e => hmn e.symm)] at hx
    have getn : ∀ x : Value, (cs.setIfInBounds n v')[n]? = some x → x = v' := fun x hx => by
      rw [Array.getElem?_setIfInBounds_self_of_lt (by rw [h.size]; exact hn)] at hx
      injection hx with hx; exact hx.symm
    have new : ∀ k : Nat, v'.ownBlock = some k → v.ownBlock = some k ∨ w.heap.size ≤ k := fun k hk => by
      rcases hor with h1 | ⟨k2, h1, h2⟩
      · exact .inl (h1 ▸ hk)
      · rw [h1] at hk; injection hk with hk; exact .inr (by omega)
    by_cases hmn : m = n
    · subst hmn
      rw [getn x hx] at hk
      have hy' := get q y (fun e => hmq e.symm) hy
      intro hk2
      obtain ⟨k1, k2, k3⟩ := keep q y k hq (fun e => hmq e.symm) hy' hk2
      exact (new k hk).elim k3 fun h => by omega
    · have hx' := get m x hmn hx
      obtain ⟨k1, k2, k3⟩ := keep m x k hm hmn hx' hk
      by_cases hqn : q = n
      · subst hqn
        rw [getn y hy]
        intro hk2
        exact (new k hk2).elim k3 fun h => by omega
      · exact h.apart m q x y k hm hq hmq hx' (get q y hqn hy) hk
end Go.Proofs.Ytamlgnhnmilbdaa
end
section
/- CreditActs: both tables are the same; walked. -/
namespace Go.Proofs.Ytamlgnhnmilbdaa
open Go.RowKit
theorem amts_ok {es : List Ses} (hok : ∀ s ∈ es, SesOk s) (x : Int) : ints (amts (nodeGs es x)) := by
  intro z hz
  obtain ⟨g, hg, rfl⟩ := List.mem_map.1 hz
  obtain ⟨s, hs, hgs⟩ := List.mem_flatMap.1 hg
  split at hgs
  · have := (hok s hs).2.2.2.2.1 g hgs
    have := this.2.2
    omega
  · cases hgs
set_option maxRecDepth 10000 in
theorem like_any {w : World} {B p r : Nat} {pl la : Int} {es : List Ses} (h : CBoth w B p r pl la es) :
    Calls Try.prog 25 #[.pointer (some ⟨p, 0, none⟩), .pointer (some ⟨r, 0, none⟩)] w fun e w' => e = .returned (.bool true) ∧ Below w.heap.size w w' := by
  refine (GCred2.like_calls (some ⟨p, 0, none⟩) (some ⟨r, 0, none⟩) w (fun v w' => v = .bool true ∧ Below w.heap.size w w') ?_).mono (by rintro e w' ⟨v, rfl, rfl, h⟩; exact ⟨rfl, h⟩)
  unfold GCred2.like_vc
  obtain ⟨⟨L, M, hT, hR, hap, hL, hM⟩, hids, hok, hlen, hpl⟩ := h
  have h16 : es.length ≤ 16 := by omega
  have hok4 : ∀ s ∈ es, s.gs.length ≤ 4 := fun s hs => (hok s hs).1.2.2.2.2.2.2
  obtain ⟨kv, xs, Mm, hrr⟩ := hR.raw w.heap.size
  obtain ⟨ka, kc, rfl⟩ := hrr.own.isSlice
  refine newO_in fun w2 n2 b2 s2 => ?_
  have hs0 := held_start n2
  refine ⟨fun a5 n5 c5 x7 wx => ∃ (i : Nat) (cs : Array Value), x7 = i ∧ i ≤ es.length ∧ i = n5 ∧ Own wx w.heap.size 3 1 (.slice a5 i c5) i (((es.take i).map (·.id)).map iV) ∧ HeldAt wx w.heap.size w.heap.size cs (es.take i) ∧ Below w.heap.size w wx, fun _ _ _ x7 _ => es.length - x7.toNat, ⟨0, _, rfl, by omega, rfl, Own.nil _ _ _ _, hs0, b2⟩, ?_⟩
  rintro a5 n5 c5 x7 wx ⟨i, cs, rfl, hi, rfl, hO, hH, hb⟩
  have hrx := hrr.below sesR hb
  have hbs := hb.size
  refine ⟨_, _, _, (rtab_cell hrx).2.2, br_dec (fun hlt => ?_) fun hge => ?_⟩
  · have hil : i < es.length := by omega
    have hxi := List.getElem?_eq_getElem hil
    have hmem := List.getElem_mem hil
    have hso := (hok _ hmem).1
    obtain ⟨rcs, ⟨ra, rc, rfl, hgr, _⟩, rb, roff, rfl, _, hrc⟩ := hrr.els.cells sesR hrr.own hxi
    refine ⟨_, _, _, (rtab_cell hrx).2.2, by omega, by omega, es[i].id, by rw [Int.toNat_natCast]; exact cellsAt_get (cellsAt_below hrc hb (Nat.le_refl _)) 0 _ rfl, ?_⟩
    refine (get_any (hT.below sesR hb) (by omega) hids (fun s hs => by have := hok4 s hs; omega) es[i].id).mono ?_
    rintro e w4 ⟨hg | hg, b4⟩
    rotate_left
    · exact absurd rfl (hg.1 _ hmem)
    obtain ⟨j, s, ga, gc, hj, rfl, og⟩ := hg
    obtain rfl : i = j := ids_inj hids hxi hj.1 hj.2.symm
    have := hxi.symm.trans hj.1; injection this with this; subst this
    have z4 := b4.size
    refine ⟨keepG_nil _ _, _, _, _, _, _, _, _, _, rfl, newO_in fun w5 n5 b5 s5 w6 h6 => drewO_in fun w7 b7 _ => br_n (by simp) ?_⟩
    have b46 : Below w4.heap.size w4 w6 := box_below b5 (Nat.le_refl _) h6
    have b47 := b46.trans (b7.mono b46.size)
    have bx7 : Below wx.heap.size wx w7 := b4.trans (b47.mono z4)
    have B7 := hb.trans (bx7.mono hbs)
    have hr7 := hrr.below sesR B7
    have hrc7 := cellsAt_below hrc B7 (Nat.le_refl _)
    have hgr7 := hgr.anywhere.below B7
    refine ⟨_, _, _, (rtab_cell hr7).2.2, by omega, by omega, _, _, _, _, _, _, _, by rw [Int.toNat_natCast]; exact hrc7, (from_any es[i] ga gc w7 ((gr_own og).anywhere.below b47) (by have := hok4 _ hmem; omega)).mono ?_⟩
    rintro e w8 ⟨fa, fc, rfl, of8, b8⟩
    have B8 := B7.trans (b8.mono B7.size)
    have bx8 := bx7.trans (b8.mono bx7.size)
    have hr8 := hrr.below sesR B8
    refine ⟨keepG_below b8, _, _, _, _, _, _, _, rfl, (rtab_cell hr8).2.2, by rw [Int.toNat_natCast]; exact cellsAt_below hrc B8 (Nat.le_refl _), (same17_eq es[i] fa ra fc rc w8 (gr_own of8).anywhere (hgr.anywhere.below B8) (by have := hok4 _ hmem; omega)).mono ?_⟩
    rintro e w9 ⟨rfl, b9⟩
    have B9 := B8.trans (b9.mono B8.size)
    have bx9 := bx8.trans (b9.mono bx8.size)
    have hr9 := hrr.below sesR B9
    refine ⟨keepG_below b9, _, rfl, br_f rfl ⟨_, _, _, (rtab_cell hr9).2.2, by omega, by omega, es[i].id, by rw [Int.toNat_natCast]; exact cellsAt_get (cellsAt_below hrc B9 (Nat.le_refl _)) 0 _ rfl, newO_in fun w10 n10 b10 s10 => ?_⟩⟩
    have bx10 := bx9.trans (b10.mono bx9.size)
    have O10 := hO.below bx10 (Nat.le_refl _)
    have H10 := hH.below bx10
    have hlt4 : ∀ k, (Value.slice a5 i c5).ownBlock = some k → w.heap.size ≤ k ∧ k < wx.heap.size := fun k hk => hO.lt k hk
    have z9 := bx9.size
    refine app_ints O10 (src_int n10 1) (by omega) (by omega) (fun g hg e => by rw [List.mem_singleton] at hg; have := hlt4 _ e; omega) fun a11 c11 w11 o11 f11 or11 => ?_
    have z11 := f11.size
    have z10 := bx10.size
    have B10 := B9.trans (b10.mono B9.size)
    have B11 := B10.trans (f11.below (b := w.heap.size) (fun k hk => (hlt4 k (by simpa using hk)).1) (by omega))
    have H11 : HeldAt w11 w.heap.size w.heap.size cs (es.take i) := H10.keep (f11.block _ H10.bk.lt (by simpa using fun e => own_apart H10.bk O10 (by decide) e)) fun n v k hv hk => by
      have hn : n < 33 := by have := (Array.getElem?_eq_some_iff.1 hv).1; rw [H10.size] at this; exact this
      obtain ⟨a1, c1, k1, k2⟩ := H10.each n hn
      rw [hv] at k1; injection k1 with k1; subst k1
      refine f11.block k (k2.lt k hk).2 fun hm => ?_
      rcases Own.ne_of_type O10 k2 (by decide) with h1 | h1
      · rw [h1] at hm; simp at hm
      · exact h1 ((by simpa using hm : _ = some k).trans hk.symm)
    refine drewO_in fun w12 b12 _ => ?_
    have B12 := B11.trans (b12.mono B11.size)
    have z12 := b12.size
    have hr12 := hrr.below sesR B12
    have hrc12 := cellsAt_below hrc B12 (Nat.le_refl _)
    have H12 := H11.below b12
    have O12 := o11.below b12 (Nat.le_refl _)
    have hnode := hso.2.1
    obtain ⟨n, hn⟩ : ∃ n : Nat, es[i].node = n := ⟨es[i].node.toNat, by omega⟩
    have hn33 : n < 33 := by omega
    obtain ⟨ha, hc, hcv, hOn⟩ := H12.each n hn33
    have hxn : es[i].node.toNat = n := by omega
    refine ⟨_, _, _, (rtab_cell hr12).2.2, by omega, by omega, es[i].node, by rw [Int.toNat_natCast]; exact cellsAt_get hrc12 1 _ rfl, _, _, _, (rtab_cell hr12).2.2, by omega, by omega, es[i].node, by rw [Int.toNat_natCast]; exact cellsAt_get hrc12 1 _ rfl, by omega, by omega, _, _, _, by rw [hxn, Nat.zero_add, Nat.mul_one, H12.bk.cell]; exact hcv, _, _, _, (rtab_cell hr12).2.2, by omega, by omega, _, _, _, by rw [Int.toNat_natCast]; exact cellsAt_get hrc12 4 _ rfl, ?_⟩
    have htk : es.take (i + 1) = es.take i ++ [es[i]] := by rw [List.take_add_one, hxi]; rfl
    have hng : nodeGs (es.take i ++ [es[i]]) n = nodeGs (es.take i) n ++ es[i].gs := by
      rw [← htk, nodeGs_take hil, if_pos hn]
    have hnl := nodeGs_len (es := es.take i) (fun s hs => hok4 s (List.mem_of_mem_take hs)) n
    rw [List.length_take] at hnl
    have hgl := hok4 _ hmem
    obtain ⟨hax, hcx, hcvx, hOx⟩ := hH.each n hn33
    have hax' : (Value.slice hax (nodeGs (es.take i) n).length hcx) = .slice ha (nodeGs (es.take i) n).length hc := by
      rw [hcvx] at hcv; injection hcv
    have hltn : ∀ k, (Value.slice ha (nodeGs (es.take i) n).length hc).ownBlock = some k → w.heap.size ≤ k ∧ k < wx.heap.size := fun k hk => hOx.lt k (by rw [hax']; exact hk)
    refine ⟨es[i].gs.length, _, _, hOn.base_le fun _ _ => Nat.zero_le _, gr_srcs Try.underlying51 (hgr.anywhere.below B12), by unfold maxLen; omega, by omega, fun g hg2 e => by rw [List.mem_singleton] at hg2; have := hltn _ e; omega, ?_⟩
    intro a13 c13 w13 o13 g13 or13 _
    have z13 := g13.size
    have far13 : ∀ k, (Value.slice a13 ((nodeGs (es.take i) n).length + es[i].gs.length) c13).ownBlock = some k → w.heap.size ≤ k := fun k hk => by
      rcases or13 with h1 | ⟨g, h1, hg2⟩
      · exact (hltn k (h1 ▸ hk)).1
      · rw [h1] at hk; injection hk with hk; have := B12.size; omega
    have B13 := below_gr B12 B12.size g13 fun k hk => (hltn k hk).1
    have hr13 := hrr.below sesR B13
    have bk13 := H12.bk.keep (g13.block _ H12.bk.lt fun e => own_apart H12.bk hOn (by decide) e.symm)
    refine ⟨(rtab_cell hr13).2.2, by rw [Int.toNat_natCast]; exact cellsAt_get (cellsAt_below hrc B13 (Nat.le_refl _)) 1 _ rfl, by omega, by omega, ?_⟩
    rw [hxn, Nat.zero_add, Nat.mul_one]
    have HT := H12.turn (s := es[i]) hn33 hn hcv (w' := w13) (v' := .slice a13 ((nodeGs (es.take i) n).length + es[i].gs.length) c13) (a' := a13) (c' := c13) (by rw [hng, List.length_append]) (by rw [hng, List.length_append, List.flatMap_append]; exact o13.base_le far13) g13 or13
    refine stO_set bk13 (by rw [H12.size]; exact hn33) (fun x hx => by rw [List.mem_singleton] at hx; have := hH.bk.lt; omega) ?_
    rw [wr64 (by omega) (by omega)]
    have O13 := O12.keep (w' := w13) fun k hk => g13.block k (O12.lt k hk).2 fun e => by
      rcases Own.ne_of_type O12 hOn (by decide) with h1 | h1
      · rw [h1] at hk; cases hk
      · exact h1 (hk.trans e)
    have O14 := O13.keep (w' := w13.setCell ⟨w.heap.size, n, none⟩ (.slice a13 ((nodeGs (es.take i) n).length + es[i].gs.length) c13)) fun k hk => Below.heap_setCell _ _ _ _ (fun e : k = w.heap.size => own_apart bk13 O13 (by decide) (e ▸ hk))
    refine ⟨⟨i + 1, _, by omega, by omega, rfl, ?_, by rw [htk]; exact HT, ?_⟩, by dsimp only; omega⟩
    · rw [htk, List.map_append]; exact O14
    · exact B13.trans (((Fr.refl [w.heap.size] w13).setCell (p := ⟨w.heap.size, n, none⟩) (.inl (by simp)) _).below (fun k hk => by rw [List.mem_singleton] at hk; omega) B13.size)
  · obtain rfl : i = es.length := by omega
    rw [List.take_length] at hO hH
    refine ⟨fun x wy => ∃ n : Nat, x = n ∧ n ≤ 33 ∧ Below wx.heap.size wx wy, fun x _ => 33 - x.toNat, ⟨0, rfl, by omega, Below.refl _ _⟩, ?_⟩
    rintro x wy ⟨n, rfl, hn, hby⟩
    refine br_dec (fun hlt => drewO_in fun w16 b16 _ => ?_) fun hge => drewO_in fun w19 b19 _ => ?_
    · have hn33 : n < 33 := by omega
      have B16 := hby.trans (b16.mono hby.size)
      have H16 := hH.below B16
      obtain ⟨ha, hc, hcv, hOn⟩ := H16.each n hn33
      have hnl := nodeGs_len (es := es) hok4 n
      have BB16 := hb.trans (B16.mono hbs)
      refine ⟨by omega, by omega, _, _, _, by rw [Int.toNat_natCast, Nat.zero_add, Nat.mul_one, H16.bk.cell]; exact hcv, (held_any (hT.below sesR BB16) (by omega) hok4 n (amts_ok (fun s hs => (hok s hs).1) n)).mono ?_⟩
      rintro e w17 ⟨rfl, b17⟩
      have B17 := B16.trans (b17.mono B16.size)
      have H17 := hH.below B17
      refine ⟨keepG_nil _ _, _, rfl, by rw [Int.toNat_natCast, Nat.zero_add, Nat.mul_one, H17.bk.cell]; exact hcv, (r16Held_any ha hc (nodeGs es n) w17 ((gr_own hOn).anywhere.below b17) (by omega) (amts_ok (fun s hs => (hok s hs).1) n)).mono ?_⟩
      rintro e w18 ⟨rfl, b18⟩
      refine ⟨keepG_nil _ _, _, rfl, br_n (by simp) ?_⟩
      rw [wr64 (by omega) (by omega)]
      exact ⟨⟨n + 1, by omega, by omega, B17.trans (b18.mono B17.size)⟩, by dsimp only; omega⟩
    · have B19 := hby.trans (b19.mono hby.size)
      have BB19 := hb.trans (B19.mono hbs)
      refine (ids_any (hT.below sesR BB19) (by omega)).mono ?_
      rintro e w20 ⟨a20, c20, rfl, o20, b20⟩
      have B20 := B19.trans (b20.mono B19.size)
      have hlm : (es.map (·.id)).length = es.length := List.length_map _
      have hsame := same_eq (zs := es.map (·.id)) (c := c20) (c2 := c5) (w := w20) (by omega) (by rw [hlm]; exact o20) (by rw [hlm]; exact hO.below B20 (Nat.le_refl _))
      rw [hlm] at hsame
      refine ⟨keepG_nil _ _, _, _, _, rfl, hsame.mono ?_⟩
      rintro e w21 ⟨rfl, b21⟩
      have B21 := hb.trans ((B20.trans (b21.mono B20.size)).mono hbs)
      refine ⟨keepG_nil _ _, _, rfl, br_t rfl ⟨la, (rtab_cell (hrr.below sesR B21)).2.1, (last_any (hT.below sesR B21)).mono ?_⟩⟩
      rintro e w22 ⟨rfl, rfl⟩
      exact ⟨keepG_nil _ _, _, rfl, (rtab_cell (hrr.below sesR B21)).2.1, by simp, B21⟩
end Go.Proofs.Ytamlgnhnmilbdaa
end
section
/- CreditActs: in every row of calls a table answers what the chapter says; of none nothing is told. -/
namespace Go.Proofs.Ytamlgnhnmilbdaa
open Go.RowKit
theorem tWrite_nil (w : World) : Calls Try.prog 20 #[.pointer none] w fun e w' => e = .returned (.tuple #[.slice none 0 0, .int .i64 1]) ∧ w = w' := by
  refine (GCred2.tWrite_calls none w (fun v w' => v = .tuple #[.slice none 0 0, .int .i64 1] ∧ w = w') ?_).mono (by rintro e w' ⟨v, rfl, rfl, rfl⟩; exact ⟨rfl, rfl⟩)
  exact br_t rfl ⟨rfl, rfl⟩
set_option maxRecDepth 10000 in
theorem lCActs_walk (z x : Int) (a : Option Addr) (c : Nat) (xs : List CAct) (w : World) (hl : xs.length ≤ maxLen) (hr : RowsAt CActAt 7 w a xs) :
    Calls Try.prog 4 #[.int .i64 z, .slice a xs.length c, .int .i64 x] w fun e w' => e = .returned (.bool true) ∧ Below w.heap.size w w' := by
  refine (GCred2.lActs_calls z a xs.length c x w (fun v w' => v = .bool true ∧ Below w.heap.size w w') ?_).mono (by rintro e w' ⟨v, rfl, rfl, h⟩; exact ⟨rfl, h⟩)
  unfold GCred2.lActs_vc
  refine (none_any w).mono ?_
  rintro e w1 ⟨rfl, rfl⟩
  refine ⟨keepG_nil _ _, _, rfl, (get_nil 1 w).mono ?_⟩
  rintro e w3 ⟨rfl, b3⟩
  refine ⟨keepG_nil _ _, _, _, _, _, _, _, _, _, rfl, newO_in fun w4 n4 b4 s4 w5 h5 => (none_any w5).mono ?_⟩
  rintro e w6 ⟨rfl, rfl⟩
  have B5 : Below w.heap.size w w5 := b3.trans ((box_below b4 (Nat.le_refl _) h5).mono b3.size)
  refine ⟨fun _ _ _ => rfl, _, rfl, (tWrite_nil w5).mono ?_⟩
  rintro e w6 ⟨rfl, rfl⟩
  refine ⟨fun _ _ _ => rfl, _, _, _, _, rfl, (credits_any w5).mono ?_⟩
  rintro e w8 ⟨rfl, b8⟩
  have B8 := B5.trans (b8.mono B5.size)
  refine ⟨keepG_below b8, _, rfl, br_f rfl (br_n (by decide) (br_n (by decide) ((none_any w8).mono ?_)))⟩
  rintro e w9 ⟨rfl, rfl⟩
  refine ⟨fun _ _ _ => rfl, _, rfl, (add_none w8).mono ?_⟩
  rintro e w10 ⟨rfl, b10⟩
  have B10 := B8.trans (b10.mono B8.size)
  refine ⟨keepG_below b10, _, rfl, br_n (by decide) ((none_any w10).mono ?_)⟩
  rintro e w11 ⟨rfl, rfl⟩
  refine ⟨fun _ _ _ => rfl, _, rfl, (set_none w10).mono ?_⟩
  rintro e w12 ⟨rfl, b12⟩
  have B12 := B10.trans (b12.mono B10.size)
  refine ⟨keepG_below b12, _, rfl, br_n (by decide) ((none_any w12).mono ?_)⟩
  rintro e w13 ⟨rfl, rfl⟩
  refine ⟨fun _ _ _ => rfl, _, rfl, (end_nil' 1 w12).mono ?_⟩
  rintro e w14 ⟨rfl, rfl⟩
  refine ⟨fun _ _ _ => rfl, _, rfl, br_n (by decide) ((none_any w12).mono ?_)⟩
  rintro e w13 ⟨rfl, rfl⟩
  refine ⟨fun _ _ _ => rfl, _, rfl, (step_nil 1 1 w12).mono ?_⟩
  rintro e w14 ⟨rfl, rfl⟩
  refine ⟨fun _ _ _ => rfl, _, rfl, br_n (by decide) ((none_any w12).mono ?_)⟩
  rintro e w13 ⟨rfl, rfl⟩
  refine ⟨fun _ _ _ => rfl, _, rfl, (ids_nil w12).mono ?_⟩
  rintro e w14 ⟨rfl, rfl⟩
  refine ⟨fun _ _ _ => rfl, _, _, _, rfl, br_n (by decide) ((none_any w12).mono ?_)⟩
  rintro e w13 ⟨rfl, rfl⟩
  refine ⟨fun _ _ _ => rfl, _, rfl, (last_nil w12).mono ?_⟩
  rintro e w14 ⟨rfl, rfl⟩
  refine ⟨fun _ _ _ => rfl, _, rfl, br_n (by decide) ((none_any w12).mono ?_)⟩
  rintro e w13 ⟨rfl, rfl⟩
  refine ⟨fun _ _ _ => rfl, _, rfl, (held_nil 1 w12).mono ?_⟩
  rintro e w14 ⟨rfl, rfl⟩
  refine ⟨fun _ _ _ => rfl, _, rfl, br_n (by decide) ?_⟩
  by_cases hz : z < 1 ∨ 16 < z
  · refine (cNew_bad z w12 hz).mono ?_
    rintro e w15 ⟨rfl, rfl⟩
    refine ⟨fun _ _ _ => rfl, _, _, rfl, br_dec (fun h1 => br_t rfl ⟨rfl, B12⟩) fun h1 => br_y (by omega) (br_t rfl ⟨rfl, B12⟩)⟩
  · have hg12 : w3.heap.size < w12.heap.size := by have := h5.2; have := b8.size; have := b10.size; have := b12.size; omega
    refine (cNew_any z w12 (by omega) (by omega)).mono ?_
    rintro e w15 ⟨rfl, h15, b15⟩
    refine ⟨keepG_below b15, _, _, rfl, br_n (by omega) (br_n (by omega) (newO_in fun w16 n16 b16 s16 => ?_))⟩
    have hp15 := h15.under w12.heap.size (by simp)
    have b1216 := b15.trans (b16.mono b15.size)
    have B16 := B12.trans (b1216.mono B12.size)
    have start : CBoth w16 w12.heap.size w12.heap.size w15.heap.size z 0 [] := by
      refine ⟨⟨[w12.heap.size], [w15.heap.size], h15.below sesR b16, ⟨⟨.slice none 0 0, [], [], n16, Own.nil _ _ _ _, ElsOk.nil, (fun k hk => by cases hk), fun k hk => by simp [Value.ownBlock] at hk⟩, by simp, fun k hk => by rw [List.mem_singleton] at hk; omega⟩, fun k k1 k2 => ?_, fun k k1 => ?_, fun k k1 => ?_⟩, (fun i j s t _ h => by cases h), (fun s h => by cases h), by simp; omega, by omega⟩
      · rw [List.mem_singleton] at k1 k2; omega
      · rw [List.mem_singleton] at k1; omega
      · rw [List.mem_singleton] at k1; omega
    refine ⟨fun y wx => ∃ (i : Nat) (la : Int) (es : List Ses), y = i ∧ i ≤ xs.length ∧ i ≤ 40 ∧ CBoth wx w12.heap.size w12.heap.size w15.heap.size z la es ∧ Below w12.heap.size w12 wx, fun y _ => 40 - y.toNat, ⟨0, 0, [], rfl, by omega, by omega, start, b1216⟩, ?_⟩
    rintro y wx ⟨i, la, es, rfl, hi, hi40, hC, hb⟩
    have hbs := hb.size
    have hbw := B12.trans (hb.mono B12.size)
    refine ⟨fun b wy => b = decide (i < xs.length ∧ i < 40) ∧ wx = wy, ?_, ?_⟩
    · exact br_dec (fun h => ⟨decide_eq_decide.2 (by omega), rfl⟩) fun h => ⟨(decide_eq_false (by omega)).symm, rfl⟩
    rintro b wy ⟨rfl, rfl⟩
    refine br_dec (fun hlt => ?_) fun hge => ?_
    · obtain ⟨bb, off, rfl, ga, gc, hc, hgr, hgc⟩ := RowsAt.get (RowsAt.mono hr fun b off x h => h.below hbw) hlt.1
      refine ⟨by omega, by omega, _, _, _, _, _, _, _, _, _, by rw [Int.toNat_natCast]; exact hc, (do_any hC hbs xs[i].what xs[i].num xs[i].s ga gc hgr hgc).mono ?_⟩
      rintro e w26 ⟨rfl, ⟨la', es', hC', _⟩, b26⟩
      refine ⟨fun _ g hg => b26.block g (by rw [List.mem_singleton] at hg; omega), _, rfl, br_f rfl ?_⟩
      rw [wr64 (by omega) (by omega)]
      exact ⟨⟨i + 1, la', es', by omega, by omega, by omega, hC', hb.trans b26⟩, by dsimp only; omega⟩
    · obtain ⟨⟨L, M, hT, hR, hap, hL, hM⟩, hids, hok, hlen, hpl⟩ := id hC
      have hok4 : ∀ s ∈ es, s.gs.length ≤ 4 := fun s hs => (hok s hs).1.2.2.2.2.2.2
      refine (get_any hT (by omega) hids (fun s hs => by have := hok4 s hs; omega) x).mono ?_
      rintro e w27 ⟨hget, b27⟩
      refine ⟨keepG_below b27, ?_⟩
      rcases hget with ⟨j, s, ga, gc, hj, rfl, _⟩ | ⟨hno, rfl⟩
      · refine ⟨_, _, _, _, _, _, _, _, rfl, br_y rfl ((like_any (hC.below b27)).mono ?_)⟩
        rintro e w28 ⟨rfl, b28⟩
        have b2728 := b27.trans (b28.mono b27.size)
        refine ⟨keepG_below b28, _, rfl, br_t rfl ((rFind_any (hR.below sesR b2728) (by omega) x).mono ?_)⟩
        rintro e w29 ⟨hf, rfl⟩
        refine ⟨fun _ _ _ => rfl, ?_⟩
        rcases hf with ⟨q, t, rfl, _⟩ | ⟨hno, _⟩
        · exact ⟨_, rfl, br_y (by simp) (br_y rfl ⟨rfl, hbw.trans (b2728.mono hbw.size)⟩)⟩
        · exact absurd hj.2 (hno s (List.mem_of_getElem? hj.1))
      · refine ⟨_, _, _, _, _, _, _, _, rfl, br_y rfl ((like_any (hC.below b27)).mono ?_)⟩
        rintro e w28 ⟨rfl, b28⟩
        have b2728 := b27.trans (b28.mono b27.size)
        refine ⟨keepG_below b28, _, rfl, br_t rfl ((rFind_any (hR.below sesR b2728) (by omega) x).mono ?_)⟩
        rintro e w29 ⟨hf, rfl⟩
        refine ⟨fun _ _ _ => rfl, ?_⟩
        rcases hf with ⟨q, t, rfl, hq⟩ | ⟨_, rfl⟩
        · exact absurd hq.2 (hno t (List.mem_of_getElem? hq.1))
        · exact ⟨_, rfl, br_y (by decide) (br_n (by decide) ⟨by simp, hbw.trans (b2728.mono hbw.size)⟩)⟩
end Go.Proofs.Ytamlgnhnmilbdaa
end
section
/- A table's bytes, in plain lists; what a table writes; walked. -/
namespace Go.Proofs.Ytamlgnhnmilbdaa
open Go.RowKit
def grB (g : Gr4) : List UInt8 := uintB g.grp ++ uintB g.units ++ uintB g.amount ++ flagB g.fin
def sesNs (s : Ses) : List Int := [s.id, s.node, s.num, s.dl, (s.gs.length : Int)]
def sesHd (s : Ses) : List UInt8 := uintB s.id ++ uintB s.node ++ uintB s.num ++ uintB s.dl ++ uintB (s.gs.length : Int)
def sesB (s : Ses) : List UInt8 := sesHd s ++ s.gs.flatMap grB
def tabHd (pl la : Int) (n : Nat) : List UInt8 := uintB pl ++ uintB la ++ uintB (n : Int)
def tabB (pl la : Int) (es : List Ses) : List UInt8 := tabHd pl la es.length ++ es.flatMap sesB
/-- What a part's numbers are. -/
def In62 (z : Int) : Prop := 0 ≤ z ∧ z ≤ 4611686018427387904
theorem num62 {z : Int} (h : In62 z) : (uintB z).length ≤ 10 := uint_len10 (by have := h.2; omega)
theorem flagB_le1 (b : Bool) : (flagB b).length ≤ 1 := by cases b <;> decide
theorem gr62 {g : Gr4} (h : grIn g) : In62 g.grp ∧ In62 g.units ∧ In62 g.amount := by
  obtain ⟨a, b, c, d⟩ := h
  exact ⟨⟨by omega, by omega⟩, ⟨by omega, by omega⟩, ⟨by omega, by omega⟩⟩
theorem grB_len {g : Gr4} (h : grIn g) : (grB g).length ≤ 31 := by
  obtain ⟨a, b, c⟩ := gr62 h
  have a := num62 a
  have b := num62 b
  have c := num62 c
  have d := flagB_le1 g.fin
  simp only [grB, List.length_append]
  omega
theorem grsB_len {gs : List Gr4} (h : ∀ g ∈ gs, grIn g) : (gs.flatMap grB).length ≤ 31 * gs.length := by
  induction gs with
  | nil => simp
  | cons t r ih =>
    have h1 := grB_len (h t (by simp))
    have h2 := ih fun x hx => h x (by simp [hx])
    simp only [List.flatMap_cons, List.length_append, List.length_cons]
    omega
theorem ses62 {s : Ses} (h : SesOk s) : ∀ z ∈ sesNs s, In62 z := by
  obtain ⟨a, b, c, d, _, _, e⟩ := h
  intro z hz
  simp [sesNs] at hz
  rcases hz with rfl | rfl | rfl | rfl | rfl <;> exact ⟨by omega, by omega⟩
theorem sesNs_hd (s : Ses) : (sesNs s).flatMap uintB = sesHd s := by simp [sesNs, sesHd]
theorem sesHd_len {s : Ses} (h : SesOk s) : (sesHd s).length ≤ 50 := by
  have k := ses62 h
  have a := num62 (k s.id (by simp [sesNs]))
  have b := num62 (k s.node (by simp [sesNs]))
  have c := num62 (k s.num (by simp [sesNs]))
  have d := num62 (k s.dl (by simp [sesNs]))
  have e := num62 (k (s.gs.length : Int) (by simp [sesNs]))
  simp only [sesHd, List.length_append]
  omega
theorem sesB_len {s : Ses} (h : SesOk s) : (sesB s).length ≤ 174 := by
  have a := sesHd_len h
  have b := grsB_len h.2.2.2.2.1
  have c := h.2.2.2.2.2.2
  simp only [sesB, List.length_append]
  omega
theorem sessB_len {es : List Ses} (h : ∀ s ∈ es, SesOk s) : (es.flatMap sesB).length ≤ 174 * es.length := by
  induction es with
  | nil => simp
  | cons t r ih =>
    have h1 := sesB_len (h t (by simp))
    have h2 := ih fun x hx => h x (by simp [hx])
    simp only [List.flatMap_cons, List.length_append, List.length_cons]
    omega
theorem tabHd_len {pl la : Int} {n : Nat} (h1 : In62 pl) (h2 : In62 la) (hn : n ≤ 16) : (tabHd pl la n).length ≤ 30 := by
  have a := num62 h1
  have b := num62 h2
  have c := num62 (z := (n : Int)) ⟨by omega, by omega⟩
  simp only [tabHd, List.length_append]
  omega
set_option maxRecDepth 20000 in
theorem tWrite_new {w : World} {L : List Nat} {p : Nat} {pl la : Int} {es : List Ses} (h : TabAt w L p pl la es) (hok : ∀ s ∈ es, SesOk s) (hl : es.length ≤ 16) (hpl : In62 pl) (hla : In62 la) :
    Calls Try.prog 20 #[.pointer (some ⟨p, 0, none⟩)] w fun e w' => (∃ a c, e = .returned (.tuple #[.slice a (tabB pl la es).length c, .int .i64 0]) ∧ Own w' w.heap.size 5 1 (.slice a (tabB pl la es).length c) (tabB pl la es).length ((tabB pl la es).map bV)) ∧ Below w.heap.size w w' := by
  refine (GCred2.tWrite_calls (some ⟨p, 0, none⟩) w (fun u w' => (∃ a c, u = .tuple #[.slice a (tabB pl la es).length c, .int .i64 0] ∧ Own w' w.heap.size 5 1 (.slice a (tabB pl la es).length c) (tabB pl la es).length ((tabB pl la es).map bV)) ∧ Below w.heap.size w w') ?_).mono (by rintro e w' ⟨v, rfl, ⟨a, c, rfl, h⟩, h2⟩; exact ⟨⟨a, c, rfl, h⟩, h2⟩)
  unfold GCred2.tWrite_vc
  obtain ⟨kv, xs, M, hraw⟩ := h.raw 0
  obtain ⟨a, c, rfl⟩ := hraw.own.isSlice
  have hsb := sessB_len hok
  have htl := tabHd_len (n := es.length) hpl hla hl
  have hlt := fun b => hraw.lt (b := b)
  refine br_f rfl (newB (Bs.refl w) fun g w2 g0 sg n2 z2 b2 B2 => ?_)
  have W2 : WP w2 [g] w2 g [] false := WP.make n2 rfl
  have at' : ∀ {wx : World} {bs : List UInt8}, WP w2 [g] wx g bs false → TabRaw wx L 0 p pl la es (.slice a es.length c) xs M := fun {wx bs} W =>
    hraw.keep sesR (fun b hb => (W.keep (b := b) (by have := hlt b hb; omega) (by rw [List.mem_singleton]; have := hlt b hb; omega)).trans (b2.block b (hlt b hb))) (Nat.le_trans b2.size W.fr.size)
  have no : ∀ x ∈ ([] : List Nat), x < w2.heap.size ∧ x ∉ [g] := fun x hx => by cases hx
  have hFw : From w.heap.size [g] := fun k hk => by rw [List.mem_singleton] at hk; omega
  have q1 := num62 hpl
  have q2 := num62 hla
  refine ⟨pl, (tab_cell (at' W2)).1, W2.uint pl hpl.1 (by have := hpl.2; omega) (by simp) no fun w3 W3 z3 => ⟨rfl, la, (tab_cell (at' W3)).2.1, W3.uint la hla.1 (by have := hla.2; omega) (by simp; omega) no fun w4 W4 z4 => ⟨rfl, a, es.length, c, (tab_cell (at' W4)).2.2, W4.uint (es.length : Int) (by omega) (by omega) (by simp; omega) no fun w5 W5 z5 => ⟨rfl, a, es.length, c, (tab_cell (at' W5)).2.2, ?_⟩⟩⟩⟩
  have e5 : ([] ++ uintB pl ++ uintB la ++ uintB (es.length : Int)) = tabHd pl la es.length := by simp [tabHd]
  rw [e5] at W5
  refine ⟨fun x wx => ∃ i : Nat, x = i ∧ i ≤ es.length ∧ WP w2 [g] wx g (tabHd pl la es.length ++ (es.take i).flatMap sesB) false, fun x _ => es.length - x.toNat, ⟨0, rfl, by omega, by simpa using W5⟩, ?_⟩
  rintro x wx ⟨i, rfl, hi, hW⟩
  have htk : ((es.take i).flatMap sesB).length ≤ 174 * 16 := by
    have h1 := sessB_len (es := es.take i) fun s hs => hok s (List.mem_of_mem_take hs)
    have h2 := List.length_take (i := i) (l := es)
    omega
  refine br_dec (fun hlt' => ?_) fun hge => ?_
  · have hil : i < es.length := by omega
    have rx := at' hW
    have hs := List.getElem_mem hil
    have ho := hok _ hs
    obtain ⟨cs, ⟨ga, gc, rfl, hgr, hgc⟩, b, off, rfl, _, hcl⟩ := ElsOk.cells sesR rx.els rx.own (List.getElem?_eq_getElem hil)
    generalize hS : es[i] = s at *
    have hn62 := ses62 ho
    have hgl : s.gs.length ≤ 4 := ho.2.2.2.2.2.2
    have hhl := sesHd_len ho
    have hgb := grsB_len ho.2.2.2.2.1
    refine ⟨by omega, by omega, _, _, _, _, _, _, _, by rw [Int.toNat_natCast]; exact hcl, newO_in fun w7 n7 b7 s7 w8 h8 => ?_⟩
    have W8 := hW.newbox b7 rfl h8
    obtain ⟨K8, ⟨⟨K9, hA, hG9⟩, _, _⟩, hG8, hx8, hs8⟩ := hW.rebox b7 rfl s7 h8
    have zx := hW.fr.size
    have z8 := h8.2
    refine newO_in fun w9 n9 b9 s9 => ?_
    have W9b := W8.below b9
    have W9 : WP w9 K9 w9 g (tabHd pl la es.length ++ (es.take i).flatMap sesB) false := WP.start (hA.keep (fun k hk => b9.block k (hA.under k hk)) b9.size)
    have f2 : wx.heap.size ∉ K9 := fun hm => by rcases hG9 _ hm with q | q; exact hx8 q; omega
    have f3 : w8.heap.size ∉ K9 := fun hm => by have := hA.under _ hm; omega
    have hG : Gr [g] K9 w2.heap.size := hG8.trans hG9 (by omega)
    have far : ∀ x ∈ [wx.heap.size], x < w9.heap.size ∧ x ∉ K9 := fun x hx => by
      rw [List.mem_singleton] at hx; subst hx
      exact ⟨by omega, f2⟩
    have hk9 : ∀ b, b < wx.heap.size → w9.heap[b]? = wx.heap[b]? := fun b hb => (b9.block b (by omega)).trans ((h8.1.block b (by omega) (by rw [List.mem_singleton]; omega)).trans (b7.block b hb))
    refine ⟨fun x wy => ∃ j : Nat, x = j ∧ j ≤ 5 ∧ WP w9 K9 wy g (tabHd pl la es.length ++ (es.take i).flatMap sesB ++ ((sesNs s).take j).flatMap uintB) false, fun x _ => 5 - x.toNat, ⟨0, rfl, by omega, by simpa using W9⟩, ?_⟩
    rintro x wy ⟨j, rfl, hj, hY⟩
    refine br_dec (fun hlt5 => ?_) fun hge5 => ?_
    · have hj5 : j < (sesNs s).length := by show j < 5; omega
      have hz := hn62 _ (List.getElem_mem hj5)
      refine ⟨by omega, by omega, (sesNs s)[j], ?_, hY.uint _ hz.1 (by have := hz.2; omega) ?_ far fun w11 h11 z11 => ⟨rfl, ?_⟩⟩
      · rw [cell_keep (hY.keep (b := w8.heap.size) (by omega) f3), cell_of_row _ _ _ _ _ _ n9, Int.toNat_natCast, Nat.zero_add, Nat.mul_one]
        have : #[Value.int .i64 s.id, .int .i64 s.node, .int .i64 s.num, .int .i64 s.dl, .int .i64 (s.gs.length : Int)] = ((sesNs s).map (Value.int .i64)).toArray := rfl
        rw [this, List.getElem?_toArray, List.getElem?_map, List.getElem?_eq_getElem hj5]
        rfl
      · have : (((sesNs s).take j).flatMap uintB).length ≤ (sesHd s).length := by
          rw [← sesNs_hd]
          conv => rhs; rw [← List.take_append_drop j (sesNs s), List.flatMap_append, List.length_append]
          omega
        rw [List.length_append, List.length_append]; omega
      · rw [wr64 (by omega) (by omega)]
        refine ⟨⟨j + 1, by omega, by omega, ?_⟩, by dsimp only; omega⟩
        rw [List.take_add_one, List.getElem?_eq_getElem hj5, List.flatMap_append, ← List.append_assoc]
        simpa using h11
    · obtain rfl : j = 5 := by omega
      rw [show (sesNs s).take 5 = sesNs s from rfl, sesNs_hd] at hY
      refine ⟨fun x wz => ∃ k : Nat, x = k ∧ k ≤ s.gs.length ∧ WP w9 K9 wz g (tabHd pl la es.length ++ (es.take i).flatMap sesB ++ sesHd s ++ (s.gs.take k).flatMap grB) false, fun x _ => s.gs.length - x.toNat, ⟨0, rfl, by omega, by simpa using hY⟩, ?_⟩
      rintro x wz ⟨k, rfl, hk, hZ⟩
      refine br_dec (fun hltk => ?_) fun hgek => ?_
      · have hkl : k < s.gs.length := by omega
        have hgz : GrIn wz M ga s.gs := hgr.keep fun b hb => (hZ.keep (b := b) (by have := rx.lt (.inr (.inr hb)); omega) (fun hm => by
          have h1 := hlt b (.inr (.inr hb))
          rcases hG b hm with q | q
          · rw [List.mem_singleton] at q; omega
          · omega)).trans (hk9 b (rx.lt (.inr (.inr hb))))
        obtain ⟨gb, goff, rfl, hgc'⟩ := RowsAt.get hgz.anywhere hkl
        have hgi := ho.2.2.2.2.1 _ (List.getElem_mem hkl)
        obtain ⟨y1, y2, y3⟩ := gr62 hgi
        have r1 := num62 y1
        have r2 := num62 y2
        have r3 := num62 y3
        have hlen : (tabHd pl la es.length ++ (es.take i).flatMap sesB ++ sesHd s ++ (s.gs.take k).flatMap grB).length ≤ 10000 := by
          have h1 := grsB_len (gs := s.gs.take k) fun g hg => ho.2.2.2.2.1 g (List.mem_of_mem_take hg)
          have h2 := List.length_take (i := k) (l := s.gs)
          simp only [List.length_append]
          omega
        obtain ⟨u1, u1'⟩ := y1
        obtain ⟨u2, u2'⟩ := y2
        obtain ⟨u3, u3'⟩ := y3
        refine ⟨by omega, by omega, _, _, _, _, by rw [Int.toNat_natCast]; exact hgc', newO_in fun w13 n13 b13 s13 w14 h14 => ?_⟩
        have Z14 := hZ.newbox b13 rfl h14
        obtain ⟨K14, W14, hG14, hx14, hs14⟩ := hZ.rebox b13 rfl s13 h14
        have zz := hZ.fr.size
        have z14 := h14.2
        have far14 : ∀ x ∈ [wz.heap.size, wx.heap.size], x < w14.heap.size ∧ x ∉ K14 := fun x hx => by
          simp only [List.mem_cons, List.not_mem_nil, or_false] at hx
          rcases hx with rfl | rfl
          · exact ⟨hs14, hx14⟩
          · refine ⟨by omega, fun hm => ?_⟩
            rcases hG14 _ hm with q | q
            · exact f2 q
            · omega
        refine W14.uint _ u1 (by omega) (by omega) far14 fun w15 h15 z15 => ⟨rfl, h15.uint _ u2 (by omega) (by rw [List.length_append]; omega) far14 fun w16 h16 z16 => ⟨rfl, h16.uint _ u3 (by omega) (by rw [List.length_append, List.length_append]; omega) far14 fun w17 h17 z17 => ⟨rfl, h17.call (fun K hK _ => wFlag_any g _ _ false K w17 hK (by rw [List.length_append, List.length_append, List.length_append]; omega)) far14 fun w18 h18 z18 => ⟨rfl, ?_⟩⟩⟩⟩
        rw [wr64 (by omega) (by omega)]
        refine ⟨⟨k + 1, by omega, by omega, ?_⟩, by dsimp only; omega⟩
        have := Z14.join h18 hG14
        rw [List.take_add_one, List.getElem?_eq_getElem hkl, List.flatMap_append]
        simpa [grB] using this
      · obtain rfl : k = s.gs.length := by omega
        rw [List.take_length] at hZ
        rw [wr64 (by omega) (by omega)]
        refine ⟨⟨i + 1, by omega, by omega, ?_⟩, by dsimp only; omega⟩
        have := W9b.join hZ hG
        rw [List.take_add_one, List.getElem?_eq_getElem hil, List.flatMap_append, hS]
        simpa [sesB] using this
  · obtain rfl : i = es.length := by omega
    rw [List.take_length] at hW
    have hBy : Bs w wx := hW.old B2 hFw
    obtain ⟨⟨K, hK, hG⟩, _, _⟩ := hW
    refine (wBytes_any g (tabB pl la es) false K wx hK (by rw [tabB, List.length_append]; omega)).mono ?_
    rintro e w10 ⟨v, rfl, ho, hb⟩
    obtain ⟨a', c', rfl⟩ := ho.isSlice
    exact ⟨keepG_below hb, _, _, _, _, rfl, ⟨a', c', rfl, ho.base_le fun k hk => Nat.le_trans hBy.size (ho.lt k hk).1⟩, hBy.to hb⟩
end Go.Proofs.Ytamlgnhnmilbdaa
end
section
/- A session is read off its own bytes; walked. -/
namespace Go.Proofs.Ytamlgnhnmilbdaa
open Go.RowKit
section
variable {w0 w w1 : World} {L : List Nat} {g : Nat} {bs : List UInt8} {e : Int}
theorem RP.st (h : RP w0 L w g bs e) {x : Nat} (f : Fr [x] w w1) (hn : x ∉ L) (hz : w0.heap.size ≤ x) : RP w0 L w1 g bs e :=
  ⟨h.at'.fr f (fun k h1 h2 => by rw [List.mem_singleton] at h2; exact hn (h2 ▸ h1)), h.fr.trans f (fun k hk => by rw [List.mem_singleton] at hk; exact .inr (by omega)), h.un⟩
theorem RP.grown (h : RP w0 L w g bs e) {r : Option Nat} (f : w.grownBy w1 r) (hn : ∀ k, r = some k → k ∉ L ∧ w0.heap.size ≤ k) : RP w0 L w1 g bs e :=
  ⟨h.at'.keep (fun k hk => f.block k (h.at'.under k hk) fun e => (hn k e.symm).1 hk) f.size, h.fr.grown f fun k hk => .inr (hn k hk).2, h.un⟩
theorem RP.uintC {z : Int} (h : RP w0 L w g (uintB z ++ bs) 0) {gs : List Nat} {R : Ending → World → Prop} (most : Int) (hm : most ≤ 4611686018427387904) (hz : 0 ≤ z) (hz2 : z ≤ most) (hl : (uintB z ++ bs).length ≤ 100000000) (hg : ∀ x ∈ gs, x ∉ L)
    (k : ∀ w1, RP w0 L w1 g bs 0 → Fr L w w1 → R (.returned (.int .i64 z)) w1) :
    Calls Try.prog 74 #[.pointer (some ⟨g, 0, none⟩), .int .i64 most] w fun r w1 => KeepG gs w w1 ∧ R r w1 := by
  have hc := ck_uint hz (by omega) hz2 bs
  refine h.uint most (by omega) (by omega) hl hg fun w1 h1 f1 _ => ?_
  rw [hc] at h1 ⊢
  exact k w1 h1 f1
theorem RP.flagC {b : Bool} (h : RP w0 L w g (flagB b ++ bs) 0) {gs : List Nat} {R : Ending → World → Prop} (hg : ∀ x ∈ gs, x ∉ L)
    (k : ∀ w1, RP w0 L w1 g bs 0 → Fr L w w1 → R (.returned (.bool b)) w1) :
    Calls Try.prog 96 #[.pointer (some ⟨g, 0, none⟩)] w fun r w1 => KeepG gs w w1 ∧ R r w1 := by
  have hc := ck_flag b bs
  have := rFlag_any g (flagB b ++ bs) 0 L w h.at'
  rw [hc] at this
  exact this.mono (by
    rintro r w1 ⟨rfl, h1, f1, _⟩
    exact ⟨keepG_fr f1 hg, k w1 ⟨h1, h.fr.trans f1 (Gr.refl _ _), h.un⟩ f1⟩)
end
theorem lt4' {i : Nat} (h : i < 4) : i = 0 ∨ i = 1 ∨ i = 2 ∨ i = 3 := by omega
theorem lt3' {i : Nat} (h : i < 3) : i = 0 ∨ i = 1 ∨ i = 2 := by omega
def s4 (s : Ses) : List Int := [s.id, s.node, s.num, s.dl]
def upS (s : Ses) (i j : Nat) : Value := .int .i64 (if j < i then (s4 s).getD j 0 else 0)
def g3 (g : Gr4) : List Int := [g.grp, g.units, g.amount]
def upG (g : Gr4) (i j : Nat) : Value := .int .i64 (if j < i then (g3 g).getD j 0 else 0)
theorem sesB_eq (s : Ses) (rest : List UInt8) : sesB s ++ rest = (s4 s).flatMap uintB ++ (uintB (s.gs.length : Int) ++ (s.gs.flatMap grB ++ rest)) := by simp [sesB, sesHd, s4]
theorem grB_eq (g : Gr4) (rest : List UInt8) : grB g ++ rest = (g3 g).flatMap uintB ++ (flagB g.fin ++ rest) := by simp [grB, g3]
theorem own_fr' {w w1 : World} {n1 size n : Nat} {e : TypeId} {v : Value} {xs : List Value} {L : List Nat} (h : Own w n1 e size v n xs) (f : Fr L w w1) (hn : ∀ k ∈ L, k < n1) : Own w1 n1 e size v n xs := h.keep fun k hk => f.block k (h.lt k hk).2 fun hm => by have := (h.lt k hk).1; have := hn k hm; omega
set_option maxRecDepth 20000 in
theorem session_ck {w : World} {L : List Nat} {gr : Nat} (s : Ses) (rest : List UInt8) (ho : SesOk s) (h : RdAt w L gr (sesB s ++ rest) 0) (hl : (sesB s ++ rest).length ≤ 100000000) :
    Calls Try.prog 85 #[.pointer (some ⟨gr, 0, none⟩)] w fun r w' => ∃ v, r = .returned v ∧ ∃ a c, v = sesV s a c ∧ Rws g4Cells 4 w.heap.size w' a s.gs ∧ s.gs.length ≤ c ∧ RdAt w' L gr rest 0 ∧ Fr L w w' := by
  refine GCredB.session_calls (some ⟨gr, 0, none⟩) w (fun v w' => ∃ a c, v = sesV s a c ∧ Rws g4Cells 4 w.heap.size w' a s.gs ∧ s.gs.length ≤ c ∧ RdAt w' L gr rest 0 ∧ Fr L w w') ?_
  unfold GCredB.session_vc
  have hu := h.under
  rw [sesB_eq] at h hl
  have hn62 : ∀ z ∈ s4 s, In62 z := fun z hz => ses62 ho z (by simp only [s4, sesNs, List.mem_cons, List.not_mem_nil, or_false] at *; omega)
  have hgl : s.gs.length ≤ 4 := ho.2.2.2.2.2.2
  refine newB (Bs.refl w) fun g w2 g0 sg n2 z2 b2 B2 => newB B2 fun g2 w3 g20 sg2 n3 z3 b3 B3 => newB B3 fun g3' w4 g30 sg3 n4 z4 b4 B4 => ?_
  have nL : ∀ x, w.heap.size ≤ x → x ∉ L := fun x hx hm => by have := hu x hm; omega
  have kg : ∀ x ∈ [g], x ∉ L := fun x hx => by rw [List.mem_singleton] at hx; subst hx; exact nL _ g0
  have R4 : RP w L w4 gr _ 0 := (((RP.start h).below b2).below b3).below b4
  refine ⟨fun x wx => ∃ i : Nat, x = i ∧ i ≤ 4 ∧ RP w L wx gr (((s4 s).drop i).flatMap uintB ++ (uintB (s.gs.length : Int) ++ (s.gs.flatMap grB ++ rest))) 0 ∧ Bk wx g2 #[upS s i 0, upS s i 1, upS s i 2, upS s i 3, .slice none 0 0] 33 ∧ wx.heap[g3']? = w4.heap[g3']? ∧ w4.heap.size ≤ wx.heap.size, fun x _ => 4 - x.toNat, ⟨0, rfl, by omega, R4, Bk.keep (show Bk w3 g2 _ 33 from n3) (b4.block g2 (by omega)), rfl, by omega⟩, ?_⟩
  rintro x wx ⟨i, rfl, hi, hR, hB, h3, hsz⟩
  have hdl : (((s4 s).drop i).flatMap uintB).length ≤ ((s4 s).flatMap uintB).length := by
    conv => rhs; rw [← List.take_append_drop i (s4 s), List.flatMap_append, List.length_append]
    omega
  have hlen : (((s4 s).drop i).flatMap uintB ++ (uintB (s.gs.length : Int) ++ (s.gs.flatMap grB ++ rest))).length ≤ 100000000 := by
    rw [List.length_append] at hl ⊢
    omega
  refine br_dec (fun hlt => ?_) fun hge => ?_
  · have hi4 : i < (s4 s).length := by show i < 4; omega
    have hz := hn62 _ (List.getElem_mem hi4)
    rw [List.drop_eq_getElem_cons hi4, List.flatMap_cons, List.append_assoc] at hR hlen
    have hgd : (s4 s).getD i 0 = (s4 s)[i] := by rw [List.getD_eq_getElem?_getD, List.getElem?_eq_getElem hi4]; rfl
    refine ⟨by omega, by omega, some ⟨g2, i, none⟩, ?_, hR.uintC 4611686018427387904 (by decide) hz.1 hz.2 hlen kg fun w6 R6 f6 => ⟨_, rfl, ?_⟩⟩
    · rw [Int.toNat_natCast, Nat.zero_add, Nat.mul_one, cell_of_row _ _ _ _ _ _ (h3.trans n4)]
      rcases lt4' (show i < 4 from hi4) with rfl | rfl | rfl | rfl <;> rfl
    have z6 := f6.size
    have hB6 := hB.keep (f6.block g2 (by omega) (nL g2 (by omega)))
    refine stO_bk hB6 (by simp; omega) (fun x hx => by rw [List.mem_singleton] at hx; omega) fun w7 B7 f7 z7 => ?_
    rw [wr64 (by omega) (by omega)]
    refine ⟨⟨i + 1, by omega, by omega, R6.st f7 (nL g2 (by omega)) g20, ?_, ?_, by omega⟩, by dsimp only; omega⟩
    · have : (#[upS s i 0, upS s i 1, upS s i 2, upS s i 3, .slice none 0 0] : Array Value).setIfInBounds i (.int .i64 (s4 s)[i]) = #[upS s (i + 1) 0, upS s (i + 1) 1, upS s (i + 1) 2, upS s (i + 1) 3, .slice none 0 0] := by
        rw [← hgd]
        rcases lt4' (show i < 4 from hi4) with rfl | rfl | rfl | rfl <;> rfl
      rw [← this]; exact B7
    · exact ((f7.block g3' (by omega) (by rw [List.mem_singleton]; omega)).trans (f6.block g3' (by omega) (nL g3' (by omega)))).trans h3
  obtain rfl : i = 4 := by omega
  rw [show (s4 s).drop 4 = [] from rfl, List.flatMap_nil, List.nil_append] at hR hlen
  refine hR.uintC 4 (by decide) (by omega) (by omega) hlen kg fun w8 R8 f8 => ⟨_, rfl, ?_⟩
  have z8 := f8.size
  have hB8 : Bk w8 g2 #[.int .i64 s.id, .int .i64 s.node, .int .i64 s.num, .int .i64 s.dl, .slice none 0 0] 33 := hB.keep (f8.block g2 (by omega) (nL g2 (by omega)))
  have hlen8 : (s.gs.flatMap grB ++ rest).length ≤ 100000000 := by rw [List.length_append] at hlen; omega
  refine ⟨fun x wx => ∃ i : Nat, x = i ∧ i ≤ s.gs.length ∧ ∃ a c, RP w L wx gr ((s.gs.drop i).flatMap grB ++ rest) 0 ∧ Bk wx g2 #[.int .i64 s.id, .int .i64 s.node, .int .i64 s.num, .int .i64 s.dl, .slice a i c] 33 ∧ Own wx w8.heap.size 115 4 (.slice a i c) i ((s.gs.take i).flatMap g4Cells) ∧ w8.heap.size ≤ wx.heap.size, fun x _ => s.gs.length - x.toNat, ⟨0, rfl, by omega, none, 0, R8, hB8, Own.nil _ _ _ _, by omega⟩, ?_⟩
  rintro x wx ⟨i, rfl, hi, a, c, hR, hB, hO, hsz⟩
  have klt := fun k hk => hO.lt k hk
  have kLn : ∀ k ∈ L, k < w8.heap.size := fun k hk => by have := hu k hk; omega
  have hdl : ((s.gs.drop i).flatMap grB).length ≤ (s.gs.flatMap grB).length := by
    conv => rhs; rw [← List.take_append_drop i s.gs, List.flatMap_append, List.length_append]
    omega
  refine br_dec (fun hlt => ?_) fun hge => ?_
  · have hil : i < s.gs.length := by omega
    have hgi := ho.2.2.2.2.1 _ (List.getElem_mem hil)
    rw [List.drop_eq_getElem_cons hil, List.flatMap_cons, List.append_assoc] at hR
    rw [List.drop_eq_getElem_cons hil, List.flatMap_cons] at hdl
    have htake : s.gs.take (i + 1) = s.gs.take i ++ [s.gs[i]] := by rw [List.take_add_one, List.getElem?_eq_getElem hil]; rfl
    generalize s.gs[i] = q at *
    obtain ⟨y1, y2, y3⟩ := gr62 hgi
    have hg62 : ∀ z ∈ g3 q, In62 z := fun z hz => by
      simp only [g3, List.mem_cons, List.not_mem_nil, or_false] at hz
      rcases hz with rfl | rfl | rfl <;> assumption
    rw [grB_eq] at hR
    have hqe : (grB q).length = ((g3 q).flatMap uintB ++ flagB q.fin).length := by rw [← List.append_nil (grB q), grB_eq]; simp
    have hlq : ((g3 q).flatMap uintB ++ (flagB q.fin ++ ((s.gs.drop (i + 1)).flatMap grB ++ rest))).length ≤ 100000000 := by
      simp only [List.length_append] at hdl hlen8 hqe ⊢
      omega
    refine newO_in fun w10 n10 b10 s10 => newO_in fun w11 n11 b11 s11 => ?_
    have R11 := (hR.below b10).below b11
    have O11 := (hO.below b10 (Nat.le_refl _)).below b11 (Nat.le_refl _)
    have hB11 := (hB.keep (b10.block g2 (by omega))).keep (b11.block g2 (by omega))
    refine ⟨fun x wy => ∃ j : Nat, x = j ∧ j ≤ 3 ∧ RP w L wy gr (((g3 q).drop j).flatMap uintB ++ (flagB q.fin ++ ((s.gs.drop (i + 1)).flatMap grB ++ rest))) 0 ∧ Bk wy wx.heap.size #[upG q j 0, upG q j 1, upG q j 2, .bool false] 115 ∧ wy.heap[w10.heap.size]? = w11.heap[w10.heap.size]? ∧ Bk wy g2 #[.int .i64 s.id, .int .i64 s.node, .int .i64 s.num, .int .i64 s.dl, .slice a i c] 33 ∧ Own wy w8.heap.size 115 4 (.slice a i c) i ((s.gs.take i).flatMap g4Cells) ∧ w11.heap.size ≤ wy.heap.size, fun x _ => 3 - x.toNat,
      ⟨0, rfl, by omega, R11, Bk.keep (show Bk w10 wx.heap.size _ 115 from n10) (b11.block _ (by omega)), rfl, hB11, O11, by omega⟩, ?_⟩
    have ownNe : ∀ k, (Value.slice a i c).ownBlock = some k → k ≠ wx.heap.size := fun k hk => by have := (klt k hk).2; omega
    clear hR hB
    rintro x wy ⟨j, rfl, hj, hR, hQ, hp, hB, hO, hsy⟩
    have hdj : (((g3 q).drop j).flatMap uintB).length ≤ ((g3 q).flatMap uintB).length := by
      conv => rhs; rw [← List.take_append_drop j (g3 q), List.flatMap_append, List.length_append]
      omega
    have hlj : (((g3 q).drop j).flatMap uintB ++ (flagB q.fin ++ ((s.gs.drop (i + 1)).flatMap grB ++ rest))).length ≤ 100000000 := by
      rw [List.length_append] at hlq ⊢
      omega
    refine br_dec (fun hltj => ?_) fun hgej => ?_
    · have hj3 : j < (g3 q).length := by show j < 3; omega
      have hz := hg62 _ (List.getElem_mem hj3)
      rw [List.drop_eq_getElem_cons hj3, List.flatMap_cons, List.append_assoc] at hR hlj
      have hgd : (g3 q).getD j 0 = (g3 q)[j] := by rw [List.getD_eq_getElem?_getD, List.getElem?_eq_getElem hj3]; rfl
      refine ⟨by omega, by omega, some ⟨wx.heap.size, j, none⟩, ?_, hR.uintC 4611686018427387904 (by decide) hz.1 hz.2 hlj kg fun w13 R13 f13 => ⟨_, rfl, ?_⟩⟩
      · rw [Int.toNat_natCast, Nat.zero_add, Nat.mul_one, cell_of_row _ _ _ _ _ _ (hp.trans n11)]
        rcases lt3' (show j < 3 from hj3) with rfl | rfl | rfl <;> rfl
      have z13 := f13.size
      have hQ13 := hQ.keep (f13.block wx.heap.size (by omega) (nL _ (by omega)))
      refine stO_bk hQ13 (by simp; omega) (fun x hx => by rw [List.mem_singleton] at hx; omega) fun w14 B14 f14 z14 => ?_
      rw [wr64 (by omega) (by omega)]
      refine ⟨⟨j + 1, by omega, by omega, R13.st f14 (nL _ (by omega)) (by omega), ?_, ?_, ?_, ?_, by omega⟩, by dsimp only; omega⟩
      · have : (#[upG q j 0, upG q j 1, upG q j 2, .bool false] : Array Value).setIfInBounds j (.int .i64 (g3 q)[j]) = #[upG q (j + 1) 0, upG q (j + 1) 1, upG q (j + 1) 2, .bool false] := by
          rw [← hgd]
          rcases lt3' (show j < 3 from hj3) with rfl | rfl | rfl <;> rfl
        rw [← this]; exact B14
      · exact ((f14.block w10.heap.size (by omega) (by rw [List.mem_singleton]; omega)).trans (f13.block w10.heap.size (by omega) (nL _ (by omega)))).trans hp
      · exact (hB.keep (f13.block g2 (by omega) (nL g2 g20))).keep (f14.block g2 (by omega) (by rw [List.mem_singleton]; omega))
      · have o13 := own_fr' hO f13 kLn
        exact o13.keep fun k hk => f14.block k (o13.lt k hk).2 (by rw [List.mem_singleton]; exact ownNe k hk)
    obtain rfl : j = 3 := by omega
    rw [show (g3 q).drop 3 = [] from rfl, List.flatMap_nil, List.nil_append] at hR
    refine hR.flagC kg fun w15 R15 f15 => ⟨_, rfl, ?_⟩
    have z15 := f15.size
    have hQ15 := hQ.keep (f15.block wx.heap.size (by omega) (nL _ (by omega)))
    refine stO_bk hQ15 (by simp) (fun x hx => by rw [List.mem_singleton] at hx; omega) fun w16 B16 f16 z16 => ?_
    have B16 : Bk w16 wx.heap.size #[.int .i64 q.grp, .int .i64 q.units, .int .i64 q.amount, .bool q.fin] 115 := B16
    have R16 := R15.st f16 (nL _ (by omega)) (by omega)
    have hB16 := (hB.keep (f15.block g2 (by omega) (nL g2 g20))).keep (f16.block g2 (by omega) (by rw [List.mem_singleton]; omega))
    have o15 := own_fr' hO f15 kLn
    have o16 : Own w16 w8.heap.size 115 4 (.slice a i c) i ((s.gs.take i).flatMap g4Cells) := o15.keep fun k hk => f16.block k (o15.lt k hk).2 (by rw [List.mem_singleton]; exact ownNe k hk)
    refine ⟨a, i, c, by rw [hB16.cell]; rfl, q.grp, q.units, q.amount, q.fin, cellsAt_row B16 (by simp), newO_in fun w17 n17 b17 s17 => ?_⟩
    have O17 := o16.below b17 (Nat.le_refl _)
    have R17 := R16.below b17
    have hB17 := hB16.keep (b17.block g2 (by omega))
    have klt17 := fun k hk => O17.lt k hk
    refine ⟨1, _, _, O17.base_le fun _ _ => Nat.zero_le _, src_block (n := 1) (size := 4) Try.underlying31 n17 rfl rfl, by unfold maxLen; omega, by omega, fun x hx e => ?_, fun a' c' w18 o18 g18 or18 _ => ?_⟩
    · have := klt17 _ e
      simp only [List.mem_cons, List.not_mem_nil, or_false] at hx
      omega
    have z18 := g18.size
    have o18' : Own w18 w8.heap.size 115 4 (.slice a' (i + 1) c') (i + 1) ((s.gs.take i).flatMap g4Cells ++ g4Cells q) := o18.base_le fun k hk => by
      rcases or18 with q | ⟨y, q, hy⟩
      · rw [q] at hk; exact (klt17 k hk).1
      · rw [q] at hk; injection hk with hk; omega
    have R18 := R17.grown g18 fun k hk => ⟨nL k (by have := klt17 k hk; omega), by have := klt17 k hk; omega⟩
    have hB18 := hB17.keep (g18.block g2 (by have := hB17.lt; omega) fun h => by have := klt17 g2 h.symm; omega)
    refine stO_bk hB18 (by simp) (fun x hx => by rw [List.mem_singleton] at hx; omega) fun w19 B19 f19 z19 => ?_
    rw [wr64 (by omega) (by omega)]
    refine ⟨⟨i + 1, by omega, by omega, a', c', R18.st f19 (nL g2 g20) g20, B19, ?_, by omega⟩, by dsimp only; omega⟩
    rw [htake, List.flatMap_append]
    have := own_fr' o18' f19 fun k hk => by rw [List.mem_singleton] at hk; omega
    simpa using this
  · obtain rfl : i = s.gs.length := by omega
    rw [List.drop_length, List.flatMap_nil, List.nil_append] at hR
    rw [List.take_length] at hO
    refine ⟨s.id, s.node, s.num, s.dl, a, s.gs.length, c, cellsAt_row hB (by simp), fun w20 h20 => ?_⟩
    have R20 := hR.box h20 (nL g g0) g0
    exact ⟨a, c, rfl, ((Rws.ofOwn (by decide) g4_len hO).box h20 (by omega)).low (by omega), hO.cap.1, R20.at', R20.fr⟩
end Go.Proofs.Ytamlgnhnmilbdaa
end
section
/- A table is read off its own bytes; walked. -/
namespace Go.Proofs.Ytamlgnhnmilbdaa
open Go.RowKit
section
variable {w0 w w1 : World} {L : List Nat} {g : Nat} {bs : List UInt8} {e : Int}
theorem RP.other (h : RP w0 L w g bs e) {M : List Nat} (f : Fr M w w1) (hn : ∀ k ∈ M, k ∉ L ∧ w0.heap.size ≤ k) : RP w0 L w1 g bs e :=
  ⟨h.at'.fr f (fun k h1 h2 => (hn k h2).1 h1), h.fr.trans f (fun k hk => .inr (hn k hk).2), h.un⟩
theorem RP.own' {bs' : List UInt8} (h : RP w0 L w g bs e) (hr : RdAt w1 L g bs' e) (f : Fr L w w1) : RP w0 L w1 g bs' e := ⟨hr, h.fr.trans f (Gr.refl _ _), h.un⟩
end
theorem fr_set {w : World} {g i : Nat} {v : Value} : Fr [g] w (w.setCell ⟨g, i, none⟩ v) := ⟨rfl, rfl, rfl, by simp, fun k hk hn => Below.heap_setCell _ _ _ _ (by rw [List.mem_singleton] at hn; exact hn)⟩
theorem gr_at {w : World} {n0 : Nat} {a : Option Addr} {gs : List Gr4} (h : Rws g4Cells 4 n0 w a gs) : GrAt w a gs := by
  rcases h with h | ⟨b, off, ha, _, h⟩
  · exact .inl h
  · exact .inr ⟨b, off, ha, h⟩
theorem sesV_eq (s : Ses) (a : Option Addr) (c : Nat) : sesV s a c = .agg #[.int .i64 s.id, .int .i64 s.node, .int .i64 s.num, .int .i64 s.dl, .slice a s.gs.length c] := rfl
set_option maxRecDepth 20000 in
theorem readT_ck {w : World} {pl la : Int} {es : List Ses} (hok : ∀ s ∈ es, SesOk s ∧ s.id ≤ la) (hids : Ids es) (hlen : (es.length : Int) ≤ pl) (hpl : 1 ≤ pl ∧ pl ≤ 16) (hla : In62 la) (a : Option Addr) (c : Nat) (hr : RowAt w a ((tabB pl la es).map bV)) :
    Calls Try.prog 38 #[.slice a (tabB pl la es).length c] w fun e w' => (∃ u L, e = .returned (.tuple #[.pointer (some ⟨u, 0, none⟩), .int .i64 0]) ∧ TabAt w' L u pl la es ∧ From w.heap.size L) ∧ Below w.heap.size w w' := by
  refine (GCredB.cread_calls a (tabB pl la es).length c w (fun v w' => (∃ u L, v = .tuple #[.pointer (some ⟨u, 0, none⟩), .int .i64 0] ∧ TabAt w' L u pl la es ∧ From w.heap.size L) ∧ Below w.heap.size w w') ?_).mono (by rintro e w' ⟨v, rfl, ⟨u, L, rfl, h⟩, h2⟩; exact ⟨⟨u, L, rfl, h⟩, h2⟩)
  unfold GCredB.cread_vc
  have h16 : es.length ≤ 16 := by omega
  have hpl62 : In62 pl := ⟨by omega, by omega⟩
  have hsb := sessB_len fun s hs => (hok s hs).1
  have htl := tabHd_len (n := es.length) hpl62 hla h16
  have hbl : (tabB pl la es).length ≤ 10000 := by rw [tabB, List.length_append]; omega
  refine (cRead_any a c (tabB pl la es) w hr (by omega)).mono ?_
  rintro r w2 ⟨gr, L, rfl, hR2, hF, b2⟩
  have B2 : Bs w w2 := b2
  have b2s := b2.size
  have hu := hR2.under
  have hbe : tabB pl la es = uintB pl ++ (uintB la ++ (uintB (es.length : Int) ++ es.flatMap sesB)) := by simp [tabB, tabHd]
  rw [hbe] at hR2 hbl
  simp only [List.length_append] at hbl
  have R2 : RP w2 L w2 gr _ 0 := RP.start hR2
  have no : ∀ x ∈ ([] : List Nat), x ∉ L := fun x hx => by cases hx
  have nL : ∀ x, w2.heap.size ≤ x → x ∉ L := fun x hx hm => by have := hu x hm; omega
  refine ⟨keepG_below b2, _, rfl, R2.uintC 4611686018427387904 (by decide) hpl62.1 hpl62.2 (by simp only [List.length_append]; omega) no fun w3 R3 f3 => ⟨_, rfl, newO_in fun w4 n4 b4 s4' => ?_⟩⟩
  have z3 := f3.size
  have R4 := R3.below b4
  refine R4.uintC 4611686018427387904 (by decide) hla.1 hla.2 (by simp only [List.length_append]; omega) no fun w5 R5 f5 => ⟨_, rfl, ?_⟩
  have z5 := f5.size
  have g3n : ∀ x, w3.heap.size ≤ x → x ∉ L := fun x hx => nL x (by omega)
  have T4 : TabAt w4 [w3.heap.size] w3.heap.size pl 0 [] := ⟨⟨.slice none 0 0, [], [], n4, Own.nil _ _ _ _, ElsOk.nil, (fun k hk => by cases hk), fun k hk => by simp [Value.ownBlock] at hk⟩, by simp, fun k hk => by rw [List.mem_singleton] at hk; omega⟩
  have ap4 : Apart [w3.heap.size] L := fun k k1 => by rw [List.mem_singleton] at k1; subst k1; exact g3n _ (Nat.le_refl _)
  have T5 := T4.fr sesR f5 ap4
  obtain ⟨kv5, xs5, M5, raw5⟩ := T5.raw 0
  refine ⟨pl, (tab_cell raw5).1, (within_any pl 1 16 w5).mono ?_⟩
  rintro r w6 ⟨rfl, rfl⟩
  refine ⟨fun _ _ _ => rfl, _, rfl, R5.uintC 16 (by decide) (by omega) (by omega) (by simp only [List.length_append]; omega) no fun w7 R7 f7 => ⟨_, rfl, ?_⟩⟩
  have z7 := f7.size
  have T7 := T5.fr sesR f7 ap4
  rw [decide_eq_true (show 1 ≤ pl ∧ pl ≤ 16 from hpl)]
  refine ⟨fun b x wx => b = true ∧ ∃ i : Nat, x = i ∧ i ≤ es.length ∧ RP w2 L wx gr ((es.drop i).flatMap sesB) 0 ∧ ∃ lx LT, TabAt wx LT w3.heap.size pl lx (es.take i) ∧ From w3.heap.size LT ∧ 0 ≤ lx ∧ (∀ s, es[i]? = some s → lx < s.id) ∧ w7.heap.size ≤ wx.heap.size, fun _ x _ => es.length - x.toNat,
    ⟨rfl, 0, rfl, by omega, by simpa using R7, 0, [w3.heap.size], by simpa using T7, (fun k hk => by rw [List.mem_singleton] at hk; omega), by omega, (fun s hs => by have := (hok s (List.mem_of_getElem? hs)).1.1.1; omega), by omega⟩, ?_⟩
  rintro b x wx ⟨rfl, i, rfl, hi, hR, lx, LT, hT, hLT, hl0, hlx, hsz⟩
  have apT : Apart LT L := fun k hk => g3n k (hLT k hk)
  refine br_dec (fun hlt => ?_) fun hge => ?_
  · have hil : i < es.length := by omega
    have hgi := List.getElem?_eq_getElem hil
    obtain ⟨ho, hola⟩ := hok _ (List.getElem_mem hil)
    have hlt' := hlx _ hgi
    have hnext : ∀ t, es[i + 1]? = some t → es[i].id < t.id := fun t ht => hids i (i + 1) _ t (by omega) hgi ht
    have htake : es.take (i + 1) = es.take i ++ [es[i]] := by rw [List.take_add_one, hgi]; rfl
    have htl' : (es.take i).length = i := by rw [List.length_take]; omega
    have hdl : ((es.drop i).flatMap sesB).length ≤ (es.flatMap sesB).length := by
      conv => rhs; rw [← List.take_append_drop i es, List.flatMap_append, List.length_append]
      omega
    rw [List.drop_eq_getElem_cons hil, List.flatMap_cons] at hR hdl
    generalize es[i] = s at *
    refine (session_ck s _ ho hR.at' (by omega)).mono ?_
    rintro r w9 ⟨v, rfl, a9, c9, rfl, hg9, hc9, hR9, f9⟩
    have z9 := f9.size
    have T9 := hT.fr sesR f9 apT
    have hgl : s.gs.length ≤ 4 := ho.2.2.2.2.2.2
    refine ⟨keepG_fr f9 no, s.id, s.node, s.num, s.dl, a9, s.gs.length, c9, rfl, newO_in fun w10 n10 b10 s10 w11 h11 => br_t rfl ?_⟩
    have z11 := h11.2
    have R11 := ((hR.own' hR9 f9).below b10).box h11 (nL _ (by have := hR.fr.size; omega)) (by have := hR.fr.size; omega)
    have lt9 := T9.under
    have T11 : TabAt w11 LT w3.heap.size pl lx (es.take i) := T9.keep sesR (fun k hk => (h11.1.block k (by have := lt9 k hk; omega) (by rw [List.mem_singleton]; have := lt9 k hk; omega)).trans (b10.block k (lt9 k hk))) (by omega)
    have g11 := gr_at (hg9.newbox b10 rfl h11)
    have hsz9 := hR.fr.size
    refine (add_code T11 (by omega) (by omega) s a9 c9 g11 hc9 (by omega)).mono ?_
    rintro r w12 ⟨L12, T12, rfl, f12, gr12⟩
    have hc : SesOk s ∧ lx < s.id ∧ ((es.take i).length : Int) < pl := ⟨ho, hlt', by omega⟩
    have e1 : addE pl lx (es.take i) s = 0 := by unfold addE; rw [if_neg (fun k => k ho), if_neg (by omega), if_neg (by omega)]
    have e2 : addLa pl lx (es.take i) s = s.id := by unfold addLa; rw [if_pos hc]
    have e3 : addEs pl lx (es.take i) s = es.take (i + 1) := by unfold addEs; rw [if_pos hc, htake]
    rw [e2, e3] at T12
    have z12 := f12.size
    refine ⟨keepG_fr f12 (fun x hx hm => by rw [List.mem_singleton] at hx; subst hx; have := lt9 _ hm; omega), _, rfl, br_y e1 ?_⟩
    rw [decide_eq_true hola, wr64 (by omega) (by omega)]
    refine ⟨⟨rfl, i + 1, by omega, by omega, R11.other f12 (fun k hk => ⟨apT k hk, by have := hLT k hk; omega⟩), s.id, L12, T12, (fun k hk => ?_), by have := ho.1.1; omega, hnext, by omega⟩, by dsimp only; omega⟩
    rcases gr12 k hk with q | q
    · exact hLT k q
    · omega
  · obtain rfl : i = es.length := by omega
    rw [List.take_length] at hT
    rw [List.drop_length, List.flatMap_nil] at hR
    obtain ⟨kv, xs, M, raw⟩ := hT.raw 0
    have hgT := hT.mem
    have hlt := hT.under
    refine stO_set raw.bk (by simp [tabF]) (fun x hx => by cases hx) ?_
    have raw' : TabRaw (wx.setCell ⟨w3.heap.size, 1, none⟩ (.int .i64 la)) LT 0 w3.heap.size pl la es kv xs M := raw.cell sesR tab_ne (j := 1) (v := .int .i64 la) (f' := tabF pl la) rfl
    have R13 := hR.st (fr_set (w := wx) (g := w3.heap.size) (i := 1) (v := .int .i64 la)) (g3n _ (Nat.le_refl _)) z3
    refine br_f rfl ((rEnd_any gr [] 0 L _ R13.at' (by simp)).mono ?_)
    rintro r w14 ⟨rfl, rfl⟩
    have he : rdEnd [] 0 = 0 := rfl
    obtain ⟨L13, T13, gr13⟩ := raw'.at hgT
    refine ⟨fun _ _ _ => rfl, _, rfl, br_n (fun k => k he) ⟨⟨w3.heap.size, LT, rfl, ?_, fun k hk => by have := hLT k hk; omega⟩, R13.old B2 hF⟩⟩
    obtain ⟨⟨kv', xs', M', q1, q2, q3, q4, q5⟩, q6, q7⟩ := hT
    have raw2 : TabRaw wx LT 0 w3.heap.size pl lx es kv' xs' M' := ⟨q1, q2, q3, fun b hb => ⟨.inl (q4 b hb).1, (q4 b hb).2⟩, fun b hb => .inl (q5 b hb), fun b hb => q7 b (q4 b hb).1⟩
    have raw3 : TabRaw (wx.setCell ⟨w3.heap.size, 1, none⟩ (.int .i64 la)) LT 0 w3.heap.size pl la es kv' xs' M' := raw2.cell sesR tab_ne (j := 1) (v := .int .i64 la) (f' := tabF pl la) rfl
    exact ⟨⟨kv', xs', M', raw3.bk, raw3.own, raw3.els, q4, q5⟩, q6, fun k hk => by simpa using q7 k hk⟩
end Go.Proofs.Ytamlgnhnmilbdaa
end
section
/- A table is written by the document; walked. -/
namespace Go.Proofs.Ytamlgnhnmilbdaa
open Go.RowKit
theorem fu_ret (z : Int) (h : z ≤ 9223372036854775807) (w : World) : Calls Try.prog 90 #[.int .i64 z] w (Ret (.string (strOf (uintB z))) w) := fUint_any z h w
theorem ff_ret (b : Bool) (w : World) : Calls Try.prog 91 #[.bool b] w (Ret (.string (strOf (flagB b))) w) := ret_same (fFlag_any b w)
theorem sz2 (a b : List UInt8) (h : a.length + b.length ≤ 1000000) : (strOf a).size + (strOf b).size ≤ 9223372036854775807 := by rw [strOf_size, strOf_size]; omega
set_option maxRecDepth 20000 in
theorem rWrite_ret {w : World} {L : List Nat} {p : Nat} {pl la : Int} {es : List Ses} (h : RTabAt w L p pl la es) (hok : ∀ s ∈ es, SesOk s) (hl : es.length ≤ 16) (hpl : In62 pl) (hla : In62 la) :
    Calls Try.prog 40 #[.pointer (some ⟨p, 0, none⟩)] w (Ret (.string (strOf (tabB pl la es))) w) := by
  refine ret_in (GCredB.rwrite17_calls (some ⟨p, 0, none⟩) w (fun u w' => u = .string (strOf (tabB pl la es)) ∧ Below w.heap.size w w') ?_)
  unfold GCredB.rwrite17_vc
  obtain ⟨kv, xs, M, hraw⟩ := h.raw 0
  obtain ⟨a, c, rfl⟩ := hraw.own.isSlice
  have hsb := sessB_len hok
  have htl := tabHd_len (n := es.length) hpl hla hl
  have at' : ∀ {wx : World}, Bs w wx → LRaw SesR 5 53 50 wx L 0 p (tabF pl la) es (.slice a es.length c) xs M := fun B => hraw.below sesR B
  have c0 : ∀ {wx : World}, Bs w wx → wx.cell? ⟨p, 0, none⟩ = some (.int .i64 pl) := fun B => by rw [(at' B).bk.cell]; rfl
  have c1 : ∀ {wx : World}, Bs w wx → wx.cell? ⟨p, 0 + 1, none⟩ = some (.int .i64 la) := fun B => by rw [(at' B).bk.cell]; rfl
  have c2 : ∀ {wx : World}, Bs w wx → wx.cell? ⟨p, 0 + 2, none⟩ = some (.slice a es.length c) := fun B => by rw [(at' B).bk.cell]; rfl
  have q1 := num62 hpl
  have q2 := num62 hla
  have q3 := num62 (z := (es.length : Int)) ⟨by omega, by omega⟩
  refine drewB (Bs.refl w) fun w2 b2 B2 _ => ⟨pl, c0 B2, la, c1 B2, a, es.length, c, c2 B2, callB B2 (fu_ret pl (by have := hpl.2; omega) w2) fun w3 b3 B3 => ⟨_, rfl, c1 B3, c2 B3, callB B3 (fu_ret la (by have := hla.2; omega) w3) fun w4 b4 B4 => ⟨_, rfl, c2 B4, sz2 _ _ (by omega), callB B4 (fu_ret (es.length : Int) (by omega) w4) fun w5 b5 B5 => ⟨_, rfl, by rw [strOf_app]; exact sz2 _ _ (by rw [List.length_append]; omega), ?_⟩⟩⟩⟩
  rw [strOf_app, strOf_app]
  refine ⟨fun s x wx => ∃ i : Nat, x = i ∧ i ≤ es.length ∧ s = strOf (tabHd pl la es.length ++ (es.take i).flatMap sesB) ∧ Bs w wx, fun _ x _ => es.length - x.toNat, ⟨0, rfl, by omega, by simp [tabHd], B5⟩, ?_⟩
  rintro s3 x wx ⟨i, rfl, hi, rfl, B⟩
  have htk : ((es.take i).flatMap sesB).length ≤ 174 * 16 := by
    have h1 := sessB_len (es := es.take i) fun s hs => hok s (List.mem_of_mem_take hs)
    have h2 := List.length_take (i := i) (l := es)
    omega
  refine ⟨a, es.length, c, c2 B, br_dec (fun hlt => ?_) fun hge => ?_⟩
  · have hil : i < es.length := by omega
    have rx := at' B
    have ho := hok _ (List.getElem_mem hil)
    have htake : es.take (i + 1) = es.take i ++ [es[i]] := by rw [List.take_add_one, List.getElem?_eq_getElem hil]; rfl
    obtain ⟨cs, ⟨ga, gc, rfl, hgr, hgc⟩, b, off, rfl, _, hcl⟩ := ElsOk.cells sesR rx.els rx.own (List.getElem?_eq_getElem hil)
    generalize es[i] = s at *
    have hn62 := ses62 ho
    have hgl : s.gs.length ≤ 4 := ho.2.2.2.2.2.2
    have n1 := hn62 s.id (by simp [sesNs])
    have n2 := hn62 s.node (by simp [sesNs])
    have n3 := hn62 s.num (by simp [sesNs])
    have n4 := hn62 s.dl (by simp [sesNs])
    have n5 := hn62 (s.gs.length : Int) (by simp [sesNs])
    have l1 := num62 n1
    have l2 := num62 n2
    have l3 := num62 n3
    have l4 := num62 n4
    have l5 := num62 n5
    obtain ⟨n1, n1'⟩ := n1
    obtain ⟨n2, n2'⟩ := n2
    obtain ⟨n3, n3'⟩ := n3
    obtain ⟨n4, n4'⟩ := n4
    have hhl := sesHd_len ho
    have hg0 : GrAt wx ga s.gs := hgr.anywhere
    refine ⟨_, es.length, c, c2 B, by omega, by omega, _, _, _, _, _, _, _, by rw [Int.toNat_natCast]; exact hcl, newB B fun g w7 g0 sg n7 z7 b7 B7 => boxB B7 g0 fun w8 h8 B8 z8 => drewB B8 fun w9 b9 B9 _ => ?_⟩
    have hb9 : Bs wx w9 := (box_below b7 (by omega) h8).trans (b9.mono (by rw [z8, z7]; omega))
    refine callB B9 (fu_ret s.id (by omega) w9) fun w10 b10 B10 => ⟨_, rfl, sz2 _ _ (by rw [List.length_append]; omega), callB B10 (fu_ret s.node (by omega) w10) fun w11 b11 B11 => ⟨_, rfl, by simp only [strOf_app]; exact sz2 _ _ (by simp only [List.length_append]; omega), callB B11 (fu_ret s.num (by omega) w11) fun w12 b12 B12 => ⟨_, rfl, by simp only [strOf_app]; exact sz2 _ _ (by simp only [List.length_append]; omega), callB B12 (fu_ret s.dl (by omega) w12) fun w13 b13 B13 => ⟨_, rfl, by simp only [strOf_app]; exact sz2 _ _ (by simp only [List.length_append]; omega), callB B13 (fu_ret (s.gs.length : Int) (by omega) w13) fun w14 b14 B14 => ⟨_, rfl, by simp only [strOf_app]; exact sz2 _ _ (by simp only [List.length_append]; omega), ?_⟩⟩⟩⟩⟩
    have hb14 : Bs wx w14 := ((((hb9.to b10).to b11).to b12).to b13).to b14
    refine ⟨fun s' x wy => ∃ k : Nat, x = k ∧ k ≤ s.gs.length ∧ s' = strOf (tabHd pl la es.length ++ (es.take i).flatMap sesB ++ sesHd s ++ (s.gs.take k).flatMap grB) ∧ Bs wx wy, fun _ x _ => s.gs.length - x.toNat, ⟨0, rfl, by omega, by simp [strOf_app, sesHd], hb14⟩, ?_⟩
    rintro s' x wy ⟨k, rfl, hk, rfl, By⟩
    refine br_dec (fun hltk => ?_) fun hgek => ?_
    · have hkl : k < s.gs.length := by omega
      have hgi := ho.2.2.2.2.1 _ (List.getElem_mem hkl)
      have hgy : GrAt wy ga s.gs := hg0.below By
      obtain ⟨gb, goff, rfl, hgc'⟩ := RowsAt.get hgy hkl
      have htk4 : s.gs.take (k + 1) = s.gs.take k ++ [s.gs[k]] := by rw [List.take_add_one, List.getElem?_eq_getElem hkl]; rfl
      generalize s.gs[k] = q at *
      obtain ⟨y1, y2, y3⟩ := gr62 hgi
      have r1 := num62 y1
      have r2 := num62 y2
      have r3 := num62 y3
      have r4 := flagB_le1 q.fin
      have hlen : (tabHd pl la es.length ++ (es.take i).flatMap sesB ++ sesHd s ++ (s.gs.take k).flatMap grB).length ≤ 10000 := by
        have h1 := grsB_len (gs := s.gs.take k) fun g hg => ho.2.2.2.2.1 g (List.mem_of_mem_take hg)
        have h2 := List.length_take (i := k) (l := s.gs)
        simp only [List.length_append]
        omega
      obtain ⟨u1, u1'⟩ := y1
      obtain ⟨u2, u2'⟩ := y2
      obtain ⟨u3, u3'⟩ := y3
      refine ⟨by omega, by omega, _, _, _, _, by rw [Int.toNat_natCast]; exact hgc', newB By fun g' w16 g0' sg' n16 z16 b16 B16 => boxB B16 g0' fun w17 h17 B17 z17 => drewB B17 fun w18 b18 B18 _ => ?_⟩
      refine callB B18 (fu_ret q.grp (by omega) w18) fun w19 b19 B19 => ⟨_, rfl, sz2 _ _ (by omega), callB B19 (fu_ret q.units (by omega) w19) fun w20 b20 B20 => ⟨_, rfl, by rw [strOf_app]; exact sz2 _ _ (by rw [List.length_append]; omega), callB B20 (fu_ret q.amount (by omega) w20) fun w21 b21 B21 => ⟨_, rfl, by rw [strOf_app, strOf_app]; exact sz2 _ _ (by rw [List.length_append, List.length_append]; omega), callB B21 (ff_ret q.fin w21) fun w22 b22 B22 => ⟨_, rfl, by rw [strOf_app, strOf_app, strOf_app]; exact sz2 _ _ (by rw [List.length_append, List.length_append, List.length_append]; omega), ?_⟩⟩⟩⟩
      rw [wr64 (by omega) (by omega)]
      refine ⟨⟨k + 1, by omega, by omega, ?_, B22⟩, by dsimp only; omega⟩
      rw [strOf_app, strOf_app, strOf_app, strOf_app, htk4, List.flatMap_append]
      simp [grB]
    · obtain rfl : k = s.gs.length := by omega
      rw [List.take_length, wr64 (by omega) (by omega)]
      refine ⟨⟨i + 1, by omega, by omega, ?_, B.to By⟩, by dsimp only; omega⟩
      rw [htake, List.flatMap_append]
      simp [sesB]
  · obtain rfl : i = es.length := by omega
    rw [List.take_length]
    exact ⟨rfl, B⟩
end Go.Proofs.Ytamlgnhnmilbdaa
end
section
/- CreditBack: a table's bytes are told; it comes back, and goes on the same; walked. -/
namespace Go.Proofs.Ytamlgnhnmilbdaa
open Go.RowKit
theorem mod16 (z : Int) : ∃ m : Int, IntKind.i64.wrap (1 + IntKind.i64.wrap (Int.tmod (IntKind.u64.wrap z) 16)) = m ∧ 1 ≤ m ∧ m ≤ 16 := by
  have h : 0 ≤ IntKind.u64.wrap z := by rw [IntKind.wrap_u64]; omega
  rw [Int.tmod_eq_emod_of_nonneg h]
  generalize IntKind.u64.wrap z = y at *
  rw [wr64 (z := y % 16) (by omega) (by omega), wr64 (by omega) (by omega)]
  exact ⟨_, rfl, by omega, by omega⟩
set_option maxRecDepth 20000 in
theorem lCBack_walk (z : Int) (a a2 : Option Addr) (c c2 : Nat) (xs ys : List CAct) (w : World) (hr : RowsAt CActAt 7 w a xs) (hr2 : RowsAt CActAt 7 w a2 ys) :
    Calls Try.prog 8 #[.int .i64 z, .slice a xs.length c, .slice a2 ys.length c2] w (Ret (.bool true) w) := by
  refine ret_in (GCredB.cback_calls z a xs.length c a2 ys.length c2 w (fun u w' => u = .bool true ∧ Below w.heap.size w w') ?_)
  unfold GCredB.cback_vc
  obtain ⟨m, hm, m1, m16⟩ := mod16 z
  rw [hm]
  clear hm
  refine ⟨by decide, (cNew_any m w m1 m16).mono ?_⟩
  rintro e w15 ⟨rfl, h15, b15⟩
  have hp15 := h15.under w.heap.size (by simp)
  refine ⟨keepG_below b15, _, _, rfl, newO_in fun w16 n16 b16 s16 => (credits_any w16).mono ?_⟩
  rintro e w17 ⟨rfl, b17⟩
  have B16 : Bs w w16 := (show Bs w w15 from b15).to b16
  have B17 := B16.to b17
  have start : CBoth w16 w.heap.size w.heap.size w15.heap.size m 0 [] := by
    refine ⟨⟨[w.heap.size], [w15.heap.size], h15.below sesR b16, ⟨⟨.slice none 0 0, [], [], n16, Own.nil _ _ _ _, ElsOk.nil, (fun k hk => by cases hk), fun k hk => by simp [Value.ownBlock] at hk⟩, by simp, fun k hk => by rw [List.mem_singleton] at hk; omega⟩, fun k k1 k2 => ?_, fun k k1 => ?_, fun k k1 => ?_⟩, (fun i j s t _ h => by cases h), (fun s h => by cases h), by simp; omega, m16⟩
    · rw [List.mem_singleton] at k1 k2; omega
    · rw [List.mem_singleton] at k1; omega
    · rw [List.mem_singleton] at k1; omega
  refine ⟨keepG_below b17, _, rfl, br_f rfl (br_n (fun k => k rfl) ?_)⟩
  refine ⟨fun y wx => ∃ (i : Nat) (la : Int) (es : List Ses), y = i ∧ i ≤ xs.length ∧ i ≤ 40 ∧ CBoth wx w.heap.size w.heap.size w15.heap.size m la es ∧ (0 ≤ la ∧ la ≤ 4611686018427387904) ∧ Bs w wx, fun y _ => 40 - y.toNat, ⟨0, 0, [], rfl, by omega, by omega, start.below b17, by omega, B17⟩, ?_⟩
  rintro y wx ⟨i, la, es, rfl, hi, hi40, hC, hla, hb⟩
  refine ⟨fun b wy => b = decide (i < xs.length ∧ i < 40) ∧ wx = wy, ?_, ?_⟩
  · exact br_dec (fun h => ⟨decide_eq_decide.2 (by omega), rfl⟩) fun h => ⟨(decide_eq_false (by omega)).symm, rfl⟩
  rintro b wy ⟨rfl, rfl⟩
  refine br_dec (fun hlt => ?_) fun hge => ?_
  · obtain ⟨bb, off, rfl, ga, gc, hc, hgr, hgc⟩ := RowsAt.get (RowsAt.mono hr fun b off x h => h.below hb) hlt.1
    refine ⟨by omega, by omega, _, _, _, _, _, _, _, _, _, by rw [Int.toNat_natCast]; exact hc, (do_any hC hb.size xs[i].what xs[i].num xs[i].s ga gc hgr hgc).mono ?_⟩
    rintro e w26 ⟨rfl, ⟨la', es', hC', hla'⟩, b26⟩
    refine ⟨fun _ g hg => (by cases hg), _, rfl, br_f rfl ?_⟩
    rw [wr64 (by omega) (by omega)]
    exact ⟨⟨i + 1, la', es', by omega, by omega, by omega, hC', hla' hla, hb.trans b26⟩, by dsimp only; omega⟩
  obtain ⟨⟨L, M, hT, hR, hap, hL, hM⟩, hids, hok, hlen, hpl⟩ := id hC
  have hok1 : ∀ s ∈ es, SesOk s := fun s hs => (hok s hs).1
  have h16 : es.length ≤ 16 := by omega
  have hm62 : In62 m := ⟨by omega, by omega⟩
  refine callQ hb (tWrite_new hT hok1 h16 hm62 hla) ?_
  rintro e w20 ⟨a', c', rfl, ho⟩ b20 B20
  refine ⟨_, _, _, _, rfl, callQ B20 (readT_ck hok hids hlen ⟨m1, m16⟩ hla a' c' ho.row) ?_⟩
  rintro e w21 ⟨u, L2, rfl, hT2, hF2⟩ b21 B21
  have hrow := ho.row.below b21 (Nat.le_refl _)
  refine ⟨_, _, rfl, drewB B21 fun w22 b22 B22 _ => br_n (fun k => k rfl) (br_n (fun k => k rfl) ⟨tabB m la es, rfl, hrow.below b22 (Nat.le_refl _), ?_⟩)⟩
  have hsz20 := hb.size
  have bx22 : Below wx.heap.size wx w22 := ((show Bs wx w20 from b20).to b21).to b22
  have hR22 := hR.below sesR bx22
  refine callB B22 (rWrite_ret hR22 hok1 h16 hm62 hla) fun w23 b23 B23 => ⟨_, rfl, (hrow.below b22 (Nat.le_refl _)).below b23 (Nat.le_refl _), br_n (fun k => k rfl) ?_⟩
  have s20 := b20.size
  have C23 : CBoth w23 w.heap.size u w15.heap.size m la es := ⟨⟨L2, M, (hT2.below sesR b22).below sesR b23, hR22.below sesR b23, (fun k k1 k2 => by have := hF2 k k1; have := hR.under k k2; omega), (fun k hk => by have := hF2 k hk; omega), hM⟩, hids, hok, hlen, hpl⟩
  refine (like_any C23).mono ?_
  rintro e w24 ⟨rfl, b24⟩
  have B24 := B23.to b24
  refine ⟨keepG_below b24, _, rfl, br_f rfl ?_⟩
  clear hC hge hT hR hids hok hlen hok1 h16
  refine ⟨fun y wx => ∃ (i : Nat) (la : Int) (es : List Ses), y = i ∧ i ≤ ys.length ∧ i ≤ 20 ∧ CBoth wx w.heap.size u w15.heap.size m la es ∧ Bs w wx, fun y _ => 20 - y.toNat, ⟨0, la, es, rfl, by omega, by omega, C23.below b24, B24⟩, ?_⟩
  rintro y wx ⟨j, la, es, rfl, hj, hj20, hC, hbx⟩
  refine ⟨fun b wy => b = decide (j < ys.length ∧ j < 20) ∧ wx = wy, ?_, ?_⟩
  · exact br_dec (fun h => ⟨decide_eq_decide.2 (by omega), rfl⟩) fun h => ⟨(decide_eq_false (by omega)).symm, rfl⟩
  rintro b wy ⟨rfl, rfl⟩
  refine br_dec (fun hlt => ?_) fun hge => ?_
  · obtain ⟨bb, off, rfl, ga, gc, hc, hgr, hgc⟩ := RowsAt.get (RowsAt.mono hr2 fun b off x h => h.below hbx) hlt.1
    refine ⟨by omega, by omega, _, _, _, _, _, _, _, _, _, by rw [Int.toNat_natCast]; exact hc, (do_any hC hbx.size ys[j].what ys[j].num ys[j].s ga gc hgr hgc).mono ?_⟩
    rintro e w26 ⟨rfl, ⟨la', es', hC', _⟩, b26⟩
    refine ⟨fun _ g hg => (by cases hg), _, rfl, br_f rfl ?_⟩
    rw [wr64 (by omega) (by omega)]
    exact ⟨⟨j + 1, la', es', by omega, by omega, by omega, hC', hbx.trans b26⟩, by dsimp only; omega⟩
  · refine (like_any hC).mono ?_
    rintro e w25 ⟨rfl, b25⟩
    exact ⟨keepG_below b25, _, rfl, rfl, hbx.to b25⟩
end Go.Proofs.Ytamlgnhnmilbdaa
end
section
/- What the row of CreditBack needs, together. -/
namespace Go.Proofs.Ytamlgnhnmilbdaa
end Go.Proofs.Ytamlgnhnmilbdaa
end
