import Derived.Test.YtkggnbabnfhcpaaMWire38
import Derived.Test.YtkggnbabnfhcpaaMWire33
import Derived.Test.YtkggnbabnfhcpaaMWire35
set_option linter.unusedVariables false
section
/- Answers told: the law; walked. -/
namespace Go.Proofs.Ytkggnbabnfhcpaa
open Go.RowKit
theorem gnC_one' : ∀ x, ∀ v ∈ gnC x, v.oneCell' = true := gnC_one
theorem tellB_ne {x : An} (h : TellOk x) : tellB x ≠ [] := fun e => by
  have e1 : uintB x.k = [] := (List.append_eq_nil_iff.1 e).1
  have h1 := congrArg List.length e1
  have hk := h.kind
  unfold uintB at h1
  rw [if_neg (by omega)] at h1
  have := grp_pos x.k.toNat
  simp only [List.length_nil] at h1
  omega
theorem ltells_k1_ok {x : An} {w0 w : World} {g : Nat} {ab : Option Addr} {cb : Nat} (hok : TellOk x) (ho : Own w w0.heap.size 5 1 (.slice ab (tellB x).length cb) (tellB x).length ((tellB x).map bV)) (B : Bs w0 w) (hl : (tellB x).length ≤ 90000) (hgw : g < w.heap.size) {x1 : Int} : GWiR.ltells_k1 (fun u w' => u = .bool true ∧ Below w0.heap.size w0 w') x.k x.e x1 g ab (tellB x).length cb 0 (strOf (tellB x)) w := by
  unfold GWiR.ltells_k1
  have hne := tellB_ne hok
  have hback := ans_back hok
  obtain ⟨u1, u2⟩ := un_ans hback
  have hck := ck_ans hok []
  rw [List.append_nil] at hck
  have hcut : ∀ m, m < (tellB x).length → ¬ ansOk ((tellB x).take m) := fun m hm => ans_cut hok hm
  have htail : ¬ ansOk (tellB x ++ [0]) := ans_tail hok (by simp)
  have hK : ansK (tellB x) = x.k := hck.1
  have hE : ansE (tellB x) = x.e := hck.2.1
  have hcap : (tellB x).length ≤ cb := ho.cap.1
  generalize tellB x = bs at *
  have hpos : 0 < bs.length := List.length_pos_iff.2 hne
  have r0 : RowAt w ab (bs.map bV) := ho.row
  have hl1 : bs.length ≤ 100000 := by omega
  refine br_n (fun h => h rfl) (br_n (by omega) ?_)
  refine (told_new ab cb bs w r0 hl1).mono ?_
  rintro e w2 ⟨v, rfl, a2, rfl, hin2, b2⟩
  rw [if_pos hback, told_is hback] at *
  refine ⟨keepG_below b2, _, _, _, _, _, _, _, _, _, _, _, _, _, _, _, _, _, _, rfl, newB (B.to b2) fun g3 w3 g30 sg3 n3 z3 b3 B3 => boxB B3 g30 fun w4 x4 B4 z4 => ?_⟩
  have hin4 := hin2.newbox b3 sg3 x4
  have r4 := (r0.below b2 (Nat.le_refl _)).newbox b3 sg3 x4
  refine (tell_new (ansOf bs) a2 w4 hin4).mono ?_
  rintro e w5 ⟨v, rfl, a5, c5, hA, b5⟩
  have B5 := B4.to b5
  have r5 := r4.below b5 (Nat.le_refl _)
  rcases hA with ⟨_, rfl, o5⟩ | ⟨hno, _⟩
  rotate_left
  · exact absurd u1 hno
  rw [u2] at o5 ⊢
  refine ⟨keepG_below b5, _, _, _, _, rfl, ?_⟩
  obtain ⟨m, hm, em⟩ := u64_mod x1 bs.length hpos
  have hw : IntKind.u64.wrap ((bs.length : Nat) : Int) = ((bs.length : Nat) : Int) := wru64 (by omega) (by omega)
  rw [hw, em, wr64 (z := (m : Int)) (by omega) (by omega), Int.toNat_natCast]
  refine ⟨by omega, by omega, by omega, ?_⟩
  have hlm : (bs.take m).length = m := by rw [List.length_take]; omega
  have key := told_new ab cb (bs.take m) w5 (by rw [List.map_take]; exact r5.take m) (by omega)
  rw [hlm] at key
  refine key.mono ?_
  rintro e w6 ⟨v, rfl, a6, rfl, _, b6⟩
  have B6 := B5.to b6
  rw [if_neg (hcut m hm)]
  refine ⟨keepG_below b6, _, _, _, _, _, _, _, _, _, _, _, _, _, _, _, _, _, _, rfl, newB B6 fun g4 w7 g40 sg4 n7 z7 b7 B7 => boxB B7 g40 fun w8 x8 B8 z8 => newB (Bs.refl w8) fun g5 w9 g50 sg5 n9 z9 b9 B9 => ?_⟩
  have r8 := (r5.below b6 (Nat.le_refl _)).newbox b7 sg4 x8
  have q8 := (o5.row.below b6 (Nat.le_refl _)).newbox b7 sg4 x8
  have o9 : Own w9 w8.heap.size 5 1 (.slice (some ⟨g5, 0, none⟩) 0 0) 0 (([] : List UInt8).map bV) := (own_empty 1 n9).base_le fun q hq => by simp [Value.ownBlock] at hq; omega
  have far : ∀ {wy : World} {a' : Option Addr} {n' c' : Nat} {vs : List Value}, Own wy w8.heap.size 5 1 (.slice a' n' c') n' vs → ∀ q ∈ [g4, g3, g], (Value.slice a' n' c').ownBlock ≠ some q := fun ho q hq e => by
    have h3 := (ho.lt q e).1
    have := b2.size
    have := b3.size
    have := b5.size
    have := b6.size
    have := b7.size
    simp only [List.mem_cons, List.not_mem_nil, or_false] at hq
    omega
  refine appB B9 o9 (Nat.le_refl _) b9.size (srcX (r8.below b9 (Nat.le_refl _))) (by unfold maxLen; omega) (by omega) (far o9) fun a10 c10 w10 o10 _ B10 z10 => ?_
  refine newB B10 fun g6 w11 g60 sg6 n11 z11 b11 B11 => ?_
  have o11 := o10.below b11 (Nat.le_refl _)
  refine appB B11 o11 (Nat.le_refl _) (by have := b11.size; have := b9.size; have := B10.size; omega) (src_block (cs := [bV 0]) Try.underlying32 n11 rfl rfl) (by unfold maxLen; omega) (by omega) (far o11) fun a12 c12 w12 o12 _ B12 z12 => ?_
  have e12 : bs.map bV ++ [bV 0] = (bs ++ [0]).map bV := by rw [List.map_append]; rfl
  have l12 : (bs ++ [0]).length = 0 + bs.length + 1 := by simp
  have r12 : RowAt w12 a12 ((bs ++ [0]).map bV) := by rw [← e12]; exact o12.row
  have B12' : Bs w0 w12 := B8.to B12
  have key2 := told_new a12 c12 (bs ++ [0]) w12 r12 (by rw [l12]; omega)
  rw [l12] at key2
  refine key2.mono ?_
  rintro e w13 ⟨v, rfl, a13, rfl, _, b13⟩
  rw [if_neg htail]
  have B13 := B12'.to b13
  refine ⟨keepG_below b13, _, _, _, _, _, _, _, _, _, _, _, _, _, _, _, _, _, _, rfl, newB B13 fun g7 w14 g70 sg7 n14 z14 b14 B14 => boxB B14 g70 fun w15 x15 B15 z15 => ?_⟩
  have r15 := (((r8.below B12 (Nat.le_refl _)).below b13 (Nat.le_refl _))).newbox b14 sg7 x15
  have q15 := (((q8.below B12 (Nat.le_refl _)).below b13 (Nat.le_refl _))).newbox b14 sg7 x15
  refine ⟨bs, rfl, r15, br_y rfl (br_y rfl (br_y rfl ⟨bs, rfl, q15, br_y rfl (br_y rfl (br_y rfl (br_y hK ⟨?_, B15⟩)))⟩))⟩
  rw [decide_eq_true]
  exact hE
/-- An answer of the document's that came in. -/
structure DnArg (w : World) (x : An) (ga : Option Addr) (gc : Nat) : Prop where
  gs : GnsAt 0 w ga x.gs
  cap : x.gs.length ≤ gc
def trimA (x : An) : An := { x with gs := x.gs.take 6, inv := x.inv.take 200 }
theorem tell_len {x : An} (h : TellOk x) (hg : x.gs.length ≤ 6) (hi : x.inv.length ≤ 200) : (tellB x).length ≤ 1000 := by
  have h1 := uint_len10 (n := x.k) (by have := h.kind; omega)
  have h2 := uint_len10 (n := x.e) (by have := h.err; omega)
  unfold tellB
  rw [List.length_append, List.length_append]
  by_cases he : x.e = 0
  · rw [if_pos he]
    have b := h.body he
    have h3 : (grB x.k x.gs).length ≤ 300 := by
      unfold grB
      split
      · rename_i hg2
        have hb := b.grants hg2
        have h4 := uint_len10 (n := (x.gs.length : Int)) (by omega)
        have h5 : ∀ l : List Gn, (∀ y ∈ l, pGn.ok y) → (l.flatMap pGn.enc).length ≤ 31 * l.length := by
          intro l
          induction l with
          | nil => intro _; simp
          | cons y r ih =>
            intro hy
            have hh := hy y List.mem_cons_self
            have := ih fun z hz => hy z (List.mem_cons_of_mem _ hz)
            have a1 := uint_len10 (far64 hh.1)
            have a2 := uint_len10 (far64 hh.2.1)
            have a3 := uint_len10 (far64 hh.2.2)
            rw [List.flatMap_cons, List.length_append, List.length_cons]
            have : (pGn.enc y).length ≤ 31 := by
              simp [pGn, pI2, flagB]
              omega
            omega
        have h6 := h5 x.gs hb.2
        show (uintB (x.gs.length : Int) ++ x.gs.flatMap pGn.enc).length ≤ 300
        rw [List.length_append]
        omega
      · simp
    have h4 : (numB x).length ≤ 60 := by
      have e : numB x = ((ansO x.k).map x.ns).flatMap uintB := by unfold numB; rw [List.flatMap_map]
      have := far_flat ((ansO x.k).map x.ns) fun z hz => by obtain ⟨o, ho, rfl⟩ := List.mem_map.1 hz; exact b.nums o ho
      rw [List.length_map] at this
      have := ans_few x.k
      rw [e]; omega
    have h5 : (invB x.k x.inv).length ≤ 300 := by
      unfold invB
      split
      · have := textB_len (ts := x.inv) (by omega); omega
      · simp
    unfold bodyA
    rw [List.length_append, List.length_append]
    omega
  · rw [if_neg he]; simp; omega
set_option maxHeartbeats 1600000 in
theorem ltells_walk (x0 : An) (ga : Option Addr) (gc : Nat) (z : Int) (w : World) (h : DnArg w x0 ga gc) : Calls Try.prog 5 #[dnV x0 ga gc, .int .i64 z] w (Ret (.bool true) w) := by
  refine ret_in (GWiR.ltells_calls x0.k x0.e ga x0.gs.length gc (x0.ns 3) (x0.ns 4) (x0.ns 5) (x0.ns 6) (x0.ns 7) (x0.ns 8) (x0.ns 9) (x0.ns 10) (x0.ns 11) (strOf x0.inv) z w (fun u w' => u = .bool true ∧ Below w.heap.size w w') ?_)
  unfold GWiR.ltells_vc
  refine newB (Bs.refl w) fun g w2 g0 sg n2 z2 b2 B2 => ?_
  refine tame_row (t := 115) (tx := 53) (xs := x0.gs) Try.underlying53 (by omega) gnC_len gnC_one (by omega) B2 (fun w' B' _ _ => h.gs.below B') (m := 6) (by omega) h.cap (fun q hq => by simp at hq; omega) fun a4 c4 w4 k4 p4 b4 B4 => ?_
  refine boxB B4 g0 fun w5 x5 B5 z5 => ⟨by omega, by rw [strOf_size]; omega, boxB B5 g0 fun w6 x6 B6 z6 => ?_⟩
  have k6 : GnsAt 0 w6 a4 (x0.gs.take 6) := ((k4.box x5 (by omega)).box x6 (by omega)).low (Nat.zero_le _)
  have hext : (strOf x0.inv).extract 0 (min (((strOf x0.inv).size : Nat) : Int) 200).toNat = strOf (x0.inv.take 200) := by
    rw [strOf_size, strOf_extract, List.drop_zero, Nat.sub_zero]
    congr 1
    by_cases hh : x0.inv.length ≤ 200
    · rw [show (min ((x0.inv.length : Nat) : Int) 200).toNat = x0.inv.length by omega, List.take_length, List.take_of_length_le hh]
    · rw [show (min ((x0.inv.length : Nat) : Int) 200).toNat = 200 by omega]
  rw [hext, Nat.zero_add]
  have eT : trimA x0 = trimA x0 := rfl
  have hgl : (trimA x0).gs.length ≤ 6 := by show (x0.gs.take 6).length ≤ 6; rw [List.length_take]; omega
  have hil : (trimA x0).inv.length ≤ 200 := by show (x0.inv.take 200).length ≤ 200; rw [List.length_take]; omega
  refine (answer_new (trimA x0) a4 c4 w6 k6 (by omega) (by omega)).mono ?_
  rintro e w7 ⟨v, rfl, a7, rfl, hin7, b7⟩
  have B7 := B6.to b7
  have k7 : GnsAt 0 w7 a4 (trimA x0).gs := k6.below b7
  refine ⟨keepG_below b7, _, _, _, _, _, _, _, _, _, _, _, _, _, _, _, _, _, rfl, (tell_new (trimA x0) a7 w7 hin7).mono ?_⟩
  rintro e w8 ⟨v, rfl, ab, cb, hA, b8⟩
  have B8 := B7.to b8
  have k8 : GnsAt 0 w8 a4 (trimA x0).gs := k7.below b8
  have hq := qtell_new (trimA x0) a4 c4 w8 k8 (by omega) (by omega)
  rcases hA with ⟨hok, rfl, o8⟩ | ⟨hno, rfl⟩
  · refine ⟨keepG_below b8, ab, _, cb, 0, rfl, hq.mono ?_⟩
    rintro e w9 ⟨v, rfl, s, ok, rfl, h9, h9b, b9⟩
    have hs := h9b hok
    have hokt := h9.2 hok
    subst hs; subst hokt
    have B9 := B8.to b9
    have o9 := (o8.below b9 (Nat.le_refl _))
    refine ⟨keepG_below b9, _, _, rfl, callB B9 (wires_ret w9) fun w10 b10 B10 => ⟨_, rfl, br_f rfl (br_n (by simp) (br_n (fun h => h rfl) ?_))⟩⟩
    exact ltells_k1_ok (x := trimA x0) (x1 := z) hok ((o9.below b10 (Nat.le_refl _)).base_le fun q hq => Nat.le_trans B7.size (o9.lt q hq).1) B10 (by have := tell_len hok hgl hil; omega) (by have := B10.size; have := b4.size; have := b7.size; have := b8.size; have := b9.size; have := b10.size; omega)
  · refine ⟨keepG_below b8, none, 0, 0, 2, rfl, hq.mono ?_⟩
    rintro e w9 ⟨v, rfl, s, ok, rfl, h9, h9b, b9⟩
    have hokf : ok = false := by
      cases ok
      · rfl
      · exact absurd (h9.1 rfl) hno
    subst hokf
    have B9 := B8.to b9
    refine ⟨keepG_below b9, _, _, rfl, callB B9 (wires_ret w9) fun w10 b10 B10 => ⟨_, rfl, br_f rfl (br_n (by simp) (br_y (by decide) (br_n (fun h => h rfl) (br_n (fun h => h rfl) ?_))))⟩⟩
    unfold GWiR.ltells_k1
    exact br_y (by decide) ⟨rfl, B10⟩
end Go.Proofs.Ytkggnbabnfhcpaa
end
section
/- Arrays and structs that came in as values: their numbers. -/
namespace Go.Proofs.Ytkggnbabnfhcpaa
open Go.RowKit Go.WideShapes Go.ChangeShapes
theorem okWide_arr {P : Program} {W : World} {r : Reach} {base : Nat} {t : TypeId} {v : Value} {n : Nat} {e : Sh} {k : Nat} (hf : fitsB P (.arr n e k) t = true) (hv : Value.okWide P W r base t v) : ∃ cs, v = .agg cs ∧ cs.size = P.cellsOf t := by
  unfold fitsB at hf
  split at hf
  · rename_i l et hu
    unfold Value.okWide at hv
    rw [hu] at hv
    obtain ⟨cs, h1, h2, _⟩ := hv
    exact ⟨cs, h1, h2⟩
  · cases hf
theorem open_arrI {H : Type} {enc : TypeId × Value → H} {P : Program} {W : World} {r : Reach} {base : Nat} {t : TypeId} {v : Value} {d : DataW H} {p : List MemPlace} (n : Nat) (hf : fitsB P (.arr n (.int .i64) 1) t = true) (hc : P.cellsOf t = n) (hv : Value.okWide P W r base t v)
    (h : DataW.Trod enc P W 0 (fun _ => true) true t v d p) : ∃ zs : List Int, zs.length = n ∧ v = .agg (zs.map (Value.int .i64)).toArray ∧ ∀ z ∈ zs, -9223372036854775808 ≤ z ∧ z ≤ 9223372036854775807 := by
  obtain ⟨cs, rfl, hs⟩ := okWide_arr hf hv
  have hh := open_sh hf h
  obtain ⟨zs, hz, hp⟩ := exists_list (p := fun i z => cs.toList[i]? = some (Value.int .i64 z) ∧ (Lit.int .i64 z).wf = true) n (fun i hi => by
    obtain ⟨z, h1, h2⟩ := hh i hi
    refine ⟨z, ?_, h2⟩
    have := congrArg (·[0]?) h1
    simpa [Value.cells] using this)
  refine ⟨zs, hz, ?_, fun z hm => ?_⟩
  · congr 1
    apply Array.ext'
    apply List.ext_getElem?
    intro i
    rw [List.getElem?_map]
    by_cases hi : i < n
    · rw [List.getElem?_eq_getElem (show i < zs.length by omega)]
      exact (hp i _ (List.getElem?_eq_getElem (by omega))).1
    · rw [List.getElem?_eq_none (by simp; omega), List.getElem?_eq_none (by omega)]
      rfl
  · obtain ⟨i, hi⟩ := List.getElem?_of_mem hm
    exact i64_range (hp i z hi).2
theorem open_arr2 {H : Type} {enc : TypeId × Value → H} {P : Program} {W : World} {r : Reach} {base : Nat} {t : TypeId} {v : Value} {d : DataW H} {p : List MemPlace} (hf : fitsB P (.arr 2 (.int .i64) 1) t = true) (hc : P.cellsOf t = 2) (hv : Value.okWide P W r base t v)
    (h : DataW.Trod enc P W 0 (fun _ => true) true t v d p) : ∃ x y : Int, v = .agg #[.int .i64 x, .int .i64 y] ∧ (-9223372036854775808 ≤ x ∧ x ≤ 9223372036854775807) ∧ -9223372036854775808 ≤ y ∧ y ≤ 9223372036854775807 := by
  obtain ⟨zs, hz, rfl, hr⟩ := open_arrI 2 hf hc hv h
  match zs, hz with
  | [x, y], _ => exact ⟨x, y, rfl, hr x (by simp), hr y (by simp)⟩
theorem open_arr4 {H : Type} {enc : TypeId × Value → H} {P : Program} {W : World} {r : Reach} {base : Nat} {t : TypeId} {v : Value} {d : DataW H} {p : List MemPlace} (hf : fitsB P (.arr 4 (.int .i64) 1) t = true) (hc : P.cellsOf t = 4) (hv : Value.okWide P W r base t v)
    (h : DataW.Trod enc P W 0 (fun _ => true) true t v d p) : ∃ x y z u : Int, v = .agg #[.int .i64 x, .int .i64 y, .int .i64 z, .int .i64 u] ∧ (-9223372036854775808 ≤ x ∧ x ≤ 9223372036854775807) ∧ (-9223372036854775808 ≤ y ∧ y ≤ 9223372036854775807) ∧ (-9223372036854775808 ≤ z ∧ z ≤ 9223372036854775807) ∧ -9223372036854775808 ≤ u ∧ u ≤ 9223372036854775807 := by
  obtain ⟨zs, hz, rfl, hr⟩ := open_arrI 4 hf hc hv h
  match zs, hz with
  | [x, y, z, u], _ => exact ⟨x, y, z, u, rfl, hr x (by simp), hr y (by simp), hr z (by simp), hr u (by simp)⟩
end Go.Proofs.Ytkggnbabnfhcpaa
end
section
/- Structs that came in as values. No program in sight. -/
namespace Go.Proofs.Ytkggnbabnfhcpaa
open Go.RowKit Go.WideShapes Go.ChangeShapes
theorem okWide_str {P : Program} {W : World} {r : Reach} {base : Nat} {t : TypeId} {v : Value} {fs : Sh} (hf : fitsB P (.agg fs) t = true) (hv : Value.okWide P W r base t v) : ∃ cs, v = .agg cs ∧ cs.size = P.cellsOf t := by
  unfold fitsB at hf
  split at hf
  · rename_i fl hu
    unfold Value.okWide at hv
    rw [hu] at hv
    obtain ⟨cs, h1, h2, _⟩ := hv
    exact ⟨cs, h1, h2⟩
  · cases hf
/-- Structs of ints alone. -/
def intsF : Nat → Nat → Sh
  | _, 0 => .fnil
  | i, n + 1 => .fcons i 1 (.int .i64) (intsF (i + 1) n)
theorem has_intsF {w : World} : ∀ (n i : Nat) (cs : List Value), (intsF i n).Has w cs → i + n = cs.length → ∃ zs : List Int, zs.length = n ∧ cs.drop i = zs.map (Value.int .i64) ∧ ∀ z ∈ zs, -9223372036854775808 ≤ z ∧ z ≤ 9223372036854775807
  | 0, i, cs, _, hl => ⟨[], rfl, by rw [List.drop_eq_nil_iff.2 (by omega)]; rfl, fun z hz => by cases hz⟩
  | n + 1, i, cs, h, hl => by
    obtain ⟨⟨z, hz, hw⟩, hr⟩ := h
    obtain ⟨zs, h1, h2, h3⟩ := has_intsF n (i + 1) cs hr (by omega)
    refine ⟨z :: zs, by simp [h1], ?_, fun y hy => ?_⟩
    · have hi : i < cs.length := by omega
      have h0 : cs[i]? = some (.int .i64 z) := by
        have := congrArg (·[0]?) hz
        simpa [List.getElem?_take, List.getElem?_drop] using this
      rw [List.getElem?_eq_getElem hi] at h0
      injection h0 with h0
      rw [List.drop_eq_getElem_cons hi, h0, h2]; rfl
    · rcases List.mem_cons.1 hy with rfl | hy
      · exact i64_range hw
      · exact h3 y hy
theorem open_strI {H : Type} {enc : TypeId × Value → H} {P : Program} {W : World} {r : Reach} {base : Nat} {t : TypeId} {v : Value} {d : DataW H} {p : List MemPlace} (n : Nat) (hf : fitsB P (.agg (intsF 0 n)) t = true) (hc : P.cellsOf t = n) (hv : Value.okWide P W r base t v)
    (h : DataW.Trod enc P W 0 (fun _ => true) true t v d p) : ∃ zs : List Int, zs.length = n ∧ v = .agg (zs.map (Value.int .i64)).toArray ∧ ∀ z ∈ zs, -9223372036854775808 ≤ z ∧ z ≤ 9223372036854775807 := by
  obtain ⟨cs, rfl, hs⟩ := okWide_str hf hv
  have hh := open_sh hf h
  obtain ⟨zs, h1, h2, h3⟩ := has_intsF n 0 cs.toList (by simpa [Value.cells, Sh.Has] using hh) (by simp; omega)
  refine ⟨zs, h1, ?_, h3⟩
  congr 1
  apply Array.ext'
  rw [← h2]
  simp
theorem open_str4 {H : Type} {enc : TypeId × Value → H} {P : Program} {W : World} {r : Reach} {base : Nat} {t : TypeId} {v : Value} {d : DataW H} {p : List MemPlace} (hf : fitsB P (.agg (intsF 0 4)) t = true) (hc : P.cellsOf t = 4) (hv : Value.okWide P W r base t v)
    (h : DataW.Trod enc P W 0 (fun _ => true) true t v d p) : ∃ x y z u : Int, v = .agg #[.int .i64 x, .int .i64 y, .int .i64 z, .int .i64 u] ∧ (-9223372036854775808 ≤ x ∧ x ≤ 9223372036854775807) ∧ (-9223372036854775808 ≤ y ∧ y ≤ 9223372036854775807) ∧ (-9223372036854775808 ≤ z ∧ z ≤ 9223372036854775807) ∧ -9223372036854775808 ≤ u ∧ u ≤ 9223372036854775807 := by
  obtain ⟨zs, hz, rfl, hr⟩ := open_strI 4 hf hc hv h
  match zs, hz with
  | [x, y, z, u], _ => exact ⟨x, y, z, u, rfl, hr x (by simp), hr y (by simp), hr z (by simp), hr u (by simp)⟩
end Go.Proofs.Ytkggnbabnfhcpaa
end
section
/- Tariffs and plans that came in. No program in sight. -/
namespace Go.Proofs.Ytkggnbabnfhcpaa
open Go.RowKit Go.WideShapes Go.ChangeShapes
def shTier : Sh := .agg (intsF 0 2)
def shTar : Sh := .agg (.fcons 0 1 (.int .i64) (.fcons 1 1 (.int .i64) (.fcons 2 1 (.int .i64) (.fcons 3 1 (.slice shTier 2) .fnil))))
def shPlan : Sh := .agg (.fcons 0 1 (.int .i64) (.fcons 1 1 (.int .i64) (.fcons 2 1 (.int .i64) (.fcons 3 4 shTar (.fcons 7 4 shTar .fnil)))))
theorem tier_elem {w : World} (cs' : List Value) (b off : Nat) (hl : cs'.length = 2) (hc : cellsAt w b off cs') (h : shTier.Has w cs') : ∃ t : Tr, cellsAt w b off (trCells t) := by
  obtain ⟨zs, h1, h2, _⟩ := has_intsF 2 0 cs' h (by omega)
  rw [List.drop_zero] at h2
  subst h2
  match zs, h1 with
  | [x, y], _ => exact ⟨⟨x, y⟩, hc⟩
/-- Tiers that came in: no more than there can be. -/
structure TsIn (w : World) (a : Option Addr) (c : Nat) (ts : List Tr) : Prop where
  at' : TsAt 0 w a ts
  cap : ts.length ≤ c
theorem has_tar {w : World} {cs : List Value} (hl : cs.length = 4) (h : shTar.Has w cs) : ∃ (t : Tar) (a : Option Addr) (c : Nat), cs = [.int .i64 t.grp, .int .i64 t.mode, .int .i64 t.block, .slice a t.ts.length c] ∧ TsIn w a c t.ts := by
  obtain ⟨⟨x, hx, _⟩, ⟨y, hy, _⟩, ⟨z, hz, _⟩, hs, _⟩ := h
  obtain ⟨ts, a, c, k1, k2, _, k3⟩ := has_rows (R := fun w b off x => cellsAt w b off (trCells x)) (by decide) tier_elem hs
  match cs, hl with
  | [v0, v1, v2, v3], _ =>
    simp at hx hy hz k1
    subst hx; subst hy; subst hz; subst k1
    exact ⟨⟨x, y, z, ts⟩, a, c, rfl, Rws.ofRows k3, k2⟩
theorem has_plan {w : World} {cs : List Value} (hl : cs.length = 11) (h : shPlan.Has w cs) :
    ∃ (p : Pl) (a a2 : Option Addr) (c c2 : Nat), Value.agg cs.toArray = planV p a c a2 c2 ∧ TsIn w a c p.base.ts ∧ TsIn w a2 c2 p.other.ts ∧ -9223372036854775808 ≤ p.day ∧ p.day ≤ 9223372036854775807 := by
  obtain ⟨⟨x, hx, wx⟩, ⟨y, hy, _⟩, ⟨z, hz, _⟩, h1, h2, _⟩ := h
  match cs, hl with
  | [v0, v1, v2, v3, v4, v5, v6, v7, v8, v9, v10], _ =>
    obtain ⟨t1, a, c, e1, k1⟩ := has_tar (by simp) h1
    obtain ⟨t2, a2, c2, e2, k2⟩ := has_tar (by simp) h2
    simp at hx hy hz e1 e2
    obtain ⟨rfl, rfl, rfl, rfl⟩ := e1
    obtain ⟨rfl, rfl, rfl, rfl⟩ := e2
    subst hx; subst hy; subst hz
    exact ⟨⟨x, y, z, t1, t2⟩, a, a2, c, c2, rfl, k1, k2, i64_range wx⟩
theorem open_plan {H : Type} {enc : TypeId × Value → H} {P : Program} {W : World} {r : Reach} {base : Nat} {t : TypeId} {v : Value} {d : DataW H} {p : List MemPlace} (hf : fitsB P shPlan t = true) (hc : P.cellsOf t = 11) (hv : Value.okWide P W r base t v) (h : DataW.Trod enc P W 0 (fun _ => true) true t v d p) :
    ∃ (q : Pl) (a a2 : Option Addr) (c c2 : Nat), v = planV q a c a2 c2 ∧ TsIn W a c q.base.ts ∧ TsIn W a2 c2 q.other.ts ∧ -9223372036854775808 ≤ q.day ∧ q.day ≤ 9223372036854775807 := by
  obtain ⟨cs, rfl, hs⟩ := okWide_str hf hv
  have hh := open_sh hf h
  obtain ⟨q, a, a2, c, c2, e, k⟩ := has_plan (cs := cs.toList) (by simp; omega) (by simpa [Value.cells] using hh)
  exact ⟨q, a, a2, c, c2, by simpa using e, k⟩
theorem open_tar {H : Type} {enc : TypeId × Value → H} {P : Program} {W : World} {r : Reach} {base : Nat} {t : TypeId} {v : Value} {d : DataW H} {p : List MemPlace} (hf : fitsB P shTar t = true) (hc : P.cellsOf t = 4) (hv : Value.okWide P W r base t v) (h : DataW.Trod enc P W 0 (fun _ => true) true t v d p) :
    ∃ (q : Tar) (a : Option Addr) (c : Nat), v = tarV q a c ∧ TsIn W a c q.ts := by
  obtain ⟨cs, rfl, hs⟩ := okWide_str hf hv
  have hh := open_sh hf h
  obtain ⟨q, a, c, e, k⟩ := has_tar (cs := cs.toList) (by simp; omega) (by simpa [Value.cells] using hh)
  refine ⟨q, a, c, ?_, k⟩
  unfold tarV
  congr 1
  apply Array.ext'
  rw [e]
end Go.Proofs.Ytkggnbabnfhcpaa
end
section
/- Answers that came in; what the rows need, together. -/
namespace Go.Proofs.Ytkggnbabnfhcpaa
open Go.RowKit Go.WideShapes Go.ChangeShapes
def shGn16 : Sh := .agg (.fcons 0 1 (.int .i64) (.fcons 1 1 (.int .i64) (.fcons 2 1 (.int .i64) (.fcons 3 1 .bool .fnil))))
def shAns : Sh := .agg (.fcons 0 1 (.int .i64) (.fcons 1 1 (.int .i64) (.fcons 2 1 (.slice shGn16 4) (.fcons 3 9 (.arr 9 (.int .i64) 1) (.fcons 12 1 .str .fnil)))))
theorem gn_elem {w : World} (cs' : List Value) (b off : Nat) (hl : cs'.length = 4) (hc : cellsAt w b off cs') (h : shGn16.Has w cs') : ∃ x : Gn, cellsAt w b off (gnC x) := by
  obtain ⟨⟨x, hx, _⟩, ⟨y, hy, _⟩, ⟨z, hz, _⟩, ⟨f, hf⟩, _⟩ := h
  match cs', hl with
  | [v0, v1, v2, v3], _ =>
    simp at hx hy hz hf
    subst hx; subst hy; subst hz; subst hf
    exact ⟨⟨x, y, z, f⟩, hc⟩
theorem has_ans {w : World} {cs : List Value} (hl : cs.length = 13) (h : shAns.Has w cs) : ∃ (x : An) (ga : Option Addr) (gc : Nat), Value.agg cs.toArray = dnV x ga gc ∧ DnArg w x ga gc := by
  obtain ⟨⟨x0, h0, _⟩, ⟨x1, h1, _⟩, hi, hn, ⟨s, hs, _⟩, _⟩ := h
  obtain ⟨its, ia, ic, i1, i2, _, i3⟩ := has_rows (R := fun w b off x => cellsAt w b off (gnC x)) (by decide) gn_elem hi
  obtain ⟨z0, y0, _⟩ := hn 0 (by omega)
  obtain ⟨z1, y1, _⟩ := hn 1 (by omega)
  obtain ⟨z2, y2, _⟩ := hn 2 (by omega)
  obtain ⟨z3, y3, _⟩ := hn 3 (by omega)
  obtain ⟨z4, y4, _⟩ := hn 4 (by omega)
  obtain ⟨z5, y5, _⟩ := hn 5 (by omega)
  obtain ⟨z6, y6, _⟩ := hn 6 (by omega)
  obtain ⟨z7, y7, _⟩ := hn 7 (by omega)
  obtain ⟨z8, y8, _⟩ := hn 8 (by omega)
  match cs, hl with
  | [v0, v1, v2, v3, v4, v5, v6, v7, v8, v9, v10, v11, v12], _ =>
    simp at h0 h1 i1 y0 y1 y2 y3 y4 y5 y6 y7 y8 hs
    subst h0; subst h1; subst i1; subst y0; subst y1; subst y2; subst y3; subst y4; subst y5; subst y6; subst y7; subst y8; subst hs
    refine ⟨⟨x0, x1, its, fun o => if o = 3 then z0 else if o = 4 then z1 else if o = 5 then z2 else if o = 6 then z3 else if o = 7 then z4 else if o = 8 then z5 else if o = 9 then z6 else if o = 10 then z7 else z8, s.data.toList⟩, ia, ic, ?_, ⟨Rws.ofRows i3, i2⟩⟩
    have e : strOf s.data.toList = s := by
      apply ByteArray.ext
      simp [strOf]
    unfold dnV dnCells
    dsimp only
    rw [e]
    rfl
theorem open_ans {H : Type} {enc : TypeId × Value → H} {P : Program} {W : World} {r : Reach} {base : Nat} {t : TypeId} {v : Value} {d : DataW H} {p : List MemPlace} (hf : fitsB P shAns t = true) (hc : P.cellsOf t = 13) (hv : Value.okWide P W r base t v) (h : DataW.Trod enc P W 0 (fun _ => true) true t v d p) :
    ∃ (x : An) (ga : Option Addr) (gc : Nat), v = dnV x ga gc ∧ DnArg W x ga gc := by
  obtain ⟨cs, rfl, hs⟩ := okWide_str hf hv
  have hh := open_sh hf h
  obtain ⟨q, a, c, e, k⟩ := has_ans (cs := cs.toList) (by simp; omega) (by simpa [Value.cells] using hh)
  exact ⟨q, a, c, by simpa using e, k⟩
end Go.Proofs.Ytkggnbabnfhcpaa
end
