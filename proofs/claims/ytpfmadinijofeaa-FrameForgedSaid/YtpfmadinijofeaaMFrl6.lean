import Derived.Test.YtpfmadinijofeaaMFrl5
import Derived.Test.YtpfmadinijofeaaMFrl4
set_option linter.unusedVariables false
section
/- Groups are there again; FrameOpens; walked. -/
namespace Go.Proofs.Ytpfmadinijofeaa
open Go.RowKit
theorem elder_new {n first size gen : Nat} : Elder (newS n) first size gen := fun _ _ => notHead_zero gen
/-- A log's numbers are in order. -/
theorem LogOk.lwf {S : DS} {first size gen u : Nat} {gs : List Grp} (h : LogOk S first size gen gs u) : LWf S ⟨first, size, gen, u, gs.length⟩ := ⟨h.lw.1, h.lw.2.1, h.lw.2.2.1, h.lw.2.2.2⟩
def G1 : Grp := [[97, 98], zerosB 40]
theorem g1_sec : secN (grpB G1).length = 2 ∧ (grpB G1).length ≤ 1000000 := by decide +kernel
def L0 : LG := ⟨3, 4, 7, 0, 0⟩
theorem g1_put : apE (newS 9) L0 G1 = 0 ∧ Put (newS 9) (apD (newS 9) L0 G1) L0 G1 := by
  rcases ap_cases (S := newS 9) (fun _ => rfl) rfl (L := L0) (g := G1) (by decide) (by decide) (by decide) (by rw [g1_sec.1]; decide) with h | ⟨_, h, _⟩
  · exact h
  · exact absurd h (by decide)
theorem g1_log : LogOk (apD (newS 9) L0 G1) 3 4 7 [G1] 2 ∧ LogOk (apD (newS 9) L0 G1) 3 4 8 [] 0 := by
  have hW : DWf (apD (newS 9) L0 G1) := (newS_wf (by omega) (by omega)).ap _ _
  have hl := log_new (n := 9) (first := 3) (size := 4) (gen := 7) (by omega) (by omega) (by omega) (by omega) (by omega)
  have h1 := hl.put hW g1_put.2 (by decide) g1_sec.2 (by rw [g1_sec.1]; decide)
  rw [g1_sec.1] at h1
  exact ⟨h1, (elder_new.put g1_put.2 (by decide) (by decide) (by decide)).log hW g1_put.2.calm g1_put.2.off (by rw [g1_put.2.n]; decide) (by omega) (by omega)⟩
theorem made_z (n : Nat) : madeCells (Value.cells (.int .u8 0)) (n * 1) = ((List.replicate n (0 : UInt8)).map bV).toArray := by
  rw [List.map_replicate]
  apply Array.ext_getElem?
  intro i
  unfold madeCells
  rw [Array.getElem?_map, Array.getElem?_range, Nat.mul_one, List.getElem?_toArray, List.getElem?_replicate]
  by_cases h : i < n
  · rw [if_pos h, if_pos h]
    show some ((#[Value.int .u8 0] : Array Value)[i % 1]!) = _
    rw [Nat.mod_one]
    rfl
  · rw [if_neg h, if_neg h]
    rfl
theorem fgroups_nil (w : World) : Calls Try.prog 27 #[.pointer none] w (Ret (.int .i64 0) w) := by
  refine ret_in (GFr.groups_calls none w (fun u w' => u = .int .i64 0 ∧ Below w.heap.size w w') ?_)
  unfold GFr.groups_vc
  exact br_t rfl ⟨rfl, Bs.refl w⟩
theorem fleft_nil (w : World) : Calls Try.prog 28 #[.pointer none] w (Ret (.int .i64 0) w) := by
  refine ret_in (GFr.left_calls none w (fun u w' => u = .int .i64 0 ∧ Below w.heap.size w w') ?_)
  unfold GFr.left_vc
  exact br_t rfl ⟨rfl, Bs.refl w⟩
theorem fgen_nil (w : World) : Calls Try.prog 29 #[.pointer none] w (Ret (.int .i64 0) w) := by
  refine ret_in (GFr.gen_calls none w (fun u w' => u = .int .i64 0 ∧ Below w.heap.size w w') ?_)
  unfold GFr.gen_vc
  exact br_t rfl ⟨rfl, Bs.refl w⟩
theorem fnone_ret (w : World) : Calls Try.prog 25 #[] w (Ret (.pointer none) w) := by
  refine ret_in (GFr.none_calls w (fun u w' => u = .pointer none ∧ Below w.heap.size w w') ?_)
  unfold GFr.none_vc
  exact ⟨rfl, Bs.refl w⟩
theorem two_ims {w : World} {g1 g2 g3 : Nat} {b1 b2 : List UInt8} {t1 t2 t3 : TypeId} {f1 f2 : Nat × Nat} (h1 : w.heap[g1]? = some (.cells (b1.map bV).toArray t1 f1)) (h2 : w.heap[g2]? = some (.cells (b2.map bV).toArray t2 f2)) (h3 : Bk w g3 #[.slice (some ⟨g1, 0, none⟩) b1.length b1.length, .slice (some ⟨g2, 0, none⟩) b2.length b2.length] t3) (l1 : b1.length ≤ maxLen) (l2 : b2.length ≤ maxLen) :
    Ims w (some ⟨g3, 0, none⟩) [⟨some ⟨g1, 0, none⟩, b1.length, b1⟩, ⟨some ⟨g2, 0, none⟩, b2.length, b2⟩] := by
  refine .inr ⟨g3, 0, rfl, fun i x hx => ?_⟩
  match i, hx with
  | 0, hx =>
    injection hx with hx
    subst hx
    exact ⟨cellsAt_row h3 rfl, RowAt.ofWhole h1, Nat.le_refl _, l1⟩
  | 1, hx =>
    injection hx with hx
    subst hx
    exact ⟨cellsAt_row h3 rfl, RowAt.ofWhole h2, Nat.le_refl _, l2⟩
theorem app_d2 {w wx : World} {gl g gd mb : Nat} {L : LG} {S : DS} (h : D2 w wx gl g gd mb L S) (hW : LWf S L) {a : Option Addr} {c : Nat} {xs : List Im} (hx : Ims wx a xs) (hb : (grpB (recs xs)).length ≤ 1000000) {gs : List Nat} (hg : ∀ k ∈ gs, k < w.heap.size ∨ wx.heap.size ≤ k) {R : Ending → World → Prop}
    (k : ∀ w', D2 w w' gl g gd mb (apL S L (recs xs)) (apD S L (recs xs)) → Fr [gl, g, gd, mb] wx w' → R (.returned (.int .i64 (apE S L (recs xs)))) w') : Calls Try.prog 26 #[.pointer (some ⟨gl, 0, none⟩), .slice a xs.length c] wx fun e w' => KeepG gs wx w' ∧ R e w' := by
  refine (append_any h.lg h.d.t h.d.wf hW h.not hx hb).mono ?_
  rintro e w' ⟨v, rfl, hq⟩
  have hv := hq.val
  subst hv
  have hlt : ∀ q ∈ [gl, g, gd, mb], q < wx.heap.size := fun q hq => by
    rcases List.mem_cons.1 hq with rfl | hq
    · exact Bk.lt h.lg
    · exact h.d.lt q hq
  exact ⟨keepG_fr hq.fr fun q hq2 hm => by have := hlt q hm; have := h.g0 q hm; have := hg q hq2; omega, k w' ⟨⟨hq.dk, h.d.wf.ap _ _, h.d.bs.fr hq.fr h.g0, h.d.g0⟩, hq.lg, h.l0⟩ hq.fr⟩
theorem frames_ret (w : World) : Calls Try.prog 24 #[] w (Ret (.bool true) w) := by
  refine ret_in (GFr.frames_calls w (fun u w' => u = .bool true ∧ Below w.heap.size w w') ?_)
  unfold GFr.frames_vc
  refine (start_new 4 7 (by omega) (by omega) (by omega) w).mono ?_
  rintro e w2 ⟨gl, g, gd, mb, rfl, h2⟩
  refine ⟨keepG_nil _ _, _, _, _, rfl, br_f rfl (newB h2.d.bs fun g1 w3 g10 sg1 n3 z3 b3 B3 => ⟨fun _ h => (by cases h), _, _, _, n3, fun w4 fr4 n4 f4 z4 => ⟨by decide, by decide, by decide, by decide, ?_⟩⟩)⟩
  have B4 : Bs w w4 := B3.fr1 f4 g10
  have hlt2 : ∀ k ∈ [gl, g, gd, mb], k < w2.heap.size := fun q hq => by
    rcases List.mem_cons.1 hq with rfl | hq
    · exact Bk.lt h2.lg
    · exact h2.d.lt q hq
  have h3 := h2.below b3
  have h4 : D2 w w4 gl g gd mb L0 (newS 9) := ⟨h3.d.box (fun k hk e => by have := hlt2 k (List.mem_cons_of_mem _ hk); omega) g10 ⟨f4, z4⟩, Bk.fr h3.lg f4 (fun e => by rw [List.mem_singleton] at e; have := hlt2 gl (by simp); omega), h3.l0⟩
  refine newB B4 fun g2 w5 g20 sg2 n5 z5 b5 B5 => newB B5 fun g3 w6 g30 sg3 n6 z6 b6 B6 => ?_
  rw [made_z] at n5
  have h6 := (h4.below b5).below b6
  have n4' : w6.heap[g1]? = some (.cells (([97, 98] : List UInt8).map bV).toArray 5 fr4) := (b6.block g1 (by omega)).trans ((b5.block g1 (by omega)).trans n4)
  have n5' : w6.heap[g2]? = some (.cells ((zerosB 40).map bV).toArray 5 (0, 0)) := (b6.block g2 (by omega)).trans n5
  have hI : Ims w6 (some ⟨g3, 0, none⟩) [⟨some ⟨g1, 0, none⟩, 2, [97, 98]⟩, ⟨some ⟨g2, 0, none⟩, 40, zerosB 40⟩] := two_ims n4' n5' n6 (by unfold maxLen; decide) (by unfold maxLen; decide)
  refine app_d2 (c := 2) h6 ⟨by decide, by decide, by decide, by decide⟩ hI g1_sec.2 (fun _ h => by cases h) fun w7 h7 f7 => ⟨_, rfl, ?_⟩
  have eR : recs [⟨some ⟨g1, 0, none⟩, 2, [97, 98]⟩, ⟨some ⟨g2, 0, none⟩, 40, zerosB 40⟩] = G1 := rfl
  rw [eR] at h7 ⊢
  obtain ⟨e0, hp⟩ := g1_put
  obtain ⟨k1, k2⟩ := g1_log
  have eL : apL (newS 9) L0 G1 = ⟨3, 4, 7, 2, [G1].length⟩ := by unfold apL; rw [if_pos ⟨by decide, e0⟩, g1_sec.1]; rfl
  rw [eL] at h7
  rw [e0]
  refine br_n (by decide) (callB h7.d.bs (fleft_ret h7.lg k1.lwf h7.d.wf.n2) fun w8 b8 B8 => ⟨_, rfl, br_n (by decide) (callB B8 (fgroups_ret (h7.lg.below b8)) fun w9 b9 B9 => ⟨_, rfl, br_n (by decide) ?_⟩)⟩)
  have h9 := (h7.below b8).below b9
  refine (open_new h9.d.t h9.d.wf k1.off (first := 3) (size := 4) (gen := 7) (by omega) (by rw [hp.n]; decide) (by omega) k1.chain k1.used k1.stop (by decide)).mono ?_
  rintro e w10 ⟨v, rfl, gl2, a10, c10, xs, rfl, hxs, hO, hL, gl20, b10⟩
  have h10 := h9.below b10
  refine ⟨keepG_nil _ _, _, a10, _, c10, _, rfl, ?_⟩
  refine (open_new h10.d.t h10.d.wf k2.off (first := 3) (size := 4) (gen := 8) (by omega) (by rw [hp.n]; decide) (by omega) k2.chain k2.used k2.stop (by decide)).mono ?_
  rintro e w11 ⟨v, rfl, gl3, a11, c11, ys, rfl, hys, hO2, hL2, gl30, b11⟩
  have B11 := h10.d.bs.to b11
  have hx2 : xs.length = 2 := by
    have := congrArg List.length hxs
    simpa [recs, G1] using this
  have hy0 : ys.length = 0 := by
    have := congrArg List.length hys
    simpa [recs] using this
  refine ⟨keepG_nil _ _, _, a11, _, c11, _, rfl, br_y rfl (br_y rfl (br_y (by omega) ?_))⟩
  obtain ⟨b, off, ha, hi⟩ := ims_get hO.ims 0 (by omega) b11
  have hx0 : (xs[0]'(by omega)).bs = [97, 98] := by
    have e1 : (recs xs)[0]'(by simp [recs]; omega) = (xs[0]'(by omega)).bs := by simp [recs]
    rw [← e1]
    simp only [hxs]
    rfl
  refine withP_mk b off ha ⟨by decide, by omega, _, _, _, cellsAt_get hi.cell 0 _ rfl, _, rfl, hi.row, br_y (by rw [hx0]; rfl) ⟨by rw [decide_eq_true (by omega)], B11⟩⟩
/-! FrameOpens. -/
theorem rec_small (g : Grp) (most size : Nat) : ∀ x, x ∈ fewG g most size → x.length ≤ size := fun x hx => by
  obtain ⟨y, _, rfl⟩ := List.mem_map.1 hx
  rw [List.length_take]
  omega
theorem grpB_small : ∀ {g : Grp} {s : Nat}, (∀ x, x ∈ g → x.length ≤ s) → s ≤ 1000 → (grpB g).length ≤ g.length * (s + 10)
  | [], s, _, _ => Nat.zero_le _
  | t :: r, s, h, hs => by
    have ih := grpB_small (g := r) (s := s) (fun x hx => h x (List.mem_cons_of_mem _ hx)) hs
    have ht := h t (List.mem_cons_self)
    have h10 := grp_len64 (u := t.length) (by omega)
    have e : grpB (t :: r) = textB t ++ grpB r := rfl
    rw [e, List.length_append, List.length_cons, Nat.add_mul]
    unfold textB
    rw [List.length_append]
    omega
theorem few_small (g : Grp) (most size : Nat) (hs : size ≤ 1000) : (grpB (fewG g most size)).length ≤ most * (size + 10) := by
  have h := grpB_small (rec_small g most size) hs
  have hl : (fewG g most size).length ≤ most := by unfold fewG; rw [List.length_map, List.length_take]; omega
  exact Nat.le_trans h (Nat.mul_le_mul_right _ hl)
theorem lopens_walk (x0 first size gen : Int) (a : Option Addr) (c : Nat) (xs : List Im) (w : World) (h1 : -9223372036854775808 ≤ first ∧ first ≤ 9223372036854775807) (h2 : -9223372036854775808 ≤ size ∧ size ≤ 9223372036854775807) (h3 : gen ≤ 9223372036854775807) (hx : Ims w a xs) :
    Calls Try.prog 5 #[.int .i64 x0, .agg #[.int .i64 first, .int .i64 size, .int .i64 gen], .slice a xs.length c] w (Ret (.bool true) w) := by
  refine ret_in (GFr.lopens_calls x0 first size gen a xs.length c w (fun u w' => u = .bool true ∧ Below w.heap.size w w') ?_)
  unfold GFr.lopens_vc
  obtain ⟨m, hm, em⟩ := u64_mod x0 20 (by omega)
  have em : Int.tmod (IntKind.u64.wrap x0) 20 = (m : Int) := em
  rw [em, wr64 (z := (m : Int)) (by omega) (by omega)]
  obtain ⟨n, hn⟩ : ∃ n : Nat, n = m + 1 := ⟨_, rfl⟩
  have hn2 : IntKind.i64.wrap (1 + (m : Int)) = (n : Int) := by rw [wr64 (by omega) (by omega)]; omega
  rw [hn2]
  refine newB (Bs.refl w) fun g0 w2 g00 sg0 n2 z2 b2 B2 => ⟨by decide, ?_⟩
  refine (dnew_new n (by omega) (by omega) w2).mono ?_
  rintro e w3 ⟨g, gd, mb, rfl, t3, gg, ggl, gmb, b3⟩
  have hd : D1 w w3 g gd mb (newS n) := ⟨t3, newS_wf (by omega) (by omega), B2.to b3, fun k hk => by simp at hk; omega⟩
  refine ⟨keepG_below b3, _, _, rfl, by decide, drewO_in fun w4 b4 e4 => ?_⟩
  have hd4 := hd.below b4
  -- what Open tells
  have key : ((first < 0 ∨ gen < 0 ∨ size < 1 ∨ size > n ∨ first > n - size) ∧ Calls Try.prog 22 #[.pointer (some ⟨g, 0, none⟩), .int .i64 first, .int .i64 size, .int .i64 gen] w4 (Ret (.tuple #[.pointer none, .slice none 0 0, .int .i64 1]) w4)) ∨
      (¬ (first < 0 ∨ gen < 0 ∨ size < 1 ∨ size > n ∨ first > n - size) ∧ Calls Try.prog 22 #[.pointer (some ⟨g, 0, none⟩), .int .i64 first, .int .i64 size, .int .i64 gen] w4 fun e w' => ∃ gl a' c', e = .returned (.tuple #[.pointer (some ⟨gl, 0, none⟩), .slice a' 0 c', .int .i64 0]) ∧ LgAt w' gl g ⟨first.toNat, size.toNat, gen.toNat, 0, 0⟩ ∧ Bs w4 w') := by
    by_cases hb : first < 0 ∨ gen < 0 ∨ size < 1 ∨ size > n ∨ first > n - size
    · exact .inl ⟨hb, open_no hd4.t hd4.wf first size gen h1.2 h2.2 hb⟩
    · refine .inr ⟨hb, ?_⟩
      obtain ⟨fi, rfl⟩ : ∃ k : Nat, first = (k : Int) := ⟨first.toNat, by omega⟩
      obtain ⟨si, rfl⟩ : ∃ k : Nat, size = (k : Int) := ⟨size.toNat, by omega⟩
      obtain ⟨gi, rfl⟩ : ∃ k : Nat, gen = (k : Int) := ⟨gen.toNat, by omega⟩
      have hlog := log_new (n := n) (first := fi) (size := si) (gen := gi) (by omega) (by omega) (by omega) (by omega) (by omega)
      refine (open_new hd4.t hd4.wf hlog.off (first := fi) (size := si) (gen := gi) (by omega) (by show fi + si ≤ n; omega) (by omega) hlog.chain hlog.used hlog.stop (by simp)).mono ?_
      rintro e w5 ⟨v, rfl, gl, a5, c5, ys, rfl, hys, hO, hL, gl0, b5⟩
      have hy0 : ys.length = 0 := by
        have := congrArg List.length hys
        simpa [recs] using this
      rw [hy0]
      exact ⟨gl, a5, c5, rfl, hL, b5⟩
  rcases key with ⟨hb, hcall⟩ | ⟨hb, hcall⟩
  · refine callB hd4.bs hcall fun w5 b5 B5 => ⟨_, _, _, _, _, rfl, callB B5 (open_nil 0 1 0 w5) fun w6 b6 B6 => ⟨_, _, _, _, _, rfl, (few_new w6 (hx.below B6) 6 200 (by omega) (by omega)).mono ?_⟩⟩
    rintro e w7 ⟨a7, c7, ys, rfl, hys, hO, b7⟩
    have B7 := B6.to b7
    have hsm : (grpB (recs ys)).length ≤ 1000000 := by
      have := few_small (recs xs) 6 200 (by omega)
      rw [hys]; omega
    refine ⟨keepG_below b7, a7, _, c7, rfl, callB B7 (frames_ret w7) fun w8 b8 B8 => ⟨_, rfl, br_f rfl (br_n (by decide) (br_n (by decide) ?_))⟩⟩
    refine callB B8 (fnone_ret w8) fun w9 b9 B9 => ⟨_, rfl, callB B9 (app_nil none 0 0 w9) fun w10 b10 B10 => ⟨_, rfl, br_n (by decide) ?_⟩⟩
    refine callB B10 (fnone_ret w10) fun w11 b11 B11 => ⟨_, rfl, callB B11 (fgroups_nil w11) fun w12 b12 B12 => ⟨_, rfl, br_n (by decide) ?_⟩⟩
    refine callB B12 (fnone_ret w12) fun w13 b13 B13 => ⟨_, rfl, callB B13 (fleft_nil w13) fun w14 b14 B14 => ⟨_, rfl, br_n (by decide) ?_⟩⟩
    refine callB B14 (fnone_ret w14) fun w15 b15 B15 => ⟨_, rfl, callB B15 (fgen_nil w15) fun w16 b16 B16 => ⟨_, rfl, br_n (by decide) ?_⟩⟩
    have hO16 := ((((((((hO.below b8).below b9).below b10).below b11).below b12).below b13).below b14).below b15).below b16
    refine callB B16 (fsecx_ret w16 hO16.ims hsm) fun w17 b17 B17 => ⟨_, rfl, callB B17 (rsecs_ret w17 (hO16.below b17).ims hsm) fun w18 b18 B18 => ⟨_, rfl, br_n (fun e => e rfl) ?_⟩⟩
    have fin : br (decide ((1 : Int) = 1)) (Value.bool (Option.isNone (none : Option Addr)) = .bool true ∧ Below w.heap.size w w18) (Value.bool false = .bool true ∧ Below w.heap.size w w18) := br_y rfl ⟨rfl, B18⟩
    refine br_dec (fun _ => fin) fun q1 => br_dec (fun _ => fin) fun q2 => br_dec (fun _ => fin) fun q3 => br_dec (fun _ => fin) fun q4 => ?_
    rw [wr64 (by omega) (by omega)]
    exact br_dec (fun _ => fin) fun q5 => absurd hb (by omega)
  · refine hcall.mono ?_
    rintro e w5 ⟨gl, a5, c5, rfl, hL, b5⟩
    have B5 := hd4.bs.to b5
    have hd5 := hd4.below b5
    refine ⟨keepG_below b5, _, a5, _, c5, _, rfl, callB B5 (open_nil 0 1 0 w5) fun w6 b6 B6 => ⟨_, _, _, _, _, rfl, (few_new w6 (hx.below B6) 6 200 (by omega) (by omega)).mono ?_⟩⟩
    rintro e w7 ⟨a7, c7, ys, rfl, hys, hO, b7⟩
    have B7 := B6.to b7
    have hsm : (grpB (recs ys)).length ≤ 1000000 := by
      have := few_small (recs xs) 6 200 (by omega)
      rw [hys]; omega
    refine ⟨keepG_below b7, a7, _, c7, rfl, callB B7 (frames_ret w7) fun w8 b8 B8 => ⟨_, rfl, br_f rfl (br_n (by decide) (br_n (by decide) ?_))⟩⟩
    refine callB B8 (fnone_ret w8) fun w9 b9 B9 => ⟨_, rfl, callB B9 (app_nil none 0 0 w9) fun w10 b10 B10 => ⟨_, rfl, br_n (by decide) ?_⟩⟩
    refine callB B10 (fnone_ret w10) fun w11 b11 B11 => ⟨_, rfl, callB B11 (fgroups_nil w11) fun w12 b12 B12 => ⟨_, rfl, br_n (by decide) ?_⟩⟩
    refine callB B12 (fnone_ret w12) fun w13 b13 B13 => ⟨_, rfl, callB B13 (fleft_nil w13) fun w14 b14 B14 => ⟨_, rfl, br_n (by decide) ?_⟩⟩
    refine callB B14 (fnone_ret w14) fun w15 b15 B15 => ⟨_, rfl, callB B15 (fgen_nil w15) fun w16 b16 B16 => ⟨_, rfl, br_n (by decide) ?_⟩⟩
    have hO16 := ((((((((hO.below b8).below b9).below b10).below b11).below b12).below b13).below b14).below b15).below b16
    refine callB B16 (fsecx_ret w16 hO16.ims hsm) fun w17 b17 B17 => ⟨_, rfl, callB B17 (rsecs_ret w17 (hO16.below b17).ims hsm) fun w18 b18 B18 => ⟨_, rfl, br_n (fun e => e rfl) ?_⟩⟩
    have hL18 := ((((((((((((hL.bs b6).bs b7).bs b8).bs b9).bs b10).bs b11).bs b12).bs b13).bs b14).bs b15).bs b16).bs b17).bs b18
    have hW : LWf (newS n) ⟨first.toNat, size.toNat, gen.toNat, 0, 0⟩ := ⟨by show first.toNat + size.toNat ≤ n; omega, Nat.zero_le _, Nat.le_refl _, by show gen.toNat < _; omega⟩
    refine br_n (by omega) (br_n (by omega) (br_n (by omega) (br_n (by omega) ?_)))
    rw [wr64 (by omega) (by omega)]
    refine br_n (by omega) (br_y rfl (br_y rfl (callB B18 (fleft_ret hL18 hW (by show n ≤ 8192; omega)) fun w19 b19 B19 => ⟨_, rfl, br_y (by show ((size.toNat - 0 : Nat) : Int) = size; omega) (callB B19 (fgen_ret (hL18.bs b19)) fun w20 b20 B20 => ⟨_, rfl, br_y (by show ((gen.toNat : Nat) : Int) = gen; omega) (callB B20 (fgroups_ret ((hL18.bs b19).bs b20)) fun w21 b21 B21 => ⟨_, rfl, rfl, B21⟩)⟩)⟩)))
end Go.Proofs.Ytpfmadinijofeaa
end
section
/- Rows of groups, few of them, filling a log; walked. -/
namespace Go.Proofs.Ytpfmadinijofeaa
open Go.RowKit
def gpV (x : Gp) : Value := .slice x.a x.ims.length x.c
def grps (xs : List Gp) : List Grp := xs.map fun x => recs x.ims
structure OwnG (w : World) (n1 : Nat) (a : Option Addr) (c : Nat) (xs : List Gp) : Prop where
  own : Own w n1 44 1 (.slice a xs.length c) xs.length (xs.map gpV)
  rows : ∀ x, x ∈ xs → OwnR w n1 x.a x.c x.ims
section
variable {w w' : World} {n1 c : Nat} {a : Option Addr} {xs : List Gp}
theorem OwnG.nil (w : World) (n1 : Nat) : OwnG w n1 none 0 [] := ⟨Own.nil _ _ _ _, fun x hx => by cases hx⟩
theorem OwnG.keep (h : OwnG w n1 a c xs) (hk : ∀ k, n1 ≤ k → k < w.heap.size → w'.heap[k]? = w.heap[k]?) : OwnG w' n1 a c xs :=
  ⟨h.own.keep fun k hv => hk k (h.own.lt k hv).1 (h.own.lt k hv).2, fun x hx => (h.rows x hx).keep hk⟩
theorem OwnG.below (h : OwnG w n1 a c xs) (hb : Below w.heap.size w w') : OwnG w' n1 a c xs := h.keep fun k _ h2 => hb.block k h2
theorem OwnG.fr (h : OwnG w n1 a c xs) {L : List Nat} (f : Fr L w w') (hL : ∀ k ∈ L, k < n1) : OwnG w' n1 a c xs := h.keep fun k h1 h2 => f.block k h2 fun hm => by have := hL k hm; omega
theorem OwnR.fr {ys : List Im} (h : OwnR w n1 a c ys) {L : List Nat} (f : Fr L w w') (hL : ∀ k ∈ L, k < n1) : OwnR w' n1 a c ys := h.keep fun k h1 h2 => f.block k h2 fun hm => by have := hL k hm; omega
theorem OwnG.cell (h : OwnG w n1 a c xs) {i : Nat} (hi : i < xs.length) : ∃ b off, a = some ⟨b, off, none⟩ ∧ w.cell? ⟨b, off + i * 1, none⟩ = some (gpV xs[i]) :=
  own_cell h.own (by rw [List.getElem?_map, List.getElem?_eq_getElem hi]; rfl)
/-- A row of texts is left as it was where a row of rows grows. -/
theorem OwnR.apartG {ys : List Im} {a2 : Option Addr} {c2 : Nat} (h : OwnR w n1 a2 c2 ys) {v : Value} {n m : Nat} {vs : List Value} (o : Own w m 44 1 v n vs) (f : ∀ q, q < w.heap.size → v.ownBlock ≠ some q → w'.heap[q]? = w.heap[q]?) : OwnR w' n1 a2 c2 ys :=
  ⟨h.own.keep fun q hq => f q (h.own.lt q hq).2 fun e => own_kinds o h.own (by decide) e hq, fun x hx => (h.rows x hx).keep fun q hq => f q ((h.rows x hx).lt q hq).2 fun e => own_kinds o (h.rows x hx) (by decide) e hq⟩
theorem appG {w0 : World} {x : Gp} {v : Value} {K : Nat → Option Addr → Nat → World → Prop} (B : Bs w0 w) (h : OwnG w n1 a c xs) (hx : OwnR w n1 x.a x.c x.ims) (h1 : w0.heap.size ≤ n1) (h2 : n1 ≤ w.heap.size) (hl : xs.length ≤ 1000000000) (hv : v = gpV x)
    (k : ∀ a' c' w2, OwnG w2 n1 a' c' (xs ++ [x]) → Bs w0 w2 → w.heap.size ≤ w2.heap.size → (∀ q, q < w.heap.size → (Value.slice a xs.length c).ownBlock ≠ some q → w2.heap[q]? = w.heap[q]?) → K 1 a' c' w2) :
    newO w (.cells #[v] 44) fun g w1 => appO Try.prog [] w1 44 1 24 70 a xs.length c (.slice (some ⟨g, 0, none⟩) 1 1) K := by
  subst hv
  refine newB B fun g w1 g0 sg n1' z1 b1 B1 => appF B1 (h.own.below b1 (Nat.le_refl _)) h1 (Nat.le_trans h2 b1.size) (src_block (cs := [gpV x]) Try.underlying70 n1' rfl rfl) (by unfold maxLen; omega) (by omega) fun a' c' w2 o2 B2 z2 f2 or2 => ?_
  have o1 := h.own.below b1 (Nat.le_refl _)
  refine k a' c' w2 ⟨?_, fun y hy => ?_⟩ B2 (Nat.le_trans b1.size z2) fun q hq hq2 => (f2 q (Nat.lt_of_lt_of_le hq b1.size) hq2).trans (b1.block q hq)
  · rw [List.map_append, List.length_append]
    exact o2
  · rcases List.mem_append.1 hy with hy | hy
    · exact ((h.rows y hy).below b1).apartG o1 f2
    · rw [List.mem_singleton] at hy; subst hy; exact (hx.below b1).apartG o1 f2
end
theorem appG2 {w0 w : World} {n1 n2 c : Nat} {a : Option Addr} {xs : List Gp} {x : Gp} {v : Value} {K : Nat → Option Addr → Nat → World → Prop} (B : Bs w0 w) (o : Own w n2 44 1 (.slice a xs.length c) xs.length (xs.map gpV)) (hr : ∀ y, y ∈ xs → OwnR w n1 y.a y.c y.ims) (hx : OwnR w n1 x.a x.c x.ims) (h1 : w0.heap.size ≤ n2) (h2 : n2 ≤ w.heap.size) (hl : xs.length ≤ 1000000000) (hv : v = gpV x)
    (k : ∀ a' c' w2, Own w2 n2 44 1 (.slice a' (xs ++ [x]).length c') (xs ++ [x]).length ((xs ++ [x]).map gpV) → (∀ y, y ∈ xs ++ [x] → OwnR w2 n1 y.a y.c y.ims) → Bs w0 w2 → w.heap.size ≤ w2.heap.size → (∀ q, q < w.heap.size → (Value.slice a xs.length c).ownBlock ≠ some q → w2.heap[q]? = w.heap[q]?) → K 1 a' c' w2) :
    newO w (.cells #[v] 44) fun g w1 => appO Try.prog [] w1 44 1 24 70 a xs.length c (.slice (some ⟨g, 0, none⟩) 1 1) K := by
  subst hv
  refine newB B fun g w1 g0 sg n1' z1 b1 B1 => appF B1 (o.below b1 (Nat.le_refl _)) h1 (Nat.le_trans h2 b1.size) (src_block (cs := [gpV x]) Try.underlying70 n1' rfl rfl) (by unfold maxLen; omega) (by omega) fun a' c' w2 o2 B2 z2 f2 or2 => ?_
  have o1 := o.below b1 (Nat.le_refl _)
  refine k a' c' w2 ?_ (fun y hy => ?_) B2 (Nat.le_trans b1.size z2) fun q hq hq2 => (f2 q (Nat.lt_of_lt_of_le hq b1.size) hq2).trans (b1.block q hq)
  · rw [List.map_append, List.length_append]
    exact o2
  · rcases List.mem_append.1 hy with hy | hy
    · exact ((hr y hy).below b1).apartG o1 f2
    · rw [List.mem_singleton] at hy; subst hy; exact (hx.below b1).apartG o1 f2
def fewGs (gs : List Grp) : List Grp := (gs.take 8).map fun g => fewG g 4 150
theorem lfew_new {a : Option Addr} {c : Nat} {xs : List Gp} (w : World) (hx : Gps w a xs) :
    Calls Try.prog 41 #[.slice a xs.length c] w fun e w' => ∃ a' c' ys, e = .returned (.slice a' (ys : List Gp).length c') ∧ grps ys = fewGs (grps xs) ∧ OwnG w' w.heap.size a' c' ys ∧ Bs w w' := by
  refine (GFr.few_calls a xs.length c w (fun v w' => ∃ a' c' ys, v = .slice a' (ys : List Gp).length c' ∧ grps ys = fewGs (grps xs) ∧ OwnG w' w.heap.size a' c' ys ∧ Bs w w') ?_).mono (by rintro e w' ⟨v, rfl, a', c', ys, rfl, h⟩; exact ⟨a', c', ys, rfl, h⟩)
  unfold GFr.few_vc
  have hrl : (grps xs).length = xs.length := by simp [grps]
  refine ⟨fun a7 n7 c7 x wx => ∃ (k : Nat) (ys : List Gp), x = k ∧ k ≤ 8 ∧ k ≤ xs.length ∧ n7 = ys.length ∧ grps ys = ((grps xs).take k).map (fun g => fewG g 4 150) ∧ OwnG wx w.heap.size a7 c7 ys ∧ Bs w wx, fun _ _ _ x _ => (8 - x).toNat, ⟨0, [], rfl, Nat.zero_le _, Nat.zero_le _, rfl, by simp [grps], OwnG.nil _ _, Bs.refl w⟩, ?_⟩
  rintro a7 n7 c7 x wx ⟨k, ys, rfl, hkm, hkl, rfl, hys, hO, Bx⟩
  have hyl : ys.length = k := by
    have := congrArg List.length hys
    simp [grps] at this
    omega
  have fin : ¬ (k < xs.length ∧ k < 8) → grps ys = fewGs (grps xs) := fun hc => by
    rw [hys]
    unfold fewGs
    by_cases h : k < xs.length
    · rw [show k = 8 by omega]
    · rw [List.take_of_length_le (l := grps xs) (i := k) (by omega), List.take_of_length_le (l := grps xs) (i := 8) (by omega)]
  refine br_dec (fun h1 => br_dec (fun h2 => ?_) fun h2 => ⟨a7, c7, ys, rfl, fin (by omega), hO, Bx⟩) fun h1 => ⟨a7, c7, ys, rfl, fin (by omega), hO, Bx⟩
  have hk : k < xs.length := by omega
  obtain ⟨b, off, ha, hi⟩ := gps_get hx k hk Bx
  refine withP_mk b off ha ⟨by omega, by omega, _, _, _, by rw [Int.toNat_natCast]; exact cellsAt_get hi.cell 0 _ rfl, (few_new wx hi.row 4 150 (by omega) (by omega)).mono ?_⟩
  rintro e w3 ⟨a3, c3, zs, rfl, hzs, hO3, b3⟩
  have B3 := Bx.to b3
  have hk1 : IntKind.i64.wrap ((k : Int) + 1) = ((k + 1 : Nat) : Int) := by rw [wr64 (by omega) (by omega)]; omega
  refine ⟨keepG_nil _ _, a3, _, c3, rfl, appG (x := ⟨a3, c3, zs⟩) B3 (hO.below b3) (hO3.base Bx.size) (Nat.le_refl _) B3.size (by omega) rfl fun a4 c4 w4 O4 B4 z4 f4 => ⟨⟨k + 1, ys ++ [⟨a3, c3, zs⟩], hk1, by omega, by omega, by simp, ?_, O4, B4⟩, by dsimp only; rw [hk1]; omega⟩⟩
  have hgk : (grps xs)[k]'(by omega) = recs xs[k].ims := by simp [grps]
  show (ys ++ [_]).map _ = _
  rw [List.map_append, show (ys.map fun x => recs x.ims) = _ from hys, List.take_add_one, List.getElem?_eq_getElem (by omega), hgk, List.map_append]
  show _ ++ [recs zs] = _
  rw [hzs]
  rfl
theorem fewGs_small {gs : List Grp} : ∀ g, g ∈ fewGs gs → (grpB g).length ≤ 640 ∧ g.length ≤ 4 := fun g hg => by
  obtain ⟨g', _, rfl⟩ := List.mem_map.1 hg
  have := few_small g' 4 150 (by omega)
  refine ⟨by omega, ?_⟩
  unfold fewG
  rw [List.length_map, List.length_take]
  omega
/-- Groups that aren't empty. -/
def full (gs : List Grp) : List Grp := gs.filter fun g => !g.isEmpty
theorem full_flat : ∀ gs : List Grp, (full gs).flatten = gs.flatten
  | [] => rfl
  | g :: r => by
    unfold full
    rw [List.filter_cons]
    cases g with
    | nil => exact full_flat r
    | cons t s => show ((t :: s) :: full r).flatten = _; rw [List.flatten_cons, full_flat r]; rfl
theorem full_snoc (gs : List Grp) (g : Grp) : full (gs ++ [g]) = if g = [] then full gs else full gs ++ [g] := by
  unfold full
  rw [List.filter_append]
  cases g with
  | nil => simp
  | cons t s => simp
/-- How far a log is filled, with the power on. -/
structure FI (S0 : DS) (first size gen : Nat) (G : List Grp) (S : DS) (L : LG) (dn : List Grp) : Prop where
  log : LogOk S first size gen (G ++ full dn) L.used
  eq : L = ⟨first, size, gen, L.used, (G ++ full dn).length⟩
  left : S0.left ≤ 0 → S.left ≤ 0
  elder : ∀ gen2, gen2 < 9223372036854775808 → gen ≠ gen2 → Elder S0 first size gen2 → Elder S first size gen2
/-- How it stands when the power went off. -/
structure FO (S0 : DS) (first size gen : Nat) (G : List Grp) (T : DS) (dn : List Grp) (un : Grp) : Prop where
  off : T.off = true
  pos : 0 < S0.left
  ne : un ≠ []
  crash : ∀ kept, (∃ u, LogOk (crashD T kept) first size gen (G ++ full dn) u) ∨ ∃ u, LogOk (crashD T kept) first size gen (G ++ full dn ++ [un]) u
theorem fi_step {S0 S : DS} {first size gen : Nat} {G dn : List Grp} {L : LG} {g : Grp} (h : FI S0 first size gen G S L dn) (hl : (grpB g).length ≤ 1000000) :
    ((apD S L g).off = true ∧ FO S0 first size gen G (apD S L g) dn g) ∨ ((apD S L g).off = false ∧ apE S L g = 0 ∧ FI S0 first size gen G (apD S L g) (apL S L g) (dn ++ [g])) ∨ ((apD S L g).off = false ∧ apE S L g ≠ 0 ∧ FI S0 first size gen G (apD S L g) (apL S L g) dn) := by
  have hlog := h.log
  have he := h.eq
  by_cases hne : g = []
  · have e1 : apE S L g = 0 := by unfold apE; rw [if_pos hne]
    have e2 : apD S L g = S := by unfold apD; rw [if_pos hne]
    have e3 : apL S L g = L := by unfold apL; rw [if_neg (fun k => k.1 hne)]
    rw [e1, e2, e3]
    refine .inr (.inl ⟨hlog.off, rfl, ?_⟩)
    have ef : full (dn ++ [g]) = full dn := by rw [full_snoc, if_pos hne]
    exact ⟨by rw [ef]; exact hlog, by rw [ef]; exact he, h.left, h.elder⟩
  have hsz : L.size = size := by rw [he]
  have hfi : L.first = first := by rw [he]
  have hgn : L.gen = gen := by rw [he]
  have hgr : L.groups = (G ++ full dn).length := by rw [he]
  by_cases hs : L.size - L.used < secN (grpB g).length
  · have e1 : apE S L g = 11 := by unfold apE; rw [if_neg hne, if_pos hs]
    have e2 : apD S L g = S := by unfold apD; rw [if_neg hne, if_pos hs]
    have e3 : apL S L g = L := by unfold apL; rw [if_neg (fun k => by rw [e1] at k; exact absurd k.2 (by decide))]
    rw [e1, e2, e3]
    exact .inr (.inr ⟨hlog.off, by decide, h⟩)
  have ef : full (dn ++ [g]) = full dn ++ [g] := by rw [full_snoc, if_neg hne]
  have hW := hlog.wf.ap L g
  have eL : (⟨first, size, gen, L.used, (G ++ full dn).length⟩ : LG) = L := he.symm
  rcases ap_cases hlog.calm hlog.off (L := L) (g := g) (by rw [hfi, hsz]; exact hlog.top) (by rw [hsz]; exact hlog.used) hne (by omega) with ⟨e1, hp⟩ | ⟨e1, e2, hp⟩
  · have hp' : Put S (apD S L g) ⟨first, size, gen, L.used, (G ++ full dn).length⟩ g := by rw [eL]; exact hp
    have e3 : apL S L g = ⟨L.first, L.size, L.gen, L.used + secN (grpB g).length, L.groups + 1⟩ := by unfold apL; rw [if_pos ⟨hne, e1⟩]
    refine .inr (.inl ⟨hp.off, e1, ?_⟩)
    rw [e3]
    refine ⟨?_, ?_, fun hz => hp.left0 (h.left hz), fun gen2 h2 h3 hE => (h.elder gen2 h2 h3 hE).put hp (by rw [hgn]; exact hlog.genl) h2 (by rw [hgn]; exact h3)⟩
    · rw [ef, ← List.append_assoc]
      exact hlog.put hW hp' hne hl (by rw [← hsz]; omega)
    · rw [ef, hfi, hsz, hgn, hgr]
      simp
      omega
  · have hp' : PutHalf S (apD S L g) ⟨first, size, gen, L.used, (G ++ full dn).length⟩ g := by rw [eL]; exact hp
    refine .inl ⟨hp.off, hp.off, ?_, hne, fun kept => ?_⟩
    · rcases Int.lt_or_le 0 S0.left with q | q
      · exact q
      · have := h.left q; omega
    · rcases hlog.half hW hp' hne hl (by rw [← hsz]; omega) kept with q | q
      · exact .inl ⟨_, q⟩
      · exact .inr ⟨_, q⟩
theorem FI.lwf {S0 S : DS} {first size gen : Nat} {G dn : List Grp} {L : LG} (h : FI S0 first size gen G S L dn) : LWf S L := by
  have := h.log.lwf
  rw [← h.eq] at this
  exact this
theorem FI.start {S : DS} {first size gen u : Nat} {G : List Grp} (h : LogOk S first size gen G u) : FI S first size gen G S ⟨first, size, gen, u, G.length⟩ [] :=
  ⟨by simpa [full] using h, by simp [full], fun hz => hz, fun _ _ _ hE => hE⟩
set_option maxHeartbeats 800000 in
theorem fill_any {w wx : World} {gl g gd mb n1 c : Nat} {S0 : DS} {first size gen : Nat} {G : List Grp} {L0 : LG} {a : Option Addr} {ys : List Gp} (h : D2 w wx gl g gd mb L0 S0) (hF : FI S0 first size gen G S0 L0 []) (hO : OwnG wx n1 a c ys) (hn : ∀ k ∈ [gl, g, gd, mb], k < n1) (hn1 : n1 ≤ wx.heap.size) (hw : w.heap.size ≤ n1) (hs : ∀ x, x ∈ grps ys → (grpB x).length ≤ 1000000) (hl : ys.length ≤ 1000000) :
    Calls Try.prog 45 #[.pointer (some ⟨gl, 0, none⟩), .pointer (some ⟨g, 0, none⟩), .slice a ys.length c] wx fun e w' => ∃ a8 c8 ds a9 c9 un T L', e = .returned (.tuple #[.slice a8 (ds : List Gp).length c8, .slice a9 (un : List Im).length c9]) ∧ OwnG w' n1 a8 c8 ds ∧ OwnR w' n1 a9 c9 un ∧ D2 w w' gl g gd mb L' T ∧ Fr [gl, g, gd, mb] wx w' ∧ ds.length ≤ ys.length ∧ (∀ x, x ∈ grps ds → x ∈ grps ys) ∧
      ((FI S0 first size gen G T L' (grps ds) ∧ un = []) ∨ (FO S0 first size gen G T (grps ds) (recs un) ∧ recs un ∈ grps ys)) := by
  refine (GFr.fill_calls (some ⟨gl, 0, none⟩) (some ⟨g, 0, none⟩) a ys.length c wx (fun v w' => ∃ a8 c8 ds a9 c9 un T L', v = .tuple #[.slice a8 (ds : List Gp).length c8, .slice a9 (un : List Im).length c9] ∧ OwnG w' n1 a8 c8 ds ∧ OwnR w' n1 a9 c9 un ∧ D2 w w' gl g gd mb L' T ∧ Fr [gl, g, gd, mb] wx w' ∧ ds.length ≤ ys.length ∧ (∀ x, x ∈ grps ds → x ∈ grps ys) ∧
      ((FI S0 first size gen G T L' (grps ds) ∧ un = []) ∨ (FO S0 first size gen G T (grps ds) (recs un) ∧ recs un ∈ grps ys))) ?_).mono (by rintro e w' ⟨v, rfl, a8, c8, ds, a9, c9, un, T, L', rfl, h⟩; exact ⟨a8, c8, ds, a9, c9, un, T, L', rfl, h⟩)
  unfold GFr.fill_vc
  refine ⟨fun a8 n8 c8 x w2 => ∃ (k : Nat) (ds : List Gp) (S : DS) (L : LG), x = k ∧ k ≤ ys.length ∧ ds.length ≤ k ∧ n8 = ds.length ∧ Own w2 wx.heap.size 44 1 (.slice a8 ds.length c8) ds.length (ds.map gpV) ∧ (∀ y, y ∈ ds → OwnR w2 n1 y.a y.c y.ims) ∧ D2 w w2 gl g gd mb L S ∧ Fr [gl, g, gd, mb] wx w2 ∧ FI S0 first size gen G S L (grps ds) ∧ (∀ x, x ∈ grps ds → x ∈ grps ys), fun _ _ _ x _ => (ys.length - x).toNat, ⟨0, [], S0, L0, rfl, Nat.zero_le _, Nat.zero_le _, rfl, Own.nil _ _ _ _, (fun y hy => by cases hy), h, Fr.refl _ _, hF, fun x hx => by cases hx⟩, ?_⟩
  rintro a8 n8 c8 x w2 ⟨k, ds, S, L, rfl, hk, hdk, rfl, hD, hDr, h2, F2, hI, hsub⟩
  have z2 := F2.size
  have hY := hO.fr F2 hn
  refine br_dec (fun h1 => ?_) fun h1 => ⟨a8, c8, ds, none, 0, [], S, L, rfl, ⟨hD.base_le fun q hq => Nat.le_trans hn1 (hD.lt q hq).1, hDr⟩, OwnR.nil _ _, h2, F2, by omega, hsub, .inl ⟨hI, rfl⟩⟩
  have hkl : k < ys.length := by omega
  have hgk : recs ys[k].ims ∈ grps ys := List.mem_map.2 ⟨ys[k], List.getElem_mem hkl, rfl⟩
  have hrow : OwnR w2 n1 ys[k].a ys[k].c ys[k].ims := hY.rows _ (List.getElem_mem hkl)
  obtain ⟨b, off, ha, hc⟩ := hY.cell hkl
  have hk1 : IntKind.i64.wrap ((k : Int) + 1) = ((k + 1 : Nat) : Int) := by rw [wr64 (by omega) (by omega)]; omega
  refine withP_mk b off ha ⟨by omega, by omega, _, _, _, by rw [Int.toNat_natCast]; exact hc, ?_⟩
  refine app_d2 h2 hI.lwf hrow.ims (hs _ hgk) (fun _ h => by cases h) fun w3 h3 f3 => ⟨_, rfl, ?_⟩
  have F3 : Fr [gl, g, gd, mb] wx w3 := F2.trans f3 (Gr.refl _ _)
  have hD3 : Own w3 wx.heap.size 44 1 (.slice a8 ds.length c8) ds.length (ds.map gpV) := hD.keep fun q hq => f3.block q (hD.lt q hq).2 fun hm => by have := hn q hm; have := (hD.lt q hq).1; omega
  have hDr3 : ∀ y, y ∈ ds → OwnR w3 n1 y.a y.c y.ims := fun y hy => (hDr y hy).fr f3 hn
  have hY3 := hY.fr f3 hn
  have z3 := f3.size
  refine callB h3.d.bs (doff_ret h3.d.t) fun w4 b4 B4 => ⟨_, rfl, ?_⟩
  have h4 := h3.below b4
  have F4 := F3.b b4
  have hD4 := hD3.below b4 (Nat.le_refl _)
  have hDr4 : ∀ y, y ∈ ds → OwnR w4 n1 y.a y.c y.ims := fun y hy => (hDr3 y hy).below b4
  have hY4 := hY3.below b4
  have z4 := b4.size
  rcases fi_step hI (hs _ hgk) with ⟨e1, hFO⟩ | ⟨e1, e2, hFI⟩ | ⟨e1, e2, hFI⟩
  · rw [e1]
    refine br_t rfl (drewO_in fun w5 b5 e5 => ?_)
    obtain ⟨b', off', ha', hc'⟩ := (hY4.below b5).cell hkl
    exact withP_mk b' off' ha' ⟨by omega, by omega, _, _, _, by rw [Int.toNat_natCast]; exact hc', a8, c8, ds, _, _, ys[k].ims, _, _, rfl, ⟨(hD4.below b5 (Nat.le_refl _)).base_le fun q hq => Nat.le_trans hn1 (hD4.lt q hq).1, fun y hy => (hDr4 y hy).below b5⟩, (hY4.below b5).rows _ (List.getElem_mem hkl), h4.below b5, F4.b b5, by omega, hsub, .inr ⟨hFO, hgk⟩⟩
  · rw [e1]
    refine br_f rfl (br_y e2 ?_)
    obtain ⟨b', off', ha', hc'⟩ := hY4.cell hkl
    refine withP_mk b' off' ha' ⟨by omega, by omega, _, _, _, by rw [Int.toNat_natCast]; exact hc', ?_⟩
    refine appG2 (x := ys[k]) h4.d.bs hD4 hDr4 (hY4.rows _ (List.getElem_mem hkl)) h.d.bs.size (by omega) (by omega) rfl fun a5 c5 w5 O5 R5 B5 z5 f5 => ⟨⟨k + 1, ds ++ [ys[k]], _, _, hk1, by omega, by simp; omega, by simp, O5, R5, ?_, ?_, by simpa [grps] using hFI, ?_⟩, by dsimp only; rw [hk1]; omega⟩
    · have kq : ∀ q ∈ [gl, g, gd, mb], w5.heap[q]? = w4.heap[q]? := fun q hq => f5 q (by have := hn q hq; omega) fun e => by have := (hD4.lt q e).1; have := hn q hq; omega
      exact ⟨⟨h4.d.t.keep (kq g (by simp)) (kq gd (by simp)) (kq mb (by simp)), h4.d.wf, B5, h4.d.g0⟩, Bk.keep h4.lg (kq gl (by simp)), h4.l0⟩
    · refine ⟨B5.os.trans h.d.bs.os.symm, B5.tape.trans h.d.bs.tape.symm, B5.output.trans h.d.bs.output.symm, by omega, fun q hq hm => (f5 q (by omega) fun e => ?_).trans (F4.block q hq hm)⟩
      have := (hD4.lt q e).1
      omega
    · intro x hx
      simp only [grps, List.map_append, List.mem_append, List.map_cons, List.map_nil, List.mem_singleton] at hx
      rcases hx with hx | hx
      · exact hsub x hx
      · rw [hx]; exact hgk
  · rw [e1]
    refine br_f rfl (br_n e2 ⟨⟨k + 1, ds, _, _, hk1, by omega, by omega, rfl, hD4, hDr4, h4, F4, hFI, hsub⟩, by dsimp only; rw [hk1]; omega⟩)
end Go.Proofs.Ytpfmadinijofeaa
end
section
/- FrameGens; walked. -/
namespace Go.Proofs.Ytpfmadinijofeaa
open Go.RowKit
theorem secN_ge (n : Nat) : n ≤ 63 * secN n := by unfold secN; split <;> omega
theorem Chain.recs {S : DS} {first gen : Nat} : ∀ {gs : List Grp} {p k u : Nat}, Chain S first gen p k gs u → gs.flatten.length ≤ 63 * (u - p)
  | [], _, _, _, _ => Nat.zero_le _
  | g :: r, p, k, u, h => by
    have hl := Chain.le h.2.2.2
    have ih := Chain.recs h.2.2.2
    have h1 := grpB_count g
    have h2 := secN_ge (grpB g).length
    rw [List.flatten_cons, List.length_append]
    omega
theorem open_log {w wx : World} {g gd mb : Nat} {S : DS} {first size gen u : Nat} {gs : List Grp} (hd : D1 w wx g gd mb S) (h : LogOk S first size gen gs u) : Calls Try.prog 22 #[.pointer (some ⟨g, 0, none⟩), .int .i64 (first : Int), .int .i64 (size : Int), .int .i64 (gen : Int)] wx fun e w' => ∃ gl a c xs, e = .returned (.tuple #[.pointer (some ⟨gl, 0, none⟩), .slice a (xs : List Im).length c, .int .i64 0]) ∧ recs xs = gs.flatten ∧ OwnR w' wx.heap.size a c xs ∧ D2 w w' gl g gd mb ⟨first, size, gen, u, gs.length⟩ S ∧ Below wx.heap.size wx w' ∧ wx.heap.size ≤ gl := by
  have hr := h.chain.recs
  have := h.used
  have := h.top
  have := h.wf.n2
  refine (open_new hd.t hd.wf h.off h.one h.top h.genl h.chain h.used h.stop (by omega)).mono ?_
  rintro e w2 ⟨v, rfl, gl, a, c, xs, rfl, hxs, hO, hL, gl0, b⟩
  exact ⟨gl, a, c, xs, rfl, hxs, hO, ⟨hd.below b, hL, Nat.le_trans hd.bs.size gl0⟩, b, gl0⟩
theorem recs_len (xs : List Im) : (recs xs).length = xs.length := by simp [recs]
theorem grps_len (xs : List Gp) : (grps xs).length = xs.length := by simp [grps]
theorem few_len' {ys : List Gp} {gs : List Grp} (h : grps ys = fewGs gs) : ys.length ≤ 8 := by
  have := congrArg List.length h
  rw [grps_len] at this
  rw [this]
  unfold fewGs
  rw [List.length_map, List.length_take]
  omega
theorem rjoin_new {w : World} {n1 c : Nat} {a : Option Addr} {ds : List Gp} (h : OwnG w n1 a c ds) (hn : n1 ≤ w.heap.size) (hl : ds.length ≤ 1000000) (hf : (grps ds).flatten.length ≤ 1000000) :
    Calls Try.prog 46 #[.slice a ds.length c] w fun e w' => ∃ a' c' ys, e = .returned (.slice a' (ys : List Im).length c') ∧ recs ys = (grps ds).flatten ∧ OwnR w' n1 a' c' ys ∧ Bs w w' := by
  refine (GFr.rjoin_calls a ds.length c w (fun v w' => ∃ a' c' ys, v = .slice a' (ys : List Im).length c' ∧ recs ys = (grps ds).flatten ∧ OwnR w' n1 a' c' ys ∧ Bs w w') ?_).mono (by rintro e w' ⟨v, rfl, a', c', ys, rfl, h⟩; exact ⟨a', c', ys, rfl, h⟩)
  unfold GFr.rjoin_vc
  refine ⟨fun a3 n3 c3 x wx => ∃ (k : Nat) (ys : List Im), x = k ∧ k ≤ ds.length ∧ n3 = ys.length ∧ recs ys = ((grps ds).take k).flatten ∧ Own wx w.heap.size 22 1 (.slice a3 ys.length c3) ys.length (ys.map slV) ∧ (∀ y, y ∈ ys → Own wx n1 5 1 (.slice y.a y.bs.length y.c) y.bs.length (y.bs.map bV)) ∧ Bs w wx, fun _ _ _ x _ => (ds.length - x).toNat, ⟨0, [], rfl, Nat.zero_le _, rfl, rfl, Own.nil _ _ _ _, (fun y hy => by cases hy), Bs.refl w⟩, ?_⟩
  rintro a3 n3 c3 x wx ⟨k, ys, rfl, hk, rfl, hys, hO, hR, Bx⟩
  have hgl := grps_len ds
  refine br_dec (fun h1 => ?_) fun h1 => ?_
  · have hkl : k < ds.length := by omega
    have hx := h.below Bx
    obtain ⟨b, off, ha, hc⟩ := hx.cell hkl
    have hrow : OwnR wx n1 ds[k].a ds[k].c ds[k].ims := hx.rows _ (List.getElem_mem hkl)
    have hk1 : IntKind.i64.wrap ((k : Int) + 1) = ((k + 1 : Nat) : Int) := by rw [wr64 (by omega) (by omega)]; omega
    have hgk : (grps ds)[k]'(by omega) = recs ds[k].ims := by simp [grps]
    have ht : (grps ds).take (k + 1) = (grps ds).take k ++ [recs ds[k].ims] := by rw [List.take_add_one, List.getElem?_eq_getElem (by omega), hgk]; rfl
    have hlen : ys.length + ds[k].ims.length ≤ 1000000 := by
      have e1 : ((grps ds).take (k + 1)).flatten.length ≤ (grps ds).flatten.length := by
        have e : (grps ds).flatten = ((grps ds).take (k + 1)).flatten ++ ((grps ds).drop (k + 1)).flatten := by rw [← List.flatten_append, List.take_append_drop]
        rw [e, List.length_append]; omega
      rw [ht, List.flatten_append, List.length_append] at e1
      have e2 := congrArg List.length hys
      rw [recs_len] at e2
      have hsing : ([recs ds[k].ims] : List Grp).flatten.length = ds[k].ims.length := by simp [recs_len]
      rw [hsing] at e1
      omega
    have hs := Src.ofRow (P := Try.prog) (tx := 44) (w := wx) Try.underlying44 ds[k].a ds[k].c (ds[k].ims.map slV) hrow.own.row (fun u hu => by obtain ⟨x, _, rfl⟩ := List.mem_map.1 hu; rfl)
    rw [List.length_map] at hs
    refine withP_mk b off ha ⟨by omega, by omega, _, _, _, by rw [Int.toNat_natCast]; exact hc, appF Bx hO (Nat.le_refl _) Bx.size hs (by unfold maxLen; omega) (by omega) fun a4 c4 w4 o4 B4 z4 f4 or4 => ⟨⟨k + 1, ys ++ ds[k].ims, hk1, by omega, by simp, ?_, ?_, ?_, B4⟩, by dsimp only; rw [hk1]; omega⟩⟩
    · rw [ht, List.flatten_append]
      show (ys ++ ds[k].ims).map _ = _
      rw [List.map_append, show ys.map (·.bs) = _ from hys]
      simp [recs]
    · rw [List.map_append, List.length_append]; exact o4
    · intro y hy
      have hy2 : Own wx n1 5 1 (.slice y.a y.bs.length y.c) y.bs.length (y.bs.map bV) := by
        rcases List.mem_append.1 hy with hy | hy
        · exact hR y hy
        · exact hrow.rows y hy
      exact hy2.keep fun q hq => f4 q (hy2.lt q hq).2 fun e => own_kinds hO hy2 (by decide) e hq
  · obtain rfl : k = ds.length := by omega
    rw [List.take_of_length_le (by omega)] at hys
    exact ⟨a3, c3, ys, rfl, hys, ⟨hO.base_le fun q hq => Nat.le_trans hn (hO.lt q hq).1, hR⟩, Bx⟩
theorem D2.lt {w wx : World} {gl g gd mb : Nat} {L : LG} {S : DS} (h : D2 w wx gl g gd mb L S) : ∀ k ∈ [gl, g, gd, mb], k < wx.heap.size := fun q hq => by
  rcases List.mem_cons.1 hq with rfl | hq
  · exact Bk.lt h.lg
  · exact h.d.lt q hq
theorem crash_d1 {w wx : World} {g gd mb : Nat} {S : DS} (h : D1 w wx g gd mb S) {ka : Option Addr} {kc : Nat} {kept : List Bool} (hr : RowAt w ka (kept.map Value.bool)) {gs : List Nat} (hg : ∀ k ∈ gs, k ∉ [g, gd, mb]) {R : Ending → World → Prop} (k : ∀ w', D1 w w' g gd mb (crashD S kept) → Fr [g, gd, mb] wx w' → R (.returned (.tuple #[])) w') : Calls Try.prog 39 #[.pointer (some ⟨g, 0, none⟩), .slice ka kept.length kc] wx fun e w' => KeepG gs wx w' ∧ R e w' := by
  refine (dcrash_g h.t h.wf (fun w1 f => hr.bs (h.bs.fr f h.g0))).mono ?_
  rintro e w2 ⟨rfl, t2, f2⟩
  exact ⟨keepG_fr f2 hg, k w2 (h.to t2 f2 (h.wf.crash kept)) f2⟩
theorem Elder.crash {S : DS} {first size gen : Nat} (h : Elder S first size gen) (hc : Calm S) (kept : List Bool) : Elder (crashD S kept) first size gen := fun i hi => by rw [crash_calm hc]; exact h i hi
theorem lgens_walk (a0 : Option Addr) (c0 : Nat) (xs0 : List Gp) (a1 : Option Addr) (c1 : Nat) (xs1 : List Gp) (a2 : Option Addr) (c2 : Nat) (kept : List Bool) (w : World) (hx0 : Gps w a0 xs0) (hx1 : Gps w a1 xs1) (hk : RowAt w a2 (kept.map Value.bool)) :
    Calls Try.prog 9 #[.slice a0 xs0.length c0, .slice a1 xs1.length c1, .slice a2 kept.length c2] w (Ret (.bool true) w) := by
  refine ret_in (GFr.lgens_calls a0 xs0.length c0 a1 xs1.length c1 a2 kept.length c2 w (fun u w' => u = .bool true ∧ Below w.heap.size w w') ?_)
  unfold GFr.lgens_vc
  refine (start_new 20 1 (by omega) (by omega) (by omega) w).mono ?_
  rintro e w2 ⟨gl, g, gd, mb, rfl, h2⟩
  refine ⟨keepG_nil _ _, _, _, _, rfl, callB h2.d.bs (frames_ret w2) fun w3 b3 B3 => ⟨_, rfl, br_f rfl (br_f rfl ?_)⟩⟩
  have h3 := h2.below b3
  refine (lfew_new w3 (hx0.below B3)).mono ?_
  rintro e w4 ⟨a4, c4, ys, rfl, hys, hO, b4⟩
  have h4 := h3.below b4
  have hlog := log_new (n := 25) (first := 3) (size := 20) (gen := 1) (by omega) (by omega) (by omega) (by omega) (by omega)
  refine ⟨keepG_nil _ _, a4, _, c4, rfl, ?_⟩
  refine (fill_any h4 (FI.start hlog) hO h3.lt b4.size B3.size (fun x hx => by rw [hys] at hx; have := (fewGs_small x hx).1; omega) (by have := few_len' hys; omega)).mono ?_
  rintro e w5 ⟨a8, c8, ds, a9, c9, un, T, L', rfl, hD, hU, h5, f5, _, hsub, hc⟩
  rcases hc.symm with ⟨hFO, _⟩ | ⟨hI, rfl⟩
  · exact absurd hFO.pos (by decide)
  have hL0 := hI.left (Int.le_refl _)
  have e2 : Elder T 3 20 2 := hI.elder 2 (by omega) (by omega) elder_new
  have e3 : Elder T 3 20 3 := hI.elder 3 (by omega) (by omega) elder_new
  have hl2 : LogOk T 3 20 2 [] 0 := e2.log hI.log.wf hI.log.calm hI.log.off hI.log.top (by omega) (by omega)
  refine ⟨keepG_nil _ _, a8, _, c8, a9, _, c9, rfl, (open_log h5.d hl2).mono ?_⟩
  rintro e w6 ⟨gl2, a6, c6, zs, rfl, hzs, hO6, h6, b6, gl20⟩
  have hz0 : zs.length = 0 := by
    have := congrArg List.length hzs
    simpa [recs] using this
  refine ⟨keepG_nil _ _, _, a6, _, c6, _, rfl, br_n (by decide) (br_n (by omega) ?_)⟩
  refine callB h6.d.bs (fleft_ret h6.lg hl2.lwf h6.d.wf.n2) fun w7 b7 B7 => ⟨_, rfl, br_n (by decide) ?_⟩
  have h7 := h6.below b7
  refine (lfew_new w7 (hx1.below B7)).mono ?_
  rintro e w8 ⟨a10, c10, ys2, rfl, hys2, hO2, b8⟩
  have h8 := h7.below b8
  refine ⟨keepG_nil _ _, a10, _, c10, rfl, ?_⟩
  refine (fill_any h8 (FI.start hl2) hO2 h7.lt b8.size B7.size (fun x hx => by rw [hys2] at hx; have := (fewGs_small x hx).1; omega) (by have := few_len' hys2; omega)).mono ?_
  rintro e w9 ⟨a11, c11, ds2, a12, c12, un2, T2, L2, rfl, hD2, hU2, h9, f9, hdl2, hsub2, hc2⟩
  rcases hc2.symm with ⟨hFO, _⟩ | ⟨hI2, rfl⟩
  · exact absurd hFO.pos (by omega)
  refine ⟨keepG_nil _ _, a11, _, c11, a12, _, c12, rfl, crash_d1 h9.d hk (fun k h => by cases h) fun w10 h10 f10 => ⟨rfl, ?_⟩⟩
  have hlt9 := h7.lt
  have hD10 : OwnG w10 w7.heap.size a11 c11 ds2 := hD2.fr f10 fun q hq => hlt9 q (List.mem_cons_of_mem _ hq)
  have hl10 := hI2.log.crash kept
  have he10 : Elder (crashD T2 kept) 3 20 3 := (hI2.elder 3 (by omega) (by omega) e3).crash hI2.log.calm kept
  have hl11 : LogOk (crashD T2 kept) 3 20 3 [] 0 := he10.log hl10.wf hl10.calm hl10.off hl10.top (by omega) (by omega)
  refine (open_log h10 hl10).mono ?_
  rintro e w11 ⟨gl3, a13, c13, us, rfl, hus, hO11, h11, b11, _⟩
  refine ⟨keepG_nil _ _, _, a13, _, c13, _, rfl, (open_log h11.d hl11).mono ?_⟩
  rintro e w12 ⟨gl4, a14, c14, vs, rfl, hvs, hO12, h12, b12, _⟩
  have hv0 : vs.length = 0 := by
    have := congrArg List.length hvs
    simpa [recs] using this
  have hff : ([] ++ full (grps ds2)).flatten = (grps ds2).flatten := by rw [List.nil_append, full_flat]
  rw [hff] at hus
  have hul : us.length ≤ 1000000 := by
    have e1 := congrArg List.length hus
    rw [recs_len] at e1
    have hcr := hl10.chain.recs
    have hcu := hl10.used
    rw [hff] at hcr
    omega
  have hfl : (grps ds2).flatten.length ≤ 1000000 := by rw [← hus, recs_len]; exact hul
  have hdl : ds2.length ≤ 1000000 := by
    have hs8 := few_len' hys2
    omega
  have hD12 := (hD10.below b11).below b12
  refine ⟨keepG_nil _ _, _, a14, _, c14, _, rfl, br_y rfl (br_y rfl ((rjoin_new hD12 ?_ hdl hfl).mono ?_))⟩
  · have := f10.size; have := b11.size; have := b12.size; have := b8.size; have := f9.size; omega
  rintro e w13 ⟨a15, c15, js, rfl, hjs, hO13, b13⟩
  have B13 := h12.d.bs.to b13
  refine ⟨keepG_nil _ _, a15, _, c15, rfl, callB B13 (rsame_ret w13 ((hO11.below b12).below b13).ims hO13.ims hul) fun w14 b14 B14 => ⟨_, rfl, ?_⟩⟩
  rw [decide_eq_true (by rw [hus, hjs])]
  exact br_t rfl ⟨by rw [decide_eq_true (by omega)], B14⟩
end Go.Proofs.Ytpfmadinijofeaa
end
section
/- FrameFalls; walked. -/
namespace Go.Proofs.Ytpfmadinijofeaa
open Go.RowKit
theorem appRsg {w0 w : World} {n1 c c2 : Nat} {a a2 : Option Addr} {xs ys : List Im} {gs : List Nat} {K : Nat → Option Addr → Nat → World → Prop} (B : Bs w0 w) (h : OwnR w n1 a c xs) (h2 : OwnR w n1 a2 c2 ys) (h1 : w0.heap.size ≤ n1) (hn : n1 ≤ w.heap.size) (hl : xs.length + ys.length ≤ 1000000000) (hg : ∀ g ∈ gs, (Value.slice a xs.length c).ownBlock ≠ some g)
    (k : ∀ a' c' w2, OwnR w2 n1 a' c' (xs ++ ys) → Bs w0 w2 → w.heap.size ≤ w2.heap.size → (∀ q, q < w.heap.size → (Value.slice a xs.length c).ownBlock ≠ some q → w2.heap[q]? = w.heap[q]?) → ((Value.slice a' (xs.length + ys.length) c').ownBlock = (Value.slice a xs.length c).ownBlock ∨ ∃ g, (Value.slice a' (xs.length + ys.length) c').ownBlock = some g ∧ w.heap.size ≤ g) → K ys.length a' c' w2) :
    appO Try.prog gs w 22 1 24 44 a xs.length c (.slice a2 ys.length c2) K := by
  obtain ⟨m, vs, news, q1, q2, q3, q4, q5, q6⟩ := appRs (K := fun m a' c' w2 => ∃ hm : m = ys.length, OwnR w2 n1 a' c' (xs ++ ys) ∧ Bs w0 w2 ∧ w.heap.size ≤ w2.heap.size ∧ (∀ q, q < w.heap.size → (Value.slice a xs.length c).ownBlock ≠ some q → w2.heap[q]? = w.heap[q]?)) B h h2 h1 hn hl (fun a' c' w2 r1 _ r2 r3 r4 => ⟨rfl, r1, r2, r3, r4⟩)
  refine ⟨m, vs, news, q1, q2, q3, q4, hg, fun a' c' w1 o1 g1 or1 hf => ?_⟩
  obtain ⟨hm, r1, r2, r3, r4⟩ := q6 a' c' w1 o1 g1 or1 hf
  subst hm
  exact k a' c' w1 r1 r2 r3 r4 or1
theorem OwnR.frL {w w' : World} {n1 c gl g gd mb : Nat} {a : Option Addr} {xs : List Im} {L : LG} (h : OwnR w n1 a c xs) (hl : LgAt w gl g L) (hd : ∀ k ∈ [g, gd, mb], k < n1) (f : Fr [gl, g, gd, mb] w w') : OwnR w' n1 a c xs := by
  have hb : Bk w gl _ _ := hl
  refine ⟨h.own.keep fun k hk => f.block k (h.own.lt k hk).2 fun hm => ?_, fun x hx => (h.rows x hx).keep fun k hk => f.block k ((h.rows x hx).lt k hk).2 fun hm => ?_⟩
  · rcases List.mem_cons.1 hm with rfl | hm
    · exact h.not hb (by decide) hk
    · have := hd k hm; have := (h.own.lt k hk).1; omega
  · rcases List.mem_cons.1 hm with rfl | hm
    · obtain ⟨cur, k2⟩ := (h.rows x hx).blk hk
      have hb : w.heap[k]? = _ := hb
      rw [hb] at k2
      injection k2 with k2
      injection k2 with _ k2
      exact absurd k2 (by decide)
    · have := hd k hm; have := ((h.rows x hx).lt k hk).1; omega
theorem D2.keepN {w wx wy : World} {gl g gd mb : Nat} {L : LG} {S : DS} (h : D2 w wx gl g gd mb L S) (B : Bs w wy) (hk : ∀ q ∈ [gl, g, gd, mb], wy.heap[q]? = wx.heap[q]?) : D2 w wy gl g gd mb L S :=
  ⟨⟨h.d.t.keep (hk g (by simp)) (hk gd (by simp)) (hk mb (by simp)), h.d.wf, B, h.d.g0⟩, Bk.keep h.lg (hk gl (by simp)), h.l0⟩
theorem D1.keepN {w wx wy : World} {g gd mb : Nat} {S : DS} (h : D1 w wx g gd mb S) (B : Bs w wy) (hk : ∀ q ∈ [g, gd, mb], wy.heap[q]? = wx.heap[q]?) : D1 w wy g gd mb S :=
  ⟨h.t.keep (hk g (by simp)) (hk gd (by simp)) (hk mb (by simp)), h.wf, B, h.g0⟩
set_option maxHeartbeats 1600000 in
theorem lfallsF_walk (a : Option Addr) (c : Nat) (xs : List (Fl Gp)) (w : World) (hx : RowsAt FlG 3 w a xs) :
    Calls Try.prog 10 #[.slice a xs.length c] w (Ret (.bool true) w) := by
  refine ret_in (GFr.lfalls_calls a xs.length c w (fun u w' => u = .bool true ∧ Below w.heap.size w w') ?_)
  unfold GFr.lfalls_vc
  refine (start_new 24 3 (by omega) (by omega) (by omega) w).mono ?_
  rintro e w2 ⟨gl0, g, gd, mb, rfl, h2⟩
  refine ⟨keepG_nil _ _, _, _, _, rfl, callB h2.d.bs (frames_ret w2) fun w3 b3 B3 => ⟨_, rfl, br_f rfl (br_f rfl ?_)⟩⟩
  have h3 := h2.below b3
  have hlog := log_new (n := 29) (first := 3) (size := 24) (gen := 3) (by omega) (by omega) (by omega) (by omega) (by omega)
  have hd3 : ∀ k ∈ [g, gd, mb], k < w3.heap.size := h3.d.lt
  refine ⟨fun p a6 n6 c6 x wx => ∃ (k gl u : Nat) (S : DS) (G : List Grp) (zs : List Im), p = some ⟨gl, 0, none⟩ ∧ x = k ∧ k ≤ 3 ∧ n6 = zs.length ∧ recs zs = G.flatten ∧ OwnR wx w3.heap.size a6 c6 zs ∧ D2 w wx gl g gd mb ⟨3, 24, 3, u, G.length⟩ S ∧ LogOk S 3 24 3 G u ∧ w3.heap.size ≤ wx.heap.size, fun _ _ _ _ x _ => (3 - x).toNat,
    ⟨0, gl0, 0, _, [], [], rfl, rfl, by omega, rfl, rfl, OwnR.nil _ _, h3, hlog, Nat.le_refl _⟩, ?_⟩
  rintro p a6 n6 c6 x wx ⟨k, gl, u, S, G, zs, rfl, rfl, hk, rfl, hzs, hO, hD, hL, hz⟩
  refine br_dec (fun h1 => br_dec (fun h4 => ?_) fun _ => ⟨rfl, hD.d.bs⟩) fun _ => ⟨rfl, hD.d.bs⟩
  obtain ⟨b, off, ha, hi⟩ := flg_get hx k (by omega) hD.d.bs
  have hi0 : Gps w xs[k].a xs[k].xs ∧ RowAt w xs[k].ka (xs[k].kept.map Value.bool) := by
    obtain ⟨b', off', _, hi'⟩ := flg_get hx k (by omega) (Bs.refl w)
    exact ⟨hi'.row, hi'.kept⟩
  refine withP_mk b off ha ⟨by omega, by omega, _, _, _, _, _, _, _, by rw [Int.toNat_natCast]; exact hi.cell, newB hD.d.bs fun g1 w5 g10 sg5 n5 z5 b5 B5 => boxB B5 g10 fun w6 x6 B6 z6 => ⟨by decide, ?_⟩⟩
  have hltD := hD.lt
  have hne : ∀ k ∈ [gl, g, gd, mb], k ≠ g1 := fun k hk e => by have := hltD k hk; omega
  have h5 := hD.below b5
  have h6 : D2 w w6 gl g gd mb ⟨3, 24, 3, u, G.length⟩ S := h5.keepN B6 fun q hq => x6.1.block q (by have := h5.lt q hq; omega) (by rw [List.mem_singleton]; exact hne q hq)
  have hO6 : OwnR w6 w3.heap.size a6 c6 zs := hO.keep fun q hq1 hq2 => (x6.1.block q (Nat.lt_of_lt_of_le hq2 b5.size) (by rw [List.mem_singleton]; omega)).trans (b5.block q hq2)
  have kg : ∀ {wa wb : World}, Fr [gl, g, gd, mb] wa wb → KeepG [g1] wa wb := fun f => keepG_fr f fun q hq hm => by rw [List.mem_singleton] at hq; exact hne q hm hq
  have kg3 : ∀ {wa wb : World}, Fr [g, gd, mb] wa wb → KeepG [g1] wa wb := fun f => keepG_fr f fun q hq hm => by rw [List.mem_singleton] at hq; exact hne q (List.mem_cons_of_mem _ hm) hq
  obtain ⟨m, hm, em⟩ := u64_mod xs[k].off 12 (by omega)
  have em : Int.tmod (IntKind.u64.wrap xs[k].off) 12 = (m : Int) := em
  rw [em, wr64 (z := (m : Int)) (by omega) (by omega)]
  refine (dcut_any h6.d.t (m : Int)).mono ?_
  rintro e w7 ⟨rfl, t7, f7⟩
  have hL7 := hL.cut (n := (m : Int)) (by omega)
  have hgl := h6.not
  have F7 : Fr [gl, g, gd, mb] w6 w7 := f7.mono fun q hq => .inl (List.mem_cons_of_mem _ hq)
  have h7 : D2 w w7 gl g gd mb ⟨3, 24, 3, u, G.length⟩ (cutD S m) := ⟨h6.d.to t7 f7 hL7.wf, Bk.fr h6.lg f7 hgl, h6.l0⟩
  have hO7 := hO6.frL h6.lg hd3 F7
  refine ⟨kg3 f7, rfl, (lfew_new w7 (hi0.1.below h7.d.bs)).mono ?_⟩
  rintro e w8 ⟨a8, c8, ys, rfl, hys, hY, b8⟩
  have h8 := h7.below b8
  have hO8 := hO7.below b8
  have hs8 := few_len' hys
  refine ⟨keepG_below b8, a8, _, c8, rfl, ?_⟩
  refine (fill_any h8 (FI.start hL7) hY h7.lt b8.size h7.d.bs.size (fun x hx => by rw [hys] at hx; have := (fewGs_small x hx).1; omega) (by omega)).mono ?_
  rintro e w9 ⟨a9, c9, ds, a10, c10, un, T, L', rfl, hDs, hUn, h9, f9, hdl, hsub, hc⟩
  have hO9 := hO8.frL h8.lg hd3 f9
  have hunl : un.length ≤ 1000000 := by
    rcases hc with ⟨_, e⟩ | ⟨_, e⟩
    · rw [e]; exact Nat.zero_le _
    · rw [hys] at e
      have := (fewGs_small _ e).2
      rw [recs_len] at this
      omega
  have hdsl : (grps ds).flatten.length ≤ 1000 := by
    have h4 : ∀ x, x ∈ grps ds → x.length ≤ 4 := fun x hx => (fewGs_small x (by rw [← hys]; exact hsub x hx)).2
    have hg8 : (grps ds).length ≤ 8 := by rw [grps_len]; omega
    generalize grps ds = D at h4 hg8
    have : ∀ D : List Grp, (∀ x, x ∈ D → x.length ≤ 4) → D.flatten.length ≤ 4 * D.length := by
      intro D
      induction D with
      | nil => intro _; exact Nat.le_refl _
      | cons d r ih =>
        intro hh
        have h1 := hh d List.mem_cons_self
        have h2 := ih fun x hx => hh x (List.mem_cons_of_mem _ hx)
        rw [List.flatten_cons, List.length_append, List.length_cons]
        omega
    have := this D h4
    omega
  have hGl : zs.length ≤ 1600 := by
    have e1 := congrArg List.length hzs
    rw [recs_len] at e1
    have := hL.chain.recs
    have := hL.used
    omega
  have z79 : w7.heap.size ≤ w9.heap.size := Nat.le_trans b8.size f9.size
  refine ⟨kg f9, a9, _, c9, a10, _, c10, rfl, (rjoin_new hDs z79 (by omega) (by omega)).mono ?_⟩
  rintro e w10 ⟨a11, c11, js, rfl, hjs, hJ, b10⟩
  have h10 := h9.below b10
  have hjl : js.length ≤ 1000 := by rw [← recs_len, hjs]; exact hdsl
  have h37 : w3.heap.size ≤ w7.heap.size := Nat.le_trans hz (by have := b5.size; have := f7.size; omega)
  refine ⟨keepG_below b10, a11, _, c11, rfl, appRsg h10.d.bs (hO9.below b10) (hJ.base h37) B3.size (by have := b10.size; omega) (by omega) (fun q hq e => by rw [List.mem_singleton] at hq; subst hq; have := (hO.own.lt q e).2; omega) fun a12 c12 w11 O11 B11 z11 f11 or11 => ?_⟩
  have hq11 : ∀ q ∈ [gl, g, gd, mb], w11.heap[q]? = w10.heap[q]? := fun q hq => f11 q (h10.lt q hq) fun e => by
    rcases List.mem_cons.1 hq with rfl | hq
    · exact (hO9.below b10).not (show Bk w10 q _ _ from h10.lg) (by decide) e
    · have := hd3 q hq
      have := (hO.own.lt q e).1
      omega
  have h11 := h10.keepN B11 hq11
  have hUn11 : OwnR w11 w7.heap.size a10 c10 un := (hUn.below b10).keep fun q hq1 hq2 => f11 q hq2 fun e => by have := (hO.own.lt q e).2; have := b5.size; have := f7.size; omega
  refine crash_d1 h11.d hi0.2 (fun q hq hm => by rw [List.mem_singleton] at hq; exact hne q (List.mem_cons_of_mem _ hm) hq) fun w12 h12 f12 => ⟨rfl, ?_⟩
  have hcase : ∃ G' u', LogOk (crashD T xs[k].kept) 3 24 3 G' u' ∧ (G'.flatten = recs (zs ++ js) ∨ (recs un ≠ [] ∧ G'.flatten = recs (zs ++ js) ++ recs un)) := by
    have e0 : recs (zs ++ js) = G.flatten ++ (grps ds).flatten := by
      show (zs ++ js).map _ = _
      rw [List.map_append, show zs.map (·.bs) = G.flatten from hzs, show js.map (·.bs) = (grps ds).flatten from hjs]
    have e1 : (G ++ full (grps ds)).flatten = recs (zs ++ js) := by rw [e0, List.flatten_append, full_flat]
    rcases hc with ⟨hI, _⟩ | ⟨hFO, _⟩
    · exact ⟨_, _, hI.log.crash _, .inl e1⟩
    · rcases hFO.crash xs[k].kept with ⟨u', h⟩ | ⟨u', h⟩
      · exact ⟨_, _, h, .inl e1⟩
      · exact ⟨_, _, h, .inr ⟨hFO.ne, by rw [List.flatten_append, e1]; simp⟩⟩
  obtain ⟨G', u', hL12, hG'⟩ := hcase
  have hO12 : OwnR w12 w3.heap.size a12 c12 (zs ++ js) := O11.fr f12 hd3
  have hU12 : OwnR w12 w7.heap.size a10 c10 un := hUn11.fr f12 fun q hq => by have := hd3 q hq; omega
  refine (open_log h12 hL12).mono ?_
  rintro e w13 ⟨gl2, a13, c13, us, rfl, hus, hO13, h13, b13, _⟩
  have hk1 : IntKind.i64.wrap ((k : Int) + 1) = ((k + 1 : Nat) : Int) := by rw [wr64 (by omega) (by omega)]; omega
  have hul : us.length ≤ 1000000 := by
    have e1 := congrArg List.length hus
    rw [recs_len] at e1
    have hcr := hL12.chain.recs
    have hcu := hL12.used
    omega
  have hS13 := hO12.below b13
  have hU13 := hU12.below b13
  have z13 : w11.heap.size ≤ w13.heap.size := Nat.le_trans f12.size b13.size
  refine ⟨keepG_below b13, _, a13, _, c13, _, rfl, br_n (by decide) ?_⟩
  have eSl : zs.length + js.length = (zs ++ js).length := List.length_append.symm
  rw [eSl] at or11 ⊢
  refine callB h13.d.bs (rsame_ret w13 hO13.ims hS13.ims hul) fun w14 b14 B14 => ⟨_, rfl, ?_⟩
  have hS14 := hS13.below b14
  have hU14 := hU13.below b14
  have h14 := h13.below b14
  have z14 := b14.size
  have h3_14 : w3.heap.size ≤ w14.heap.size := by have := b10.size; omega
  rcases hG' with e | ⟨hne', e⟩
  · rw [decide_eq_true (by rw [hus, e])]
    exact br_f rfl ⟨⟨k + 1, gl2, u', _, G', zs ++ js, rfl, hk1, by omega, rfl, e.symm, hS14, h14, hL12, by omega⟩, by dsimp only; rw [hk1]; omega⟩
  · have hunp : 0 < un.length := by
      have : 0 < (recs un).length := List.length_pos_iff.2 hne'
      rw [recs_len] at this
      exact this
    rw [decide_eq_false (fun e2 => by
      rw [hus, e] at e2
      have := congrArg List.length e2
      rw [List.length_append, recs_len un] at this
      omega)]
    refine br_t rfl ?_
    refine appRsg B14 hS14 (hU14.base h37) B3.size (by omega) (by rw [← eSl]; omega) (fun q hq e3 => ?_) fun a15 c15 w15 O15 B15 z15 f15 _ => ?_
    · rw [List.mem_singleton] at hq
      subst hq
      rcases or11 with h | ⟨g', h, h3⟩
      · rw [e3] at h
        have := (hO.own.lt q h.symm).2
        omega
      · rw [e3] at h
        injection h with h
        have := b5.size
        have := f7.size
        have := b8.size
        have := f9.size
        have := b10.size
        omega
    have h15 : D2 w w15 gl2 g gd mb ⟨3, 24, 3, u', G'.length⟩ (crashD T xs[k].kept) := h14.keepN B15 fun q hq => f15 q (h14.lt q hq) fun e3 => by
      rcases List.mem_cons.1 hq with rfl | hq
      · exact hS14.not (show Bk w14 q _ _ from h14.lg) (by decide) e3
      · have := hd3 q hq
        have := (hS14.own.lt q e3).1
        omega
    have hO15 : Ims w15 a13 us := by
      have hO14 := hO13.below b14
      refine (OwnR.ims (n1 := w12.heap.size) ⟨hO14.own.keep fun q hq => f15 q (hO14.own.lt q hq).2 fun e3 => ?_, fun y hy => (hO14.rows y hy).keep fun q hq => f15 q ((hO14.rows y hy).lt q hq).2 fun e3 => own_kinds hS14.own (hO14.rows y hy) (by decide) e3 hq⟩)
      have h1 := (hO14.own.lt q hq).1
      have h2 := (hO12.own.lt q e3).2
      omega
    refine br_n (by omega) ?_
    rw [show (zs ++ js).length + un.length = (zs ++ js ++ un).length from List.length_append.symm]
    refine callB B15 (rsame_ret (c1 := c13) w15 hO15 O15.ims hul) fun w16 b16 B16 => ⟨_, rfl, ?_⟩
    have erec : recs (zs ++ js) ++ recs un = recs (zs ++ js ++ un) := (List.map_append (f := fun x : Im => x.bs) (l₁ := zs ++ js) (l₂ := un)).symm
    rw [decide_eq_true (hus.trans (e.trans erec))]
    refine br_f rfl ⟨⟨k + 1, gl2, u', _, G', zs ++ js ++ un, rfl, hk1, by omega, by simp, ?_, O15.below b16, h15.below b16, hL12, by have := b16.size; omega⟩, by dsimp only; rw [hk1]; omega⟩
    exact (e.trans erec).symm
end Go.Proofs.Ytpfmadinijofeaa
end
section
/- The reference's sum: bit by bit. -/
namespace Go.Proofs.Ytpfmadinijofeaa
open Go.RowKit
theorem rsum_snoc (n : Nat) (s : ByteArray) (k : Nat) (h : k < s.size) : crcL n (s.data.toList.take (k + 1)) = cb (crcL n (s.data.toList.take k)) s[k].toNat := by
  rw [crcL_snoc n _ k (by simpa using h)]; rfl
theorem xor_bit (a b : Nat) : (a % 2) ^^^ (b % 2) = (a % 2 + b % 2) % 2 := by
  rcases Nat.mod_two_eq_zero_or_one a with x | x <;> rcases Nat.mod_two_eq_zero_or_one b with y | y <;> rw [x, y] <;> decide
theorem bit_test (q x j : Nat) (hq : q < 4294967296) (hx : x < 256) :
    bits BinOp.xor IntKind.u32 (bits BinOp.and IntKind.u32 (q : Int) 1) (bits BinOp.and IntKind.u8 ((x : Int) / 2 ^ j) 1 % 4294967296) = (((q % 2 + x / 2 ^ j % 2) % 2 : Nat) : Int) := by
  have hd : x / 2 ^ j < 256 := Nat.lt_of_le_of_lt (Nat.div_le_self _ _) hx
  have e1 : bits BinOp.and IntKind.u32 (q : Int) 1 = ((q % 2 : Nat) : Int) := by rw [show (1 : Int) = ((1 : Nat) : Int) from rfl, u32_and_nat _ _ hq (by omega), nat_mask1]
  have e2 : bits BinOp.and IntKind.u8 ((x : Int) / 2 ^ j) 1 = ((x / 2 ^ j % 2 : Nat) : Int) := by
    rw [show (x : Int) / 2 ^ j = ((x / 2 ^ j : Nat) : Int) by simp, show (1 : Int) = ((1 : Nat) : Int) from rfl, u8_and_nat _ _ hd (by omega), nat_mask1]
  rw [e1, e2, show (((x / 2 ^ j % 2 : Nat) : Int)) % 4294967296 = ((x / 2 ^ j % 2 : Nat) : Int) by omega, u32_xor_nat _ _ (by omega) (by omega), xor_bit]
theorem rst_yes {q x j : Nat} (h : ((((q % 2 + x / 2 ^ j % 2) % 2 : Nat) : Int) == 1) = true) : rst q x j = (q / 2) ^^^ 3988292384 := by
  unfold rst
  have := beq_iff_eq.1 h
  generalize x / 2 ^ j = y at *
  rw [if_pos (by omega)]
theorem rst_no {q x j : Nat} (h : ((((q % 2 + x / 2 ^ j % 2) % 2 : Nat) : Int) == 1) = false) : rst q x j = q / 2 := by
  unfold rst
  have := beq_eq_false_iff_ne.1 h
  generalize x / 2 ^ j = y at *
  rw [if_neg (by omega)]
theorem u32_xor_half (q : Nat) (h : q < 4294967296) : bits BinOp.xor IntKind.u32 ((q : Int) / 2) 3988292384 = ((q / 2 ^^^ 3988292384 : Nat) : Int) := by
  rw [show (3988292384 : Int) = ((3988292384 : Nat) : Int) from rfl, show (q : Int) / 2 = ((q / 2 : Nat) : Int) from rfl, u32_xor_nat _ _ (by omega) (by omega)]
set_option maxHeartbeats 400000 in
theorem rsum_any (s : ByteArray) (w : World) (hs : s.size ≤ maxLen) :
    Calls Try.prog 67 #[.string s] w fun e w' => e = .returned (.int .u32 (more 0 s.data.toList)) ∧ w' = w := by
  unfold maxLen at hs
  go_enter Try.func67, Try.ntmps67
  go_wp2
  go_loop [3, 4, 5, 6, 7,8,9,10,11,12,13,14,15,16,17,18,19,20,21,22,23,24,25,26,27,28,29,30,31,32] (fun t3 t4 _ _ _ _ _ _ _ _ _ _ _ _ _ _ _ _ _ _ _ _ _ _ _ _ _ _ _ _ => ∃ k : Nat, k ≤ s.size ∧ t4 = .int .i64 k ∧ t3 = V32 (crcL 4294967295 (s.data.toList.take k))) (fun t3 t4 _ _ _ _ _ _ _ _ _ _ _ _ _ _ _ _ _ _ _ _ _ _ _ _ _ _ _ _ => s.size - (intOf t4).toNat)
  case atStart => exact ⟨0, by omega, rfl, rfl⟩
  case round =>
    obtain ⟨k, hk, rfl, rfl⟩ := hrel
    have h0 : crcL 4294967295 (s.data.toList.take k) < 4294967296 := crcL_lt _ (by omega)
    by_cases hlt : k < s.size
    · have hsn := rsum_snoc 4294967295 s k hlt
      rw [cb_rsteps] at hsn
      have Hs := hid hsn; clear hsn
      generalize crcL 4294967295 (s.data.toList.take k) = m at *
      go_wp2
      go_loop [3, 5,6,13,14,15,16,17,18,19,20,21,22,23,24,25,26,27,28,29,30,31,32] (fun t3 t5 _ _ _ _ _ _ _ _ _ _ _ _ _ _ _ _ _ _ _ _ _ => ∃ j : Nat, j ≤ 8 ∧ t5 = .int .i64 j ∧ t3 = V32 (rsteps s[k].toNat j m)) (fun t3 t5 _ _ _ _ _ _ _ _ _ _ _ _ _ _ _ _ _ _ _ _ _ => 8 - (intOf t5).toNat)
      case atStart => exact ⟨0, by omega, rfl, rfl⟩
      case round =>
        obtain ⟨j, hj, rfl, rfl⟩ := hrel
        have h1 := rsteps_lt s[k].toNat j h0
        have Hr := hid (show rsteps s[k].toNat (j + 1) m = rst (rsteps s[k].toNat j m) s[k].toNat j from rfl)
        generalize hq : rsteps s[k].toNat j m = q at *
        have Hq := hid hq; clear hq
        unfold V32
        by_cases hlj : j < 8
        · have hx : s[k].toNat < 256 := s[k].toNat_lt
          have hB := bit_test q s[k].toNat j h1 hx
          have hX := u32_xor_half q h1
          have HB := hid hB; clear hB
          have HX := hid hX; clear hX
          go_wp2
          · have ht : (bits BinOp.xor IntKind.u32 (bits BinOp.and IntKind.u32 (q : Int) 1) (bits BinOp.and IntKind.u8 (((s[k].toNat : Nat) : Int) / 2 ^ j) 1 % 4294967296) == 1) = true := by assumption
            rw [HB.out] at ht
            go_round
            case rel => exact ⟨j + 1, by omega, by go_num, by rw [Hr.out, HX.out, rst_yes ht]⟩
            case measure => simp [intOf]; omega
          · have ht : (bits BinOp.xor IntKind.u32 (bits BinOp.and IntKind.u32 (q : Int) 1) (bits BinOp.and IntKind.u8 (((s[k].toNat : Nat) : Int) / 2 ^ j) 1 % 4294967296) == 1) = false := by assumption
            rw [HB.out] at ht
            go_round
            case rel => exact ⟨j + 1, by omega, by go_num, by rw [Hr.out, rst_no ht]; rfl⟩
            case measure => simp [intOf]; omega
        · obtain rfl : j = 8 := by omega
          go_wp2
          go_round
          case rel => exact ⟨k + 1, by omega, by go_num, by rw [Hs.out, Hq.out]; rfl⟩
          case measure => simp [intOf]; omega
    · obtain rfl : k = s.size := by omega
      rw [List.take_of_length_le (by simp)] at h0 ⊢
      have hfin : more 0 s.data.toList = cpl (crcL 4294967295 s.data.toList) := rfl
      generalize crcL 4294967295 s.data.toList = m at *
      have hc := u32_not m h0
      have Hf := hid hfin; clear hfin
      unfold V32
      go_wp2
      go_ret
      exact ⟨by rw [Hf.out]; rfl, rfl⟩
end Go.Proofs.Ytpfmadinijofeaa
end
section
/- Numbers and noughts as texts, as the documents have them. -/
namespace Go.Proofs.Ytpfmadinijofeaa
open Go.RowKit
theorem one_ret (n : Nat) (h : n < 256) (w : World) : Calls Try.prog 83 #[.int .i64 (n : Int)] w (Ret (.string (strOf [UInt8.ofNat n])) w) := fOne_any n h w
theorem sum_ret (bs : List UInt8) (hl : bs.length ≤ 100000000) (w : World) : Calls Try.prog 67 #[.string (strOf bs)] w (Ret (.int .u32 ((more 0 bs : Nat) : Int)) w) := by
  have := rsum_any (strOf bs) w (by rw [strOf_size]; unfold maxLen; omega)
  rw [strOf_list] at this
  exact ret_same this
theorem u64_and255 (a : Nat) (ha : a < 18446744073709551616) : bitsV .and .u64 (a : Int) 255 = ((a % 256 : Nat) : Int) := by
  show IntKind.u64.wrap (((BitVec.ofInt 64 (a : Int) &&& BitVec.ofInt 64 ((255 : Nat) : Int)).toNat : Nat) : Int) = _
  rw [BitVec.toNat_and, ofInt_u64 a ha, ofInt_u64 255 (by omega), show 255 = 2 ^ 8 - 1 from rfl, Nat.and_two_pow_sub_one_eq_mod, wru64 (by omega) (by omega)]
theorem numByte2 (n x : Nat) (hn : n < 18446744073709551616) (hx : x ≤ 7) : IntKind.i64.wrap (bitsV .and .u64 (Int.fdiv (IntKind.u64.wrap (n : Int)) (2 ^ (min (IntKind.i64.wrap (8 * (x : Int))).toNat (IntKind.bits .u64)))) 255) = ((n / 2 ^ (8 * x) % 256 : Nat) : Int) := by
  rw [wru64 (by omega) (by omega), wr64 (z := 8 * (x : Int)) (by omega) (by omega), show (8 * (x : Int)).toNat = 8 * x by omega, show min (8 * x) (IntKind.bits .u64) = 8 * x from Nat.min_eq_left (show 8 * x ≤ 64 by omega)]
  have e : ((2 : Int) ^ (8 * x)) = ((2 ^ (8 * x) : Nat) : Int) := by rw [Int.natCast_pow]; rfl
  rw [e]
  clear e
  generalize 2 ^ (8 * x) = p
  have hle : n / p ≤ n := Nat.div_le_self _ _
  rw [Int.fdiv_eq_ediv_of_nonneg _ (Int.natCast_nonneg p), ← Int.natCast_ediv, u64_and255 _ (by omega), wr64 (by omega) (by omega)]
theorem made_zeros (n : Nat) : madeCells (Value.cells (.int .u8 0)) (n * 1) = ((List.replicate n (0 : UInt8)).map bV).toArray := by
  rw [List.map_replicate]
  apply Array.ext_getElem?
  intro i
  unfold madeCells
  rw [Array.getElem?_map, Array.getElem?_range, Nat.mul_one, List.getElem?_toArray, List.getElem?_replicate]
  by_cases h : i < n
  · rw [if_pos h, if_pos h]
    show some ((#[Value.int .u8 0] : Array Value)[i % 1]!) = _
    rw [Nat.mod_one]
    rfl
  · rw [if_neg h, if_neg h]
    rfl
theorem empty_str : (⟨#[]⟩ : ByteArray) = strOf [] := rfl
theorem three_str : (⟨#[3]⟩ : ByteArray) = strOf [3] := rfl
theorem zero_str : (⟨#[0]⟩ : ByteArray) = strOf [0] := rfl
end Go.Proofs.Ytpfmadinijofeaa
end
section
/- The document's numbers, noughts and sectors of a group; walked. -/
namespace Go.Proofs.Ytpfmadinijofeaa
open Go.RowKit
theorem rnum5_ret (n k : Nat) (hn : n < 18446744073709551616) (hk : k ≤ 8) (w : World) : Calls Try.prog 71 #[.int .u64 (n : Int), .int .i64 (k : Int)] w (Ret (.string (strOf (beB n k))) w) := by
  refine ret_in (GFr.rnumber_calls n k w (fun u w' => u = .string (strOf (beB n k)) ∧ Below w.heap.size w w') ?_)
  unfold GFr.rnumber_vc
  refine ⟨fun s x wx => ∃ j : Nat, j ≤ k ∧ x = (k : Int) - 1 - j ∧ s = strOf (beJ n k j) ∧ Bs w wx, fun _ x _ => (x + 1).toNat, ⟨0, by omega, by rw [wr64 (by omega) (by omega)]; omega, rfl, Bs.refl w⟩, ?_⟩
  rintro s x wx ⟨j, hj, rfl, rfl, Bx⟩
  refine br_dec (fun h => ?_) fun h => ?_
  · obtain ⟨x, hx⟩ : ∃ x : Nat, (k : Int) - 1 - j = (x : Int) := ⟨k - 1 - j, by omega⟩
    have hb := numByte2 n x (by omega) (by omega)
    rw [wru64 (by omega) (by omega)] at hb
    rw [hx, hb]
    refine ⟨by rw [wr64 (by omega) (by omega)]; omega, callB Bx (one_ret _ (Nat.mod_lt _ (by omega)) wx) fun w2 b2 B2 => ⟨_, rfl, ?_, ⟨j + 1, by omega, by rw [wr64 (by omega) (by omega)]; omega, ?_, B2⟩, by dsimp only; rw [wr64 (by omega) (by omega)]; omega⟩⟩
    · rw [strOf_size, strOf_size, beJ_len]; simp; omega
    · rw [strOf_cat, beJ_succ, show k - 1 - j = x by omega]
  · obtain rfl : j = k := by omega
    exact ⟨rfl, Bx⟩
theorem rpad_ret (bs : List UInt8) (h0 : 0 < bs.length) (hl : bs.length ≤ 64) (w : World) : Calls Try.prog 72 #[.string (strOf bs)] w (Ret (.string (strOf (bodyB bs))) w) := by
  refine ret_in (GFr.rpad_calls (strOf bs) w (fun u w' => u = .string (strOf (bodyB bs)) ∧ Below w.heap.size w w') ?_)
  unfold GFr.rpad_vc
  rw [strOf_size, wr64 (by omega) (by omega)]
  refine ⟨by omega, by omega, by omega, by omega, newB (Bs.refl w) fun g w6 g0 sg n6 z6 b6 B6 => ⟨zerosB (64 - bs.length), by rw [zerosB_len]; omega, ?_, ?_, ?_, B6⟩⟩
  · rw [show ((64 : Int) - (bs.length : Int)).toNat = 64 - bs.length by omega, made_zeros] at n6
    exact RowAt.ofWhole n6
  · rw [strOf_size, zerosB_len]; omega
  · rw [strOf_cat]
    unfold bodyB
    rw [show (64 - bs.length % 64) % 64 = 64 - bs.length by omega]
def layS (gen n : Nat) (b : List UInt8) : List (List UInt8) := headF gen n b :: (List.range (secN b.length - 1)).map (pieceF (b.drop 39))
theorem layS_len (gen n : Nat) (b : List UInt8) : (layS gen n b).length = secN b.length := by
  have := secN_pos b.length
  simp [layS]; omega
def strV (s : List UInt8) : Value := .string (strOf s)
theorem strOf_none (bs : List UInt8) : (strOf bs ≠ (⟨#[]⟩ : ByteArray)) ↔ bs ≠ [] := by
  rw [show (⟨#[]⟩ : ByteArray) = strOf [] from rfl]
  exact ⟨fun h e => h (by rw [e]), fun h e => h (strOf_inj e)⟩
theorem one_str : (⟨#[1]⟩ : ByteArray) = strOf [1] := rfl
theorem two_str : (⟨#[2]⟩ : ByteArray) = strOf [2] := rfl
theorem strOf_pre (bs : List UInt8) (k : Nat) : (strOf bs).extract 0 k = strOf (bs.take k) := by
  rw [strOf_extract]; simp
theorem strOf_post (bs : List UInt8) (k : Nat) : (strOf bs).extract k bs.length = strOf (bs.drop k) := by
  rw [strOf_extract, List.take_of_length_le (by rw [List.length_drop]; omega)]
theorem take_min (bs : List UInt8) (k : Nat) (K : Int) (hK : K = (k : Int)) : bs.take (min (bs.length : Int) K).toNat = bs.take k := by
  subst hK
  rw [show (min (bs.length : Int) (k : Int)).toNat = min bs.length k by omega]
  rcases Nat.le_total bs.length k with h | h
  · rw [Nat.min_eq_left h, List.take_of_length_le h, List.take_length]
  · rw [Nat.min_eq_right h]
theorem drop_min (bs : List UInt8) (k : Nat) (K : Int) (hK : K = (k : Int)) : bs.drop (min (bs.length : Int) K).toNat = bs.drop k := by
  subst hK
  rw [show (min (bs.length : Int) (k : Int)).toNat = min bs.length k by omega]
  rcases Nat.le_total bs.length k with h | h
  · rw [Nat.min_eq_left h, List.drop_of_length_le h, List.drop_of_length_le (Nat.le_refl _)]
  · rw [Nat.min_eq_right h]
def layJ (gen n : Nat) (b : List UInt8) (j : Nat) : List (List UInt8) := headF gen n b :: (List.range j).map (pieceF (b.drop 39))
theorem layJ_succ (gen n : Nat) (b : List UInt8) (j : Nat) : (layJ gen n b (j + 1)).map strV = (layJ gen n b j).map strV ++ [strV (pieceF (b.drop 39) j)] := by
  unfold layJ
  rw [List.range_succ, List.map_append, List.map_cons, List.map_cons, List.map_append]
  rfl
theorem rlay_new (gen n : Nat) {a : Option Addr} {c : Nat} {xs : List Im} (w : World) (hx : Ims w a xs) (hg : gen < 9223372036854775808) (hn : n < 9223372036854775808) (hl : (grpB (recs xs)).length ≤ 1000000) :
    Calls Try.prog 43 #[.int .i64 (gen : Int), .int .i64 (n : Int), .slice a xs.length c] w fun e w' => ∃ a' c', e = .returned (.slice a' (secN (grpB (recs xs)).length) c') ∧ Own w' w.heap.size 9 1 (.slice a' (secN (grpB (recs xs)).length) c') (secN (grpB (recs xs)).length) ((layS gen n (grpB (recs xs))).map strV) ∧ Bs w w' := by
  refine (GFr.rlay_calls gen n a xs.length c w (fun v w' => ∃ a' c', v = .slice a' (secN (grpB (recs xs)).length) c' ∧ Own w' w.heap.size 9 1 (.slice a' (secN (grpB (recs xs)).length) c') (secN (grpB (recs xs)).length) ((layS gen n (grpB (recs xs))).map strV) ∧ Bs w w') ?_).mono (by rintro e w' ⟨v, rfl, a', c', rfl, h⟩; exact ⟨a', c', rfl, h⟩)
  unfold GFr.rlay_vc
  refine callB (Bs.refl w) (rbytes_ret w hx hl) fun w2 b2 B2 => ⟨_, rfl, ?_⟩
  generalize grpB (recs xs) = b at hl ⊢
  rw [wru64 (by omega) (by omega), wru64 (by omega) (by omega), strOf_size, wru64 (by omega) (by omega)]
  refine callB B2 (rnum5_ret gen 8 (by omega) (by omega) w2) fun w3 b3 B3 => ⟨_, rfl, callB B3 (rnum5_ret n 8 (by omega) (by omega) w3) fun w4 b4 B4 => ⟨_, rfl, ?_⟩⟩
  rw [strOf_cat]
  refine ⟨by rw [strOf_size, strOf_size, beB_len, beB_len]; decide, callB B4 (rnum5_ret b.length 4 (by omega) (by omega) w4) fun w5 b5 B5 => ⟨_, rfl, ?_⟩⟩
  rw [strOf_cat, strOf_cat, show beB gen 8 ++ beB n 8 ++ beB b.length 4 = labH gen n b.length from rfl]
  have hl1 := labH_len gen n b.length
  have hlt : more 0 (labH gen n b.length ++ b) < 4294967296 := more_lt _ (by omega)
  refine ⟨by rw [strOf_size, strOf_size, List.length_append, beB_len, beB_len, beB_len]; decide, by rw [strOf_size, hl1]; omega, callB B5 (sum_ret _ (by rw [List.length_append, hl1]; omega) w5) fun w6 b6 B6 => ⟨_, rfl, ?_⟩⟩
  rw [wru64 (by omega) (by omega)]
  refine callB B6 (rnum5_ret _ 4 (by omega) (by omega) w6) fun w7 b7 B7 => ⟨_, rfl, ?_⟩
  rw [one_str, strOf_cat, strOf_cat, strOf_pre, take_min b 39 39 rfl, strOf_cat, strOf_post, drop_min b 39 39 rfl]
  have eh : [1] ++ labH gen n b.length ++ beB (more 0 (labH gen n b.length ++ b)) 4 ++ b.take 39 = headRaw gen n b := by
    unfold headRaw labelB
    simp only [List.append_assoc]
  have e25 : ([1] ++ labH gen n b.length ++ beB (more 0 (labH gen n b.length ++ b)) 4).length = 25 := by simp [hl1, beB_len]
  have hraw := headRaw_len gen n b
  rw [eh]
  refine ⟨by rw [strOf_size, strOf_size, hl1]; decide, by rw [strOf_size, strOf_size, beB_len, List.length_append, hl1]; decide, by omega, by omega, by rw [strOf_size, strOf_size, e25, List.length_take]; omega, callB B7 (rpad_ret _ (by omega) (by omega) w7) fun w8 b8 B8 => ⟨_, rfl, ?_⟩⟩
  refine newB B8 fun g w9 g0 sg n9 z9 b9 B9 => ⟨by omega, by omega, ?_⟩
  have hD : (b.drop 39).length = b.length - 39 := List.length_drop
  have hm : ∀ j, 63 * j < (b.drop 39).length ↔ j + 1 < secN b.length := fun j => by
    rw [hD]; unfold secN; split <;> omega
  have hs1 := secN_pos b.length
  have hs2 : secN b.length ≤ 1000000 := by unfold secN; split <;> omega
  have o9 : Own w9 w.heap.size 9 1 (.slice (some ⟨g, 0, none⟩) 1 1) 1 ((layJ gen n b 0).map strV) :=
    ⟨rfl, .inr ⟨g, 0, 1, _, rfl, g0, n9, Nat.le_refl _, by decide, Nat.le_refl _, rfl⟩⟩
  refine ⟨fun s a11 n11 c11 wx => ∃ j : Nat, j + 1 ≤ secN b.length ∧ s = strOf ((b.drop 39).drop (63 * j)) ∧ n11 = j + 1 ∧ Own wx w.heap.size 9 1 (.slice a11 (j + 1) c11) (j + 1) ((layJ gen n b j).map strV) ∧ Bs w wx, fun s _ _ _ _ => s.size, ⟨0, hs1, rfl, rfl, o9, B9⟩, ?_⟩
  rintro s a11 n11 c11 wx ⟨j, hj, rfl, rfl, hO, Bx⟩
  have hlj : ((b.drop 39).drop (63 * j)).length = (b.drop 39).length - 63 * j := List.length_drop
  refine br_dec (fun h => ?_) fun h => ?_
  · have hne : (b.drop 39).drop (63 * j) ≠ [] := (strOf_none _).1 h
    have hpos : 0 < ((b.drop 39).drop (63 * j)).length := List.length_pos_iff.2 hne
    have hj2 : j + 1 < secN b.length := (hm j).1 (by omega)
    rw [two_str, strOf_size, strOf_pre, take_min _ 63 63 rfl, strOf_cat, strOf_post, drop_min _ 63 63 rfl]
    have hp := rpad_ret ([2] ++ ((b.drop 39).drop (63 * j)).take 63) (by rw [List.length_append]; show 0 < 1 + _; omega) (by rw [List.length_append, List.length_take]; show 1 + _ ≤ 64; omega) wx
    have hsz : (strOf [2]).size + (strOf (((b.drop 39).drop (63 * j)).take 63)).size ≤ 9223372036854775807 := by
      rw [strOf_size, strOf_size, List.length_take]
      show 1 + _ ≤ _
      omega
    refine ⟨by omega, by omega, hsz, ?_⟩
    refine callB Bx hp fun w11 b11 B11 => ⟨_, rfl, newB B11 fun g2 w12 g20 sg2 n12 z12 b12 B12 => ?_⟩
    have hO12 := (hO.below b11 (Nat.le_refl _)).below b12 (Nat.le_refl _)
    refine appF B12 hO12 (Nat.le_refl _) B12.size (src_block (n := 1) (size := 1) (cs := [strV (pieceF (b.drop 39) j)]) Try.underlying76 n12 rfl rfl) (by unfold maxLen; omega) (by omega) fun a5 c5 w5 o5 B5 z5 f5 or5 => ?_
    refine ⟨by omega, by omega, ⟨j + 1, hj2, by rw [List.drop_drop (l := b.drop 39), show 63 * j + 63 = 63 * (j + 1) by omega], rfl, ?_, B5⟩, ?_⟩
    · rw [layJ_succ]; exact o5
    · dsimp only
      rw [strOf_size, strOf_size, List.length_drop, List.length_drop, List.length_drop]; omega
  · have he : (b.drop 39).drop (63 * j) = [] := Decidable.not_not.1 fun e => h ((strOf_none _).2 e)
    have h0 : ((b.drop 39).drop (63 * j)).length = 0 := by rw [he]; rfl
    have hj2 : j + 1 = secN b.length := by
      have := (hm j).2
      omega
    refine ⟨a11, c11, by rw [hj2], ?_, Bx⟩
    have e : layS gen n b = layJ gen n b j := by unfold layS layJ; rw [← hj2, Nat.add_sub_cancel]
    rw [e, ← hj2]
    exact hO
end Go.Proofs.Ytpfmadinijofeaa
end
section
/- Filling a log with groups that all fit; walked. -/
namespace Go.Proofs.Ytpfmadinijofeaa
open Go.RowKit
theorem fi_fit {S0 S : DS} {first size gen : Nat} {G dn : List Grp} {L : LG} {g : Grp} (h : FI S0 first size gen G S L dn) (hs : secN (grpB g).length ≤ L.size - L.used) (ho : (apD S L g).off = false) : apE S L g = 0 := by
  have hlog := h.log
  have he := h.eq
  have hsz : L.size = size := by rw [he]
  have hfi : L.first = first := by rw [he]
  by_cases hne : g = []
  · unfold apE; rw [if_pos hne]
  · rcases ap_cases hlog.calm hlog.off (L := L) (g := g) (by rw [hfi, hsz]; exact hlog.top) (by rw [hsz]; exact hlog.used) hne hs with ⟨e1, _⟩ | ⟨_, _, hp⟩
    · exact e1
    · rw [hp.off] at ho; cases ho
theorem apL_used {S : DS} {L : LG} {g : Grp} : (apL S L g).used ≤ L.used + secN (grpB g).length := by
  unfold apL
  split
  · exact Nat.le_refl _
  · exact Nat.le_add_right _ _
theorem apL_size {S : DS} {L : LG} {g : Grp} : (apL S L g).size = L.size := by
  unfold apL
  split <;> rfl
set_option maxHeartbeats 800000 in
theorem fill_all {w wx : World} {gl g gd mb c s : Nat} {S0 : DS} {first size gen : Nat} {G : List Grp} {L0 : LG} {a : Option Addr} {ys : List Gp} (h : D2 w wx gl g gd mb L0 S0) (hF : FI S0 first size gen G S0 L0 []) (hO : ∀ w', Fr [gl, g, gd, mb] wx w' → Gps w' a ys) (hs : ∀ x, x ∈ grps ys → (grpB x).length ≤ 1000000 ∧ secN (grpB x).length ≤ s) (hfit : L0.used + s * ys.length ≤ L0.size) (hl : ys.length ≤ 1000000) :
    Calls Try.prog 45 #[.pointer (some ⟨gl, 0, none⟩), .pointer (some ⟨g, 0, none⟩), .slice a ys.length c] wx fun e w' => ∃ a8 c8 k a9 n9 c9 T L', e = .returned (.tuple #[.slice a8 k c8, .slice a9 n9 c9]) ∧ D2 w w' gl g gd mb L' T ∧ Fr [gl, g, gd, mb] wx w' ∧ k ≤ ys.length ∧
      (FI S0 first size gen G T L' ((grps ys).take k) ∨ ∃ un, (grps ys)[k]? = some un ∧ FO S0 first size gen G T ((grps ys).take k) un) := by
  refine (GFr.fill_calls (some ⟨gl, 0, none⟩) (some ⟨g, 0, none⟩) a ys.length c wx (fun v w' => ∃ a8 c8 k a9 n9 c9 T L', v = .tuple #[.slice a8 k c8, .slice a9 n9 c9] ∧ D2 w w' gl g gd mb L' T ∧ Fr [gl, g, gd, mb] wx w' ∧ k ≤ ys.length ∧
      (FI S0 first size gen G T L' ((grps ys).take k) ∨ ∃ un, (grps ys)[k]? = some un ∧ FO S0 first size gen G T ((grps ys).take k) un)) ?_).mono (by rintro e w' ⟨v, rfl, a8, c8, k, a9, n9, c9, T, L', rfl, h⟩; exact ⟨a8, c8, k, a9, n9, c9, T, L', rfl, h⟩)
  unfold GFr.fill_vc
  refine ⟨fun a8 n8 c8 x w2 => ∃ (k : Nat) (S : DS) (L : LG), x = k ∧ k ≤ ys.length ∧ n8 = k ∧ Own w2 wx.heap.size 44 1 (.slice a8 k c8) k ((ys.take k).map gpV) ∧ D2 w w2 gl g gd mb L S ∧ Fr [gl, g, gd, mb] wx w2 ∧ FI S0 first size gen G S L ((grps ys).take k) ∧ L.used ≤ L0.used + s * k ∧ L.size = L0.size, fun _ _ _ x _ => (ys.length - x).toNat, ⟨0, S0, L0, rfl, Nat.zero_le _, rfl, Own.nil _ _ _ _, h, Fr.refl _ _, hF, by omega, rfl⟩, ?_⟩
  rintro a8 k c8 x w2 ⟨_, S, L, rfl, hk, rfl, hD, h2, F2, hI, hu, hz⟩
  have z2 := F2.size
  have hlt0 := h.lt
  refine br_dec (fun h1 => ?_) fun h1 => ⟨a8, c8, k, none, 0, 0, S, L, rfl, h2, F2, hk, .inl hI⟩
  have hkl : k < ys.length := by omega
  have hgk : recs ys[k].ims ∈ grps ys := List.mem_map.2 ⟨ys[k], List.getElem_mem hkl, rfl⟩
  have hg? : (grps ys)[k]? = some (recs ys[k].ims) := by unfold grps; rw [List.getElem?_map, List.getElem?_eq_getElem hkl]; rfl
  have htk : (grps ys).take (k + 1) = (grps ys).take k ++ [recs ys[k].ims] := by rw [List.take_add_one, hg?]; rfl
  have hk1 : IntKind.i64.wrap ((k : Int) + 1) = ((k + 1 : Nat) : Int) := by rw [wr64 (by omega) (by omega)]; omega
  have hmul : s * (k + 1) ≤ s * ys.length := Nat.mul_le_mul_left _ hkl
  have hmul2 : s * (k + 1) = s * k + s := Nat.mul_succ s k
  obtain ⟨hs1, hs2⟩ := hs _ hgk
  obtain ⟨b, off, ha, hi⟩ := gps_get (hO w2 F2) k hkl (Bs.refl w2)
  refine withP_mk b off ha ⟨by omega, by omega, _, _, _, by rw [Int.toNat_natCast]; exact cellsAt_get hi.cell 0 _ rfl, ?_⟩
  refine app_d2 h2 hI.lwf hi.row hs1 (fun _ h => by cases h) fun w3 h3 f3 => ⟨_, rfl, ?_⟩
  have F3 : Fr [gl, g, gd, mb] wx w3 := F2.trans f3 (Gr.refl _ _)
  have hD3 : Own w3 wx.heap.size 44 1 (.slice a8 k c8) k ((ys.take k).map gpV) := hD.keep fun q hq => f3.block q (hD.lt q hq).2 fun hm => by have := hlt0 q hm; have := (hD.lt q hq).1; omega
  have z3 := f3.size
  refine callB h3.d.bs (doff_ret h3.d.t) fun w4 b4 B4 => ⟨_, rfl, ?_⟩
  have h4 := h3.below b4
  have F4 := F3.b b4
  have hD4 := hD3.below b4 (Nat.le_refl _)
  have z4 := b4.size
  rcases fi_step hI hs1 with ⟨e1, hFO⟩ | ⟨e1, e2, hFI⟩ | ⟨e1, e2, _⟩
  · rw [e1]
    refine br_t rfl (drewO_in fun w5 b5 e5 => ?_)
    obtain ⟨b', off', ha', hi'⟩ := gps_get (hO w5 (F4.b b5)) k hkl (Bs.refl w5)
    exact withP_mk b' off' ha' ⟨by omega, by omega, _, _, _, by rw [Int.toNat_natCast]; exact cellsAt_get hi'.cell 0 _ rfl, a8, c8, k, _, _, _, _, _, rfl, h4.below b5, F4.b b5, by omega, .inr ⟨_, hg?, hFO⟩⟩
  · rw [e1]
    refine br_f rfl (br_y e2 ?_)
    obtain ⟨b', off', ha', hi'⟩ := gps_get (hO w4 F4) k hkl (Bs.refl w4)
    refine withP_mk b' off' ha' ⟨by omega, by omega, _, _, _, by rw [Int.toNat_natCast]; exact cellsAt_get hi'.cell 0 _ rfl, newB h4.d.bs fun g1 w5 g10 sg1 n5 z5 b5 B5 => ?_⟩
    refine appF B5 (hD4.below b5 (Nat.le_refl _)) h.d.bs.size (by omega) (src_block (n := 1) (size := 1) (cs := [gpV ys[k]]) Try.underlying70 n5 rfl rfl) (by unfold maxLen; omega) (by omega) fun a5 c5 w6 o6 B6 z6 f6 or6 => ?_
    have hD5 := hD4.below b5 (Nat.le_refl _)
    have hlt5 := (h4.below b5).lt
    have kq : ∀ q ∈ [gl, g, gd, mb], w6.heap[q]? = w5.heap[q]? := fun q hq => f6 q (hlt5 q hq) fun e => by have := (hD5.lt q e).1; have := hlt0 q hq; omega
    have F5 := F4.b b5
    refine ⟨⟨k + 1, _, _, hk1, by omega, rfl, ?_, (h4.below b5).keepN B6 kq, ?_, ?_, ?_, ?_⟩, by dsimp only; rw [hk1]; omega⟩
    · rw [List.take_add_one, List.getElem?_eq_getElem hkl, List.map_append]
      exact o6
    · refine ⟨B6.os.trans h.d.bs.os.symm, B6.tape.trans h.d.bs.tape.symm, B6.output.trans h.d.bs.output.symm, by omega, fun q hq hm => (f6 q (by omega) fun e => ?_).trans (F5.block q hq hm)⟩
      have := (hD5.lt q e).1
      omega
    · rw [htk]; exact hFI
    · have := apL_used (S := S) (L := L) (g := recs ys[k].ims)
      omega
    · rw [apL_size, hz]
  · exact absurd (fi_fit hI (by omega) e1) e2
end Go.Proofs.Ytpfmadinijofeaa
end
section
/- FrameForged; walked. -/
namespace Go.Proofs.Ytpfmadinijofeaa
open Go.RowKit
theorem srcS {w : World} (bs : List UInt8) : Src Try.prog 1 9 (.string (strOf bs)) bs.length (bs.map bV) w := by
  have h := Src.ofString (P := Try.prog) (w := w) Try.underlying9 (strOf bs)
  have e : byteCells (strOf bs) = bs.map bV := by unfold byteCells; rw [strOf_list]; rfl
  rwa [e, strOf_size] at h
theorem own_cap {w : World} {n1 c n size : Nat} {e : TypeId} {a : Option Addr} {xs : List Value} (h : Own w n1 e size (.slice a n c) n xs) : n ≤ c ∧ c ≤ maxLen := by
  rcases h.2 with ⟨h0, h1⟩ | ⟨g, off, cap, cur, hv, _, _, h2, h3, _⟩
  · injection h0 with _ h0 hc; subst h0; subst hc; exact ⟨Nat.le_refl _, Nat.zero_le _⟩
  · injection hv with _ _ hc; subst hc; exact ⟨h2, h3⟩
theorem one_ims {w : World} {g c : Nat} {a : Option Addr} {bs : List UInt8} (h : Bk w g #[.slice a bs.length c] 22) (hr : RowAt w a (bs.map bV)) (hc : bs.length ≤ c) (hm : c ≤ maxLen) : Ims w (some ⟨g, 0, none⟩) [⟨a, c, bs⟩] := by
  refine .inr ⟨g, 0, rfl, fun i x hx => ?_⟩
  match i, hx with
  | 0, hx =>
    injection hx with hx
    subst hx
    exact ⟨cellsAt_row h rfl, hr, hc, hm⟩
theorem two_gps {w : World} {g2 g4 g5 : Nat} {x y : Im} (h : Bk w g5 #[.slice (some ⟨g2, 0, none⟩) 1 1, .slice (some ⟨g4, 0, none⟩) 1 1] 44) (hx : Ims w (some ⟨g2, 0, none⟩) [x]) (hy : Ims w (some ⟨g4, 0, none⟩) [y]) : Gps w (some ⟨g5, 0, none⟩) [⟨some ⟨g2, 0, none⟩, 1, [x]⟩, ⟨some ⟨g4, 0, none⟩, 1, [y]⟩] := by
  refine .inr ⟨g5, 0, rfl, fun i x hx' => ?_⟩
  match i, hx' with
  | 0, hx' =>
    injection hx' with hx'
    subst hx'
    exact ⟨cellsAt_row h rfl, hx, Nat.le_refl _, (by unfold maxLen; decide : 1 ≤ maxLen)⟩
  | 1, hx' =>
    injection hx' with hx'
    subst hx'
    exact ⟨cellsAt_row h rfl, hy, Nat.le_refl _, (by unfold maxLen; decide : 1 ≤ maxLen)⟩
theorem Chain.small {S : DS} {first gen s : Nat} : ∀ {gs : List Grp} {p k u : Nat}, Chain S first gen p k gs u → (∀ g, g ∈ gs → secN (grpB g).length ≤ s) → u ≤ p + s * gs.length
  | [], p, k, u, h, _ => by have h : u = p := h; subst h; omega
  | g :: r, p, k, u, h, hs => by
    have h1 := Chain.small h.2.2.2 fun x hx => hs x (List.mem_cons_of_mem _ hx)
    have h2 := hs g List.mem_cons_self
    rw [List.length_cons, Nat.mul_succ]
    omega
theorem full_all {gs : List Grp} (h : ∀ g, g ∈ gs → g ≠ []) : full gs = gs := by
  unfold full
  rw [List.filter_eq_self]
  intro g hg
  have := h g hg
  cases g with
  | nil => exact absurd rfl this
  | cons t r => rfl
def gY : Grp := [[121]]
theorem gY_b : (grpB gY).length ≤ 11 := grpB_small (g := gY) (s := 1) (fun x hx => by rw [show gY = [[121]] from rfl, List.mem_singleton] at hx; subst hx; exact Nat.le_refl _) (by omega)
theorem forged_k1_ok {w wx : World} {gl g gd mb n u : Nat} {G : List Grp} {S : DS} {K : Value → World → Prop} (h : D2 w wx gl g gd mb ⟨3, 24, 5, u, G.length⟩ S) (hL : LogOk S 3 24 5 G u) (hleft : S.left ≤ 0) (hu : u ≤ 20) (hn : n = G.flatten.length) (k : ∀ w', Bs w w' → K (.bool true) w') : GFr.lforged_k1 K (some ⟨g, 0, none⟩) (some ⟨gl, 0, none⟩) n wx := by
  subst hn
  unfold GFr.lforged_k1
  have hcr := hL.chain.recs
  have hlt := h.lt
  refine newB h.d.bs fun g7 w2 g70 sg7 n7 z7 b7 B7 => ⟨fun _ h => (by cases h), _, _, _, n7, fun w3 fr3 n3 f3 z3 => ?_⟩
  have B3 : Bs w w3 := B7.fr1 f3 g70
  have h2 := h.below b7
  have h3 : D2 w w3 gl g gd mb ⟨3, 24, 5, u, G.length⟩ S := h2.keepN B3 fun q hq => f3.block q (by have := hlt q hq; omega) fun e => by rw [List.mem_singleton] at e; have := hlt q hq; omega
  refine newB B3 fun g8 w4 g80 sg8 n8 z8 b8 B8 => ?_
  have h4 := h3.below b8
  have n3' : w4.heap[g7]? = some (.cells (([121] : List UInt8).map bV).toArray 5 fr3) := (b8.block g7 (by omega)).trans n3
  have hI : Ims w4 (some ⟨g8, 0, none⟩) [⟨some ⟨g7, 0, none⟩, 1, [121]⟩] := one_ims n8 (RowAt.ofWhole n3') (Nat.le_refl _) (by unfold maxLen; decide)
  have eR : recs [⟨some ⟨g7, 0, none⟩, 1, [121]⟩] = gY := rfl
  have hb1 := gY_b
  refine app_d2 (c := 1) h4 hL.lwf hI (by rw [eR]; omega) (fun _ h => by cases h) fun w5 h5 f5 => ⟨_, rfl, ?_⟩
  rw [eR] at h5 ⊢
  have hs1 : secN (grpB gY).length = 1 := by unfold secN; rw [if_pos (by omega)]
  rcases ap_cases hL.calm hL.off (L := ⟨3, 24, 5, u, G.length⟩) (g := gY) hL.top hL.used (by decide) (by rw [hs1]; show 1 ≤ 24 - u; omega) with ⟨e1, hp⟩ | ⟨_, hp, _⟩
  · rw [e1]
    refine br_n (by decide) ?_
    have hL5 := hL.put (hL.wf.ap _ _) hp (by decide) (by omega) (by rw [hs1]; omega)
    refine (open_log h5.d hL5).mono ?_
    rintro e w6 ⟨gl2, a6, c6, xs, rfl, hxs, hO6, h6, b6, _⟩
    have hfl : (G ++ [gY]).flatten = G.flatten ++ [[121]] := by rw [List.flatten_append]; rfl
    rw [hfl] at hxs
    have hxl : xs.length = G.flatten.length + 1 := by
      have := congrArg List.length hxs
      rw [recs_len, List.length_append] at this
      exact this
    refine ⟨keepG_nil _ _, _, a6, _, c6, _, rfl, br_y rfl (br_y (by rw [hxl, wr64 (by omega) (by omega)]; rfl) ?_)⟩
    obtain ⟨b, off, ha, hi⟩ := ims_get hO6.ims G.flatten.length (by omega) (Bs.refl w6)
    have hx0 : (xs[G.flatten.length]'(by omega)).bs = [121] := by
      have e1 : (recs xs)[G.flatten.length]'(by rw [recs_len]; omega) = (xs[G.flatten.length]'(by omega)).bs := by simp [recs]
      rw [← e1]
      simp only [hxs]
      rw [List.getElem_append_right (Nat.le_refl _)]
      simp
    refine withP_mk b off ha ⟨by omega, by omega, _, _, _, by rw [Int.toNat_natCast]; exact cellsAt_get hi.cell 0 _ rfl, _, rfl, hi.row, ?_⟩
    rw [hx0, decide_eq_true (show strOf [121] = (⟨#[121]⟩ : ByteArray) from rfl)]
    exact k w6 h6.d.bs
  · omega
theorem crash_d1w {w wx : World} {g gd mb : Nat} {S : DS} (h : D1 w wx g gd mb S) {ka : Option Addr} {kc : Nat} {kept : List Bool} (hr : ∀ w', Fr [g, gd, mb] wx w' → RowAt w' ka (kept.map Value.bool)) {gs : List Nat} (hg : ∀ k ∈ gs, k ∉ [g, gd, mb]) {R : Ending → World → Prop} (k : ∀ w', D1 w w' g gd mb (crashD S kept) → Fr [g, gd, mb] wx w' → R (.returned (.tuple #[])) w') : Calls Try.prog 39 #[.pointer (some ⟨g, 0, none⟩), .slice ka kept.length kc] wx fun e w' => KeepG gs wx w' ∧ R e w' := by
  refine (dcrash_g h.t h.wf hr).mono ?_
  rintro e w2 ⟨rfl, t2, f2⟩
  exact ⟨keepG_fr f2 hg, k w2 (h.to t2 f2 (h.wf.crash kept)) f2⟩
theorem secN_le_of {n m : Nat} (h : n ≤ m) : secN n ≤ 1 + (m + 23) / 63 := by unfold secN; split <;> omega
set_option maxHeartbeats 1600000 in
theorem lforged_walk (a : Option Addr) (c : Nat) (xs : List Im) (x1 x2 : Int) (w : World) (hx : Ims w a xs) :
    Calls Try.prog 11 #[.slice a xs.length c, .int .i64 x1, .int .i64 x2] w (Ret (.bool true) w) := by
  refine ret_in (GFr.lforged_calls a xs.length c x1 x2 w (fun u w' => u = .bool true ∧ Below w.heap.size w w') ?_)
  unfold GFr.lforged_vc
  refine (start_new 24 5 (by omega) (by omega) (by omega) w).mono ?_
  rintro e w2 ⟨gl, g, gd, mb, rfl, h2⟩
  refine ⟨keepG_nil _ _, _, _, _, rfl, callB h2.d.bs (frames_ret w2) fun w3 b3 B3 => ⟨_, rfl, br_f rfl (br_f rfl ⟨by decide, ?_⟩)⟩⟩
  have h3 := h2.below b3
  refine (few_new w3 (hx.below B3) 2 30 (by omega) (by omega)).mono ?_
  rintro e w4 ⟨a4, c4, ys, rfl, hys, hO4, b4⟩
  have h4 := h3.below b4
  have hsm := few_small (recs xs) 2 30 (by omega)
  rw [← hys] at hsm
  obtain ⟨m, hm, em⟩ := u64_mod x1 3 (by omega)
  have em : Int.tmod (IntKind.u64.wrap x1) 3 = (m : Int) := em
  refine ⟨keepG_nil _ _, a4, _, c4, rfl, ?_⟩
  rw [em, wr64 (z := (m : Int)) (by omega) (by omega)]
  refine (rlay_new 5 m w4 hO4.ims (by omega) (by omega) (by omega)).mono ?_
  rintro e w5 ⟨a5, c5, rfl, hO5, b5⟩
  have h5 := h4.below b5
  refine ⟨keepG_nil _ _, a5, _, c5, rfl, ?_⟩
  obtain ⟨b, off, ha, hc⟩ := own_cell hO5 (i := 0) (v := strV (headF 5 m (grpB (recs ys)))) rfl
  have hsp := secN_pos (grpB (recs ys)).length
  have hhl : ((headF 5 m (grpB (recs ys))).take 63).length = 63 := by rw [List.length_take, headF_len]; rfl
  refine withP_mk b off ha ⟨by omega, by omega, _, hc, by omega, by omega, by omega, by omega, newB h5.d.bs fun g6 w6 g60 sg6 n6 z6 b6 B6 => ?_⟩
  clear hc
  generalize headF 5 m (grpB (recs ys)) = hd at hhl ⊢
  rw [show ((38 : Int).toNat * 1) = 38 * 1 from rfl, made_zeros] at n6
  have h6 := h5.below b6
  have hlt5 := h5.lt
  have o6 : Own w6 w5.heap.size 5 1 (.slice (some ⟨g6, 0, none⟩) 38 38) 38 ((zerosB 38).map bV) := own_lit (bs := zerosB 38) n6 (by omega) (by unfold maxLen; decide)
  have hL0 := log_new (n := 29) (first := 3) (size := 24) (gen := 5) (by omega) (by omega) (by omega) (by omega) (by omega)
  refine ⟨fun a11 n11 c11 x wx => ∃ (k : Nat) (bs : List UInt8), x = k ∧ k ≤ 4 ∧ n11 = bs.length ∧ bs.length = 38 + 63 * k ∧ Own wx w5.heap.size 5 1 (.slice a11 bs.length c11) bs.length (bs.map bV) ∧ D2 w wx gl g gd mb ⟨3, 24, 5, 0, 0⟩ (newS 29) ∧ w5.heap.size ≤ wx.heap.size, fun _ _ _ x _ => (4 - x).toNat, ⟨0, zerosB 38, rfl, by omega, rfl, rfl, o6, h6, by omega⟩, ?_⟩
  rintro a11 n11 c11 x wx ⟨k, bs, rfl, hk, rfl, hbl, hO, hD, hz⟩
  refine br_dec (fun h1 => ?_) fun h1 => ?_
  · rw [strOf_pre, show (63 : Int).toNat = 63 from rfl]
    have hk1 : IntKind.i64.wrap ((k : Int) + 1) = ((k + 1 : Nat) : Int) := by rw [wr64 (by omega) (by omega)]; omega
    have hsl : 63 ≤ hd.length := by rw [List.length_take] at hhl; omega
    refine ⟨by omega, by rw [strOf_size]; omega, ?_⟩
    refine appF hD.d.bs hO h5.d.bs.size hz (srcS (hd.take 63)) (by unfold maxLen; omega) (by omega) fun a7 c7 w7 o7 B7 z7 f7 or7 => ?_
    have kq : ∀ q ∈ [gl, g, gd, mb], w7.heap[q]? = wx.heap[q]? := fun q hq => f7 q (hD.lt q hq) fun e => by have := (hO.lt q e).1; have := hlt5 q hq; omega
    refine ⟨⟨k + 1, bs ++ hd.take 63, hk1, by omega, by rw [List.length_append], by rw [List.length_append, hhl]; omega, ?_, hD.keepN B7 kq, by omega⟩, by dsimp only; rw [hk1]; omega⟩
    rw [List.length_append, List.map_append]
    exact o7
  · obtain rfl : k = 4 := by omega
    clear h1
    obtain ⟨m2, hm2, em2⟩ := u64_mod x2 8 (by omega)
    have em2 : Int.tmod (IntKind.u64.wrap x2) 8 = (m2 : Int) := em2
    rw [em2, wr64 (z := (m2 : Int)) (by omega) (by omega)]
    refine ⟨by decide, (dcut_any hD.d.t (m2 : Int)).mono ?_⟩
    rintro e w8 ⟨rfl, t8, f8⟩
    have hL8 := hL0.cut (n := (m2 : Int)) (by omega)
    have hgl := hD.not
    have h8 : D2 w w8 gl g gd mb ⟨3, 24, 5, 0, 0⟩ (cutD (newS 29) m2) := ⟨hD.d.to t8 f8 hL8.wf, Bk.fr hD.lg f8 hgl, hD.l0⟩
    have hO8 : Own w8 w5.heap.size 5 1 (.slice a11 bs.length c11) bs.length (bs.map bV) := hO.keep fun q hq => f8.block q (hO.lt q hq).2 fun hm => by have := hlt5 q (List.mem_cons_of_mem _ hm); have := (hO.lt q hq).1; omega
    have z8 := f8.size
    refine ⟨keepG_nil _ _, rfl, ?_⟩
    refine newB h8.d.bs fun g9 w9 g90 sg9 n9 z9 b9 B9 => newB B9 fun g10 w10 g100 sg10 n10 z10 b10 B10 => ⟨fun _ h => (by cases h), _, _, _, n10, fun w11 fr11 n11 f11 z11 => ?_⟩
    have B11 : Bs w w11 := B10.fr1 f11 g100
    have h10 := (h8.below b9).below b10
    have hlt8 := h8.lt
    have h11 : D2 w w11 gl g gd mb ⟨3, 24, 5, 0, 0⟩ (cutD (newS 29) m2) := h10.keepN B11 fun q hq => f11.block q (by have := hlt8 q hq; omega) fun e => by rw [List.mem_singleton] at e; have := hlt8 q hq; omega
    refine newB B11 fun g12 w12 g120 sg12 n12 z12 b12 B12 => newB B12 fun g13 w13 g130 sg13 n13 z13 b13 B13 => ?_
    have h13 := (h11.below b12).below b13
    have k9 : ∀ q, q < w9.heap.size → w13.heap[q]? = w9.heap[q]? := fun q hq => (b13.block q (by omega)).trans ((b12.block q (by omega)).trans ((f11.block q (by omega) (by rw [List.mem_singleton]; omega)).trans (b10.block q hq)))
    have hO9 := hO8.below b9 (Nat.le_refl _)
    have hO13 : Own w13 w5.heap.size 5 1 (.slice a11 bs.length c11) bs.length (bs.map bV) := hO9.keep fun q hq => k9 q (hO9.lt q hq).2
    have n9' : w13.heap[g9]? = _ := (k9 g9 (by omega)).trans n9
    have n10' : w13.heap[g10]? = some (.cells (([120] : List UInt8).map bV).toArray 5 fr11) := (b13.block g10 (by omega)).trans ((b12.block g10 (by omega)).trans n11)
    have n12' : w13.heap[g12]? = _ := (b13.block g12 (by omega)).trans n12
    have hlt13 := h13.lt
    have hcap := own_cap hO13
    have hG : ∀ w', Fr [gl, g, gd, mb] w13 w' → Gps w' (some ⟨g13, 0, none⟩) [⟨some ⟨g9, 0, none⟩, 1, [⟨a11, c11, bs⟩]⟩, ⟨some ⟨g12, 0, none⟩, 1, [⟨some ⟨g10, 0, none⟩, 1, [120]⟩]⟩] := fun w' F => by
      have kf : ∀ q, w8.heap.size ≤ q → q < w13.heap.size → w'.heap[q]? = w13.heap[q]? := fun q h1 h2 => F.block q h2 fun hm => by have := hlt8 q hm; omega
      have hO' : Own w' w5.heap.size 5 1 (.slice a11 bs.length c11) bs.length (bs.map bV) := hO13.keep fun q hq => F.block q (hO13.lt q hq).2 fun hm => by have := hlt5 q hm; have := (hO13.lt q hq).1; omega
      refine two_gps ((kf g13 (by omega) (by omega)).trans n13) (one_ims ((kf g9 (by omega) (by omega)).trans n9') hO'.row hcap.1 hcap.2) (one_ims ((kf g12 (by omega) (by omega)).trans n12') (RowAt.ofWhole ((kf g10 (by omega) (by omega)).trans n10')) (Nat.le_refl _) (by unfold maxLen; decide))
    have hgb : ∀ x, x ∈ ([[bs], [[120]]] : List Grp) → (grpB x).length ≤ 1000000 ∧ secN (grpB x).length ≤ 6 := fun x hx => by
      have h1 : (grpB x).length ≤ 300 := by
        simp only [List.mem_cons, List.not_mem_nil, or_false] at hx
        rcases hx with rfl | rfl
        · have := grpB_small (g := [bs]) (s := 290) (fun y hy => by rw [List.mem_singleton] at hy; subst hy; omega) (by omega)
          simp only [List.length_singleton] at this
          omega
        · have := grpB_small (g := [[120]]) (s := 290) (fun y hy => by rw [List.mem_singleton] at hy; subst hy; decide) (by omega)
          simp only [List.length_singleton] at this
          omega
      have := secN_le_of h1
      omega
    refine (fill_all (ys := [⟨some ⟨g9, 0, none⟩, 1, [⟨a11, c11, bs⟩]⟩, ⟨some ⟨g12, 0, none⟩, 1, [⟨some ⟨g10, 0, none⟩, 1, [120]⟩]⟩]) (s := 6) h13 (FI.start hL8) hG hgb (show 0 + 6 * 2 ≤ 24 by omega) (show 2 ≤ 1000000 by omega)).mono ?_
    rintro e w14 ⟨a14, c14, k, a15, n15, c15, T, L', rfl, h14, f14, hk2, hcs⟩
    have hG0 : ∀ j, full (([[bs], [[120]]] : List Grp).take j) = ([[bs], [[120]]] : List Grp).take j := fun j => full_all fun x hx => by
      have hx := List.mem_of_mem_take hx
      simp only [List.mem_cons, List.not_mem_nil, or_false] at hx
      rcases hx with rfl | rfl <;> exact List.cons_ne_nil _ _
    have hk2 : k ≤ 2 := hk2
    have hcase : ∃ (j u' : Nat), k ≤ j ∧ j ≤ k + 1 ∧ j ≤ 2 ∧ LogOk (crashD T [true, true, true, false, true, true]) 3 24 5 (([[bs], [[120]]] : List Grp).take j) u' := by
      rcases hcs with hI | ⟨un, hun, hFO⟩
      · have h1 := hI.log.crash [true, true, true, false, true, true]
        rw [show grps _ = ([[bs], [[120]]] : List Grp) from rfl, List.nil_append, hG0] at h1
        exact ⟨k, _, Nat.le_refl _, Nat.le_succ _, hk2, h1⟩
      · have hun : ([[bs], [[120]]] : List Grp)[k]? = some un := hun
        have hk3 : k < 2 := (List.getElem?_eq_some_iff.1 hun).1
        rcases hFO.crash [true, true, true, false, true, true] with ⟨u', h1⟩ | ⟨u', h1⟩
        · rw [show grps _ = ([[bs], [[120]]] : List Grp) from rfl, List.nil_append, hG0] at h1
          exact ⟨k, _, Nat.le_refl _, Nat.le_succ _, hk2, h1⟩
        · rw [show grps _ = ([[bs], [[120]]] : List Grp) from rfl, List.nil_append, hG0] at h1
          refine ⟨k + 1, u', Nat.le_succ _, Nat.le_refl _, hk3, ?_⟩
          rw [List.take_add_one, hun]
          exact h1
    obtain ⟨j, u', hj1, hj2, hj3, hL17⟩ := hcase
    refine ⟨keepG_nil _ _, a14, _, c14, a15, _, c15, rfl, newB h14.d.bs fun g16 w15 g160 sg16 n16 z16 b16 B16 => ?_⟩
    have h15 := h14.below b16
    refine crash_d1w (kept := [true, true, true, false, true, true]) h15.d (fun w' f => RowAt.ofWhole (vs := [true, true, true, false, true, true].map Value.bool) ((f.block g16 (by omega) fun hm => by have := h14.lt g16 (List.mem_cons_of_mem _ hm); omega).trans n16)) (fun k h => by cases h) fun w17 h17 f17 => ⟨rfl, ?_⟩
    refine (open_log h17 hL17).mono ?_
    rintro e w18 ⟨gl2, a18, c18, us, rfl, hus, hO18, h18, b18, _⟩
    refine ⟨keepG_nil _ _, _, a18, _, c18, _, rfl, drewB h18.d.bs fun w19 b19 B19 e19 => br_n (by decide) ?_⟩
    have h19 := h18.below b19
    have hO14 : Own w14 w5.heap.size 5 1 (.slice a11 bs.length c11) bs.length (bs.map bV) := hO13.keep fun q hq => f14.block q (hO13.lt q hq).2 fun hm => by have := hlt5 q hm; have := (hO13.lt q hq).1; omega
    have hO15 := hO14.below b16 (Nat.le_refl _)
    have hO17 : Own w17 w5.heap.size 5 1 (.slice a11 bs.length c11) bs.length (bs.map bV) := hO15.keep fun q hq => f17.block q (hO15.lt q hq).2 fun hm => by have := hlt5 q (List.mem_cons_of_mem _ hm); have := (hO15.lt q hq).1; omega
    have hO19 := (hO17.below b18 (Nat.le_refl _)).below b19 (Nat.le_refl _)
    have hul : us.length = j ∧ ∀ hp : 0 < us.length, us[0].bs = bs := by
      have e1 := congrArg List.length hus
      rw [recs_len] at e1
      have hj : j = 0 ∨ j = 1 ∨ j = 2 := by omega
      rcases hj with rfl | rfl | rfl
      · exact ⟨e1, fun hp => absurd hp (by rw [e1]; exact Nat.lt_irrefl 0)⟩
      · refine ⟨e1, fun hp => ?_⟩
        have e2 : (recs us)[0]'(by rw [recs_len]; exact hp) = us[0].bs := by simp [recs]
        rw [← e2]
        simp only [hus]
        rfl
      · refine ⟨e1, fun hp => ?_⟩
        have e2 : (recs us)[0]'(by rw [recs_len]; exact hp) = us[0].bs := by simp [recs]
        rw [← e2]
        simp only [hus]
        rfl
    obtain ⟨hul, hu0⟩ := hul
    have hsm := hL17.chain.small (s := 6) fun x hx => (hgb x (List.mem_of_mem_take hx)).2
    have hgl2 : (([[bs], [[120]]] : List Grp).take j).length ≤ 2 := by rw [List.length_take]; exact Nat.min_le_right _ _
    have hK : GFr.lforged_k1 (fun u w' => u = .bool true ∧ Below w.heap.size w w') (some ⟨g, 0, none⟩) (some ⟨gl2, 0, none⟩) us.length w19 :=
      forged_k1_ok h19 hL17 (Int.le_refl 0) (by omega) (by rw [← hus, recs_len]) fun w' B => ⟨rfl, B⟩
    refine br_n (by omega) (br_n (by rw [wr64 (by omega) (by omega)]; omega) (br_dec (fun hp => ?_) fun _ => hK))
    obtain ⟨b', off', ha', hi'⟩ := ims_get hO18.ims 0 (by omega) b19
    refine withP_mk b' off' ha' ⟨by omega, by omega, _, _, _, cellsAt_get hi'.cell 0 _ rfl, _, rfl, hi'.row, bs, rfl, hO19.row, br_n ?_ hK⟩
    rw [hu0 (by omega)]
    exact fun h => h rfl
end Go.Proofs.Ytpfmadinijofeaa
end
section
/- FrameLays; walked. -/
namespace Go.Proofs.Ytpfmadinijofeaa
open Go.RowKit
theorem read_1 {S : DS} (ho : S.off = false) {q : Nat} (hq : q < S.n) : mayE S (q : Int) 1 = 0 ∧ readL S (q : Int) 1 = nowS S q := by
  have hm : mayE S (q : Int) 1 = 0 := by unfold mayE; rw [ho, if_neg (by decide), if_pos (by omega)]
  refine ⟨hm, ?_⟩
  unfold readL
  rw [if_pos hm]
  show (List.range 1).flatMap _ = _
  simp
theorem there_lay {S : DS} {q gen n : Nat} {g : Grp} (h : There S q gen n g) {k : Nat} (hk : k < secN (grpB g).length) : (layS gen n (grpB g))[k]? = some (nowS S (q + k)) := by
  unfold layS
  cases k with
  | zero => rw [List.getElem?_cons_zero]; exact congrArg some h.1.symm
  | succ k =>
    rw [List.getElem?_cons_succ, List.getElem?_map, List.getElem?_range (by omega), Option.map_some]
    rw [show q + (k + 1) = q + 1 + k by omega, h.2 k (by omega)]
theorem half_gen (x1 : Int) : ∃ gn : Nat, gn < 9223372036854775808 ∧ IntKind.i64.wrap (Int.fdiv (IntKind.u64.wrap x1) (2 ^ (min (1 : Int).toNat (IntKind.bits .u64)))) = (gn : Int) := by
  have u0 : 0 ≤ IntKind.u64.wrap x1 ∧ IntKind.u64.wrap x1 < 18446744073709551616 := by rw [IntKind.wrap_u64]; omega
  rw [show ((2 : Int) ^ (min (1 : Int).toNat (IntKind.bits .u64))) = 2 from rfl]
  generalize IntKind.u64.wrap x1 = z at u0
  rw [Int.fdiv_eq_ediv_of_nonneg _ (by decide)]
  refine ⟨(z / 2).toNat, by omega, ?_⟩
  rw [wr64 (by omega) (by omega)]
  omega
inductive LayStep (S : DS) (size gen u : Nat) (G : List Grp) (g : Grp) : Prop
  | nil (h : g = []) (e : apE S ⟨3, size, gen, u, G.length⟩ g = 0) (d : apD S ⟨3, size, gen, u, G.length⟩ g = S) (l : apL S ⟨3, size, gen, u, G.length⟩ g = ⟨3, size, gen, u, G.length⟩)
  | full (h : g ≠ []) (hs : size - u < secN (grpB g).length) (e : apE S ⟨3, size, gen, u, G.length⟩ g = 11) (d : apD S ⟨3, size, gen, u, G.length⟩ g = S) (l : apL S ⟨3, size, gen, u, G.length⟩ g = ⟨3, size, gen, u, G.length⟩)
  | put (h : g ≠ []) (hs : secN (grpB g).length ≤ size - u) (e : apE S ⟨3, size, gen, u, G.length⟩ g = 0) (k : LogOk (apD S ⟨3, size, gen, u, G.length⟩ g) 3 size gen (G ++ [g]) (u + secN (grpB g).length)) (left : (apD S ⟨3, size, gen, u, G.length⟩ g).left ≤ 0) (t : There (apD S ⟨3, size, gen, u, G.length⟩ g) (3 + u) gen G.length g) (l : apL S ⟨3, size, gen, u, G.length⟩ g = ⟨3, size, gen, u + secN (grpB g).length, (G ++ [g]).length⟩)
theorem lay_step {S : DS} {size gen u : Nat} {G : List Grp} {g : Grp} (hL : LogOk S 3 size gen G u) (hl : S.left ≤ 0) (hb : (grpB g).length ≤ 1000000) : LayStep S size gen u G g := by
  by_cases h : g = []
  · exact .nil h (by unfold apE; rw [if_pos h]) (by unfold apD; rw [if_pos h]) (by unfold apL; rw [if_neg (fun k => k.1 h)])
  · by_cases hs : size - u < secN (grpB g).length
    · have e1 : apE S ⟨3, size, gen, u, G.length⟩ g = 11 := by unfold apE; rw [if_neg h, if_pos hs]
      exact .full h hs e1 (by unfold apD; rw [if_neg h, if_pos hs]) (by unfold apL; rw [if_neg (fun k => by rw [e1] at k; exact absurd k.2 (by decide))])
    · rcases ap_cases hL.calm hL.off (L := ⟨3, size, gen, u, G.length⟩) (g := g) hL.top hL.used h (by show _ ≤ size - u; omega) with ⟨e1, hp⟩ | ⟨_, hp, _⟩
      · exact .put h (by omega) e1 (hL.put (hL.wf.ap _ _) hp h hb (by omega)) (hp.left0 hl) hp.there (by unfold apL; rw [if_pos ⟨h, e1⟩, List.length_append]; rfl)
      · omega
theorem calm_dirty {S : DS} (h : Calm S) : dirtyI S = [] := by
  have : dirtyL S = [] := by
    unfold dirtyL
    rw [List.filter_eq_nil_iff]
    intro i _
    unfold dirtyS
    rw [h i]
    decide
  unfold dirtyI
  rw [this]
  rfl
structure LayI (w wk wx : World) (n1 gl g gd mb size gen : Nat) (a : Option Addr) (c u : Nat) (S : DS) (G : List Grp) (zs : List Im) : Prop where
  hrec : recs zs = G.flatten
  own : Own wx wk.heap.size 22 1 (.slice a zs.length c) zs.length (zs.map slV)
  rows : ∀ z, z ∈ zs → Own wx n1 5 1 (.slice z.a z.bs.length z.c) z.bs.length (z.bs.map bV)
  kp : ∀ q, n1 ≤ q → q < wk.heap.size → wx.heap[q]? = wk.heap[q]?
  d2 : D2 w wx gl g gd mb ⟨3, size, gen, u, G.length⟩ S
  log : LogOk S 3 size gen G u
  left : S.left ≤ 0
  up : wk.heap.size ≤ wx.heap.size
section
variable {w wk wx wy : World} {n1 gl g gd mb size gen c u : Nat} {a : Option Addr} {S : DS} {G : List Grp} {zs : List Im}
theorem LayI.below (h : LayI w wk wx n1 gl g gd mb size gen a c u S G zs) (b : Below wx.heap.size wx wy) : LayI w wk wy n1 gl g gd mb size gen a c u S G zs :=
  ⟨h.hrec, h.own.below b (Nat.le_refl _), fun z hz => (h.rows z hz).below b (Nat.le_refl _), fun q h1 h2 => (b.block q (Nat.lt_of_lt_of_le h2 h.up)).trans (h.kp q h1 h2), h.d2.below b, h.log, h.left, Nat.le_trans h.up b.size⟩
theorem LayI.ys (h : LayI w wk wx n1 gl g gd mb size gen a c u S G zs) {ay : Option Addr} {cy : Nat} {ys : List Gp} (hO : OwnG wk n1 ay cy ys) : OwnG wx n1 ay cy ys := hO.keep h.kp
end
set_option maxHeartbeats 1600000 in
theorem llays_walk (x0 x1 : Int) (a : Option Addr) (c : Nat) (xs : List Gp) (w : World) (hx : Gps w a xs) :
    Calls Try.prog 8 #[.int .i64 x0, .int .i64 x1, .slice a xs.length c] w (Ret (.bool true) w) := by
  refine ret_in (GFr.llays_calls x0 x1 a xs.length c w (fun u w' => u = .bool true ∧ Below w.heap.size w w') ?_)
  unfold GFr.llays_vc
  obtain ⟨m, hm, em⟩ := u64_mod x0 12 (by omega)
  have em : Int.tmod (IntKind.u64.wrap x0) 12 = (m : Int) := em
  obtain ⟨gn, hgn, eG⟩ := half_gen x1
  rw [eG, em, wr64 (z := (m : Int)) (by omega) (by omega), wr64 (z := 1 + (m : Int)) (by omega) (by omega)]
  obtain ⟨size, hsz, hs1, hs2⟩ : ∃ size : Nat, (1 : Int) + m = (size : Int) ∧ 1 ≤ size ∧ size ≤ 12 := ⟨1 + m, by omega, by omega, by omega⟩
  rw [hsz]
  refine ⟨by decide, by decide, (start_new size gn hs1 (by omega) hgn w).mono ?_⟩
  rintro e w2 ⟨gl, g, gd, mb, rfl, h2⟩
  refine ⟨keepG_nil _ _, _, _, _, rfl, callB h2.d.bs (frames_ret w2) fun w3 b3 B3 => ⟨_, rfl, br_f rfl (br_f rfl ?_)⟩⟩
  have h3 := h2.below b3
  have hlt3 := h3.lt
  refine (lfew_new w3 (hx.below B3)).mono ?_
  rintro e w4 ⟨a4, c4, ys, rfl, hys, hO4, b4⟩
  have h4 := h3.below b4
  have z4 := b4.size
  have hlen := few_len' hys
  have hfew : ∀ x, x ∈ grps ys → (grpB x).length ≤ 640 ∧ x.length ≤ 4 := fun x hx => by rw [hys] at hx; exact fewGs_small x hx
  have hlog := log_new (n := size + 5) (first := 3) (size := size) (gen := gn) (by omega) (by omega) hs1 (by omega) hgn
  refine ⟨keepG_nil _ _, a4, _, c4, rfl, ?_⟩
  refine ⟨fun a11 n11 c11 x12 x13 x14 wx => ∃ (k u : Nat) (S : DS) (G : List Grp) (zs : List Im), x12 = u ∧ x13 = G.length ∧ x14 = k ∧ k ≤ ys.length ∧ n11 = zs.length ∧ zs.length ≤ 4 * k ∧ LayI w w4 wx w3.heap.size gl g gd mb size gn a11 c11 u S G zs, fun _ _ _ _ _ x _ => (ys.length - x).toNat, ⟨0, 0, _, [], [], rfl, rfl, rfl, Nat.zero_le _, rfl, Nat.zero_le _, ⟨rfl, Own.nil _ _ _ _, (fun z hz => by cases hz), (fun _ _ _ => rfl), h4, hlog, Int.le_refl 0, Nat.le_refl _⟩⟩, ?_⟩
  rintro a11 n11 c11 x12 x13 x14 wx ⟨k, u, S, G, zs, rfl, rfl, rfl, hk, rfl, hzl, hI⟩
  have hwl := hI.log.lw
  have hn : S.n ≤ 8192 := hI.d2.d.wf.n2
  refine br_dec (fun h1 => ?_) fun h1 => ?_
  · have hkl : k < ys.length := by omega
    have hgk : recs ys[k].ims ∈ grps ys := List.mem_map.2 ⟨ys[k], List.getElem_mem hkl, rfl⟩
    obtain ⟨hb, h4r⟩ := hfew _ hgk
    rw [recs_len] at h4r
    have hk1 : IntKind.i64.wrap ((k : Int) + 1) = ((k + 1 : Nat) : Int) := by rw [wr64 (by omega) (by omega)]; omega
    have hrow : ∀ {wy : World}, OwnG wy w3.heap.size a4 c4 ys → OwnR wy w3.heap.size ys[k].a ys[k].c ys[k].ims := fun h => h.rows _ (List.getElem_mem hkl)
    obtain ⟨b, off, ha, hc⟩ := (hI.ys hO4).cell hkl
    refine withP_mk b off ha ⟨by omega, by omega, _, _, _, by rw [Int.toNat_natCast]; exact hc, callB hI.d2.d.bs (rbytes_ret wx (hrow (hI.ys hO4)).ims (by omega)) fun w5 b5 B5 => ⟨_, rfl, ?_⟩⟩
    have I5 := hI.below b5
    obtain ⟨b, off, ha, hc⟩ := (I5.ys hO4).cell hkl
    refine withP_mk b off ha ⟨by omega, by omega, _, _, _, by rw [Int.toNat_natCast]; exact hc, ?_⟩
    refine app_d2 I5.d2 hI.log.lwf (hrow (I5.ys hO4)).ims (by omega) (fun _ h => by cases h) fun w6 h6 f6 => ⟨_, rfl, ?_⟩
    have hsecp := secN_pos (grpB (recs ys[k].ims)).length
    have hsec : secN (grpB (recs ys[k].ims)).length ≤ 1000 := by have := secN_le_of (n := (grpB (recs ys[k].ims)).length) (m := 640) hb; omega
    have hY6 : OwnG w6 w3.heap.size a4 c4 ys := (I5.ys hO4).fr f6 hlt3
    have hO6 : Own w6 w4.heap.size 22 1 (.slice a11 zs.length c11) zs.length (zs.map slV) := I5.own.keep fun q hq => f6.block q (I5.own.lt q hq).2 fun hm => by have := hlt3 q hm; have := (I5.own.lt q hq).1; omega
    have hR6 : ∀ z, z ∈ zs → Own w6 w3.heap.size 5 1 (.slice z.a z.bs.length z.c) z.bs.length (z.bs.map bV) := fun z hz => (I5.rows z hz).keep fun q hq => f6.block q ((I5.rows z hz).lt q hq).2 fun hm => by have := hlt3 q hm; have := ((I5.rows z hz).lt q hq).1; omega
    have z6 : w4.heap.size ≤ w6.heap.size := Nat.le_trans I5.up f6.size
    obtain ⟨b, off, ha, hc⟩ := hY6.cell hkl
    refine withP_mk b off ha ⟨by omega, by omega, _, _, _, by rw [Int.toNat_natCast]; exact hc, callB h6.d.bs (rbytes_ret w6 (hrow hY6).ims (by omega)) fun w7 b7 B7 => ⟨_, rfl, br_n (fun h => h rfl) ?_⟩⟩
    have hY7 := hY6.below b7
    obtain ⟨b, off, ha, hc⟩ := hY7.cell hkl
    refine withP_mk b off ha ⟨by omega, by omega, _, _, _, by rw [Int.toNat_natCast]; exact hc, ?_⟩
    have hO7 := hO6.below b7 (Nat.le_refl _)
    have hR7 : ∀ z, z ∈ zs → Own w7 w3.heap.size 5 1 (.slice z.a z.bs.length z.c) z.bs.length (z.bs.map bV) := fun z hz => (hR6 z hz).below b7 (Nat.le_refl _)
    have h7 := h6.below b7
    have kp7 : ∀ q, w3.heap.size ≤ q → q < w4.heap.size → w7.heap[q]? = w4.heap[q]? := fun q h1 h2 => (b7.block q (by omega)).trans ((f6.block q (by have := I5.up; omega) fun hm => by have := hlt3 q hm; omega).trans (I5.kp q h1 h2))
    have z7 : w4.heap.size ≤ w7.heap.size := Nat.le_trans z6 b7.size
    have hstep := lay_step hI.log hI.left (g := recs ys[k].ims) (by omega)
    rcases hstep with ⟨h, e, d, l⟩ | ⟨h, hs, e, d, l⟩ | ⟨h, hs, e, hk', hleft, ht, l⟩
    · rw [d, l] at h7
      rw [e]
      refine br_y (by rw [← recs_len, h]; rfl) (br_n (by decide) ⟨⟨k + 1, u, S, G, zs, rfl, rfl, hk1, by omega, rfl, by omega, hI.hrec, hO7, hR7, kp7, h7, hI.log, hI.left, z7⟩, by dsimp only; rw [hk1]; omega⟩)
    · rw [d, l] at h7
      rw [e]
      have hlen1 : ys[k].ims.length ≠ 0 := fun e => h (List.eq_nil_of_length_eq_zero (by rw [recs_len]; exact e))
      refine br_n (by omega) (withP_mk b off ha ⟨by omega, by omega, _, _, _, by rw [Int.toNat_natCast]; exact hc, (rlay_new gn G.length w7 (hrow hY7).ims hgn (by omega) (by omega)).mono ?_⟩)
      rintro e w8 ⟨a8, c8, rfl, hO8, b8⟩
      refine ⟨keepG_nil _ _, a8, _, c8, rfl, ?_⟩
      rw [wr64 (z := (u : Int) + _) (by omega) (by omega)]
      refine br_y (by omega) (br_n (by decide) ⟨⟨k + 1, u, S, G, zs, rfl, rfl, hk1, by omega, rfl, by omega, hI.hrec, hO7.below b8 (Nat.le_refl _), (fun z hz => (hR7 z hz).below b8 (Nat.le_refl _)), (fun q h1 h2 => (b8.block q (by omega)).trans (kp7 q h1 h2)), h7.below b8, hI.log, hI.left, Nat.le_trans z7 b8.size⟩, by dsimp only; rw [hk1]; omega⟩)
    · rw [l] at h7
      rw [e]
      have hlen1 : ys[k].ims.length ≠ 0 := fun e => h (List.eq_nil_of_length_eq_zero (by rw [recs_len]; exact e))
      refine br_n (by omega) (withP_mk b off ha ⟨by omega, by omega, _, _, _, by rw [Int.toNat_natCast]; exact hc, (rlay_new gn G.length w7 (hrow hY7).ims hgn (by omega) (by omega)).mono ?_⟩)
      rintro e w8 ⟨a8, c8, rfl, hO8, b8⟩
      have h8 := h7.below b8
      refine ⟨keepG_nil _ _, a8, _, c8, rfl, ?_⟩
      rw [wr64 (z := (u : Int) + _) (by omega) (by omega)]
      refine br_n (by omega) ?_
      refine ⟨fun x wy => ∃ j : Nat, x = j ∧ j ≤ secN (grpB (recs ys[k].ims)).length ∧ Below w8.heap.size w8 wy, fun x _ => (secN (grpB (recs ys[k].ims)).length - x).toNat, ⟨0, rfl, Nat.zero_le _, Below.refl _ _⟩, ?_⟩
      rintro x wy ⟨j, rfl, hj, by8⟩
      have hy := h8.below by8
      refine br_dec (fun hjl => ?_) fun hjl => ?_
      · have hjl : j < secN (grpB (recs ys[k].ims)).length := by omega
        obtain ⟨q1, q2⟩ := read_1 hk'.off (q := 3 + u + j) (by have := hk'.lw.1; omega)
        rw [wr64 (z := 3 + (u : Int)) (by omega) (by omega), wr64 (by omega) (by omega), show 3 + (u : Int) + (j : Int) = ((3 + u + j : Nat) : Int) by omega]
        refine (dread_new hy.d.t hy.d.wf ((3 + u + j : Nat) : Int) 1).mono ?_
        rintro e w9 ⟨a9, m9, c9, rfl, hm9, hO9, b9⟩
        rw [q2] at hm9 hO9
        refine ⟨keepG_nil _ _, a9, m9, c9, _, rfl, drewB (hy.d.bs.to b9) fun w10 b10 B10 e10 => br_n (by decide) (br_n (by rw [q1]; decide) ⟨_, hm9.symm, (hO9.below b10 (Nat.le_refl _)).row, ?_⟩)⟩
        have hO10 := ((hO8.below by8 (Nat.le_refl _)).below b9 (Nat.le_refl _)).below b10 (Nat.le_refl _)
        obtain ⟨b', off', ha', hc'⟩ := own_cell hO10 (i := j) (v := strV (nowS (apD S ⟨3, size, gn, u, G.length⟩ (recs ys[k].ims)) (3 + u + j))) (by rw [List.getElem?_map, there_lay ht hjl]; rfl)
        have hj1 : IntKind.i64.wrap ((j : Int) + 1) = ((j + 1 : Nat) : Int) := by rw [wr64 (by omega) (by omega)]; omega
        refine withP_mk b' off' ha' ⟨by omega, by omega, _, by rw [Int.toNat_natCast]; exact hc', br_n (fun h => h rfl) ⟨⟨j + 1, hj1, hjl, Bs.to (Bs.to by8 b9) b10⟩, by dsimp only; rw [hj1]; omega⟩⟩
      · have hYy := (hY7.below b8).below by8
        obtain ⟨b, off, ha, hc⟩ := hYy.cell hkl
        have hs := Src.ofRow (P := Try.prog) (tx := 44) (w := wy) Try.underlying44 ys[k].a ys[k].c (ys[k].ims.map slV) (hrow hYy).own.row (fun u hu => by obtain ⟨x, _, rfl⟩ := List.mem_map.1 hu; rfl)
        rw [List.length_map] at hs
        have hOy := (hO7.below b8 (Nat.le_refl _)).below by8 (Nat.le_refl _)
        have zy : w4.heap.size ≤ wy.heap.size := Nat.le_trans z7 (Nat.le_trans b8.size by8.size)
        refine withP_mk b off ha ⟨by omega, by omega, _, _, _, by rw [Int.toNat_natCast]; exact hc, appF hy.d.bs hOy h4.d.bs.size zy hs (by unfold maxLen; omega) (by omega) fun a9 c9 w9 o9 B9 z9 f9 or9 => ?_⟩
        have kf : ∀ q, q < w4.heap.size → w9.heap[q]? = wy.heap[q]? := fun q hq => f9 q (by omega) fun e => by have := (hOy.lt q e).1; omega
        have hG1 : IntKind.i64.wrap ((G.length : Int) + 1) = (((G ++ [recs ys[k].ims]).length : Nat) : Int) := by rw [wr64 (by omega) (by omega), List.length_append]; simp
        have hzz := by8.size
        have hz8 := b8.size
        refine ⟨⟨k + 1, u + secN (grpB (recs ys[k].ims)).length, apD S ⟨3, size, gn, u, G.length⟩ (recs ys[k].ims), G ++ [recs ys[k].ims], zs ++ ys[k].ims, by omega, hG1, hk1, by omega, by rw [List.length_append], by rw [List.length_append]; omega, ?_, ?_, ?_, ?_, ?_, hk', hleft, by omega⟩, by dsimp only; rw [hk1]; omega⟩
        · show (zs ++ ys[k].ims).map _ = _
          rw [List.map_append, show zs.map (·.bs) = _ from hI.hrec, List.flatten_append]
          simp [recs]
        · rw [List.map_append, List.length_append]; exact o9
        · intro z hz
          have hz2 : Own wy w3.heap.size 5 1 (.slice z.a z.bs.length z.c) z.bs.length (z.bs.map bV) := by
            rcases List.mem_append.1 hz with hz | hz
            · exact ((hR7 z hz).below b8 (Nat.le_refl _)).below by8 (Nat.le_refl _)
            · exact (hrow hYy).rows z hz
          exact hz2.keep fun q hq => f9 q (hz2.lt q hq).2 fun e => own_kinds hOy hz2 (by decide) e hq
        · exact fun q h1 h2 => (kf q h2).trans ((by8.block q (by omega)).trans ((b8.block q (by omega)).trans (kp7 q h1 h2)))
        · exact hy.keepN B9 fun q hq => kf q (by have := hlt3 q hq; omega)
  · have hr := hI.log.chain.recs
    have hzr : zs.length = G.flatten.length := by rw [← hI.hrec, recs_len]
    refine (open_log hI.d2.d hI.log).mono ?_
    rintro e w5 ⟨gl2, a5, c5, us, rfl, hus, hO5, h5, b5, _⟩
    have I5 := hI.below b5
    have hul : us.length ≤ 1000000 := by rw [← recs_len, hus]; omega
    have hZ5 : OwnR w5 w3.heap.size a11 c11 zs := ⟨I5.own.base_le fun q hq => Nat.le_trans z4 (I5.own.lt q hq).1, I5.rows⟩
    refine ⟨keepG_nil _ _, _, a5, _, c5, _, rfl, br_y rfl (callB h5.d.bs (rsame_ret w5 hO5.ims hZ5.ims hul) fun w6 b6 B6 => ⟨_, rfl, ?_⟩)⟩
    rw [decide_eq_true (by rw [hus, hI.hrec])]
    have h6 := h5.below b6
    refine br_t rfl (callB B6 (fleft_ret h6.lg hI.log.lwf hn) fun w7 b7 B7 => ⟨_, rfl, br_y ?_ ?_⟩)
    · show ((size - u : Nat) : Int) = _
      rw [wr64 (by omega) (by omega)]; omega
    have I7 := (I5.below b6).below b7
    refine callB B7 (fleft_ret I7.d2.lg hI.log.lwf hn) fun w8 b8 B8 => ⟨_, rfl, br_y ?_ ?_⟩
    · show ((size - u : Nat) : Int) = _
      rw [wr64 (by omega) (by omega)]; omega
    have h8 := (h6.below b7).below b8
    refine callB B8 (fgroups_ret h8.lg) fun w9 b9 B9 => ⟨_, rfl, br_y rfl ?_⟩
    have h9 := h8.below b9
    refine (ddirty_new h9.d.t h9.d.wf).mono ?_
    rintro e w10 ⟨a10, n10, c10, rfl, hn10, hO10, b10⟩
    rw [calm_dirty hI.log.calm] at hn10
    subst hn10
    exact ⟨keepG_nil _ _, a10, _, c10, rfl, rfl, B9.to b10⟩
end Go.Proofs.Ytpfmadinijofeaa
end
section
/- What the rows of FrameLays and FrameForged need, together. -/
namespace Go.Proofs.Ytpfmadinijofeaa
theorem frRow2_here : True := trivial
end Go.Proofs.Ytpfmadinijofeaa
end
