import Derived.Test.YtpfmadinijofeaaMSl5
import Derived.Test.YtpfmadinijofeaaMSl3
import Derived.Test.YtpfmadinijofeaaProg
import Derived.Test.YtpfmadinijofeaaMSl2
set_option linter.unusedVariables false
section
/- The program's log: a group more; walked. -/
namespace Go.Proofs.Ytpfmadinijofeaa
open Go.RowKit
theorem bodyB_app {a b : List UInt8} (h : a.length % 64 = 0) : bodyB (a ++ b) = a ++ bodyB b := by
  unfold bodyB
  rw [List.length_append, List.append_assoc, show (64 - (a.length + b.length) % 64) % 64 = (64 - b.length % 64) % 64 by omega]
theorem drop_step (d : List UInt8) (j : Nat) : d.drop (63 * (j + 1)) = (d.drop (63 * j)).drop (((d.drop (63 * j)).take 63).length) := by
  by_cases h63 : 63 ≤ (d.drop (63 * j)).length
  · rw [List.length_take, Nat.min_eq_left h63, List.drop_drop, Nat.mul_add]
  · rw [List.length_take, Nat.min_eq_right (by omega), List.drop_length, List.drop_of_length_le (by rw [List.length_drop] at h63; omega)]
theorem tail_any {w : World} {gl g gd mb : Nat} {L : LG} {S : DS} (h : LgAt w gl g L) (t : DkAt w g gd mb S) (hS : DWf S) (hW : LWf S L) (hgl : gl ∉ [g, gd, mb]) {a : Option Addr} {c : Nat} {b : List UInt8} (hr : RowAt w a (b.map bV)) (hl : b.length ≤ 1000000) (hc : b.length ≤ c) :
    Calls Try.prog 62 #[.pointer (some ⟨gl, 0, none⟩), .slice a b.length c] w (DDo w g gd mb (.int .i64 (pwE S ((L.first + L.used + 1 : Nat) : Int) (tailF b))) (pwD S ((L.first + L.used + 1 : Nat) : Int) (tailF b))) := by
  refine ddo_in (GFr.tail_calls (some ⟨gl, 0, none⟩) a b.length c w (DDoV w g gd mb (.int .i64 (pwE S ((L.first + L.used + 1 : Nat) : Int) (tailF b))) (pwD S ((L.first + L.used + 1 : Nat) : Int) (tailF b))) ?_)
  unfold GFr.tail_vc
  have t1 := hW.top
  have t2 := hW.used
  have t3 := hS.n2
  have tl := tailF_len b
  refine br_dec (fun hle => ?_) fun hgt => ?_
  · have e : tailF b = [] := List.eq_nil_of_length_eq_zero (by rw [tl]; unfold secN; rw [if_pos (by omega)])
    exact ddo_no t (Bs.refl w) (by unfold pwE; rw [if_pos e]) (by unfold pwD; rw [if_pos e])
  have hsec : secN b.length - 1 = (b.length + 23) / 63 := by unfold secN; rw [if_neg (by omega)]; omega
  have hne : tailF b ≠ [] := fun e => by rw [e, hsec] at tl; simp at tl; omega
  have e39 : (39 : Int).toNat = 39 := rfl
  rw [e39]
  have hdl : (b.drop 39).length = b.length - 39 := List.length_drop
  refine ⟨by decide, by omega, ?_⟩
  refine ⟨fun a1 m1 c1 a5 n5 c5 wx => ∃ j : Nat, m1 = ((b.drop 39).drop (63 * j)).length ∧ m1 ≤ c1 ∧ RowAt w a1 (((b.drop 39).drop (63 * j)).map bV) ∧ n5 = (tailN (b.drop 39) j).length ∧ Own wx w.heap.size 5 1 (.slice a5 n5 c5) n5 ((tailN (b.drop 39) j).map bV) ∧ Bs w wx ∧ (j = 0 ∨ 63 * (j - 1) < b.length - 39), fun _ m1 _ _ _ _ _ => m1,
    ⟨0, by simp, by omega, by simpa using row_base (c := c) (bs := b) hr hc 39, rfl, Own.nil _ _ _ _, Bs.refl w, .inl rfl⟩, ?_⟩
  rintro a1 m1 c1 a5 n5 c5 wx ⟨j, rfl, hc1, r1, rfl, o5, Bx, hj⟩
  have hrl : ((b.drop 39).drop (63 * j)).length = b.length - 39 - 63 * j := by rw [List.length_drop, hdl]
  have htn := tailN_len (b.drop 39) j
  refine br_dec (fun hpos => ?_) fun hz => ?_
  · have hj1 : j ≤ 20000 := by rcases hj with e | e <;> omega
    refine drewB Bx fun w3 b3 B3 e3 => ⟨by omega, by omega, ?_⟩
    have o5' := o5.below b3 (Nat.le_refl _)
    have hck : (((b.drop 39).drop (63 * j)).take 63).length = (min ((((b.drop 39).drop (63 * j)).length : Nat) : Int) 63).toNat := by rw [List.length_take]; omega
    refine appU B3 o5' (Nat.le_refl _) B3.size (by omega) (b := 2) rfl (fun y hy => by cases hy) fun a6 c6 w6 o6 B6 z6 => ?_
    have rc : RowAt w6 a1 ((((b.drop 39).drop (63 * j)).take 63).map bV) := by rw [List.map_take]; exact (r1.bs B6).take 63
    rw [← hck]
    have hcl : (((b.drop 39).drop (63 * j)).take 63).length ≤ 63 := by rw [List.length_take]; omega
    refine appB B6 o6 (Nat.le_refl _) B6.size (srcB rc) (by unfold maxLen; omega) (by omega) (fun y hy => by cases hy) fun a7 c7 w7 o7 g7 B7 z7 => ?_
    have en : (tailN (b.drop 39) j).length + 1 + (((b.drop 39).drop (63 * j)).take 63).length = (tailN (b.drop 39) j ++ (2 :: ((b.drop 39).drop (63 * j)).take 63)).length := by simp; omega
    rw [en] at o7 ⊢
    have o7 : Own w7 w.heap.size 5 1 (.slice a7 (tailN (b.drop 39) j ++ (2 :: ((b.drop 39).drop (63 * j)).take 63)).length c7) (tailN (b.drop 39) j ++ (2 :: ((b.drop 39).drop (63 * j)).take 63)).length ((tailN (b.drop 39) j ++ (2 :: ((b.drop 39).drop (63 * j)).take 63)).map bV) := by
      rw [← List.map_append, List.append_assoc] at o7
      exact o7
    refine (fpad_on B7 o7 (Nat.le_refl _) B7.size (by rw [← en]; omega)).mono ?_
    rintro e w8 ⟨⟨a8, c8, rfl, o8, B8⟩, z8⟩
    rw [bodyB_app (by rw [htn]; omega), show bodyB (2 :: ((b.drop 39).drop (63 * j)).take 63) = pieceF (b.drop 39) j from rfl, ← tailN_succ] at o8 ⊢
    have hdd := drop_step (b.drop 39) j
    refine ⟨keepG_nil _ _, a8, _, c8, rfl, by omega, by omega, ⟨j + 1, ?_, ?_, ?_, rfl, o8, B8, .inr (by omega)⟩, ?_⟩
    · rw [hdd]; exact List.length_drop.symm
    · omega
    · rw [hdd]
      exact row_base (c := c1) (bs := (b.drop 39).drop (63 * j)) r1 hc1 _
    · dsimp only
      omega
  · have hjm : j = secN b.length - 1 := by rw [hsec]; rcases hj with e | e <;> omega
    subst hjm
    have hcl := tailF_len b
    have o5 : Own wx w.heap.size 5 1 (.slice a5 (tailF b).length c5) (tailF b).length ((tailF b).map bV) := o5
    refine drewB Bx fun w8 b8 B8 e8 => ⟨_, (h.bs B8).cl.1, _, (h.bs B8).cl.2.1, _, (h.bs B8).cl.2.2.2.2.1, ?_⟩
    rw [wr64 (z := (L.first : Int) + L.used) (by omega) (by omega), wr64 (by omega) (by omega), show (L.first : Int) + L.used + 1 = ((L.first + L.used + 1 : Nat) : Int) by omega]
    have o8 := o5.below b8 (Nat.le_refl _)
    have hlt := t.lt
    have hs : secN b.length - 1 ≤ 20000 := by rw [hsec]; omega
    refine (dwrite_any (t.bs B8) hS o8.row (by omega) o8.cap.1 (fun q hq hm => ?_) ((L.first + L.used + 1 : Nat) : Int)).mono ?_
    · subst hq
      have := (o8.lt q.block rfl).1
      simp at hm
      omega
    rintro e w9 ⟨rfl, t9, f9⟩
    have F9 : Fr [g, gd, mb] w w9 := (Fr.ofBelow (L := [g, gd, mb]) B8).trans f9 (Gr.refl _ _)
    refine ⟨keepG_nil _ _, _, rfl, br_dec (fun q1 => ⟨?_, ?_, F9⟩) fun q1 => ?_⟩
    · unfold pwE; rw [if_neg hne, if_pos q1]
    · unfold pwD; rw [if_neg hne, if_pos q1]; exact t9
    have q1 := Decidable.not_not.1 q1
    have h9 : LgAt w9 gl g L := Bk.fr (h.bs B8) f9 hgl
    refine ⟨_, h9.cl.1, (dsync_any t9 (hS.write _ _)).mono ?_⟩
    rintro e w10 ⟨rfl, t10, f10⟩
    refine ⟨keepG_nil _ _, _, rfl, ?_, ?_, F9.trans f10 (Gr.refl _ _)⟩
    · unfold pwE; rw [if_neg hne, if_neg (not_not_intro q1)]
    · unfold pwD; rw [if_neg hne, if_neg (not_not_intro q1)]; exact t10
/-- What an Append leaves. -/
structure ApQ (w : World) (gl g gd mb : Nat) (L : LG) (S : DS) (gr : Grp) (v : Value) (w' : World) : Prop where
  val : v = .int .i64 (apE S L gr)
  dk : DkAt w' g gd mb (apD S L gr)
  lg : LgAt w' gl g (apL S L gr)
  fr : Fr [gl, g, gd, mb] w w'
theorem app_nil (a : Option Addr) (n c : Nat) (w : World) : Calls Try.prog 26 #[.pointer none, .slice a n c] w (Ret (.int .i64 1) w) := by
  refine ret_in (GFr.append_calls none a n c w (fun u w' => u = .int .i64 1 ∧ Below w.heap.size w w') ?_)
  unfold GFr.append_vc
  exact br_t rfl ⟨rfl, Bs.refl w⟩
section
variable {w : World} {gl g gd mb : Nat} {L : LG} {S : DS}
theorem append_k1_ok {w0 wx : World} {gr : Grp} {a14 a8 : Option Addr} {c14 c8 n1 : Nat} (h : LgAt w0 gl g L) (t : DkAt w0 g gd mb (pwD S ((L.first + L.used + 1 : Nat) : Int) (tailF (grpB gr)))) (hS : DWf S) (hW : LWf S L) (hgl : gl ∉ [g, gd, mb]) (F : Fr [gl, g, gd, mb] w w0) (B : Bs w0 wx) (hne : gr ≠ []) (hb : (grpB gr).length ≤ 1000000) (hu : secN (grpB gr).length ≤ L.size - L.used) (hT : pwE S ((L.first + L.used + 1 : Nat) : Int) (tailF (grpB gr)) = 0)
    (r14 : RowAt w0 a14 ((grpB gr).map bV)) (hc : (grpB gr).length ≤ c14) (o8 : Own wx n1 5 1 (.slice a8 25 c8) 25 (([1] ++ labelB L.gen L.groups (grpB gr)).map bV)) (h1 : w0.heap.size ≤ n1) (hn1 : n1 ≤ wx.heap.size) :
    GFr.append_k1 (ApQ w gl g gd mb L S gr) (some ⟨gl, 0, none⟩) a14 (grpB gr).length c14 ((secN (grpB gr).length : Nat) : Int) a8 25 c8 wx := by
  unfold GFr.append_k1
  have t1 := hW.top
  have t2 := hW.used
  have t4 := hW.groups
  have t3 := hS.n2
  have hsl := secN_le (grpB gr).length
  have hck : ((grpB gr).take 39).length = (min (((grpB gr).length : Nat) : Int) 39).toNat := by rw [List.length_take]; omega
  have hcl : ((grpB gr).take 39).length ≤ 39 := by rw [List.length_take]; omega
  have hlt := t.lt
  have hgl0 : gl < w0.heap.size := Bk.lt h
  rw [← hck]
  refine drewB B fun w2 b2 B2 e2 => ⟨_, (h.bs B2).cl.1, _, (h.bs B2).cl.2.1, _, (h.bs B2).cl.2.2.2.2.1, by omega, by omega, ?_⟩
  have r2 : RowAt w2 a14 (((grpB gr).take 39).map bV) := by rw [List.map_take]; exact (r14.bs B2).take 39
  refine appB B2 (o8.below b2 (Nat.le_refl _)) h1 (Nat.le_trans hn1 b2.size) (srcB r2) (by unfold maxLen; omega) (by omega) (fun y hy => by cases hy) fun a3 c3 w3 o3 g3 B3 z3 => ⟨(h.bs B3).cl.1, (h.bs B3).cl.2.1, (h.bs B3).cl.2.2.2.2.1, ?_⟩
  have en : 25 + ((grpB gr).take 39).length = (headRaw L.gen L.groups (grpB gr)).length := by rw [headRaw_len, List.length_take]
  rw [en] at o3 ⊢
  have o3 : Own w3 n1 5 1 (.slice a3 (headRaw L.gen L.groups (grpB gr)).length c3) (headRaw L.gen L.groups (grpB gr)).length ((headRaw L.gen L.groups (grpB gr)).map bV) := by
    rw [← List.map_append] at o3
    exact o3
  refine (fpad_on B3 o3 h1 (Nat.le_trans hn1 (Nat.le_trans b2.size z3)) (by rw [← en]; omega)).mono ?_
  rintro e w4 ⟨⟨a4, c4, he, o4, B4⟩, z4⟩
  rw [show bodyB (headRaw L.gen L.groups (grpB gr)) = headF L.gen L.groups (grpB gr) from rfl] at he o4
  subst he
  have hhl := headF_len L.gen L.groups (grpB gr)
  refine ⟨keepG_nil _ _, a4, _, c4, rfl, (h.bs B4).cl.1, (h.bs B4).cl.2.1, (h.bs B4).cl.2.2.2.2.1, ?_⟩
  rw [wr64 (by omega) (by omega), show (L.first : Int) + L.used = ((L.first + L.used : Nat) : Int) by omega]
  have hS1 := hS.pw ((L.first + L.used + 1 : Nat) : Int) (tailF (grpB gr))
  have hhn : headF L.gen L.groups (grpB gr) ≠ [] := fun e => by rw [e] at hhl; cases hhl
  have eE : apE S L gr = pwE (pwD S ((L.first + L.used + 1 : Nat) : Int) (tailF (grpB gr))) ((L.first + L.used : Nat) : Int) (headF L.gen L.groups (grpB gr)) := by unfold apE; rw [if_neg hne, if_neg (by omega), if_neg (not_not_intro hT)]
  have eD : apD S L gr = pwD (pwD S ((L.first + L.used + 1 : Nat) : Int) (tailF (grpB gr))) ((L.first + L.used : Nat) : Int) (headF L.gen L.groups (grpB gr)) := by unfold apD; rw [if_neg hne, if_neg (by omega), if_neg (not_not_intro hT)]
  generalize pwD S ((L.first + L.used + 1 : Nat) : Int) (tailF (grpB gr)) = T at t hS1 eE eD
  refine (dwrite_any (t.bs B4) hS1 o4.row (by omega) o4.cap.1 (fun q hq hm => ?_) ((L.first + L.used : Nat) : Int)).mono ?_
  · subst hq
    have := (o4.lt q.block rfl).1
    simp at hm
    omega
  rintro e w5 ⟨rfl, t5, f5⟩
  have F5 : Fr [gl, g, gd, mb] w w5 := (F.b B4).trans f5 (fun k hk => .inl (List.mem_cons_of_mem _ hk))
  have h5 : LgAt w5 gl g L := Bk.fr (h.bs B4) f5 hgl
  refine ⟨keepG_nil _ _, _, rfl, br_dec (fun q1 => ?_) fun q1 => ?_⟩
  · have e1 : apE S L gr = writeE T ((L.first + L.used : Nat) : Int) (headF L.gen L.groups (grpB gr)) := by rw [eE]; unfold pwE; rw [if_neg hhn, if_pos q1]
    have e2 : apD S L gr = writeD T ((L.first + L.used : Nat) : Int) (headF L.gen L.groups (grpB gr)) := by rw [eD]; unfold pwD; rw [if_neg hhn, if_pos q1]
    exact ⟨by rw [e1], by rw [e2]; exact t5, by unfold apL; rw [if_neg (by rw [e1]; exact fun k => q1 k.2)]; exact h5, F5⟩
  have q1 := Decidable.not_not.1 q1
  refine ⟨_, h5.cl.1, (dsync_any t5 (hS1.write _ _)).mono ?_⟩
  rintro e w6 ⟨rfl, t6, f6⟩
  have F6 : Fr [gl, g, gd, mb] w w6 := F5.trans f6 (fun k hk => .inl (List.mem_cons_of_mem _ hk))
  have h6 : LgAt w6 gl g L := Bk.fr h5 f6 hgl
  have e1 : apE S L gr = syncE (writeD T ((L.first + L.used : Nat) : Int) (headF L.gen L.groups (grpB gr))) := by rw [eE]; unfold pwE; rw [if_neg hhn, if_neg (not_not_intro q1)]
  have e2 : apD S L gr = syncD (writeD T ((L.first + L.used : Nat) : Int) (headF L.gen L.groups (grpB gr))) := by rw [eD]; unfold pwD; rw [if_neg hhn, if_neg (not_not_intro q1)]
  refine ⟨keepG_nil _ _, _, rfl, br_dec (fun q2 => ?_) fun q2 => ?_⟩
  · exact ⟨by rw [e1], by rw [e2]; exact t6, by unfold apL; rw [if_neg (by rw [e1]; exact fun k => q2 k.2)]; exact h6, F6⟩
  have q2 := Decidable.not_not.1 q2
  have hsz := F6.size
  have eL : apL S L gr = ⟨L.first, L.size, L.gen, L.used + secN (grpB gr).length, L.groups + 1⟩ := by unfold apL; rw [if_pos ⟨hne, by rw [e1]; exact q2⟩]
  refine ⟨_, h6.cl.2.2.2.2.1, ?_⟩
  rw [wr64 (by omega) (by omega)]
  refine stO_bk (show Bk w6 gl _ _ from h6) (by simp) (fun y hy => by cases hy) fun w7 k7 f7 z7 => ?_
  have k7 : LgAt w7 gl g ⟨L.first, L.size, L.gen, L.used + secN (grpB gr).length, L.groups⟩ := k7
  refine ⟨_, k7.cl.2.2.2.2.2, ?_⟩
  rw [wr64 (by show _ ≤ (L.groups : Int) + 1; omega) (by show (L.groups : Int) + 1 ≤ _; omega)]
  refine stO_bk (show Bk w7 gl _ _ from k7) (by simp) (fun y hy => by cases hy) fun w8 k8 f8 z8 => ?_
  have k8 : LgAt w8 gl g ⟨L.first, L.size, L.gen, L.used + secN (grpB gr).length, L.groups + 1⟩ := k8
  have hg1 : ∀ k ∈ [gl], k ∉ [g, gd, mb] := fun k hk hm => by rw [List.mem_singleton] at hk; exact hgl (hk ▸ hm)
  have t8 := (t6.fr f7 (fun e => hgl (by rw [List.mem_singleton] at e; rw [← e]; simp)) (fun e => hgl (by rw [List.mem_singleton] at e; rw [← e]; simp)) (fun e => hgl (by rw [List.mem_singleton] at e; rw [← e]; simp))).fr f8 (fun e => hgl (by rw [List.mem_singleton] at e; rw [← e]; simp)) (fun e => hgl (by rw [List.mem_singleton] at e; rw [← e]; simp)) (fun e => hgl (by rw [List.mem_singleton] at e; rw [← e]; simp))
  exact ⟨by rw [e1, q2], by rw [e2]; exact t8, by rw [eL]; exact k8, (F6.trans f7 (fun k hk => .inl (by rw [List.mem_singleton] at hk; rw [hk]; simp))).trans f8 (fun k hk => .inl (by rw [List.mem_singleton] at hk; rw [hk]; simp))⟩
theorem append_any (h : LgAt w gl g L) (t : DkAt w g gd mb S) (hS : DWf S) (hW : LWf S L) (hgl : gl ∉ [g, gd, mb]) {a : Option Addr} {c : Nat} {xs : List Im} (hx : Ims w a xs) (hb : (grpB (recs xs)).length ≤ 1000000) :
    Calls Try.prog 26 #[.pointer (some ⟨gl, 0, none⟩), .slice a xs.length c] w fun e w' => ∃ v, e = .returned v ∧ ApQ w gl g gd mb L S (recs xs) v w' := by
  refine GFr.append_calls (some ⟨gl, 0, none⟩) a xs.length c w (ApQ w gl g gd mb L S (recs xs)) ?_
  unfold GFr.append_vc
  have t1 := hW.top
  have t2 := hW.used
  have t3 := hS.n2
  have t4 := hW.groups
  have hrc := grpB_count (recs xs)
  have hrl : (recs xs).length = xs.length := by simp [recs]
  have hsl := secN_le (grpB (recs xs)).length
  have sp := secN_pos (grpB (recs xs)).length
  have still : ∀ {wy : World}, Bs w wy → apE S L (recs xs) = 0 ∧ recs xs = [] ∨ apE S L (recs xs) = 11 ∧ recs xs ≠ [] ∧ L.size - L.used < secN (grpB (recs xs)).length → ∀ {z : Int}, z = apE S L (recs xs) → ApQ w gl g gd mb L S (recs xs) (.int .i64 z) wy := fun {wy} B hc {z} hz => by
    refine ⟨by rw [hz], ?_, ?_, Fr.ofBelow B⟩
    · have : apD S L (recs xs) = S := by
        unfold apD
        rcases hc with ⟨_, e⟩ | ⟨_, e1, e2⟩
        · rw [if_pos e]
        · rw [if_neg e1, if_pos e2]
      rw [this]; exact t.bs B
    · have : apL S L (recs xs) = L := by
        unfold apL
        rcases hc with ⟨_, e⟩ | ⟨e0, e1, e2⟩
        · rw [if_neg (fun k => k.1 e)]
        · rw [if_neg (fun k => by rw [e0] at k; exact absurd k.2 (by decide))]
      rw [this]; exact h.bs B
  refine br_f rfl ((fbody_new w hx (by omega) hb fun x hm => ?_).mono ?_)
  · obtain ⟨k, hk, rfl⟩ := List.getElem_of_mem hm
    have := (grpB_one (recs xs) (k := k) (by omega)).1
    have e : (recs xs)[k]'(by omega) = xs[k].bs := by simp [recs]
    rw [e] at this
    omega
  rintro e w2 ⟨a2, c2, rfl, o2, B2⟩
  refine ⟨keepG_nil _ _, a2, _, c2, rfl, callB B2 (fsec_ret (grpB (recs xs)).length (by omega) w2) fun w3 b3 B3 => ⟨_, rfl, br_dec (fun q0 => ?_) fun q0 => drewB B3 fun w4 b4 B4 e4 => br_n (by omega) ⟨_, (h.bs B4).cl.2.2.1, _, (h.bs B4).cl.2.2.2.2.1, ?_⟩⟩⟩
  · have e0 : recs xs = [] := List.eq_nil_of_length_eq_zero (by omega)
    have e1 : apE S L (recs xs) = 0 := by unfold apE; rw [if_pos e0]
    exact still B3 (.inl ⟨e1, e0⟩) e1.symm
  have hne : recs xs ≠ [] := fun e => q0 (by rw [e] at hrl; rw [← hrl]; rfl)
  rw [wr64 (by omega) (by omega)]
  refine br_dec (fun q1 => ?_) fun q1 => ?_
  · have hlt : L.size - L.used < secN (grpB (recs xs)).length := by omega
    have e1 : apE S L (recs xs) = 11 := by unfold apE; rw [if_neg hne, if_pos hlt]
    exact still B4 (.inr ⟨e1, hne, hlt⟩) e1.symm
  have hu : secN (grpB (recs xs)).length ≤ L.size - L.used := by omega
  have o4 := (o2.below b3 (Nat.le_refl _)).below b4 (Nat.le_refl _)
  refine (tail_any (h.bs B4) (t.bs B4) hS hW hgl o4.row hb o4.cap.1).mono ?_
  rintro e w5 ⟨rfl, t5, f5⟩
  have F5 : Fr [gl, g, gd, mb] w w5 := (Fr.ofBelow (L := [gl, g, gd, mb]) B4).trans f5 (fun k hk => .inl (List.mem_cons_of_mem _ hk))
  have h5 : LgAt w5 gl g L := Bk.fr (h.bs B4) f5 hgl
  have hlt := t.lt
  refine ⟨keepG_nil _ _, _, rfl, br_dec (fun q2 => ?_) fun q2 => ?_⟩
  · have e1 : apE S L (recs xs) = pwE S ((L.first + L.used + 1 : Nat) : Int) (tailF (grpB (recs xs))) := by unfold apE; rw [if_neg hne, if_neg (by omega), if_pos q2]
    have e2 : apD S L (recs xs) = pwD S ((L.first + L.used + 1 : Nat) : Int) (tailF (grpB (recs xs))) := by unfold apD; rw [if_neg hne, if_neg (by omega), if_pos q2]
    exact ⟨by rw [e1], by rw [e2]; exact t5, by unfold apL; rw [if_neg (by rw [e1]; exact fun k => q2 k.2)]; exact h5, F5⟩
  have q2 := Decidable.not_not.1 q2
  have o5 : RowAt w5 a2 ((grpB (recs xs)).map bV) := o4.row.frL f5 fun q hq hm => by
    subst hq
    have := (o4.lt q.block rfl).1
    simp at hm
    omega
  have hll := labelB_len L.gen L.groups (grpB (recs xs))
  refine drewO_in fun w6 b6 e6 => ⟨_, (h5.bs b6).cl.2.2.2.1, _, (h5.bs b6).cl.2.2.2.2.2, ?_, ?_⟩
  · refine newB b6 fun g7 w7 g70 sg7 n7 z7 b7 B7 => ⟨(h5.bs B7).cl.2.2.2.1, (h5.bs B7).cl.2.2.2.2.2, (label_new L.gen L.groups hW.gen (by omega) (c := c2) w7 (o5.bs B7) (by omega) o4.cap.1).mono ?_⟩
    rintro e w8 ⟨a8, c8, rfl, o8, b8⟩
    have o7 : Own w7 w5.heap.size 5 1 (.slice (some ⟨g7, 0, none⟩) 1 1) 1 (([1] : List UInt8).map bV) := own_lit (bs := [1]) n7 g70 (by unfold maxLen; decide)
    have B8 := B7.to b8
    refine ⟨keepG_nil _ _, a8, _, c8, rfl, appB B8 (o7.below b8 (Nat.le_refl _)) (Nat.le_refl _) B8.size (srcB o8.row) (by unfold maxLen; omega) (by omega) (fun y hy => by cases hy) fun a9 c9 w9 o9 g9 B9 z9 => ?_⟩
    rw [hll, ← List.map_append] at o9
    rw [hll]
    exact append_k1_ok h5 t5 hS hW hgl F5 B9 hne hb hu q2 o5 o4.cap.1 o9 (Nat.le_refl _) B9.size
  · refine (label_new L.gen L.groups hW.gen (by omega) (c := c2) w6 (o5.bs b6) (by omega) o4.cap.1).mono ?_
    rintro e w8 ⟨a8, c8, rfl, o8, b8⟩
    have B8 := Bs.to b6 b8
    refine ⟨keepG_nil _ _, a8, _, c8, rfl, newB B8 fun g7 w7 g70 sg7 n7 z7 b7 B7 => ?_⟩
    have o7 : Own w7 w5.heap.size 5 1 (.slice (some ⟨g7, 0, none⟩) 1 1) 1 (([1] : List UInt8).map bV) := own_lit (bs := [1]) n7 g70 (by unfold maxLen; decide)
    refine appB B7 o7 (Nat.le_refl _) B7.size (srcB (o8.below b7 (Nat.le_refl _)).row) (by unfold maxLen; omega) (by omega) (fun y hy => by cases hy) fun a9 c9 w9 o9 g9 B9 z9 => ?_
    rw [hll, ← List.map_append] at o9
    rw [hll]
    exact append_k1_ok h5 t5 hS hW hgl F5 B9 hne hb hu q2 o5 o4.cap.1 o9 (Nat.le_refl _) B9.size
end
end Go.Proofs.Ytpfmadinijofeaa
end
section
/- The laws' small functions: Few, a group's bytes and sectors as the document has them, Same, a log at the start; walked. -/
namespace Go.Proofs.Ytpfmadinijofeaa
open Go.RowKit
def fewG (g : Grp) (most size : Nat) : Grp := (g.take most).map (·.take size)
theorem few_new {a : Option Addr} {c : Nat} {xs : List Im} (w : World) (hx : Ims w a xs) (most size : Nat) (hm : most ≤ 1000000) (hs : size ≤ 1000000) :
    Calls Try.prog 23 #[.slice a xs.length c, .int .i64 (most : Int), .int .i64 (size : Int)] w fun e w' => ∃ a' c' ys, e = .returned (.slice a' (ys : List Im).length c') ∧ recs ys = fewG (recs xs) most size ∧ OwnR w' w.heap.size a' c' ys ∧ Bs w w' := by
  refine (GFr.rfew_calls a xs.length c most size w (fun v w' => ∃ a' c' ys, v = .slice a' (ys : List Im).length c' ∧ recs ys = fewG (recs xs) most size ∧ OwnR w' w.heap.size a' c' ys ∧ Bs w w') ?_).mono (by rintro e w' ⟨v, rfl, a', c', ys, rfl, h⟩; exact ⟨a', c', ys, rfl, h⟩)
  unfold GFr.rfew_vc
  have hrl : (recs xs).length = xs.length := by simp [recs]
  refine ⟨fun a7 n7 c7 x wx => ∃ (k : Nat) (ys : List Im), x = k ∧ k ≤ most ∧ k ≤ xs.length ∧ n7 = ys.length ∧ recs ys = fewG ((recs xs).take k) most size ∧ OwnR wx w.heap.size a7 c7 ys ∧ Bs w wx, fun _ _ _ x _ => (most - x).toNat, ⟨0, [], rfl, Nat.zero_le _, Nat.zero_le _, rfl, by simp [recs, fewG], OwnR.nil _ _, Bs.refl w⟩, ?_⟩
  rintro a7 n7 c7 x wx ⟨k, ys, rfl, hkm, hkl, rfl, hys, hO, Bx⟩
  have hyl : ys.length = k := by
    have := congrArg List.length hys
    simp [recs, fewG] at this
    omega
  have fin : ¬ (k < xs.length ∧ k < most) → recs ys = fewG (recs xs) most size := fun hc => by
    rw [hys]
    unfold fewG
    by_cases h : k < xs.length
    · have : k = most := by omega
      subst this
      rw [List.take_take, Nat.min_self]
    · rw [List.take_of_length_le (l := recs xs) (i := k) (by omega)]
  refine br_dec (fun h1 => br_dec (fun h2 => ?_) fun h2 => ⟨a7, c7, ys, rfl, fin (by omega), hO, Bx⟩) fun h1 => ⟨a7, c7, ys, rfl, fin (by omega), hO, Bx⟩
  have hk : k < xs.length := by omega
  refine drewB Bx fun w3 b3 B3 e3 => ?_
  obtain ⟨b, off, ha, hi⟩ := ims_get hx k hk B3
  have hcell : w3.cell? ⟨b, off + (k : Int).toNat * 1, none⟩ = some (.slice xs[k].a xs[k].bs.length xs[k].c) := by rw [Int.toNat_natCast]; exact cellsAt_get hi.cell 0 _ rfl
  have hcap := hi.cap
  refine withP_mk b off ha ⟨by omega, by omega, _, _, _, hcell, withP_mk b off ha ⟨by omega, by omega, _, _, _, hcell, by omega, by omega, ?_⟩⟩
  refine newB B3 fun g w4 g0 sg n4 z4 b4 B4 => ?_
  obtain ⟨b', off', ha', hi4⟩ := ims_get hx k hk B4
  rw [ha] at ha'
  injection ha' with ha'
  injection ha' with e1 e2
  subst e1; subst e2
  have hcell4 : w4.cell? ⟨b, off + (k : Int).toNat * 1, none⟩ = some (.slice xs[k].a xs[k].bs.length xs[k].c) := by rw [Int.toNat_natCast]; exact cellsAt_get hi4.cell 0 _ rfl
  have o4 : Own w4 w.heap.size 5 1 (.slice (some ⟨g, 0, none⟩) 0 0) 0 (([] : List UInt8).map bV) := own_lit (bs := []) n4 g0 (Nat.zero_le _)
  have hl : (xs[k].bs.take size).length = (min ((xs[k].bs.length : Nat) : Int) size).toNat := by rw [List.length_take]; omega
  have r4 : RowAt w4 xs[k].a ((xs[k].bs.take size).map bV) := by rw [List.map_take]; exact hi4.row.take size
  have hls : (xs[k].bs.take size).length ≤ size := by rw [List.length_take]; omega
  refine ⟨hcell4, hcell4, ?_⟩
  rw [← hl]
  refine appF B4 o4 (Nat.le_refl _) B4.size (srcB r4) (by unfold maxLen; omega) (by omega) fun a5 c5 w5 o5 B5 z5 f5 or5 => ?_
  have hO5 : OwnR w5 w.heap.size a7 c7 ys := ⟨((hO.below b3).below b4).own.keep fun q hq => f5 q (((hO.below b3).below b4).own.lt q hq).2 fun e => by injection e with e; subst e; have := (hO.own.lt g hq).2; have := b3.size; omega,
    fun y hy => (((hO.below b3).below b4).rows y hy).keep fun q hq => f5 q ((((hO.below b3).below b4).rows y hy).lt q hq).2 fun e => by injection e with e; subst e; have := ((hO.rows y hy).lt g hq).2; have := b3.size; omega⟩
  rw [Nat.zero_add (xs[k].bs.take size).length] at o5 ⊢
  have hk1 : IntKind.i64.wrap ((k : Int) + 1) = ((k + 1 : Nat) : Int) := by rw [wr64 (by omega) (by omega)]; omega
  refine appR (x := ⟨a5, c5, xs[k].bs.take size⟩) B5 hO5 o5 (Nat.le_refl _) B5.size (by omega) rfl (fun q hq => by cases hq) fun a6 c6 w6 O6 B6 z6 k6 => ⟨⟨k + 1, ys ++ [⟨a5, c5, xs[k].bs.take size⟩], hk1, by omega, by omega, by simp, ?_, O6, B6⟩, by dsimp only; rw [hk1]; omega⟩
  have hgk : (recs xs)[k]'(by omega) = xs[k].bs := by simp [recs]
  show (ys ++ [_]).map _ = _
  rw [List.map_append, show ys.map (·.bs) = fewG ((recs xs).take k) most size from hys]
  unfold fewG
  rw [List.take_of_length_le (l := (recs xs).take k) (by rw [List.length_take]; omega), List.take_of_length_le (l := (recs xs).take (k + 1)) (by rw [List.length_take]; omega), List.take_add_one, List.getElem?_eq_getElem (by omega), hgk, List.map_append]
  rfl
theorem textR_ret (bs : List UInt8) (hl : bs.length ≤ 1000000) (w : World) : Calls Try.prog 70 #[.string (strOf bs)] w (Ret (.string (strOf (textB bs))) w) := fText_any bs (by omega) w
theorem rbytes_ret {a : Option Addr} {c : Nat} {xs : List Im} (w : World) (hx : Ims w a xs) (hl : (grpB (recs xs)).length ≤ 1000000) : Calls Try.prog 42 #[.slice a xs.length c] w (Ret (.string (strOf (grpB (recs xs)))) w) := by
  refine ret_in (GFr.rbytes_calls a xs.length c w (fun u w' => u = .string (strOf (grpB (recs xs))) ∧ Below w.heap.size w w') ?_)
  unfold GFr.rbytes_vc
  have hrl : (recs xs).length = xs.length := by simp [recs]
  have hgc := grpB_count (recs xs)
  refine ⟨fun s x wx => ∃ k : Nat, x = k ∧ k ≤ xs.length ∧ s = strOf (grpB ((recs xs).take k)) ∧ Bs w wx, fun _ x _ => (xs.length - x).toNat, ⟨0, rfl, Nat.zero_le _, rfl, Bs.refl w⟩, ?_⟩
  rintro s x wx ⟨k, rfl, hk, rfl, Bx⟩
  refine br_dec (fun h1 => ?_) fun h1 => ?_
  · have hkl : k < xs.length := by omega
    obtain ⟨b, off, ha, hi⟩ := ims_get hx k hkl Bx
    have hgk : (recs xs)[k]'(by omega) = xs[k].bs := by simp [recs]
    have h1' := (grpB_one (recs xs) (k := k) (by omega)).1
    rw [hgk] at h1'
    have hk1 : IntKind.i64.wrap ((k : Int) + 1) = ((k + 1 : Nat) : Int) := by rw [wr64 (by omega) (by omega)]; omega
    have hle := grpB_le (recs xs) (k + 1)
    have htk := grpB_take (recs xs) (k := k) (by omega)
    rw [hgk] at htk
    refine withP_mk b off ha ⟨by omega, by omega, _, _, _, by rw [Int.toNat_natCast]; exact cellsAt_get hi.cell 0 _ rfl, xs[k].bs, rfl, hi.row, callB Bx (textR_ret xs[k].bs (by omega) wx) fun w3 b3 B3 => ⟨_, rfl, ?_, ⟨k + 1, hk1, by omega, ?_, B3⟩, by dsimp only; rw [hk1]; omega⟩⟩
    · rw [htk, List.length_append] at hle
      rw [strOf_size, strOf_size]; omega
    · rw [strOf_cat, htk]
  · obtain rfl : k = xs.length := by omega
    rw [List.take_of_length_le (by omega)]
    exact ⟨rfl, Bx⟩
theorem rsecs_ret {a : Option Addr} {c : Nat} {xs : List Im} (w : World) (hx : Ims w a xs) (hl : (grpB (recs xs)).length ≤ 1000000) : Calls Try.prog 31 #[.slice a xs.length c] w (Ret (.int .i64 ((secN (grpB (recs xs)).length : Nat) : Int)) w) := by
  refine ret_in (GFr.rsectors_calls a xs.length c w (fun u w' => u = .int .i64 ((secN (grpB (recs xs)).length : Nat) : Int) ∧ Below w.heap.size w w') ?_)
  unfold GFr.rsectors_vc
  refine callB (Bs.refl w) (rbytes_ret w hx hl) fun w2 b2 B2 => ⟨_, rfl, ?_⟩
  rw [strOf_size]
  generalize (grpB (recs xs)).length = n at hl
  refine ⟨fun x y wx => ∃ j : Nat, x = 1 + (j : Int) ∧ y = (n : Int) - 39 - 63 * j ∧ j ≤ 1000000 ∧ (j = 0 ∨ 63 * ((j : Int) - 1) < (n : Int) - 39) ∧ wx = w2, fun _ y _ => y.toNat, ⟨0, rfl, by rw [wr64 (by omega) (by omega)]; omega, by omega, .inl rfl, rfl⟩, ?_⟩
  rintro x y wx ⟨j, rfl, rfl, hj, hc, rfl⟩
  refine br_dec (fun h1 => ⟨⟨j + 1, by rw [wr64 (by omega) (by omega)]; omega, by rw [wr64 (by omega) (by omega)]; omega, by omega, .inr (by omega), rfl⟩, by dsimp only; rw [wr64 (by omega) (by omega)]; omega⟩) fun h1 => ⟨?_, B2⟩
  congr 1
  unfold secN
  split <;> omega
theorem rsame_ret {a1 a2 : Option Addr} {c1 c2 : Nat} {xs ys : List Im} (w : World) (hx : Ims w a1 xs) (hy : Ims w a2 ys) (hl : xs.length ≤ 1000000) : Calls Try.prog 44 #[.slice a1 xs.length c1, .slice a2 ys.length c2] w (Ret (.bool (decide (recs xs = recs ys))) w) := by
  refine ret_in (GFr.rsame_calls a1 xs.length c1 a2 ys.length c2 w (fun u w' => u = .bool (decide (recs xs = recs ys)) ∧ Below w.heap.size w w') ?_)
  unfold GFr.rsame_vc
  have hrx : (recs xs).length = xs.length := by simp [recs]
  have hry : (recs ys).length = ys.length := by simp [recs]
  refine br_dec (fun h0 => ⟨by rw [decide_eq_false fun e => h0 (by rw [← hrx, ← hry, e])], Bs.refl w⟩) fun h0 => ?_
  have hlen : xs.length = ys.length := by omega
  refine ⟨fun x wx => ∃ k : Nat, x = k ∧ k ≤ xs.length ∧ (recs xs).take k = (recs ys).take k ∧ Bs w wx, fun x _ => (xs.length - x).toNat, ⟨0, rfl, Nat.zero_le _, rfl, Bs.refl w⟩, ?_⟩
  rintro x wx ⟨k, rfl, hk, hs, Bx⟩
  refine br_dec (fun h1 => drewB Bx fun w3 b3 B3 e3 => ?_) fun h1 => ?_
  · have hkx : k < xs.length := by omega
    have hky : k < ys.length := by omega
    obtain ⟨b, off, ha, hi⟩ := ims_get hx k hkx B3
    obtain ⟨b', off', ha', hi'⟩ := ims_get hy k hky B3
    have gx : (recs xs)[k]'(by omega) = xs[k].bs := by simp [recs]
    have gy : (recs ys)[k]'(by omega) = ys[k].bs := by simp [recs]
    have hk1 : IntKind.i64.wrap ((k : Int) + 1) = ((k + 1 : Nat) : Int) := by rw [wr64 (by omega) (by omega)]; omega
    refine withP_mk b off ha ⟨by omega, by omega, _, _, _, by rw [Int.toNat_natCast]; exact cellsAt_get hi.cell 0 _ rfl, xs[k].bs, rfl, hi.row, withP_mk b' off' ha' ⟨by omega, by omega, _, _, _, by rw [Int.toNat_natCast]; exact cellsAt_get hi'.cell 0 _ rfl, ys[k].bs, rfl, hi'.row, br_dec (fun hne => ⟨?_, B3⟩) fun heq => ⟨⟨k + 1, hk1, by omega, ?_, B3⟩, by dsimp only; rw [hk1]; omega⟩⟩⟩
    · rw [decide_eq_false fun e => hne ?_]
      have e2 : (recs xs)[k]'(by omega) = (recs ys)[k]'(by omega) := by simp only [e]
      rw [gx, gy] at e2
      rw [e2]
    · rw [List.take_add_one, List.take_add_one, hs, List.getElem?_eq_getElem (by omega), List.getElem?_eq_getElem (by omega), gx, gy, strOf_inj (Decidable.not_not.1 heq)]
  · obtain rfl : k = xs.length := by omega
    rw [List.take_of_length_le (by omega), List.take_of_length_le (by omega)] at hs
    exact ⟨by rw [decide_eq_true hs], Bx⟩
/-! A log at the start. -/
structure D2 (w wx : World) (gl g gd mb : Nat) (L : LG) (S : DS) : Prop where
  d : D1 w wx g gd mb S
  lg : LgAt wx gl g L
  l0 : w.heap.size ≤ gl
theorem lg_not {w : World} {gl g gd mb : Nat} {L : LG} {S : DS} (h : LgAt w gl g L) (t : DkAt w g gd mb S) : gl ∉ [g, gd, mb] := fun hm => by
  obtain ⟨m, hm', _⟩ := t.map
  simp at hm
  rcases hm with e | e | e
  · exact Bk.ne (show Bk w gl _ _ from h) t.blk (by decide) e
  · exact Bk.ne (show Bk w gl _ _ from h) t.lst (by decide) e
  · exact hm'.ne_cells (show Bk w gl _ _ from h) e
section
variable {w wx wy : World} {gl g gd mb : Nat} {L : LG} {S : DS}
theorem D2.below (h : D2 w wx gl g gd mb L S) (b : Below wx.heap.size wx wy) : D2 w wy gl g gd mb L S := ⟨h.d.below b, h.lg.below b, h.l0⟩
theorem D2.not (h : D2 w wx gl g gd mb L S) : gl ∉ [g, gd, mb] := lg_not h.lg h.d.t
theorem D2.g0 (h : D2 w wx gl g gd mb L S) : ∀ k ∈ [gl, g, gd, mb], w.heap.size ≤ k := fun k hk => by
  rcases List.mem_cons.1 hk with rfl | hk
  · exact h.l0
  · exact h.d.g0 k hk
end
theorem start_new (size gen : Nat) (h1 : 1 ≤ size) (h2 : size + 5 ≤ 8192) (h3 : gen < 9223372036854775808) (w : World) : Calls Try.prog 40 #[.int .i64 (size : Int), .int .i64 (gen : Int)] w fun e w' => ∃ gl g gd mb, e = .returned (.tuple #[.pointer (some ⟨gl, 0, none⟩), .pointer (some ⟨g, 0, none⟩), .bool true]) ∧ D2 w w' gl g gd mb ⟨3, size, gen, 0, 0⟩ (newS (size + 5)) := by
  refine (GFr.start_calls size gen w (fun v w' => ∃ gl g gd mb, v = .tuple #[.pointer (some ⟨gl, 0, none⟩), .pointer (some ⟨g, 0, none⟩), .bool true] ∧ D2 w w' gl g gd mb ⟨3, size, gen, 0, 0⟩ (newS (size + 5))) ?_).mono (by rintro e w' ⟨v, rfl, gl, g, gd, mb, rfl, h⟩; exact ⟨gl, g, gd, mb, rfl, h⟩)
  unfold GFr.start_vc
  rw [wr64 (by omega) (by omega), show (size : Int) + 5 = ((size + 5 : Nat) : Int) by omega]
  refine d1_new (size + 5) (by omega) h2 w fun g gd mb w2 hd => ⟨_, _, rfl, ?_⟩
  have hlog := log_new (n := size + 5) (first := 3) (size := size) (gen := gen) (by omega) h2 h1 (by omega) h3
  refine (open_new hd.t hd.wf hlog.off (first := 3) h1 (by show 3 + size ≤ size + 5; omega) h3 hlog.chain hlog.used hlog.stop (by simp)).mono ?_
  rintro e w3 ⟨v, rfl, gl, a, c, xs, rfl, hxs, hO, hL, gl0, b3⟩
  have hx0 : xs = [] := by
    have := congrArg List.length hxs
    simp [recs] at this
    exact this
  subst hx0
  exact ⟨keepG_nil _ _, _, a, _, c, _, rfl, br_y rfl (br_y rfl ⟨gl, g, gd, mb, rfl, hd.below b3, hL, Nat.le_trans hd.bs.size gl0⟩)⟩
end Go.Proofs.Ytpfmadinijofeaa
end
section
/- Groups are there again; FrameOpens; walked. -/
namespace Go.Proofs.Ytpfmadinijofeaa
open Go.RowKit
theorem elder_new {n first size gen : Nat} : Elder (newS n) first size gen := fun _ _ => notHead_zero gen
/-- A log's numbers are in order. -/
theorem LogOk.lwf {S : DS} {first size gen u : Nat} {gs : List Grp} (h : LogOk S first size gen gs u) : LWf S ⟨first, size, gen, u, gs.length⟩ := ⟨h.lw.1, h.lw.2.1, h.lw.2.2.1, h.lw.2.2.2⟩
def G1 : Grp := [[97, 98], zerosB 40]
theorem g1_sec : secN (grpB G1).length = 2 ∧ (grpB G1).length ≤ 1000000 := by decide +kernel
def L0 : LG := ⟨3, 4, 7, 0, 0⟩
theorem g1_put : apE (newS 9) L0 G1 = 0 ∧ Put (newS 9) (apD (newS 9) L0 G1) L0 G1 := by
  rcases ap_cases (S := newS 9) (fun _ => rfl) rfl (L := L0) (g := G1) (by decide) (by decide) (by decide) (by rw [g1_sec.1]; decide) with h | ⟨_, h, _⟩
  · exact h
  · exact absurd h (by decide)
theorem g1_log : LogOk (apD (newS 9) L0 G1) 3 4 7 [G1] 2 ∧ LogOk (apD (newS 9) L0 G1) 3 4 8 [] 0 := by
  have hW : DWf (apD (newS 9) L0 G1) := (newS_wf (by omega) (by omega)).ap _ _
  have hl := log_new (n := 9) (first := 3) (size := 4) (gen := 7) (by omega) (by omega) (by omega) (by omega) (by omega)
  have h1 := hl.put hW g1_put.2 (by decide) g1_sec.2 (by rw [g1_sec.1]; decide)
  rw [g1_sec.1] at h1
  exact ⟨h1, (elder_new.put g1_put.2 (by decide) (by decide) (by decide)).log hW g1_put.2.calm g1_put.2.off (by rw [g1_put.2.n]; decide) (by omega) (by omega)⟩
theorem made_z (n : Nat) : madeCells (Value.cells (.int .u8 0)) (n * 1) = ((List.replicate n (0 : UInt8)).map bV).toArray := by
  rw [List.map_replicate]
  apply Array.ext_getElem?
  intro i
  unfold madeCells
  rw [Array.getElem?_map, Array.getElem?_range, Nat.mul_one, List.getElem?_toArray, List.getElem?_replicate]
  by_cases h : i < n
  · rw [if_pos h, if_pos h]
    show some ((#[Value.int .u8 0] : Array Value)[i % 1]!) = _
    rw [Nat.mod_one]
    rfl
  · rw [if_neg h, if_neg h]
    rfl
theorem fgroups_nil (w : World) : Calls Try.prog 27 #[.pointer none] w (Ret (.int .i64 0) w) := by
  refine ret_in (GFr.groups_calls none w (fun u w' => u = .int .i64 0 ∧ Below w.heap.size w w') ?_)
  unfold GFr.groups_vc
  exact br_t rfl ⟨rfl, Bs.refl w⟩
theorem fleft_nil (w : World) : Calls Try.prog 28 #[.pointer none] w (Ret (.int .i64 0) w) := by
  refine ret_in (GFr.left_calls none w (fun u w' => u = .int .i64 0 ∧ Below w.heap.size w w') ?_)
  unfold GFr.left_vc
  exact br_t rfl ⟨rfl, Bs.refl w⟩
theorem fgen_nil (w : World) : Calls Try.prog 29 #[.pointer none] w (Ret (.int .i64 0) w) := by
  refine ret_in (GFr.gen_calls none w (fun u w' => u = .int .i64 0 ∧ Below w.heap.size w w') ?_)
  unfold GFr.gen_vc
  exact br_t rfl ⟨rfl, Bs.refl w⟩
theorem fnone_ret (w : World) : Calls Try.prog 25 #[] w (Ret (.pointer none) w) := by
  refine ret_in (GFr.none_calls w (fun u w' => u = .pointer none ∧ Below w.heap.size w w') ?_)
  unfold GFr.none_vc
  exact ⟨rfl, Bs.refl w⟩
theorem two_ims {w : World} {g1 g2 g3 : Nat} {b1 b2 : List UInt8} {t1 t2 t3 : TypeId} {f1 f2 : Nat × Nat} (h1 : w.heap[g1]? = some (.cells (b1.map bV).toArray t1 f1)) (h2 : w.heap[g2]? = some (.cells (b2.map bV).toArray t2 f2)) (h3 : Bk w g3 #[.slice (some ⟨g1, 0, none⟩) b1.length b1.length, .slice (some ⟨g2, 0, none⟩) b2.length b2.length] t3) (l1 : b1.length ≤ maxLen) (l2 : b2.length ≤ maxLen) :
    Ims w (some ⟨g3, 0, none⟩) [⟨some ⟨g1, 0, none⟩, b1.length, b1⟩, ⟨some ⟨g2, 0, none⟩, b2.length, b2⟩] := by
  refine .inr ⟨g3, 0, rfl, fun i x hx => ?_⟩
  match i, hx with
  | 0, hx =>
    injection hx with hx
    subst hx
    exact ⟨cellsAt_row h3 rfl, RowAt.ofWhole h1, Nat.le_refl _, l1⟩
  | 1, hx =>
    injection hx with hx
    subst hx
    exact ⟨cellsAt_row h3 rfl, RowAt.ofWhole h2, Nat.le_refl _, l2⟩
theorem app_d2 {w wx : World} {gl g gd mb : Nat} {L : LG} {S : DS} (h : D2 w wx gl g gd mb L S) (hW : LWf S L) {a : Option Addr} {c : Nat} {xs : List Im} (hx : Ims wx a xs) (hb : (grpB (recs xs)).length ≤ 1000000) {gs : List Nat} (hg : ∀ k ∈ gs, k < w.heap.size ∨ wx.heap.size ≤ k) {R : Ending → World → Prop}
    (k : ∀ w', D2 w w' gl g gd mb (apL S L (recs xs)) (apD S L (recs xs)) → Fr [gl, g, gd, mb] wx w' → R (.returned (.int .i64 (apE S L (recs xs)))) w') : Calls Try.prog 26 #[.pointer (some ⟨gl, 0, none⟩), .slice a xs.length c] wx fun e w' => KeepG gs wx w' ∧ R e w' := by
  refine (append_any h.lg h.d.t h.d.wf hW h.not hx hb).mono ?_
  rintro e w' ⟨v, rfl, hq⟩
  have hv := hq.val
  subst hv
  have hlt : ∀ q ∈ [gl, g, gd, mb], q < wx.heap.size := fun q hq => by
    rcases List.mem_cons.1 hq with rfl | hq
    · exact Bk.lt h.lg
    · exact h.d.lt q hq
  exact ⟨keepG_fr hq.fr fun q hq2 hm => by have := hlt q hm; have := h.g0 q hm; have := hg q hq2; omega, k w' ⟨⟨hq.dk, h.d.wf.ap _ _, h.d.bs.fr hq.fr h.g0, h.d.g0⟩, hq.lg, h.l0⟩ hq.fr⟩
theorem frames_ret (w : World) : Calls Try.prog 24 #[] w (Ret (.bool true) w) := by
  refine ret_in (GFr.frames_calls w (fun u w' => u = .bool true ∧ Below w.heap.size w w') ?_)
  unfold GFr.frames_vc
  refine (start_new 4 7 (by omega) (by omega) (by omega) w).mono ?_
  rintro e w2 ⟨gl, g, gd, mb, rfl, h2⟩
  refine ⟨keepG_nil _ _, _, _, _, rfl, br_f rfl (newB h2.d.bs fun g1 w3 g10 sg1 n3 z3 b3 B3 => ⟨fun _ h => (by cases h), _, _, _, n3, fun w4 fr4 n4 f4 z4 => ⟨by decide, by decide, by decide, by decide, ?_⟩⟩)⟩
  have B4 : Bs w w4 := B3.fr1 f4 g10
  have hlt2 : ∀ k ∈ [gl, g, gd, mb], k < w2.heap.size := fun q hq => by
    rcases List.mem_cons.1 hq with rfl | hq
    · exact Bk.lt h2.lg
    · exact h2.d.lt q hq
  have h3 := h2.below b3
  have h4 : D2 w w4 gl g gd mb L0 (newS 9) := ⟨h3.d.box (fun k hk e => by have := hlt2 k (List.mem_cons_of_mem _ hk); omega) g10 ⟨f4, z4⟩, Bk.fr h3.lg f4 (fun e => by rw [List.mem_singleton] at e; have := hlt2 gl (by simp); omega), h3.l0⟩
  refine newB B4 fun g2 w5 g20 sg2 n5 z5 b5 B5 => newB B5 fun g3 w6 g30 sg3 n6 z6 b6 B6 => ?_
  rw [made_z] at n5
  have h6 := (h4.below b5).below b6
  have n4' : w6.heap[g1]? = some (.cells (([97, 98] : List UInt8).map bV).toArray 5 fr4) := (b6.block g1 (by omega)).trans ((b5.block g1 (by omega)).trans n4)
  have n5' : w6.heap[g2]? = some (.cells ((zerosB 40).map bV).toArray 5 (0, 0)) := (b6.block g2 (by omega)).trans n5
  have hI : Ims w6 (some ⟨g3, 0, none⟩) [⟨some ⟨g1, 0, none⟩, 2, [97, 98]⟩, ⟨some ⟨g2, 0, none⟩, 40, zerosB 40⟩] := two_ims n4' n5' n6 (by unfold maxLen; decide) (by unfold maxLen; decide)
  refine app_d2 (c := 2) h6 ⟨by decide, by decide, by decide, by decide⟩ hI g1_sec.2 (fun _ h => by cases h) fun w7 h7 f7 => ⟨_, rfl, ?_⟩
  have eR : recs [⟨some ⟨g1, 0, none⟩, 2, [97, 98]⟩, ⟨some ⟨g2, 0, none⟩, 40, zerosB 40⟩] = G1 := rfl
  rw [eR] at h7 ⊢
  obtain ⟨e0, hp⟩ := g1_put
  obtain ⟨k1, k2⟩ := g1_log
  have eL : apL (newS 9) L0 G1 = ⟨3, 4, 7, 2, [G1].length⟩ := by unfold apL; rw [if_pos ⟨by decide, e0⟩, g1_sec.1]; rfl
  rw [eL] at h7
  rw [e0]
  refine br_n (by decide) (callB h7.d.bs (fleft_ret h7.lg k1.lwf h7.d.wf.n2) fun w8 b8 B8 => ⟨_, rfl, br_n (by decide) (callB B8 (fgroups_ret (h7.lg.below b8)) fun w9 b9 B9 => ⟨_, rfl, br_n (by decide) ?_⟩)⟩)
  have h9 := (h7.below b8).below b9
  refine (open_new h9.d.t h9.d.wf k1.off (first := 3) (size := 4) (gen := 7) (by omega) (by rw [hp.n]; decide) (by omega) k1.chain k1.used k1.stop (by decide)).mono ?_
  rintro e w10 ⟨v, rfl, gl2, a10, c10, xs, rfl, hxs, hO, hL, gl20, b10⟩
  have h10 := h9.below b10
  refine ⟨keepG_nil _ _, _, a10, _, c10, _, rfl, ?_⟩
  refine (open_new h10.d.t h10.d.wf k2.off (first := 3) (size := 4) (gen := 8) (by omega) (by rw [hp.n]; decide) (by omega) k2.chain k2.used k2.stop (by decide)).mono ?_
  rintro e w11 ⟨v, rfl, gl3, a11, c11, ys, rfl, hys, hO2, hL2, gl30, b11⟩
  have B11 := h10.d.bs.to b11
  have hx2 : xs.length = 2 := by
    have := congrArg List.length hxs
    simpa [recs, G1] using this
  have hy0 : ys.length = 0 := by
    have := congrArg List.length hys
    simpa [recs] using this
  refine ⟨keepG_nil _ _, _, a11, _, c11, _, rfl, br_y rfl (br_y rfl (br_y (by omega) ?_))⟩
  obtain ⟨b, off, ha, hi⟩ := ims_get hO.ims 0 (by omega) b11
  have hx0 : (xs[0]'(by omega)).bs = [97, 98] := by
    have e1 : (recs xs)[0]'(by simp [recs]; omega) = (xs[0]'(by omega)).bs := by simp [recs]
    rw [← e1]
    simp only [hxs]
    rfl
  refine withP_mk b off ha ⟨by decide, by omega, _, _, _, cellsAt_get hi.cell 0 _ rfl, _, rfl, hi.row, br_y (by rw [hx0]; rfl) ⟨by rw [decide_eq_true (by omega)], B11⟩⟩
/-! FrameOpens. -/
theorem rec_small (g : Grp) (most size : Nat) : ∀ x, x ∈ fewG g most size → x.length ≤ size := fun x hx => by
  obtain ⟨y, _, rfl⟩ := List.mem_map.1 hx
  rw [List.length_take]
  omega
theorem grpB_small : ∀ {g : Grp} {s : Nat}, (∀ x, x ∈ g → x.length ≤ s) → s ≤ 1000 → (grpB g).length ≤ g.length * (s + 10)
  | [], s, _, _ => Nat.zero_le _
  | t :: r, s, h, hs => by
    have ih := grpB_small (g := r) (s := s) (fun x hx => h x (List.mem_cons_of_mem _ hx)) hs
    have ht := h t (List.mem_cons_self)
    have h10 := grp_len64 (u := t.length) (by omega)
    have e : grpB (t :: r) = textB t ++ grpB r := rfl
    rw [e, List.length_append, List.length_cons, Nat.add_mul]
    unfold textB
    rw [List.length_append]
    omega
theorem few_small (g : Grp) (most size : Nat) (hs : size ≤ 1000) : (grpB (fewG g most size)).length ≤ most * (size + 10) := by
  have h := grpB_small (rec_small g most size) hs
  have hl : (fewG g most size).length ≤ most := by unfold fewG; rw [List.length_map, List.length_take]; omega
  exact Nat.le_trans h (Nat.mul_le_mul_right _ hl)
theorem lopens_walk (x0 first size gen : Int) (a : Option Addr) (c : Nat) (xs : List Im) (w : World) (h1 : -9223372036854775808 ≤ first ∧ first ≤ 9223372036854775807) (h2 : -9223372036854775808 ≤ size ∧ size ≤ 9223372036854775807) (h3 : gen ≤ 9223372036854775807) (hx : Ims w a xs) :
    Calls Try.prog 5 #[.int .i64 x0, .agg #[.int .i64 first, .int .i64 size, .int .i64 gen], .slice a xs.length c] w (Ret (.bool true) w) := by
  refine ret_in (GFr.lopens_calls x0 first size gen a xs.length c w (fun u w' => u = .bool true ∧ Below w.heap.size w w') ?_)
  unfold GFr.lopens_vc
  obtain ⟨m, hm, em⟩ := u64_mod x0 20 (by omega)
  have em : Int.tmod (IntKind.u64.wrap x0) 20 = (m : Int) := em
  rw [em, wr64 (z := (m : Int)) (by omega) (by omega)]
  obtain ⟨n, hn⟩ : ∃ n : Nat, n = m + 1 := ⟨_, rfl⟩
  have hn2 : IntKind.i64.wrap (1 + (m : Int)) = (n : Int) := by rw [wr64 (by omega) (by omega)]; omega
  rw [hn2]
  refine newB (Bs.refl w) fun g0 w2 g00 sg0 n2 z2 b2 B2 => ⟨by decide, ?_⟩
  refine (dnew_new n (by omega) (by omega) w2).mono ?_
  rintro e w3 ⟨g, gd, mb, rfl, t3, gg, ggl, gmb, b3⟩
  have hd : D1 w w3 g gd mb (newS n) := ⟨t3, newS_wf (by omega) (by omega), B2.to b3, fun k hk => by simp at hk; omega⟩
  refine ⟨keepG_below b3, _, _, rfl, by decide, drewO_in fun w4 b4 e4 => ?_⟩
  have hd4 := hd.below b4
  -- what Open tells
  have key : ((first < 0 ∨ gen < 0 ∨ size < 1 ∨ size > n ∨ first > n - size) ∧ Calls Try.prog 22 #[.pointer (some ⟨g, 0, none⟩), .int .i64 first, .int .i64 size, .int .i64 gen] w4 (Ret (.tuple #[.pointer none, .slice none 0 0, .int .i64 1]) w4)) ∨
      (¬ (first < 0 ∨ gen < 0 ∨ size < 1 ∨ size > n ∨ first > n - size) ∧ Calls Try.prog 22 #[.pointer (some ⟨g, 0, none⟩), .int .i64 first, .int .i64 size, .int .i64 gen] w4 fun e w' => ∃ gl a' c', e = .returned (.tuple #[.pointer (some ⟨gl, 0, none⟩), .slice a' 0 c', .int .i64 0]) ∧ LgAt w' gl g ⟨first.toNat, size.toNat, gen.toNat, 0, 0⟩ ∧ Bs w4 w') := by
    by_cases hb : first < 0 ∨ gen < 0 ∨ size < 1 ∨ size > n ∨ first > n - size
    · exact .inl ⟨hb, open_no hd4.t hd4.wf first size gen h1.2 h2.2 hb⟩
    · refine .inr ⟨hb, ?_⟩
      obtain ⟨fi, rfl⟩ : ∃ k : Nat, first = (k : Int) := ⟨first.toNat, by omega⟩
      obtain ⟨si, rfl⟩ : ∃ k : Nat, size = (k : Int) := ⟨size.toNat, by omega⟩
      obtain ⟨gi, rfl⟩ : ∃ k : Nat, gen = (k : Int) := ⟨gen.toNat, by omega⟩
      have hlog := log_new (n := n) (first := fi) (size := si) (gen := gi) (by omega) (by omega) (by omega) (by omega) (by omega)
      refine (open_new hd4.t hd4.wf hlog.off (first := fi) (size := si) (gen := gi) (by omega) (by show fi + si ≤ n; omega) (by omega) hlog.chain hlog.used hlog.stop (by simp)).mono ?_
      rintro e w5 ⟨v, rfl, gl, a5, c5, ys, rfl, hys, hO, hL, gl0, b5⟩
      have hy0 : ys.length = 0 := by
        have := congrArg List.length hys
        simpa [recs] using this
      rw [hy0]
      exact ⟨gl, a5, c5, rfl, hL, b5⟩
  rcases key with ⟨hb, hcall⟩ | ⟨hb, hcall⟩
  · refine callB hd4.bs hcall fun w5 b5 B5 => ⟨_, _, _, _, _, rfl, callB B5 (open_nil 0 1 0 w5) fun w6 b6 B6 => ⟨_, _, _, _, _, rfl, (few_new w6 (hx.below B6) 6 200 (by omega) (by omega)).mono ?_⟩⟩
    rintro e w7 ⟨a7, c7, ys, rfl, hys, hO, b7⟩
    have B7 := B6.to b7
    have hsm : (grpB (recs ys)).length ≤ 1000000 := by
      have := few_small (recs xs) 6 200 (by omega)
      rw [hys]; omega
    refine ⟨keepG_below b7, a7, _, c7, rfl, callB B7 (frames_ret w7) fun w8 b8 B8 => ⟨_, rfl, br_f rfl (br_n (by decide) (br_n (by decide) ?_))⟩⟩
    refine callB B8 (fnone_ret w8) fun w9 b9 B9 => ⟨_, rfl, callB B9 (app_nil none 0 0 w9) fun w10 b10 B10 => ⟨_, rfl, br_n (by decide) ?_⟩⟩
    refine callB B10 (fnone_ret w10) fun w11 b11 B11 => ⟨_, rfl, callB B11 (fgroups_nil w11) fun w12 b12 B12 => ⟨_, rfl, br_n (by decide) ?_⟩⟩
    refine callB B12 (fnone_ret w12) fun w13 b13 B13 => ⟨_, rfl, callB B13 (fleft_nil w13) fun w14 b14 B14 => ⟨_, rfl, br_n (by decide) ?_⟩⟩
    refine callB B14 (fnone_ret w14) fun w15 b15 B15 => ⟨_, rfl, callB B15 (fgen_nil w15) fun w16 b16 B16 => ⟨_, rfl, br_n (by decide) ?_⟩⟩
    have hO16 := ((((((((hO.below b8).below b9).below b10).below b11).below b12).below b13).below b14).below b15).below b16
    refine callB B16 (fsecx_ret w16 hO16.ims hsm) fun w17 b17 B17 => ⟨_, rfl, callB B17 (rsecs_ret w17 (hO16.below b17).ims hsm) fun w18 b18 B18 => ⟨_, rfl, br_n (fun e => e rfl) ?_⟩⟩
    have fin : br (decide ((1 : Int) = 1)) (Value.bool (Option.isNone (none : Option Addr)) = .bool true ∧ Below w.heap.size w w18) (Value.bool false = .bool true ∧ Below w.heap.size w w18) := br_y rfl ⟨rfl, B18⟩
    refine br_dec (fun _ => fin) fun q1 => br_dec (fun _ => fin) fun q2 => br_dec (fun _ => fin) fun q3 => br_dec (fun _ => fin) fun q4 => ?_
    rw [wr64 (by omega) (by omega)]
    exact br_dec (fun _ => fin) fun q5 => absurd hb (by omega)
  · refine hcall.mono ?_
    rintro e w5 ⟨gl, a5, c5, rfl, hL, b5⟩
    have B5 := hd4.bs.to b5
    have hd5 := hd4.below b5
    refine ⟨keepG_below b5, _, a5, _, c5, _, rfl, callB B5 (open_nil 0 1 0 w5) fun w6 b6 B6 => ⟨_, _, _, _, _, rfl, (few_new w6 (hx.below B6) 6 200 (by omega) (by omega)).mono ?_⟩⟩
    rintro e w7 ⟨a7, c7, ys, rfl, hys, hO, b7⟩
    have B7 := B6.to b7
    have hsm : (grpB (recs ys)).length ≤ 1000000 := by
      have := few_small (recs xs) 6 200 (by omega)
      rw [hys]; omega
    refine ⟨keepG_below b7, a7, _, c7, rfl, callB B7 (frames_ret w7) fun w8 b8 B8 => ⟨_, rfl, br_f rfl (br_n (by decide) (br_n (by decide) ?_))⟩⟩
    refine callB B8 (fnone_ret w8) fun w9 b9 B9 => ⟨_, rfl, callB B9 (app_nil none 0 0 w9) fun w10 b10 B10 => ⟨_, rfl, br_n (by decide) ?_⟩⟩
    refine callB B10 (fnone_ret w10) fun w11 b11 B11 => ⟨_, rfl, callB B11 (fgroups_nil w11) fun w12 b12 B12 => ⟨_, rfl, br_n (by decide) ?_⟩⟩
    refine callB B12 (fnone_ret w12) fun w13 b13 B13 => ⟨_, rfl, callB B13 (fleft_nil w13) fun w14 b14 B14 => ⟨_, rfl, br_n (by decide) ?_⟩⟩
    refine callB B14 (fnone_ret w14) fun w15 b15 B15 => ⟨_, rfl, callB B15 (fgen_nil w15) fun w16 b16 B16 => ⟨_, rfl, br_n (by decide) ?_⟩⟩
    have hO16 := ((((((((hO.below b8).below b9).below b10).below b11).below b12).below b13).below b14).below b15).below b16
    refine callB B16 (fsecx_ret w16 hO16.ims hsm) fun w17 b17 B17 => ⟨_, rfl, callB B17 (rsecs_ret w17 (hO16.below b17).ims hsm) fun w18 b18 B18 => ⟨_, rfl, br_n (fun e => e rfl) ?_⟩⟩
    have hL18 := ((((((((((((hL.bs b6).bs b7).bs b8).bs b9).bs b10).bs b11).bs b12).bs b13).bs b14).bs b15).bs b16).bs b17).bs b18
    have hW : LWf (newS n) ⟨first.toNat, size.toNat, gen.toNat, 0, 0⟩ := ⟨by show first.toNat + size.toNat ≤ n; omega, Nat.zero_le _, Nat.le_refl _, by show gen.toNat < _; omega⟩
    refine br_n (by omega) (br_n (by omega) (br_n (by omega) (br_n (by omega) ?_)))
    rw [wr64 (by omega) (by omega)]
    refine br_n (by omega) (br_y rfl (br_y rfl (callB B18 (fleft_ret hL18 hW (by show n ≤ 8192; omega)) fun w19 b19 B19 => ⟨_, rfl, br_y (by show ((size.toNat - 0 : Nat) : Int) = size; omega) (callB B19 (fgen_ret (hL18.bs b19)) fun w20 b20 B20 => ⟨_, rfl, br_y (by show ((gen.toNat : Nat) : Int) = gen; omega) (callB B20 (fgroups_ret ((hL18.bs b19).bs b20)) fun w21 b21 B21 => ⟨_, rfl, rfl, B21⟩)⟩)⟩)))
end Go.Proofs.Ytpfmadinijofeaa
end
section
/- Rows of groups, few of them, filling a log; walked. -/
namespace Go.Proofs.Ytpfmadinijofeaa
open Go.RowKit
def gpV (x : Gp) : Value := .slice x.a x.ims.length x.c
def grps (xs : List Gp) : List Grp := xs.map fun x => recs x.ims
structure OwnG (w : World) (n1 : Nat) (a : Option Addr) (c : Nat) (xs : List Gp) : Prop where
  own : Own w n1 44 1 (.slice a xs.length c) xs.length (xs.map gpV)
  rows : ∀ x, x ∈ xs → OwnR w n1 x.a x.c x.ims
section
variable {w w' : World} {n1 c : Nat} {a : Option Addr} {xs : List Gp}
theorem OwnG.nil (w : World) (n1 : Nat) : OwnG w n1 none 0 [] := ⟨Own.nil _ _ _ _, fun x hx => by cases hx⟩
theorem OwnG.keep (h : OwnG w n1 a c xs) (hk : ∀ k, n1 ≤ k → k < w.heap.size → w'.heap[k]? = w.heap[k]?) : OwnG w' n1 a c xs :=
  ⟨h.own.keep fun k hv => hk k (h.own.lt k hv).1 (h.own.lt k hv).2, fun x hx => (h.rows x hx).keep hk⟩
theorem OwnG.below (h : OwnG w n1 a c xs) (hb : Below w.heap.size w w') : OwnG w' n1 a c xs := h.keep fun k _ h2 => hb.block k h2
theorem OwnG.fr (h : OwnG w n1 a c xs) {L : List Nat} (f : Fr L w w') (hL : ∀ k ∈ L, k < n1) : OwnG w' n1 a c xs := h.keep fun k h1 h2 => f.block k h2 fun hm => by have := hL k hm; omega
theorem OwnR.fr {ys : List Im} (h : OwnR w n1 a c ys) {L : List Nat} (f : Fr L w w') (hL : ∀ k ∈ L, k < n1) : OwnR w' n1 a c ys := h.keep fun k h1 h2 => f.block k h2 fun hm => by have := hL k hm; omega
theorem OwnG.cell (h : OwnG w n1 a c xs) {i : Nat} (hi : i < xs.length) : ∃ b off, a = some ⟨b, off, none⟩ ∧ w.cell? ⟨b, off + i * 1, none⟩ = some (gpV xs[i]) :=
  own_cell h.own (by rw [List.getElem?_map, List.getElem?_eq_getElem hi]; rfl)
/-- A row of texts is left as it was where a row of rows grows. -/
theorem OwnR.apartG {ys : List Im} {a2 : Option Addr} {c2 : Nat} (h : OwnR w n1 a2 c2 ys) {v : Value} {n m : Nat} {vs : List Value} (o : Own w m 44 1 v n vs) (f : ∀ q, q < w.heap.size → v.ownBlock ≠ some q → w'.heap[q]? = w.heap[q]?) : OwnR w' n1 a2 c2 ys :=
  ⟨h.own.keep fun q hq => f q (h.own.lt q hq).2 fun e => own_kinds o h.own (by decide) e hq, fun x hx => (h.rows x hx).keep fun q hq => f q ((h.rows x hx).lt q hq).2 fun e => own_kinds o (h.rows x hx) (by decide) e hq⟩
theorem appG {w0 : World} {x : Gp} {v : Value} {K : Nat → Option Addr → Nat → World → Prop} (B : Bs w0 w) (h : OwnG w n1 a c xs) (hx : OwnR w n1 x.a x.c x.ims) (h1 : w0.heap.size ≤ n1) (h2 : n1 ≤ w.heap.size) (hl : xs.length ≤ 1000000000) (hv : v = gpV x)
    (k : ∀ a' c' w2, OwnG w2 n1 a' c' (xs ++ [x]) → Bs w0 w2 → w.heap.size ≤ w2.heap.size → (∀ q, q < w.heap.size → (Value.slice a xs.length c).ownBlock ≠ some q → w2.heap[q]? = w.heap[q]?) → K 1 a' c' w2) :
    newO w (.cells #[v] 44) fun g w1 => appO Try.prog [] w1 44 1 24 70 a xs.length c (.slice (some ⟨g, 0, none⟩) 1 1) K := by
  subst hv
  refine newB B fun g w1 g0 sg n1' z1 b1 B1 => appF B1 (h.own.below b1 (Nat.le_refl _)) h1 (Nat.le_trans h2 b1.size) (src_block (cs := [gpV x]) Try.underlying70 n1' rfl rfl) (by unfold maxLen; omega) (by omega) fun a' c' w2 o2 B2 z2 f2 or2 => ?_
  have o1 := h.own.below b1 (Nat.le_refl _)
  refine k a' c' w2 ⟨?_, fun y hy => ?_⟩ B2 (Nat.le_trans b1.size z2) fun q hq hq2 => (f2 q (Nat.lt_of_lt_of_le hq b1.size) hq2).trans (b1.block q hq)
  · rw [List.map_append, List.length_append]
    exact o2
  · rcases List.mem_append.1 hy with hy | hy
    · exact ((h.rows y hy).below b1).apartG o1 f2
    · rw [List.mem_singleton] at hy; subst hy; exact (hx.below b1).apartG o1 f2
end
theorem appG2 {w0 w : World} {n1 n2 c : Nat} {a : Option Addr} {xs : List Gp} {x : Gp} {v : Value} {K : Nat → Option Addr → Nat → World → Prop} (B : Bs w0 w) (o : Own w n2 44 1 (.slice a xs.length c) xs.length (xs.map gpV)) (hr : ∀ y, y ∈ xs → OwnR w n1 y.a y.c y.ims) (hx : OwnR w n1 x.a x.c x.ims) (h1 : w0.heap.size ≤ n2) (h2 : n2 ≤ w.heap.size) (hl : xs.length ≤ 1000000000) (hv : v = gpV x)
    (k : ∀ a' c' w2, Own w2 n2 44 1 (.slice a' (xs ++ [x]).length c') (xs ++ [x]).length ((xs ++ [x]).map gpV) → (∀ y, y ∈ xs ++ [x] → OwnR w2 n1 y.a y.c y.ims) → Bs w0 w2 → w.heap.size ≤ w2.heap.size → (∀ q, q < w.heap.size → (Value.slice a xs.length c).ownBlock ≠ some q → w2.heap[q]? = w.heap[q]?) → K 1 a' c' w2) :
    newO w (.cells #[v] 44) fun g w1 => appO Try.prog [] w1 44 1 24 70 a xs.length c (.slice (some ⟨g, 0, none⟩) 1 1) K := by
  subst hv
  refine newB B fun g w1 g0 sg n1' z1 b1 B1 => appF B1 (o.below b1 (Nat.le_refl _)) h1 (Nat.le_trans h2 b1.size) (src_block (cs := [gpV x]) Try.underlying70 n1' rfl rfl) (by unfold maxLen; omega) (by omega) fun a' c' w2 o2 B2 z2 f2 or2 => ?_
  have o1 := o.below b1 (Nat.le_refl _)
  refine k a' c' w2 ?_ (fun y hy => ?_) B2 (Nat.le_trans b1.size z2) fun q hq hq2 => (f2 q (Nat.lt_of_lt_of_le hq b1.size) hq2).trans (b1.block q hq)
  · rw [List.map_append, List.length_append]
    exact o2
  · rcases List.mem_append.1 hy with hy | hy
    · exact ((hr y hy).below b1).apartG o1 f2
    · rw [List.mem_singleton] at hy; subst hy; exact (hx.below b1).apartG o1 f2
def fewGs (gs : List Grp) : List Grp := (gs.take 8).map fun g => fewG g 4 150
theorem lfew_new {a : Option Addr} {c : Nat} {xs : List Gp} (w : World) (hx : Gps w a xs) :
    Calls Try.prog 41 #[.slice a xs.length c] w fun e w' => ∃ a' c' ys, e = .returned (.slice a' (ys : List Gp).length c') ∧ grps ys = fewGs (grps xs) ∧ OwnG w' w.heap.size a' c' ys ∧ Bs w w' := by
  refine (GFr.few_calls a xs.length c w (fun v w' => ∃ a' c' ys, v = .slice a' (ys : List Gp).length c' ∧ grps ys = fewGs (grps xs) ∧ OwnG w' w.heap.size a' c' ys ∧ Bs w w') ?_).mono (by rintro e w' ⟨v, rfl, a', c', ys, rfl, h⟩; exact ⟨a', c', ys, rfl, h⟩)
  unfold GFr.few_vc
  have hrl : (grps xs).length = xs.length := by simp [grps]
  refine ⟨fun a7 n7 c7 x wx => ∃ (k : Nat) (ys : List Gp), x = k ∧ k ≤ 8 ∧ k ≤ xs.length ∧ n7 = ys.length ∧ grps ys = ((grps xs).take k).map (fun g => fewG g 4 150) ∧ OwnG wx w.heap.size a7 c7 ys ∧ Bs w wx, fun _ _ _ x _ => (8 - x).toNat, ⟨0, [], rfl, Nat.zero_le _, Nat.zero_le _, rfl, by simp [grps], OwnG.nil _ _, Bs.refl w⟩, ?_⟩
  rintro a7 n7 c7 x wx ⟨k, ys, rfl, hkm, hkl, rfl, hys, hO, Bx⟩
  have hyl : ys.length = k := by
    have := congrArg List.length hys
    simp [grps] at this
    omega
  have fin : ¬ (k < xs.length ∧ k < 8) → grps ys = fewGs (grps xs) := fun hc => by
    rw [hys]
    unfold fewGs
    by_cases h : k < xs.length
    · rw [show k = 8 by omega]
    · rw [List.take_of_length_le (l := grps xs) (i := k) (by omega), List.take_of_length_le (l := grps xs) (i := 8) (by omega)]
  refine br_dec (fun h1 => br_dec (fun h2 => ?_) fun h2 => ⟨a7, c7, ys, rfl, fin (by omega), hO, Bx⟩) fun h1 => ⟨a7, c7, ys, rfl, fin (by omega), hO, Bx⟩
  have hk : k < xs.length := by omega
  obtain ⟨b, off, ha, hi⟩ := gps_get hx k hk Bx
  refine withP_mk b off ha ⟨by omega, by omega, _, _, _, by rw [Int.toNat_natCast]; exact cellsAt_get hi.cell 0 _ rfl, (few_new wx hi.row 4 150 (by omega) (by omega)).mono ?_⟩
  rintro e w3 ⟨a3, c3, zs, rfl, hzs, hO3, b3⟩
  have B3 := Bx.to b3
  have hk1 : IntKind.i64.wrap ((k : Int) + 1) = ((k + 1 : Nat) : Int) := by rw [wr64 (by omega) (by omega)]; omega
  refine ⟨keepG_nil _ _, a3, _, c3, rfl, appG (x := ⟨a3, c3, zs⟩) B3 (hO.below b3) (hO3.base Bx.size) (Nat.le_refl _) B3.size (by omega) rfl fun a4 c4 w4 O4 B4 z4 f4 => ⟨⟨k + 1, ys ++ [⟨a3, c3, zs⟩], hk1, by omega, by omega, by simp, ?_, O4, B4⟩, by dsimp only; rw [hk1]; omega⟩⟩
  have hgk : (grps xs)[k]'(by omega) = recs xs[k].ims := by simp [grps]
  show (ys ++ [_]).map _ = _
  rw [List.map_append, show (ys.map fun x => recs x.ims) = _ from hys, List.take_add_one, List.getElem?_eq_getElem (by omega), hgk, List.map_append]
  show _ ++ [recs zs] = _
  rw [hzs]
  rfl
theorem fewGs_small {gs : List Grp} : ∀ g, g ∈ fewGs gs → (grpB g).length ≤ 640 ∧ g.length ≤ 4 := fun g hg => by
  obtain ⟨g', _, rfl⟩ := List.mem_map.1 hg
  have := few_small g' 4 150 (by omega)
  refine ⟨by omega, ?_⟩
  unfold fewG
  rw [List.length_map, List.length_take]
  omega
/-- Groups that aren't empty. -/
def full (gs : List Grp) : List Grp := gs.filter fun g => !g.isEmpty
theorem full_flat : ∀ gs : List Grp, (full gs).flatten = gs.flatten
  | [] => rfl
  | g :: r => by
    unfold full
    rw [List.filter_cons]
    cases g with
    | nil => exact full_flat r
    | cons t s => show ((t :: s) :: full r).flatten = _; rw [List.flatten_cons, full_flat r]; rfl
theorem full_snoc (gs : List Grp) (g : Grp) : full (gs ++ [g]) = if g = [] then full gs else full gs ++ [g] := by
  unfold full
  rw [List.filter_append]
  cases g with
  | nil => simp
  | cons t s => simp
/-- How far a log is filled, with the power on. -/
structure FI (S0 : DS) (first size gen : Nat) (G : List Grp) (S : DS) (L : LG) (dn : List Grp) : Prop where
  log : LogOk S first size gen (G ++ full dn) L.used
  eq : L = ⟨first, size, gen, L.used, (G ++ full dn).length⟩
  left : S0.left ≤ 0 → S.left ≤ 0
  elder : ∀ gen2, gen2 < 9223372036854775808 → gen ≠ gen2 → Elder S0 first size gen2 → Elder S first size gen2
/-- How it stands when the power went off. -/
structure FO (S0 : DS) (first size gen : Nat) (G : List Grp) (T : DS) (dn : List Grp) (un : Grp) : Prop where
  off : T.off = true
  pos : 0 < S0.left
  ne : un ≠ []
  crash : ∀ kept, (∃ u, LogOk (crashD T kept) first size gen (G ++ full dn) u) ∨ ∃ u, LogOk (crashD T kept) first size gen (G ++ full dn ++ [un]) u
theorem fi_step {S0 S : DS} {first size gen : Nat} {G dn : List Grp} {L : LG} {g : Grp} (h : FI S0 first size gen G S L dn) (hl : (grpB g).length ≤ 1000000) :
    ((apD S L g).off = true ∧ FO S0 first size gen G (apD S L g) dn g) ∨ ((apD S L g).off = false ∧ apE S L g = 0 ∧ FI S0 first size gen G (apD S L g) (apL S L g) (dn ++ [g])) ∨ ((apD S L g).off = false ∧ apE S L g ≠ 0 ∧ FI S0 first size gen G (apD S L g) (apL S L g) dn) := by
  have hlog := h.log
  have he := h.eq
  by_cases hne : g = []
  · have e1 : apE S L g = 0 := by unfold apE; rw [if_pos hne]
    have e2 : apD S L g = S := by unfold apD; rw [if_pos hne]
    have e3 : apL S L g = L := by unfold apL; rw [if_neg (fun k => k.1 hne)]
    rw [e1, e2, e3]
    refine .inr (.inl ⟨hlog.off, rfl, ?_⟩)
    have ef : full (dn ++ [g]) = full dn := by rw [full_snoc, if_pos hne]
    exact ⟨by rw [ef]; exact hlog, by rw [ef]; exact he, h.left, h.elder⟩
  have hsz : L.size = size := by rw [he]
  have hfi : L.first = first := by rw [he]
  have hgn : L.gen = gen := by rw [he]
  have hgr : L.groups = (G ++ full dn).length := by rw [he]
  by_cases hs : L.size - L.used < secN (grpB g).length
  · have e1 : apE S L g = 11 := by unfold apE; rw [if_neg hne, if_pos hs]
    have e2 : apD S L g = S := by unfold apD; rw [if_neg hne, if_pos hs]
    have e3 : apL S L g = L := by unfold apL; rw [if_neg (fun k => by rw [e1] at k; exact absurd k.2 (by decide))]
    rw [e1, e2, e3]
    exact .inr (.inr ⟨hlog.off, by decide, h⟩)
  have ef : full (dn ++ [g]) = full dn ++ [g] := by rw [full_snoc, if_neg hne]
  have hW := hlog.wf.ap L g
  have eL : (⟨first, size, gen, L.used, (G ++ full dn).length⟩ : LG) = L := he.symm
  rcases ap_cases hlog.calm hlog.off (L := L) (g := g) (by rw [hfi, hsz]; exact hlog.top) (by rw [hsz]; exact hlog.used) hne (by omega) with ⟨e1, hp⟩ | ⟨e1, e2, hp⟩
  · have hp' : Put S (apD S L g) ⟨first, size, gen, L.used, (G ++ full dn).length⟩ g := by rw [eL]; exact hp
    have e3 : apL S L g = ⟨L.first, L.size, L.gen, L.used + secN (grpB g).length, L.groups + 1⟩ := by unfold apL; rw [if_pos ⟨hne, e1⟩]
    refine .inr (.inl ⟨hp.off, e1, ?_⟩)
    rw [e3]
    refine ⟨?_, ?_, fun hz => hp.left0 (h.left hz), fun gen2 h2 h3 hE => (h.elder gen2 h2 h3 hE).put hp (by rw [hgn]; exact hlog.genl) h2 (by rw [hgn]; exact h3)⟩
    · rw [ef, ← List.append_assoc]
      exact hlog.put hW hp' hne hl (by rw [← hsz]; omega)
    · rw [ef, hfi, hsz, hgn, hgr]
      simp
      omega
  · have hp' : PutHalf S (apD S L g) ⟨first, size, gen, L.used, (G ++ full dn).length⟩ g := by rw [eL]; exact hp
    refine .inl ⟨hp.off, hp.off, ?_, hne, fun kept => ?_⟩
    · rcases Int.lt_or_le 0 S0.left with q | q
      · exact q
      · have := h.left q; omega
    · rcases hlog.half hW hp' hne hl (by rw [← hsz]; omega) kept with q | q
      · exact .inl ⟨_, q⟩
      · exact .inr ⟨_, q⟩
theorem FI.lwf {S0 S : DS} {first size gen : Nat} {G dn : List Grp} {L : LG} (h : FI S0 first size gen G S L dn) : LWf S L := by
  have := h.log.lwf
  rw [← h.eq] at this
  exact this
theorem FI.start {S : DS} {first size gen u : Nat} {G : List Grp} (h : LogOk S first size gen G u) : FI S first size gen G S ⟨first, size, gen, u, G.length⟩ [] :=
  ⟨by simpa [full] using h, by simp [full], fun hz => hz, fun _ _ _ hE => hE⟩
set_option maxHeartbeats 800000 in
theorem fill_any {w wx : World} {gl g gd mb n1 c : Nat} {S0 : DS} {first size gen : Nat} {G : List Grp} {L0 : LG} {a : Option Addr} {ys : List Gp} (h : D2 w wx gl g gd mb L0 S0) (hF : FI S0 first size gen G S0 L0 []) (hO : OwnG wx n1 a c ys) (hn : ∀ k ∈ [gl, g, gd, mb], k < n1) (hn1 : n1 ≤ wx.heap.size) (hw : w.heap.size ≤ n1) (hs : ∀ x, x ∈ grps ys → (grpB x).length ≤ 1000000) (hl : ys.length ≤ 1000000) :
    Calls Try.prog 45 #[.pointer (some ⟨gl, 0, none⟩), .pointer (some ⟨g, 0, none⟩), .slice a ys.length c] wx fun e w' => ∃ a8 c8 ds a9 c9 un T L', e = .returned (.tuple #[.slice a8 (ds : List Gp).length c8, .slice a9 (un : List Im).length c9]) ∧ OwnG w' n1 a8 c8 ds ∧ OwnR w' n1 a9 c9 un ∧ D2 w w' gl g gd mb L' T ∧ Fr [gl, g, gd, mb] wx w' ∧ ds.length ≤ ys.length ∧ (∀ x, x ∈ grps ds → x ∈ grps ys) ∧
      ((FI S0 first size gen G T L' (grps ds) ∧ un = []) ∨ (FO S0 first size gen G T (grps ds) (recs un) ∧ recs un ∈ grps ys)) := by
  refine (GFr.fill_calls (some ⟨gl, 0, none⟩) (some ⟨g, 0, none⟩) a ys.length c wx (fun v w' => ∃ a8 c8 ds a9 c9 un T L', v = .tuple #[.slice a8 (ds : List Gp).length c8, .slice a9 (un : List Im).length c9] ∧ OwnG w' n1 a8 c8 ds ∧ OwnR w' n1 a9 c9 un ∧ D2 w w' gl g gd mb L' T ∧ Fr [gl, g, gd, mb] wx w' ∧ ds.length ≤ ys.length ∧ (∀ x, x ∈ grps ds → x ∈ grps ys) ∧
      ((FI S0 first size gen G T L' (grps ds) ∧ un = []) ∨ (FO S0 first size gen G T (grps ds) (recs un) ∧ recs un ∈ grps ys))) ?_).mono (by rintro e w' ⟨v, rfl, a8, c8, ds, a9, c9, un, T, L', rfl, h⟩; exact ⟨a8, c8, ds, a9, c9, un, T, L', rfl, h⟩)
  unfold GFr.fill_vc
  refine ⟨fun a8 n8 c8 x w2 => ∃ (k : Nat) (ds : List Gp) (S : DS) (L : LG), x = k ∧ k ≤ ys.length ∧ ds.length ≤ k ∧ n8 = ds.length ∧ Own w2 wx.heap.size 44 1 (.slice a8 ds.length c8) ds.length (ds.map gpV) ∧ (∀ y, y ∈ ds → OwnR w2 n1 y.a y.c y.ims) ∧ D2 w w2 gl g gd mb L S ∧ Fr [gl, g, gd, mb] wx w2 ∧ FI S0 first size gen G S L (grps ds) ∧ (∀ x, x ∈ grps ds → x ∈ grps ys), fun _ _ _ x _ => (ys.length - x).toNat, ⟨0, [], S0, L0, rfl, Nat.zero_le _, Nat.zero_le _, rfl, Own.nil _ _ _ _, (fun y hy => by cases hy), h, Fr.refl _ _, hF, fun x hx => by cases hx⟩, ?_⟩
  rintro a8 n8 c8 x w2 ⟨k, ds, S, L, rfl, hk, hdk, rfl, hD, hDr, h2, F2, hI, hsub⟩
  have z2 := F2.size
  have hY := hO.fr F2 hn
  refine br_dec (fun h1 => ?_) fun h1 => ⟨a8, c8, ds, none, 0, [], S, L, rfl, ⟨hD.base_le fun q hq => Nat.le_trans hn1 (hD.lt q hq).1, hDr⟩, OwnR.nil _ _, h2, F2, by omega, hsub, .inl ⟨hI, rfl⟩⟩
  have hkl : k < ys.length := by omega
  have hgk : recs ys[k].ims ∈ grps ys := List.mem_map.2 ⟨ys[k], List.getElem_mem hkl, rfl⟩
  have hrow : OwnR w2 n1 ys[k].a ys[k].c ys[k].ims := hY.rows _ (List.getElem_mem hkl)
  obtain ⟨b, off, ha, hc⟩ := hY.cell hkl
  have hk1 : IntKind.i64.wrap ((k : Int) + 1) = ((k + 1 : Nat) : Int) := by rw [wr64 (by omega) (by omega)]; omega
  refine withP_mk b off ha ⟨by omega, by omega, _, _, _, by rw [Int.toNat_natCast]; exact hc, ?_⟩
  refine app_d2 h2 hI.lwf hrow.ims (hs _ hgk) (fun _ h => by cases h) fun w3 h3 f3 => ⟨_, rfl, ?_⟩
  have F3 : Fr [gl, g, gd, mb] wx w3 := F2.trans f3 (Gr.refl _ _)
  have hD3 : Own w3 wx.heap.size 44 1 (.slice a8 ds.length c8) ds.length (ds.map gpV) := hD.keep fun q hq => f3.block q (hD.lt q hq).2 fun hm => by have := hn q hm; have := (hD.lt q hq).1; omega
  have hDr3 : ∀ y, y ∈ ds → OwnR w3 n1 y.a y.c y.ims := fun y hy => (hDr y hy).fr f3 hn
  have hY3 := hY.fr f3 hn
  have z3 := f3.size
  refine callB h3.d.bs (doff_ret h3.d.t) fun w4 b4 B4 => ⟨_, rfl, ?_⟩
  have h4 := h3.below b4
  have F4 := F3.b b4
  have hD4 := hD3.below b4 (Nat.le_refl _)
  have hDr4 : ∀ y, y ∈ ds → OwnR w4 n1 y.a y.c y.ims := fun y hy => (hDr3 y hy).below b4
  have hY4 := hY3.below b4
  have z4 := b4.size
  rcases fi_step hI (hs _ hgk) with ⟨e1, hFO⟩ | ⟨e1, e2, hFI⟩ | ⟨e1, e2, hFI⟩
  · rw [e1]
    refine br_t rfl (drewO_in fun w5 b5 e5 => ?_)
    obtain ⟨b', off', ha', hc'⟩ := (hY4.below b5).cell hkl
    exact withP_mk b' off' ha' ⟨by omega, by omega, _, _, _, by rw [Int.toNat_natCast]; exact hc', a8, c8, ds, _, _, ys[k].ims, _, _, rfl, ⟨(hD4.below b5 (Nat.le_refl _)).base_le fun q hq => Nat.le_trans hn1 (hD4.lt q hq).1, fun y hy => (hDr4 y hy).below b5⟩, (hY4.below b5).rows _ (List.getElem_mem hkl), h4.below b5, F4.b b5, by omega, hsub, .inr ⟨hFO, hgk⟩⟩
  · rw [e1]
    refine br_f rfl (br_y e2 ?_)
    obtain ⟨b', off', ha', hc'⟩ := hY4.cell hkl
    refine withP_mk b' off' ha' ⟨by omega, by omega, _, _, _, by rw [Int.toNat_natCast]; exact hc', ?_⟩
    refine appG2 (x := ys[k]) h4.d.bs hD4 hDr4 (hY4.rows _ (List.getElem_mem hkl)) h.d.bs.size (by omega) (by omega) rfl fun a5 c5 w5 O5 R5 B5 z5 f5 => ⟨⟨k + 1, ds ++ [ys[k]], _, _, hk1, by omega, by simp; omega, by simp, O5, R5, ?_, ?_, by simpa [grps] using hFI, ?_⟩, by dsimp only; rw [hk1]; omega⟩
    · have kq : ∀ q ∈ [gl, g, gd, mb], w5.heap[q]? = w4.heap[q]? := fun q hq => f5 q (by have := hn q hq; omega) fun e => by have := (hD4.lt q e).1; have := hn q hq; omega
      exact ⟨⟨h4.d.t.keep (kq g (by simp)) (kq gd (by simp)) (kq mb (by simp)), h4.d.wf, B5, h4.d.g0⟩, Bk.keep h4.lg (kq gl (by simp)), h4.l0⟩
    · refine ⟨B5.os.trans h.d.bs.os.symm, B5.tape.trans h.d.bs.tape.symm, B5.output.trans h.d.bs.output.symm, by omega, fun q hq hm => (f5 q (by omega) fun e => ?_).trans (F4.block q hq hm)⟩
      have := (hD4.lt q e).1
      omega
    · intro x hx
      simp only [grps, List.map_append, List.mem_append, List.map_cons, List.map_nil, List.mem_singleton] at hx
      rcases hx with hx | hx
      · exact hsub x hx
      · rw [hx]; exact hgk
  · rw [e1]
    refine br_f rfl (br_n e2 ⟨⟨k + 1, ds, _, _, hk1, by omega, by omega, rfl, hD4, hDr4, h4, F4, hFI, hsub⟩, by dsimp only; rw [hk1]; omega⟩)
end Go.Proofs.Ytpfmadinijofeaa
end
section
/- FrameGens; walked. -/
namespace Go.Proofs.Ytpfmadinijofeaa
open Go.RowKit
theorem secN_ge (n : Nat) : n ≤ 63 * secN n := by unfold secN; split <;> omega
theorem Chain.recs {S : DS} {first gen : Nat} : ∀ {gs : List Grp} {p k u : Nat}, Chain S first gen p k gs u → gs.flatten.length ≤ 63 * (u - p)
  | [], _, _, _, _ => Nat.zero_le _
  | g :: r, p, k, u, h => by
    have hl := Chain.le h.2.2.2
    have ih := Chain.recs h.2.2.2
    have h1 := grpB_count g
    have h2 := secN_ge (grpB g).length
    rw [List.flatten_cons, List.length_append]
    omega
theorem open_log {w wx : World} {g gd mb : Nat} {S : DS} {first size gen u : Nat} {gs : List Grp} (hd : D1 w wx g gd mb S) (h : LogOk S first size gen gs u) : Calls Try.prog 22 #[.pointer (some ⟨g, 0, none⟩), .int .i64 (first : Int), .int .i64 (size : Int), .int .i64 (gen : Int)] wx fun e w' => ∃ gl a c xs, e = .returned (.tuple #[.pointer (some ⟨gl, 0, none⟩), .slice a (xs : List Im).length c, .int .i64 0]) ∧ recs xs = gs.flatten ∧ OwnR w' wx.heap.size a c xs ∧ D2 w w' gl g gd mb ⟨first, size, gen, u, gs.length⟩ S ∧ Below wx.heap.size wx w' ∧ wx.heap.size ≤ gl := by
  have hr := h.chain.recs
  have := h.used
  have := h.top
  have := h.wf.n2
  refine (open_new hd.t hd.wf h.off h.one h.top h.genl h.chain h.used h.stop (by omega)).mono ?_
  rintro e w2 ⟨v, rfl, gl, a, c, xs, rfl, hxs, hO, hL, gl0, b⟩
  exact ⟨gl, a, c, xs, rfl, hxs, hO, ⟨hd.below b, hL, Nat.le_trans hd.bs.size gl0⟩, b, gl0⟩
theorem recs_len (xs : List Im) : (recs xs).length = xs.length := by simp [recs]
theorem grps_len (xs : List Gp) : (grps xs).length = xs.length := by simp [grps]
theorem few_len' {ys : List Gp} {gs : List Grp} (h : grps ys = fewGs gs) : ys.length ≤ 8 := by
  have := congrArg List.length h
  rw [grps_len] at this
  rw [this]
  unfold fewGs
  rw [List.length_map, List.length_take]
  omega
theorem rjoin_new {w : World} {n1 c : Nat} {a : Option Addr} {ds : List Gp} (h : OwnG w n1 a c ds) (hn : n1 ≤ w.heap.size) (hl : ds.length ≤ 1000000) (hf : (grps ds).flatten.length ≤ 1000000) :
    Calls Try.prog 46 #[.slice a ds.length c] w fun e w' => ∃ a' c' ys, e = .returned (.slice a' (ys : List Im).length c') ∧ recs ys = (grps ds).flatten ∧ OwnR w' n1 a' c' ys ∧ Bs w w' := by
  refine (GFr.rjoin_calls a ds.length c w (fun v w' => ∃ a' c' ys, v = .slice a' (ys : List Im).length c' ∧ recs ys = (grps ds).flatten ∧ OwnR w' n1 a' c' ys ∧ Bs w w') ?_).mono (by rintro e w' ⟨v, rfl, a', c', ys, rfl, h⟩; exact ⟨a', c', ys, rfl, h⟩)
  unfold GFr.rjoin_vc
  refine ⟨fun a3 n3 c3 x wx => ∃ (k : Nat) (ys : List Im), x = k ∧ k ≤ ds.length ∧ n3 = ys.length ∧ recs ys = ((grps ds).take k).flatten ∧ Own wx w.heap.size 22 1 (.slice a3 ys.length c3) ys.length (ys.map slV) ∧ (∀ y, y ∈ ys → Own wx n1 5 1 (.slice y.a y.bs.length y.c) y.bs.length (y.bs.map bV)) ∧ Bs w wx, fun _ _ _ x _ => (ds.length - x).toNat, ⟨0, [], rfl, Nat.zero_le _, rfl, rfl, Own.nil _ _ _ _, (fun y hy => by cases hy), Bs.refl w⟩, ?_⟩
  rintro a3 n3 c3 x wx ⟨k, ys, rfl, hk, rfl, hys, hO, hR, Bx⟩
  have hgl := grps_len ds
  refine br_dec (fun h1 => ?_) fun h1 => ?_
  · have hkl : k < ds.length := by omega
    have hx := h.below Bx
    obtain ⟨b, off, ha, hc⟩ := hx.cell hkl
    have hrow : OwnR wx n1 ds[k].a ds[k].c ds[k].ims := hx.rows _ (List.getElem_mem hkl)
    have hk1 : IntKind.i64.wrap ((k : Int) + 1) = ((k + 1 : Nat) : Int) := by rw [wr64 (by omega) (by omega)]; omega
    have hgk : (grps ds)[k]'(by omega) = recs ds[k].ims := by simp [grps]
    have ht : (grps ds).take (k + 1) = (grps ds).take k ++ [recs ds[k].ims] := by rw [List.take_add_one, List.getElem?_eq_getElem (by omega), hgk]; rfl
    have hlen : ys.length + ds[k].ims.length ≤ 1000000 := by
      have e1 : ((grps ds).take (k + 1)).flatten.length ≤ (grps ds).flatten.length := by
        have e : (grps ds).flatten = ((grps ds).take (k + 1)).flatten ++ ((grps ds).drop (k + 1)).flatten := by rw [← List.flatten_append, List.take_append_drop]
        rw [e, List.length_append]; omega
      rw [ht, List.flatten_append, List.length_append] at e1
      have e2 := congrArg List.length hys
      rw [recs_len] at e2
      have hsing : ([recs ds[k].ims] : List Grp).flatten.length = ds[k].ims.length := by simp [recs_len]
      rw [hsing] at e1
      omega
    have hs := Src.ofRow (P := Try.prog) (tx := 44) (w := wx) Try.underlying44 ds[k].a ds[k].c (ds[k].ims.map slV) hrow.own.row (fun u hu => by obtain ⟨x, _, rfl⟩ := List.mem_map.1 hu; rfl)
    rw [List.length_map] at hs
    refine withP_mk b off ha ⟨by omega, by omega, _, _, _, by rw [Int.toNat_natCast]; exact hc, appF Bx hO (Nat.le_refl _) Bx.size hs (by unfold maxLen; omega) (by omega) fun a4 c4 w4 o4 B4 z4 f4 or4 => ⟨⟨k + 1, ys ++ ds[k].ims, hk1, by omega, by simp, ?_, ?_, ?_, B4⟩, by dsimp only; rw [hk1]; omega⟩⟩
    · rw [ht, List.flatten_append]
      show (ys ++ ds[k].ims).map _ = _
      rw [List.map_append, show ys.map (·.bs) = _ from hys]
      simp [recs]
    · rw [List.map_append, List.length_append]; exact o4
    · intro y hy
      have hy2 : Own wx n1 5 1 (.slice y.a y.bs.length y.c) y.bs.length (y.bs.map bV) := by
        rcases List.mem_append.1 hy with hy | hy
        · exact hR y hy
        · exact hrow.rows y hy
      exact hy2.keep fun q hq => f4 q (hy2.lt q hq).2 fun e => own_kinds hO hy2 (by decide) e hq
  · obtain rfl : k = ds.length := by omega
    rw [List.take_of_length_le (by omega)] at hys
    exact ⟨a3, c3, ys, rfl, hys, ⟨hO.base_le fun q hq => Nat.le_trans hn (hO.lt q hq).1, hR⟩, Bx⟩
theorem D2.lt {w wx : World} {gl g gd mb : Nat} {L : LG} {S : DS} (h : D2 w wx gl g gd mb L S) : ∀ k ∈ [gl, g, gd, mb], k < wx.heap.size := fun q hq => by
  rcases List.mem_cons.1 hq with rfl | hq
  · exact Bk.lt h.lg
  · exact h.d.lt q hq
theorem crash_d1 {w wx : World} {g gd mb : Nat} {S : DS} (h : D1 w wx g gd mb S) {ka : Option Addr} {kc : Nat} {kept : List Bool} (hr : RowAt w ka (kept.map Value.bool)) {gs : List Nat} (hg : ∀ k ∈ gs, k ∉ [g, gd, mb]) {R : Ending → World → Prop} (k : ∀ w', D1 w w' g gd mb (crashD S kept) → Fr [g, gd, mb] wx w' → R (.returned (.tuple #[])) w') : Calls Try.prog 39 #[.pointer (some ⟨g, 0, none⟩), .slice ka kept.length kc] wx fun e w' => KeepG gs wx w' ∧ R e w' := by
  refine (dcrash_g h.t h.wf (fun w1 f => hr.bs (h.bs.fr f h.g0))).mono ?_
  rintro e w2 ⟨rfl, t2, f2⟩
  exact ⟨keepG_fr f2 hg, k w2 (h.to t2 f2 (h.wf.crash kept)) f2⟩
theorem Elder.crash {S : DS} {first size gen : Nat} (h : Elder S first size gen) (hc : Calm S) (kept : List Bool) : Elder (crashD S kept) first size gen := fun i hi => by rw [crash_calm hc]; exact h i hi
theorem lgens_walk (a0 : Option Addr) (c0 : Nat) (xs0 : List Gp) (a1 : Option Addr) (c1 : Nat) (xs1 : List Gp) (a2 : Option Addr) (c2 : Nat) (kept : List Bool) (w : World) (hx0 : Gps w a0 xs0) (hx1 : Gps w a1 xs1) (hk : RowAt w a2 (kept.map Value.bool)) :
    Calls Try.prog 9 #[.slice a0 xs0.length c0, .slice a1 xs1.length c1, .slice a2 kept.length c2] w (Ret (.bool true) w) := by
  refine ret_in (GFr.lgens_calls a0 xs0.length c0 a1 xs1.length c1 a2 kept.length c2 w (fun u w' => u = .bool true ∧ Below w.heap.size w w') ?_)
  unfold GFr.lgens_vc
  refine (start_new 20 1 (by omega) (by omega) (by omega) w).mono ?_
  rintro e w2 ⟨gl, g, gd, mb, rfl, h2⟩
  refine ⟨keepG_nil _ _, _, _, _, rfl, callB h2.d.bs (frames_ret w2) fun w3 b3 B3 => ⟨_, rfl, br_f rfl (br_f rfl ?_)⟩⟩
  have h3 := h2.below b3
  refine (lfew_new w3 (hx0.below B3)).mono ?_
  rintro e w4 ⟨a4, c4, ys, rfl, hys, hO, b4⟩
  have h4 := h3.below b4
  have hlog := log_new (n := 25) (first := 3) (size := 20) (gen := 1) (by omega) (by omega) (by omega) (by omega) (by omega)
  refine ⟨keepG_nil _ _, a4, _, c4, rfl, ?_⟩
  refine (fill_any h4 (FI.start hlog) hO h3.lt b4.size B3.size (fun x hx => by rw [hys] at hx; have := (fewGs_small x hx).1; omega) (by have := few_len' hys; omega)).mono ?_
  rintro e w5 ⟨a8, c8, ds, a9, c9, un, T, L', rfl, hD, hU, h5, f5, _, hsub, hc⟩
  rcases hc.symm with ⟨hFO, _⟩ | ⟨hI, rfl⟩
  · exact absurd hFO.pos (by decide)
  have hL0 := hI.left (Int.le_refl _)
  have e2 : Elder T 3 20 2 := hI.elder 2 (by omega) (by omega) elder_new
  have e3 : Elder T 3 20 3 := hI.elder 3 (by omega) (by omega) elder_new
  have hl2 : LogOk T 3 20 2 [] 0 := e2.log hI.log.wf hI.log.calm hI.log.off hI.log.top (by omega) (by omega)
  refine ⟨keepG_nil _ _, a8, _, c8, a9, _, c9, rfl, (open_log h5.d hl2).mono ?_⟩
  rintro e w6 ⟨gl2, a6, c6, zs, rfl, hzs, hO6, h6, b6, gl20⟩
  have hz0 : zs.length = 0 := by
    have := congrArg List.length hzs
    simpa [recs] using this
  refine ⟨keepG_nil _ _, _, a6, _, c6, _, rfl, br_n (by decide) (br_n (by omega) ?_)⟩
  refine callB h6.d.bs (fleft_ret h6.lg hl2.lwf h6.d.wf.n2) fun w7 b7 B7 => ⟨_, rfl, br_n (by decide) ?_⟩
  have h7 := h6.below b7
  refine (lfew_new w7 (hx1.below B7)).mono ?_
  rintro e w8 ⟨a10, c10, ys2, rfl, hys2, hO2, b8⟩
  have h8 := h7.below b8
  refine ⟨keepG_nil _ _, a10, _, c10, rfl, ?_⟩
  refine (fill_any h8 (FI.start hl2) hO2 h7.lt b8.size B7.size (fun x hx => by rw [hys2] at hx; have := (fewGs_small x hx).1; omega) (by have := few_len' hys2; omega)).mono ?_
  rintro e w9 ⟨a11, c11, ds2, a12, c12, un2, T2, L2, rfl, hD2, hU2, h9, f9, hdl2, hsub2, hc2⟩
  rcases hc2.symm with ⟨hFO, _⟩ | ⟨hI2, rfl⟩
  · exact absurd hFO.pos (by omega)
  refine ⟨keepG_nil _ _, a11, _, c11, a12, _, c12, rfl, crash_d1 h9.d hk (fun k h => by cases h) fun w10 h10 f10 => ⟨rfl, ?_⟩⟩
  have hlt9 := h7.lt
  have hD10 : OwnG w10 w7.heap.size a11 c11 ds2 := hD2.fr f10 fun q hq => hlt9 q (List.mem_cons_of_mem _ hq)
  have hl10 := hI2.log.crash kept
  have he10 : Elder (crashD T2 kept) 3 20 3 := (hI2.elder 3 (by omega) (by omega) e3).crash hI2.log.calm kept
  have hl11 : LogOk (crashD T2 kept) 3 20 3 [] 0 := he10.log hl10.wf hl10.calm hl10.off hl10.top (by omega) (by omega)
  refine (open_log h10 hl10).mono ?_
  rintro e w11 ⟨gl3, a13, c13, us, rfl, hus, hO11, h11, b11, _⟩
  refine ⟨keepG_nil _ _, _, a13, _, c13, _, rfl, (open_log h11.d hl11).mono ?_⟩
  rintro e w12 ⟨gl4, a14, c14, vs, rfl, hvs, hO12, h12, b12, _⟩
  have hv0 : vs.length = 0 := by
    have := congrArg List.length hvs
    simpa [recs] using this
  have hff : ([] ++ full (grps ds2)).flatten = (grps ds2).flatten := by rw [List.nil_append, full_flat]
  rw [hff] at hus
  have hul : us.length ≤ 1000000 := by
    have e1 := congrArg List.length hus
    rw [recs_len] at e1
    have hcr := hl10.chain.recs
    have hcu := hl10.used
    rw [hff] at hcr
    omega
  have hfl : (grps ds2).flatten.length ≤ 1000000 := by rw [← hus, recs_len]; exact hul
  have hdl : ds2.length ≤ 1000000 := by
    have hs8 := few_len' hys2
    omega
  have hD12 := (hD10.below b11).below b12
  refine ⟨keepG_nil _ _, _, a14, _, c14, _, rfl, br_y rfl (br_y rfl ((rjoin_new hD12 ?_ hdl hfl).mono ?_))⟩
  · have := f10.size; have := b11.size; have := b12.size; have := b8.size; have := f9.size; omega
  rintro e w13 ⟨a15, c15, js, rfl, hjs, hO13, b13⟩
  have B13 := h12.d.bs.to b13
  refine ⟨keepG_nil _ _, a15, _, c15, rfl, callB B13 (rsame_ret w13 ((hO11.below b12).below b13).ims hO13.ims hul) fun w14 b14 B14 => ⟨_, rfl, ?_⟩⟩
  rw [decide_eq_true (by rw [hus, hjs])]
  exact br_t rfl ⟨by rw [decide_eq_true (by omega)], B14⟩
end Go.Proofs.Ytpfmadinijofeaa
end
section
/- FrameFalls; walked. -/
namespace Go.Proofs.Ytpfmadinijofeaa
open Go.RowKit
theorem appRsg {w0 w : World} {n1 c c2 : Nat} {a a2 : Option Addr} {xs ys : List Im} {gs : List Nat} {K : Nat → Option Addr → Nat → World → Prop} (B : Bs w0 w) (h : OwnR w n1 a c xs) (h2 : OwnR w n1 a2 c2 ys) (h1 : w0.heap.size ≤ n1) (hn : n1 ≤ w.heap.size) (hl : xs.length + ys.length ≤ 1000000000) (hg : ∀ g ∈ gs, (Value.slice a xs.length c).ownBlock ≠ some g)
    (k : ∀ a' c' w2, OwnR w2 n1 a' c' (xs ++ ys) → Bs w0 w2 → w.heap.size ≤ w2.heap.size → (∀ q, q < w.heap.size → (Value.slice a xs.length c).ownBlock ≠ some q → w2.heap[q]? = w.heap[q]?) → ((Value.slice a' (xs.length + ys.length) c').ownBlock = (Value.slice a xs.length c).ownBlock ∨ ∃ g, (Value.slice a' (xs.length + ys.length) c').ownBlock = some g ∧ w.heap.size ≤ g) → K ys.length a' c' w2) :
    appO Try.prog gs w 22 1 24 44 a xs.length c (.slice a2 ys.length c2) K := by
  obtain ⟨m, vs, news, q1, q2, q3, q4, q5, q6⟩ := appRs (K := fun m a' c' w2 => ∃ hm : m = ys.length, OwnR w2 n1 a' c' (xs ++ ys) ∧ Bs w0 w2 ∧ w.heap.size ≤ w2.heap.size ∧ (∀ q, q < w.heap.size → (Value.slice a xs.length c).ownBlock ≠ some q → w2.heap[q]? = w.heap[q]?)) B h h2 h1 hn hl (fun a' c' w2 r1 _ r2 r3 r4 => ⟨rfl, r1, r2, r3, r4⟩)
  refine ⟨m, vs, news, q1, q2, q3, q4, hg, fun a' c' w1 o1 g1 or1 hf => ?_⟩
  obtain ⟨hm, r1, r2, r3, r4⟩ := q6 a' c' w1 o1 g1 or1 hf
  subst hm
  exact k a' c' w1 r1 r2 r3 r4 or1
theorem OwnR.frL {w w' : World} {n1 c gl g gd mb : Nat} {a : Option Addr} {xs : List Im} {L : LG} (h : OwnR w n1 a c xs) (hl : LgAt w gl g L) (hd : ∀ k ∈ [g, gd, mb], k < n1) (f : Fr [gl, g, gd, mb] w w') : OwnR w' n1 a c xs := by
  have hb : Bk w gl _ _ := hl
  refine ⟨h.own.keep fun k hk => f.block k (h.own.lt k hk).2 fun hm => ?_, fun x hx => (h.rows x hx).keep fun k hk => f.block k ((h.rows x hx).lt k hk).2 fun hm => ?_⟩
  · rcases List.mem_cons.1 hm with rfl | hm
    · exact h.not hb (by decide) hk
    · have := hd k hm; have := (h.own.lt k hk).1; omega
  · rcases List.mem_cons.1 hm with rfl | hm
    · obtain ⟨cur, k2⟩ := (h.rows x hx).blk hk
      have hb : w.heap[k]? = _ := hb
      rw [hb] at k2
      injection k2 with k2
      injection k2 with _ k2
      exact absurd k2 (by decide)
    · have := hd k hm; have := ((h.rows x hx).lt k hk).1; omega
theorem D2.keepN {w wx wy : World} {gl g gd mb : Nat} {L : LG} {S : DS} (h : D2 w wx gl g gd mb L S) (B : Bs w wy) (hk : ∀ q ∈ [gl, g, gd, mb], wy.heap[q]? = wx.heap[q]?) : D2 w wy gl g gd mb L S :=
  ⟨⟨h.d.t.keep (hk g (by simp)) (hk gd (by simp)) (hk mb (by simp)), h.d.wf, B, h.d.g0⟩, Bk.keep h.lg (hk gl (by simp)), h.l0⟩
theorem D1.keepN {w wx wy : World} {g gd mb : Nat} {S : DS} (h : D1 w wx g gd mb S) (B : Bs w wy) (hk : ∀ q ∈ [g, gd, mb], wy.heap[q]? = wx.heap[q]?) : D1 w wy g gd mb S :=
  ⟨h.t.keep (hk g (by simp)) (hk gd (by simp)) (hk mb (by simp)), h.wf, B, h.g0⟩
set_option maxHeartbeats 1600000 in
theorem lfallsF_walk (a : Option Addr) (c : Nat) (xs : List (Fl Gp)) (w : World) (hx : RowsAt FlG 3 w a xs) :
    Calls Try.prog 10 #[.slice a xs.length c] w (Ret (.bool true) w) := by
  refine ret_in (GFr.lfalls_calls a xs.length c w (fun u w' => u = .bool true ∧ Below w.heap.size w w') ?_)
  unfold GFr.lfalls_vc
  refine (start_new 24 3 (by omega) (by omega) (by omega) w).mono ?_
  rintro e w2 ⟨gl0, g, gd, mb, rfl, h2⟩
  refine ⟨keepG_nil _ _, _, _, _, rfl, callB h2.d.bs (frames_ret w2) fun w3 b3 B3 => ⟨_, rfl, br_f rfl (br_f rfl ?_)⟩⟩
  have h3 := h2.below b3
  have hlog := log_new (n := 29) (first := 3) (size := 24) (gen := 3) (by omega) (by omega) (by omega) (by omega) (by omega)
  have hd3 : ∀ k ∈ [g, gd, mb], k < w3.heap.size := h3.d.lt
  refine ⟨fun p a6 n6 c6 x wx => ∃ (k gl u : Nat) (S : DS) (G : List Grp) (zs : List Im), p = some ⟨gl, 0, none⟩ ∧ x = k ∧ k ≤ 3 ∧ n6 = zs.length ∧ recs zs = G.flatten ∧ OwnR wx w3.heap.size a6 c6 zs ∧ D2 w wx gl g gd mb ⟨3, 24, 3, u, G.length⟩ S ∧ LogOk S 3 24 3 G u ∧ w3.heap.size ≤ wx.heap.size, fun _ _ _ _ x _ => (3 - x).toNat,
    ⟨0, gl0, 0, _, [], [], rfl, rfl, by omega, rfl, rfl, OwnR.nil _ _, h3, hlog, Nat.le_refl _⟩, ?_⟩
  rintro p a6 n6 c6 x wx ⟨k, gl, u, S, G, zs, rfl, rfl, hk, rfl, hzs, hO, hD, hL, hz⟩
  refine br_dec (fun h1 => br_dec (fun h4 => ?_) fun _ => ⟨rfl, hD.d.bs⟩) fun _ => ⟨rfl, hD.d.bs⟩
  obtain ⟨b, off, ha, hi⟩ := flg_get hx k (by omega) hD.d.bs
  have hi0 : Gps w xs[k].a xs[k].xs ∧ RowAt w xs[k].ka (xs[k].kept.map Value.bool) := by
    obtain ⟨b', off', _, hi'⟩ := flg_get hx k (by omega) (Bs.refl w)
    exact ⟨hi'.row, hi'.kept⟩
  refine withP_mk b off ha ⟨by omega, by omega, _, _, _, _, _, _, _, by rw [Int.toNat_natCast]; exact hi.cell, newB hD.d.bs fun g1 w5 g10 sg5 n5 z5 b5 B5 => boxB B5 g10 fun w6 x6 B6 z6 => ⟨by decide, ?_⟩⟩
  have hltD := hD.lt
  have hne : ∀ k ∈ [gl, g, gd, mb], k ≠ g1 := fun k hk e => by have := hltD k hk; omega
  have h5 := hD.below b5
  have h6 : D2 w w6 gl g gd mb ⟨3, 24, 3, u, G.length⟩ S := h5.keepN B6 fun q hq => x6.1.block q (by have := h5.lt q hq; omega) (by rw [List.mem_singleton]; exact hne q hq)
  have hO6 : OwnR w6 w3.heap.size a6 c6 zs := hO.keep fun q hq1 hq2 => (x6.1.block q (Nat.lt_of_lt_of_le hq2 b5.size) (by rw [List.mem_singleton]; omega)).trans (b5.block q hq2)
  have kg : ∀ {wa wb : World}, Fr [gl, g, gd, mb] wa wb → KeepG [g1] wa wb := fun f => keepG_fr f fun q hq hm => by rw [List.mem_singleton] at hq; exact hne q hm hq
  have kg3 : ∀ {wa wb : World}, Fr [g, gd, mb] wa wb → KeepG [g1] wa wb := fun f => keepG_fr f fun q hq hm => by rw [List.mem_singleton] at hq; exact hne q (List.mem_cons_of_mem _ hm) hq
  obtain ⟨m, hm, em⟩ := u64_mod xs[k].off 12 (by omega)
  have em : Int.tmod (IntKind.u64.wrap xs[k].off) 12 = (m : Int) := em
  rw [em, wr64 (z := (m : Int)) (by omega) (by omega)]
  refine (dcut_any h6.d.t (m : Int)).mono ?_
  rintro e w7 ⟨rfl, t7, f7⟩
  have hL7 := hL.cut (n := (m : Int)) (by omega)
  have hgl := h6.not
  have F7 : Fr [gl, g, gd, mb] w6 w7 := f7.mono fun q hq => .inl (List.mem_cons_of_mem _ hq)
  have h7 : D2 w w7 gl g gd mb ⟨3, 24, 3, u, G.length⟩ (cutD S m) := ⟨h6.d.to t7 f7 hL7.wf, Bk.fr h6.lg f7 hgl, h6.l0⟩
  have hO7 := hO6.frL h6.lg hd3 F7
  refine ⟨kg3 f7, rfl, (lfew_new w7 (hi0.1.below h7.d.bs)).mono ?_⟩
  rintro e w8 ⟨a8, c8, ys, rfl, hys, hY, b8⟩
  have h8 := h7.below b8
  have hO8 := hO7.below b8
  have hs8 := few_len' hys
  refine ⟨keepG_below b8, a8, _, c8, rfl, ?_⟩
  refine (fill_any h8 (FI.start hL7) hY h7.lt b8.size h7.d.bs.size (fun x hx => by rw [hys] at hx; have := (fewGs_small x hx).1; omega) (by omega)).mono ?_
  rintro e w9 ⟨a9, c9, ds, a10, c10, un, T, L', rfl, hDs, hUn, h9, f9, hdl, hsub, hc⟩
  have hO9 := hO8.frL h8.lg hd3 f9
  have hunl : un.length ≤ 1000000 := by
    rcases hc with ⟨_, e⟩ | ⟨_, e⟩
    · rw [e]; exact Nat.zero_le _
    · rw [hys] at e
      have := (fewGs_small _ e).2
      rw [recs_len] at this
      omega
  have hdsl : (grps ds).flatten.length ≤ 1000 := by
    have h4 : ∀ x, x ∈ grps ds → x.length ≤ 4 := fun x hx => (fewGs_small x (by rw [← hys]; exact hsub x hx)).2
    have hg8 : (grps ds).length ≤ 8 := by rw [grps_len]; omega
    generalize grps ds = D at h4 hg8
    have : ∀ D : List Grp, (∀ x, x ∈ D → x.length ≤ 4) → D.flatten.length ≤ 4 * D.length := by
      intro D
      induction D with
      | nil => intro _; exact Nat.le_refl _
      | cons d r ih =>
        intro hh
        have h1 := hh d List.mem_cons_self
        have h2 := ih fun x hx => hh x (List.mem_cons_of_mem _ hx)
        rw [List.flatten_cons, List.length_append, List.length_cons]
        omega
    have := this D h4
    omega
  have hGl : zs.length ≤ 1600 := by
    have e1 := congrArg List.length hzs
    rw [recs_len] at e1
    have := hL.chain.recs
    have := hL.used
    omega
  have z79 : w7.heap.size ≤ w9.heap.size := Nat.le_trans b8.size f9.size
  refine ⟨kg f9, a9, _, c9, a10, _, c10, rfl, (rjoin_new hDs z79 (by omega) (by omega)).mono ?_⟩
  rintro e w10 ⟨a11, c11, js, rfl, hjs, hJ, b10⟩
  have h10 := h9.below b10
  have hjl : js.length ≤ 1000 := by rw [← recs_len, hjs]; exact hdsl
  have h37 : w3.heap.size ≤ w7.heap.size := Nat.le_trans hz (by have := b5.size; have := f7.size; omega)
  refine ⟨keepG_below b10, a11, _, c11, rfl, appRsg h10.d.bs (hO9.below b10) (hJ.base h37) B3.size (by have := b10.size; omega) (by omega) (fun q hq e => by rw [List.mem_singleton] at hq; subst hq; have := (hO.own.lt q e).2; omega) fun a12 c12 w11 O11 B11 z11 f11 or11 => ?_⟩
  have hq11 : ∀ q ∈ [gl, g, gd, mb], w11.heap[q]? = w10.heap[q]? := fun q hq => f11 q (h10.lt q hq) fun e => by
    rcases List.mem_cons.1 hq with rfl | hq
    · exact (hO9.below b10).not (show Bk w10 q _ _ from h10.lg) (by decide) e
    · have := hd3 q hq
      have := (hO.own.lt q e).1
      omega
  have h11 := h10.keepN B11 hq11
  have hUn11 : OwnR w11 w7.heap.size a10 c10 un := (hUn.below b10).keep fun q hq1 hq2 => f11 q hq2 fun e => by have := (hO.own.lt q e).2; have := b5.size; have := f7.size; omega
  refine crash_d1 h11.d hi0.2 (fun q hq hm => by rw [List.mem_singleton] at hq; exact hne q (List.mem_cons_of_mem _ hm) hq) fun w12 h12 f12 => ⟨rfl, ?_⟩
  have hcase : ∃ G' u', LogOk (crashD T xs[k].kept) 3 24 3 G' u' ∧ (G'.flatten = recs (zs ++ js) ∨ (recs un ≠ [] ∧ G'.flatten = recs (zs ++ js) ++ recs un)) := by
    have e0 : recs (zs ++ js) = G.flatten ++ (grps ds).flatten := by
      show (zs ++ js).map _ = _
      rw [List.map_append, show zs.map (·.bs) = G.flatten from hzs, show js.map (·.bs) = (grps ds).flatten from hjs]
    have e1 : (G ++ full (grps ds)).flatten = recs (zs ++ js) := by rw [e0, List.flatten_append, full_flat]
    rcases hc with ⟨hI, _⟩ | ⟨hFO, _⟩
    · exact ⟨_, _, hI.log.crash _, .inl e1⟩
    · rcases hFO.crash xs[k].kept with ⟨u', h⟩ | ⟨u', h⟩
      · exact ⟨_, _, h, .inl e1⟩
      · exact ⟨_, _, h, .inr ⟨hFO.ne, by rw [List.flatten_append, e1]; simp⟩⟩
  obtain ⟨G', u', hL12, hG'⟩ := hcase
  have hO12 : OwnR w12 w3.heap.size a12 c12 (zs ++ js) := O11.fr f12 hd3
  have hU12 : OwnR w12 w7.heap.size a10 c10 un := hUn11.fr f12 fun q hq => by have := hd3 q hq; omega
  refine (open_log h12 hL12).mono ?_
  rintro e w13 ⟨gl2, a13, c13, us, rfl, hus, hO13, h13, b13, _⟩
  have hk1 : IntKind.i64.wrap ((k : Int) + 1) = ((k + 1 : Nat) : Int) := by rw [wr64 (by omega) (by omega)]; omega
  have hul : us.length ≤ 1000000 := by
    have e1 := congrArg List.length hus
    rw [recs_len] at e1
    have hcr := hL12.chain.recs
    have hcu := hL12.used
    omega
  have hS13 := hO12.below b13
  have hU13 := hU12.below b13
  have z13 : w11.heap.size ≤ w13.heap.size := Nat.le_trans f12.size b13.size
  refine ⟨keepG_below b13, _, a13, _, c13, _, rfl, br_n (by decide) ?_⟩
  have eSl : zs.length + js.length = (zs ++ js).length := List.length_append.symm
  rw [eSl] at or11 ⊢
  refine callB h13.d.bs (rsame_ret w13 hO13.ims hS13.ims hul) fun w14 b14 B14 => ⟨_, rfl, ?_⟩
  have hS14 := hS13.below b14
  have hU14 := hU13.below b14
  have h14 := h13.below b14
  have z14 := b14.size
  have h3_14 : w3.heap.size ≤ w14.heap.size := by have := b10.size; omega
  rcases hG' with e | ⟨hne', e⟩
  · rw [decide_eq_true (by rw [hus, e])]
    exact br_f rfl ⟨⟨k + 1, gl2, u', _, G', zs ++ js, rfl, hk1, by omega, rfl, e.symm, hS14, h14, hL12, by omega⟩, by dsimp only; rw [hk1]; omega⟩
  · have hunp : 0 < un.length := by
      have : 0 < (recs un).length := List.length_pos_iff.2 hne'
      rw [recs_len] at this
      exact this
    rw [decide_eq_false (fun e2 => by
      rw [hus, e] at e2
      have := congrArg List.length e2
      rw [List.length_append, recs_len un] at this
      omega)]
    refine br_t rfl ?_
    refine appRsg B14 hS14 (hU14.base h37) B3.size (by omega) (by rw [← eSl]; omega) (fun q hq e3 => ?_) fun a15 c15 w15 O15 B15 z15 f15 _ => ?_
    · rw [List.mem_singleton] at hq
      subst hq
      rcases or11 with h | ⟨g', h, h3⟩
      · rw [e3] at h
        have := (hO.own.lt q h.symm).2
        omega
      · rw [e3] at h
        injection h with h
        have := b5.size
        have := f7.size
        have := b8.size
        have := f9.size
        have := b10.size
        omega
    have h15 : D2 w w15 gl2 g gd mb ⟨3, 24, 3, u', G'.length⟩ (crashD T xs[k].kept) := h14.keepN B15 fun q hq => f15 q (h14.lt q hq) fun e3 => by
      rcases List.mem_cons.1 hq with rfl | hq
      · exact hS14.not (show Bk w14 q _ _ from h14.lg) (by decide) e3
      · have := hd3 q hq
        have := (hS14.own.lt q e3).1
        omega
    have hO15 : Ims w15 a13 us := by
      have hO14 := hO13.below b14
      refine (OwnR.ims (n1 := w12.heap.size) ⟨hO14.own.keep fun q hq => f15 q (hO14.own.lt q hq).2 fun e3 => ?_, fun y hy => (hO14.rows y hy).keep fun q hq => f15 q ((hO14.rows y hy).lt q hq).2 fun e3 => own_kinds hS14.own (hO14.rows y hy) (by decide) e3 hq⟩)
      have h1 := (hO14.own.lt q hq).1
      have h2 := (hO12.own.lt q e3).2
      omega
    refine br_n (by omega) ?_
    rw [show (zs ++ js).length + un.length = (zs ++ js ++ un).length from List.length_append.symm]
    refine callB B15 (rsame_ret (c1 := c13) w15 hO15 O15.ims hul) fun w16 b16 B16 => ⟨_, rfl, ?_⟩
    have erec : recs (zs ++ js) ++ recs un = recs (zs ++ js ++ un) := (List.map_append (f := fun x : Im => x.bs) (l₁ := zs ++ js) (l₂ := un)).symm
    rw [decide_eq_true (hus.trans (e.trans erec))]
    refine br_f rfl ⟨⟨k + 1, gl2, u', _, G', zs ++ js ++ un, rfl, hk1, by omega, by simp, ?_, O15.below b16, h15.below b16, hL12, by have := b16.size; omega⟩, by dsimp only; rw [hk1]; omega⟩
    exact (e.trans erec).symm
end Go.Proofs.Ytpfmadinijofeaa
end
section
/- Conditions of functions, printed by a program of this claim's own (vcgen.py) out of the loaded code; each is proved to be enough. -/
set_option maxRecDepth 100000
namespace Go.Proofs.Ytpfmadinijofeaa
open Go.RowKit
namespace GSn
def env : Env := ⟨[(3, ⟨.int .i64, 1, .int .i64 0, 8, [.int .i64]⟩), (4, ⟨.bool, 1, .bool false, 1, [.bool]⟩), (5, ⟨.int .u8, 1, .int .u8 0, 1, [.int .u8]⟩), (9, ⟨.str, 1, .string ByteArray.empty, 16, [.str]⟩), (22, ⟨.slice 5, 1, .slice none 0 0, 24, [.slice]⟩), (23, ⟨.arr 2 22, 2, .agg #[.slice none 0 0, .slice none 0 0], 48, [.slice, .slice]⟩), (24, ⟨.ptr, 1, .pointer none, 8, [.ptr]⟩), (30, ⟨.int .u64, 1, .int .u64 0, 8, [.int .u64]⟩), (37, ⟨.arr 2 3, 2, .agg #[.int .i64 0, .int .i64 0], 16, [.int .i64, .int .i64]⟩), (38, ⟨.arr 2 4, 2, .agg #[.bool false, .bool false], 2, [.bool, .bool]⟩), (44, ⟨.slice 22, 1, .slice none 0 0, 24, [.slice]⟩), (45, ⟨.arr 2 9, 2, .agg #[.string ByteArray.empty, .string ByteArray.empty], 32, [.str, .str]⟩), (47, ⟨.arr 3 3, 3, .agg #[.int .i64 0, .int .i64 0, .int .i64 0], 24, [.int .i64, .int .i64, .int .i64]⟩), (60, ⟨.slice 3, 1, .slice none 0 0, 24, [.slice]⟩), (63, ⟨.slice 66, 1, .slice none 0 0, 24, [.slice]⟩), (64, ⟨.slice 4, 1, .slice none 0 0, 24, [.slice]⟩), (66, ⟨.struct [(0, 44), (1, 3), (2, 64)], 3, .agg #[.slice none 0 0, .int .i64 0, .slice none 0 0], 56, [.slice, .int .i64, .slice]⟩), (99, ⟨.struct [(0, 24), (1, 3), (2, 3), (3, 3)], 4, .agg #[.pointer none, .int .i64 0, .int .i64 0, .int .i64 0], 32, [.ptr, .int .i64, .int .i64, .int .i64]⟩), (122, ⟨.int .u32, 1, .int .u32 0, 4, [.int .u32]⟩)], [(13, [.lf (.ptr), .lf (.int .i64)]), (14, [.lf (.bool)]), (15, [.lf (.int .i64)]), (16, [.lf (.slice)]), (17, [.lf (.int .i64)]), (18, [.lf (.slice), .lf (.int .i64)]), (19, [.lf (.int .i64), .lf (.slice), .lf (.int .i64)]), (20, [.agg [.int .i64, .int .i64], .agg [.bool, .bool], .lf (.int .i64)]), (21, [.lf (.int .i64), .lf (.str), .lf (.bool)]), (32, [.lf (.int .i64)]), (33, [.lf (.int .i64)]), (34, [.lf (.str)]), (35, [.lf (.str)]), (36, [.lf (.slice)]), (37, []), (38, [.lf (.bool)]), (39, []), (49, [.agg [.ptr, .int .i64, .int .i64, .int .i64], .lf (.int .i64)]), (50, [.lf (.int .i64)]), (51, [.lf (.slice)]), (52, [.lf (.slice)]), (57, [.lf (.int .i64), .lf (.slice), .lf (.int .i64)]), (58, [.lf (.int .i64)]), (65, [.lf (.int .i64)]), (66, [.lf (.str)]), (67, [.lf (.int .u32)]), (73, [.lf (.int .u32)]), (74, [.lf (.slice)]), (83, [.lf (.str)])], [37, 38]⟩
theorem ty3 : TyOk Try.prog 3 ⟨.int .i64, 1, .int .i64 0, 8, [.int .i64]⟩ := tyok (by kernel_rfl) (by kernel_rfl)
theorem ty4 : TyOk Try.prog 4 ⟨.bool, 1, .bool false, 1, [.bool]⟩ := tyok (by kernel_rfl) (by kernel_rfl)
theorem ty5 : TyOk Try.prog 5 ⟨.int .u8, 1, .int .u8 0, 1, [.int .u8]⟩ := tyok (by kernel_rfl) (by kernel_rfl)
theorem ty9 : TyOk Try.prog 9 ⟨.str, 1, .string ByteArray.empty, 16, [.str]⟩ := tyok (by kernel_rfl) (by kernel_rfl)
theorem ty22 : TyOk Try.prog 22 ⟨.slice 5, 1, .slice none 0 0, 24, [.slice]⟩ := tyok (by kernel_rfl) (by kernel_rfl)
theorem ty23 : TyOk Try.prog 23 ⟨.arr 2 22, 2, .agg #[.slice none 0 0, .slice none 0 0], 48, [.slice, .slice]⟩ := tyok (by kernel_rfl) (by kernel_rfl)
theorem ty24 : TyOk Try.prog 24 ⟨.ptr, 1, .pointer none, 8, [.ptr]⟩ := tyok (by kernel_rfl) (by kernel_rfl)
theorem ty30 : TyOk Try.prog 30 ⟨.int .u64, 1, .int .u64 0, 8, [.int .u64]⟩ := tyok (by kernel_rfl) (by kernel_rfl)
theorem ty37 : TyOk Try.prog 37 ⟨.arr 2 3, 2, .agg #[.int .i64 0, .int .i64 0], 16, [.int .i64, .int .i64]⟩ := tyok (by kernel_rfl) (by kernel_rfl)
theorem ty38 : TyOk Try.prog 38 ⟨.arr 2 4, 2, .agg #[.bool false, .bool false], 2, [.bool, .bool]⟩ := tyok (by kernel_rfl) (by kernel_rfl)
theorem ty44 : TyOk Try.prog 44 ⟨.slice 22, 1, .slice none 0 0, 24, [.slice]⟩ := tyok (by kernel_rfl) (by kernel_rfl)
theorem ty45 : TyOk Try.prog 45 ⟨.arr 2 9, 2, .agg #[.string ByteArray.empty, .string ByteArray.empty], 32, [.str, .str]⟩ := tyok (by kernel_rfl) (by kernel_rfl)
theorem ty47 : TyOk Try.prog 47 ⟨.arr 3 3, 3, .agg #[.int .i64 0, .int .i64 0, .int .i64 0], 24, [.int .i64, .int .i64, .int .i64]⟩ := tyok (by kernel_rfl) (by kernel_rfl)
theorem ty60 : TyOk Try.prog 60 ⟨.slice 3, 1, .slice none 0 0, 24, [.slice]⟩ := tyok (by kernel_rfl) (by kernel_rfl)
theorem ty63 : TyOk Try.prog 63 ⟨.slice 66, 1, .slice none 0 0, 24, [.slice]⟩ := tyok (by kernel_rfl) (by kernel_rfl)
theorem ty64 : TyOk Try.prog 64 ⟨.slice 4, 1, .slice none 0 0, 24, [.slice]⟩ := tyok (by kernel_rfl) (by kernel_rfl)
theorem ty66 : TyOk Try.prog 66 ⟨.struct [(0, 44), (1, 3), (2, 64)], 3, .agg #[.slice none 0 0, .int .i64 0, .slice none 0 0], 56, [.slice, .int .i64, .slice]⟩ := tyok (by kernel_rfl) (by kernel_rfl)
theorem ty99 : TyOk Try.prog 99 ⟨.struct [(0, 24), (1, 3), (2, 3), (3, 3)], 4, .agg #[.pointer none, .int .i64 0, .int .i64 0, .int .i64 0], 32, [.ptr, .int .i64, .int .i64, .int .i64]⟩ := tyok (by kernel_rfl) (by kernel_rfl)
theorem ty122 : TyOk Try.prog 122 ⟨.int .u32, 1, .int .u32 0, 4, [.int .u32]⟩ := tyok (by kernel_rfl) (by kernel_rfl)
theorem fn13 : FnOk Try.prog 13 := fnok Try.func13 (by kernel_rfl) (by kernel_rfl)
theorem fn14 : FnOk Try.prog 14 := fnok Try.func14 (by kernel_rfl) (by kernel_rfl)
theorem fn15 : FnOk Try.prog 15 := fnok Try.func15 (by kernel_rfl) (by kernel_rfl)
theorem fn16 : FnOk Try.prog 16 := fnok Try.func16 (by kernel_rfl) (by kernel_rfl)
theorem fn17 : FnOk Try.prog 17 := fnok Try.func17 (by kernel_rfl) (by kernel_rfl)
theorem fn18 : FnOk Try.prog 18 := fnok Try.func18 (by kernel_rfl) (by kernel_rfl)
theorem fn19 : FnOk Try.prog 19 := fnok Try.func19 (by kernel_rfl) (by kernel_rfl)
theorem fn20 : FnOk Try.prog 20 := fnok Try.func20 (by kernel_rfl) (by kernel_rfl)
theorem fn21 : FnOk Try.prog 21 := fnok Try.func21 (by kernel_rfl) (by kernel_rfl)
theorem fn32 : FnOk Try.prog 32 := fnok Try.func32 (by kernel_rfl) (by kernel_rfl)
theorem fn33 : FnOk Try.prog 33 := fnok Try.func33 (by kernel_rfl) (by kernel_rfl)
theorem fn34 : FnOk Try.prog 34 := fnok Try.func34 (by kernel_rfl) (by kernel_rfl)
theorem fn35 : FnOk Try.prog 35 := fnok Try.func35 (by kernel_rfl) (by kernel_rfl)
theorem fn36 : FnOk Try.prog 36 := fnok Try.func36 (by kernel_rfl) (by kernel_rfl)
theorem fn37 : FnOk Try.prog 37 := fnok Try.func37 (by kernel_rfl) (by kernel_rfl)
theorem fn38 : FnOk Try.prog 38 := fnok Try.func38 (by kernel_rfl) (by kernel_rfl)
theorem fn39 : FnOk Try.prog 39 := fnok Try.func39 (by kernel_rfl) (by kernel_rfl)
theorem fn49 : FnOk Try.prog 49 := fnok Try.func49 (by kernel_rfl) (by kernel_rfl)
theorem fn50 : FnOk Try.prog 50 := fnok Try.func50 (by kernel_rfl) (by kernel_rfl)
theorem fn51 : FnOk Try.prog 51 := fnok Try.func51 (by kernel_rfl) (by kernel_rfl)
theorem fn52 : FnOk Try.prog 52 := fnok Try.func52 (by kernel_rfl) (by kernel_rfl)
theorem fn57 : FnOk Try.prog 57 := fnok Try.func57 (by kernel_rfl) (by kernel_rfl)
theorem fn58 : FnOk Try.prog 58 := fnok Try.func58 (by kernel_rfl) (by kernel_rfl)
theorem fn65 : FnOk Try.prog 65 := fnok Try.func65 (by kernel_rfl) (by kernel_rfl)
theorem fn66 : FnOk Try.prog 66 := fnok Try.func66 (by kernel_rfl) (by kernel_rfl)
theorem fn67 : FnOk Try.prog 67 := fnok Try.func67 (by kernel_rfl) (by kernel_rfl)
theorem fn73 : FnOk Try.prog 73 := fnok Try.func73 (by kernel_rfl) (by kernel_rfl)
theorem fn74 : FnOk Try.prog 74 := fnok Try.func74 (by kernel_rfl) (by kernel_rfl)
theorem fn83 : FnOk Try.prog 83 := fnok Try.func83 (by kernel_rfl) (by kernel_rfl)
theorem eqt37 : EqTy Try.prog 37 := ⟨by kernel_rfl, by kernel_rfl, by kernel_rfl⟩
theorem eqt38 : EqTy Try.prog 38 := ⟨by kernel_rfl, by kernel_rfl, by kernel_rfl⟩
theorem envOk : EOk Try.prog env := ⟨(by simp only [env, List.forall_mem_cons, List.not_mem_nil, false_implies, implies_true, and_true]; exact ⟨ty3, ty4, ty5, ty9, ty22, ty23, ty24, ty30, ty37, ty38, ty44, ty45, ty47, ty60, ty63, ty64, ty66, ty99, ty122⟩), (by simp only [env, List.forall_mem_cons, List.not_mem_nil, false_implies, implies_true, and_true]; exact ⟨fn13, fn14, fn15, fn16, fn17, fn18, fn19, fn20, fn21, fn32, fn33, fn34, fn35, fn36, fn37, fn38, fn39, fn49, fn50, fn51, fn52, fn57, fn58, fn65, fn66, fn67, fn73, fn74, fn83⟩), by kernel_rfl, (by simp only [env, List.forall_mem_cons, List.not_mem_nil, false_implies, implies_true, and_true]; exact ⟨eqt37, eqt38⟩)⟩
/-- purser/snap.at -/
def at_vc (p0 : Option Addr) (x1 : Int) (x2 : Int) (x3 : Int) (w : World) (K : Value → World → Prop) : Prop :=
  newO w (.cells #[.pointer none, .int .i64 0, .int .i64 0, .int .i64 0] 99) fun g w_2 =>
  br (Option.isNone p0) (
    ∀ w_3 : World, BoxSt g w_2 w_3 →
    K (.tuple #[.agg #[.pointer none, .int .i64 0, .int .i64 0, .int .i64 0], .int .i64 1]) w_3
  ) (
    br (decide (x1 < 0)) (
      ∀ w_4 : World, BoxSt g w_2 w_4 →
      K (.tuple #[.agg #[.pointer none, .int .i64 0, .int .i64 0, .int .i64 0], .int .i64 1]) w_4
    ) (
      br (decide (x2 < 1)) (
        ∀ w_5 : World, BoxSt g w_2 w_5 →
        K (.tuple #[.agg #[.pointer none, .int .i64 0, .int .i64 0, .int .i64 0], .int .i64 1]) w_5
      ) (
        Calls Try.prog 58 #[.pointer p0] w_2 fun e w_6 => KeepG [g] w_2 w_6 ∧
        ∃ (x23 : Int),
        e = .returned (.int .i64 x23) ∧
        (2 : Int) ≠ 0 ∧
        br (decide (x2 > (IntKind.i64.wrap (Int.tdiv x23 2)))) (
          ∀ w_7 : World, BoxSt g w_6 w_7 →
          K (.tuple #[.agg #[.pointer none, .int .i64 0, .int .i64 0, .int .i64 0], .int .i64 1]) w_7
        ) (
          Calls Try.prog 58 #[.pointer p0] w_6 fun e_2 w_8 => KeepG [g] w_6 w_8 ∧
          ∃ (x30 : Int),
          e_2 = .returned (.int .i64 x30) ∧
          br (decide (x1 > (IntKind.i64.wrap (x30 - (IntKind.i64.wrap (2 * x2)))))) (
            ∀ w_9 : World, BoxSt g w_8 w_9 →
            K (.tuple #[.agg #[.pointer none, .int .i64 0, .int .i64 0, .int .i64 0], .int .i64 1]) w_9
          ) (
            ∀ w_10 : World, BoxSt g w_8 w_10 →
            K (.tuple #[.agg #[.pointer p0, .int .i64 (IntKind.i64.wrap (x1 + (IntKind.i64.wrap (x3 * x2)))), .int .i64 x2, .int .i64 x3], .int .i64 0]) w_10
          )
        )
      )
    )
  )
def at_notes : Notes := ⟨[], [], [], []⟩
theorem at_calls (p0 : Option Addr) (x1 : Int) (x2 : Int) (x3 : Int) (w : World) (K : Value → World → Prop) (h : at_vc p0 x1 x2 x3 w K) : Calls Try.prog 49 #[.pointer p0, .int .i64 x1, .int .i64 x2, .int .i64 x3] w fun e w' => ∃ v, e = .returned v ∧ K v w' :=
  calls_of_fvc envOk Try.func49 at_notes [8] [.pointer p0, .int .i64 x1, .int .i64 x2, .int .i64 x3] w K (use_vc h (by as_aux_lemma => kernel_rfl))
/-- purser/snap.Room -/
def room_vc (x0 : Int) (w : World) (K : Value → World → Prop) : Prop :=
  br (decide (x0 < 1)) (
    K (.int .i64 0) w
  ) (
    br (decide (x0 > 8192)) (
      K (.int .i64 0) w
    ) (
      K (.int .i64 (IntKind.i64.wrap (64 * (IntKind.i64.wrap (x0 - 1))))) w
    )
  )
def room_notes : Notes := ⟨[], [], [], []⟩
theorem room_calls (x0 : Int) (w : World) (K : Value → World → Prop) (h : room_vc x0 w K) : Calls Try.prog 32 #[.int .i64 x0] w fun e w' => ∃ v, e = .returned v ∧ K v w' :=
  calls_of_fvc envOk Try.func32 room_notes [] [.int .i64 x0] w K (use_vc h (by as_aux_lemma => kernel_rfl))
/-- purser/snap.number -/
def number_vc (a0 : Option Addr) (n0 : Nat) (c0 : Nat) (x1 : Int) (x2 : Int) (w : World) (K : Value → World → Prop) : Prop :=
  ∃ (I : Option Addr → Nat → Nat → Int → World → Prop) (μ : Option Addr → Nat → Nat → Int → World → Nat),
  I a0 n0 c0 (IntKind.i64.wrap (x2 - 1)) w ∧
  ∀ (a0_2 : Option Addr) (n0_2 : Nat) (c0_2 : Nat) (x7 : Int) (w_2 : World), I a0_2 n0_2 c0_2 x7 w_2 →
  br (decide (x7 ≥ 0)) (
    (0 : Int) ≤ (IntKind.i64.wrap (8 * x7)) ∧
    newO w_2 (.cells #[.int .u8 (IntKind.u8.wrap (Int.fdiv x1 (2 ^ (min (IntKind.i64.wrap (8 * x7)).toNat (IntKind.bits .u64)))))] 5) fun g w_3 =>
    appO Try.prog [] w_3 5 1 1 22 a0_2 n0_2 c0_2 (.slice (some ⟨g, 0, none⟩) 1 1) fun m21 a21 c21 w_4 =>
    I a21 (n0_2 + m21) c21 (IntKind.i64.wrap (x7 - 1)) w_4 ∧ μ a21 (n0_2 + m21) c21 (IntKind.i64.wrap (x7 - 1)) w_4 < μ a0_2 n0_2 c0_2 x7 w_2
  ) (
    K (.slice a0_2 n0_2 c0_2) w_2
  )
def number_notes : Notes := ⟨[], [(2, ⟨[(0, .lf (.slice)), (7, .lf (.int .i64))], [], [10, 11, 14, 15, 16, 17, 18, 19, 20, 21, 0, 12, 13, 7], []⟩)], [], []⟩
theorem number_calls (a0 : Option Addr) (n0 : Nat) (c0 : Nat) (x1 : Int) (x2 : Int) (w : World) (K : Value → World → Prop) (h : number_vc a0 n0 c0 x1 x2 w K) : Calls Try.prog 74 #[.slice a0 n0 c0, .int .u64 x1, .int .i64 x2] w fun e w' => ∃ v, e = .returned v ∧ K v w' :=
  calls_of_fvc envOk Try.func74 number_notes [] [.slice a0 n0 c0, .int .u64 x1, .int .i64 x2] w K (use_vc h (by as_aux_lemma => kernel_rfl))
/-- purser/snap.head -/
def head_vc (x0 : Int) (a1 : Option Addr) (n1 : Nat) (c1 : Nat) (w : World) (K : Value → World → Prop) : Prop :=
  Calls Try.prog 74 #[.slice none 0 0, .int .u64 (IntKind.u64.wrap x0), .int .i64 8] w fun e w_2 => KeepG [] w w_2 ∧
  ∃ (a10 : Option Addr) (n10 : Nat) (c10 : Nat),
  e = .returned (.slice a10 n10 c10) ∧
  Calls Try.prog 74 #[.slice a10 n10 c10, .int .u64 (IntKind.u64.wrap ((n1 : Nat) : Int)), .int .i64 8] w_2 fun e_2 w_3 => KeepG [] w_2 w_3 ∧
  ∃ (a14 : Option Addr) (n14 : Nat) (c14 : Nat),
  e_2 = .returned (.slice a14 n14 c14) ∧
  newO w_3 (.cells #[.slice a14 n14 c14, .slice a1 n1 c1] 22) fun g w_4 =>
  Calls Try.prog 73 #[.slice (some ⟨g, 0, none⟩) 2 2] w_4 fun e_3 w_5 => KeepG [] w_4 w_5 ∧
  ∃ (x18 : Int),
  e_3 = .returned (.int .u32 x18) ∧
  newO w_5 (.cells #[.int .u8 3] 5) fun g_2 w_6 =>
  appO Try.prog [] w_6 5 1 1 22 (some ⟨g_2, 0, none⟩) 1 1 (.slice a14 n14 c14) fun m21 a21 c21 w_7 =>
  Calls Try.prog 74 #[.slice a21 (1 + m21) c21, .int .u64 (IntKind.u64.wrap x18), .int .i64 4] w_7 fun e_4 w_8 => KeepG [] w_7 w_8 ∧
  ∃ (a24 : Option Addr) (n24 : Nat) (c24 : Nat),
  e_4 = .returned (.slice a24 n24 c24) ∧
  appZ [] w_8 5 1 1 [.int .u8 0] a24 n24 c24 (IntKind.i64.wrap (64 - ((n24 : Nat) : Int))) fun m29 a29 c29 w_9 =>
  K (.slice a29 (n24 + m29) c29) w_9
def head_notes : Notes := ⟨[], [], [], []⟩
theorem head_calls (x0 : Int) (a1 : Option Addr) (n1 : Nat) (c1 : Nat) (w : World) (K : Value → World → Prop) (h : head_vc x0 a1 n1 c1 w K) : Calls Try.prog 52 #[.int .i64 x0, .slice a1 n1 c1] w fun e w' => ∃ v, e = .returned v ∧ K v w' :=
  calls_of_fvc envOk Try.func52 head_notes [] [.int .i64 x0, .slice a1 n1 c1] w K (use_vc h (by as_aux_lemma => kernel_rfl))
/-- purser/snap.whole -/
def whole_vc (a0 : Option Addr) (n0 : Nat) (c0 : Nat) (w : World) (K : Value → World → Prop) : Prop :=
  newO w (.cells #[] 5) fun g w_2 =>
  appO Try.prog [] w_2 5 1 1 22 (some ⟨g, 0, none⟩) 0 0 (.slice a0 n0 c0) fun m6 a6 c6 w_3 =>
  ∃ (I : Option Addr → Nat → Nat → World → Prop) (μ : Option Addr → Nat → Nat → World → Nat),
  I a6 (0 + m6) c6 w_3 ∧
  ∀ (a3 : Option Addr) (n3 : Nat) (c3 : Nat) (w_4 : World), I a3 n3 c3 w_4 →
  (64 : Int) ≠ 0 ∧
  br (decide ((Int.tmod ((n3 : Nat) : Int) 64) ≠ 0)) (
    newO w_4 (.cells #[.int .u8 0] 5) fun g_2 w_5 =>
    appO Try.prog [] w_5 5 1 1 22 a3 n3 c3 (.slice (some ⟨g_2, 0, none⟩) 1 1) fun m13 a13 c13 w_6 =>
    I a13 (n3 + m13) c13 w_6 ∧ μ a13 (n3 + m13) c13 w_6 < μ a3 n3 c3 w_4
  ) (
    K (.slice a3 n3 c3) w_4
  )
def whole_notes : Notes := ⟨[], [(2, ⟨[(3, .lf (.slice))], [], [7, 8, 9, 10, 11, 12, 13, 3], []⟩)], [], []⟩
theorem whole_calls (a0 : Option Addr) (n0 : Nat) (c0 : Nat) (w : World) (K : Value → World → Prop) (h : whole_vc a0 n0 c0 w K) : Calls Try.prog 51 #[.slice a0 n0 c0] w fun e w' => ∃ v, e = .returned v ∧ K v w' :=
  calls_of_fvc envOk Try.func51 whole_notes [] [.slice a0 n0 c0] w K (use_vc h (by as_aux_lemma => kernel_rfl))
/-- (purser/snap.place).write -/
def pwrite_vc (p0_0 : Option Addr) (x0_1 : Int) (x0_2 : Int) (x0_3 : Int) (x1 : Int) (a2 : Option Addr) (n2 : Nat) (c2 : Nat) (w : World) (K : Value → World → Prop) : Prop :=
  newO w (.cells #[.pointer p0_0, .int .i64 x0_1, .int .i64 x0_2, .int .i64 x0_3] 99) fun g w_2 =>
  br (decide (((n2 : Nat) : Int) = 0)) (
    K (.int .i64 0) w_2
  ) (
    Calls Try.prog 17 #[.pointer p0_0, .int .i64 (IntKind.i64.wrap (x0_1 + x1)), .slice a2 n2 c2] w_2 fun e w_3 => KeepG [g] w_2 w_3 ∧
    ∃ (x18 : Int),
    e = .returned (.int .i64 x18) ∧
    br (decide (x18 ≠ 0)) (
      K (.int .i64 x18) w_3
    ) (
      Calls Try.prog 65 #[.pointer p0_0] w_3 fun e_2 w_4 => KeepG [g] w_3 w_4 ∧
      ∃ (x24 : Int),
      e_2 = .returned (.int .i64 x24) ∧
      K (.int .i64 x24) w_4
    )
  )
def pwrite_notes : Notes := ⟨[], [], [], []⟩
theorem pwrite_calls (p0_0 : Option Addr) (x0_1 : Int) (x0_2 : Int) (x0_3 : Int) (x1 : Int) (a2 : Option Addr) (n2 : Nat) (c2 : Nat) (w : World) (K : Value → World → Prop) (h : pwrite_vc p0_0 x0_1 x0_2 x0_3 x1 a2 n2 c2 w K) : Calls Try.prog 50 #[.agg #[.pointer p0_0, .int .i64 x0_1, .int .i64 x0_2, .int .i64 x0_3], .int .i64 x1, .slice a2 n2 c2] w fun e w' => ∃ v, e = .returned v ∧ K v w' :=
  calls_of_fvc envOk Try.func50 pwrite_notes [3] [.agg #[.pointer p0_0, .int .i64 x0_1, .int .i64 x0_2, .int .i64 x0_3], .int .i64 x1, .slice a2 n2 c2] w K (use_vc h (by as_aux_lemma => kernel_rfl))
/-- purser/snap.Save -/
def save_vc (p0 : Option Addr) (x1 : Int) (x2 : Int) (x3 : Int) (a4 : Option Addr) (n4 : Nat) (c4 : Nat) (w : World) (K : Value → World → Prop) : Prop :=
  Calls Try.prog 49 #[.pointer p0, .int .i64 x1, .int .i64 x2, .int .i64 (bitsV .and .i64 x3 1)] w fun e w_2 => KeepG [] w w_2 ∧
  ∃ (p20_0_0 : Option Addr) (x20_0_1 : Int) (x20_0_2 : Int) (x20_0_3 : Int) (x20_1 : Int),
  e = .returned (.tuple #[.agg #[.pointer p20_0_0, .int .i64 x20_0_1, .int .i64 x20_0_2, .int .i64 x20_0_3], .int .i64 x20_1]) ∧
  newO w_2 (.cells #[.pointer none, .int .i64 0, .int .i64 0, .int .i64 0] 99) fun g w_3 =>
  ∀ w_4 : World, BoxSt g w_3 w_4 →
  br (decide (x20_1 ≠ 0)) (
    K (.int .i64 x20_1) w_4
  ) (
    br (decide (x3 < 1)) (
      K (.int .i64 1) w_4
    ) (
      Calls Try.prog 32 #[.int .i64 x2] w_4 fun e_2 w_5 => KeepG [g] w_4 w_5 ∧
      ∃ (x34 : Int),
      e_2 = .returned (.int .i64 x34) ∧
      br (decide (((n4 : Nat) : Int) > x34)) (
        K (.int .i64 5) w_5
      ) (
        drewO w_5 fun w_6 =>
        Calls Try.prog 51 #[.slice a4 n4 c4] w_6 fun e_3 w_7 => KeepG [g] w_6 w_7 ∧
        ∃ (a38 : Option Addr) (n38 : Nat) (c38 : Nat),
        e_3 = .returned (.slice a38 n38 c38) ∧
        Calls Try.prog 50 #[.agg #[.pointer p20_0_0, .int .i64 x20_0_1, .int .i64 x20_0_2, .int .i64 x20_0_3], .int .i64 1, .slice a38 n38 c38] w_7 fun e_4 w_8 => KeepG [g] w_7 w_8 ∧
        ∃ (x39 : Int),
        e_4 = .returned (.int .i64 x39) ∧
        br (decide (x39 ≠ 0)) (
          K (.int .i64 x39) w_8
        ) (
          drewO w_8 fun w_9 =>
          Calls Try.prog 52 #[.int .i64 x3, .slice a4 n4 c4] w_9 fun e_5 w_10 => KeepG [g] w_9 w_10 ∧
          ∃ (a46 : Option Addr) (n46 : Nat) (c46 : Nat),
          e_5 = .returned (.slice a46 n46 c46) ∧
          Calls Try.prog 50 #[.agg #[.pointer p20_0_0, .int .i64 x20_0_1, .int .i64 x20_0_2, .int .i64 x20_0_3], .int .i64 0, .slice a46 n46 c46] w_10 fun e_6 w_11 => KeepG [g] w_10 w_11 ∧
          ∃ (x47 : Int),
          e_6 = .returned (.int .i64 x47) ∧
          K (.int .i64 x47) w_11
        )
      )
    )
  )
def save_notes : Notes := ⟨[(8, ⟨[0, 0, 2, 7, 15], [2, 3], [0, 1, 4]⟩), (11, ⟨[0, 0, 0, 6, 15, 31], [3, 4], [0, 1, 2, 5]⟩)], [], [], []⟩
theorem save_calls (p0 : Option Addr) (x1 : Int) (x2 : Int) (x3 : Int) (a4 : Option Addr) (n4 : Nat) (c4 : Nat) (w : World) (K : Value → World → Prop) (h : save_vc p0 x1 x2 x3 a4 n4 c4 w K) : Calls Try.prog 15 #[.pointer p0, .int .i64 x1, .int .i64 x2, .int .i64 x3, .slice a4 n4 c4] w fun e w' => ∃ v, e = .returned v ∧ K v w' :=
  calls_of_fvc envOk Try.func15 save_notes [11] [.pointer p0, .int .i64 x1, .int .i64 x2, .int .i64 x3, .slice a4 n4 c4] w K (use_vc h (by as_aux_lemma => kernel_rfl))
/-- (purser/snap.place).read -/
def pread_vc (p0_0 : Option Addr) (x0_1 : Int) (x0_2 : Int) (x0_3 : Int) (w : World) (K : Value → World → Prop) : Prop :=
  newO w (.cells #[.pointer p0_0, .int .i64 x0_1, .int .i64 x0_2, .int .i64 x0_3] 99) fun g w_2 =>
  Calls Try.prog 18 #[.pointer p0_0, .int .i64 x0_1, .int .i64 x0_2] w_2 fun e w_3 => KeepG [g] w_2 w_3 ∧
  ∃ (a16_0 : Option Addr) (n16_0 : Nat) (c16_0 : Nat) (x16_1 : Int),
  e = .returned (.tuple #[.slice a16_0 n16_0 c16_0, .int .i64 x16_1]) ∧
  br (decide (x16_1 ≠ 0)) (
    K (.tuple #[.int .i64 0, .slice none 0 0, .int .i64 x16_1]) w_3
  ) (
    newO w_3 (.cells #[.int .i64 0, .int .i64 0] 37) fun g_2 w_4 =>
    (0 : Int) ≤ (1 : Int) ∧ (1 : Int) ≤ (17 : Int) ∧ (17 : Int) ≤ (((c16_0 : Nat) : Int) : Int) ∧
    ∃ (I : Int → World → Prop) (μ : Int → World → Nat),
    I 0 w_4 ∧
    ∀ (x25 : Int) (w_5 : World), I x25 w_5 →
    br (decide (x25 < (((17 : Int).toNat - (1 : Int).toNat : Nat) : Int))) (
      withP (sliceBase a16_0 c16_0 ((1 : Int).toNat) 1) fun g28 o28 =>
      (0 : Int) ≤ x25 ∧ x25 < ((((17 : Int).toNat - (1 : Int).toNat : Nat) : Int) : Int) ∧
      ∃ (x29 : Int), w_5.cell? ⟨g28, o28 + x25.toNat * 1, none⟩ = some (.int .u8 x29) ∧
      (8 : Int) ≠ 0 ∧
      (8 : Int) ≠ 0 ∧
      (0 : Int) ≤ IntKind.i64.wrap (Int.tdiv x25 8) ∧ IntKind.i64.wrap (Int.tdiv x25 8) < ((2 : Nat) : Int) ∧
      ∃ (x35 : Int), w_5.cell? ⟨g_2, 0 + (IntKind.i64.wrap (Int.tdiv x25 8)).toNat * 1, none⟩ = some (.int .i64 x35) ∧
      (0 : Int) ≤ 8 ∧
      (0 : Int) ≤ IntKind.i64.wrap (Int.tdiv x25 8) ∧ IntKind.i64.wrap (Int.tdiv x25 8) < ((2 : Nat) : Int) ∧
      stO [g] w_5 g_2 (0 + (IntKind.i64.wrap (Int.tdiv x25 8)).toNat * 1) [.int .i64 (bitsV .or .i64 (IntKind.i64.wrap (x35 * 2 ^ (min (8 : Int).toNat (IntKind.bits .i64)))) (IntKind.i64.wrap x29))] fun w_6 =>
      I (IntKind.i64.wrap (x25 + 1)) w_6 ∧ μ (IntKind.i64.wrap (x25 + 1)) w_6 < μ x25 w_5
    ) (
      drewO w_5 fun w_7 =>
      (0 : Int) ≤ 0 ∧ 0 < ((2 : Nat) : Int) ∧
      ∃ (x43 : Int), w_7.cell? ⟨g_2, 0 + (0 : Int).toNat * 1, none⟩ = some (.int .i64 x43) ∧
      br (decide (x43 < 1)) (
        K (.tuple #[.int .i64 0, .slice none 0 0, .int .i64 0]) w_7
      ) (
        (0 : Int) ≤ 0 ∧ 0 < ((2 : Nat) : Int) ∧
        ∃ (x47 : Int), w_7.cell? ⟨g_2, 0 + (0 : Int).toNat * 1, none⟩ = some (.int .i64 x47) ∧
        br (decide ((bitsV .and .i64 x47 1) ≠ x0_3)) (
          K (.tuple #[.int .i64 0, .slice none 0 0, .int .i64 0]) w_7
        ) (
          (0 : Int) ≤ 1 ∧ 1 < ((2 : Nat) : Int) ∧
          ∃ (x55 : Int), w_7.cell? ⟨g_2, 0 + (1 : Int).toNat * 1, none⟩ = some (.int .i64 x55) ∧
          br (decide (x55 < 0)) (
            K (.tuple #[.int .i64 0, .slice none 0 0, .int .i64 0]) w_7
          ) (
            (0 : Int) ≤ 1 ∧ 1 < ((2 : Nat) : Int) ∧
            ∃ (x60 : Int), w_7.cell? ⟨g_2, 0 + (1 : Int).toNat * 1, none⟩ = some (.int .i64 x60) ∧
            Calls Try.prog 32 #[.int .i64 x0_2] w_7 fun e_2 w_9 => KeepG [g] w_7 w_9 ∧
            ∃ (x63 : Int),
            e_2 = .returned (.int .i64 x63) ∧
            w_9.cell? ⟨g_2, 0 + (1 : Int).toNat * 1, none⟩ = some (.int .i64 x60) ∧
            br (decide (x60 > x63)) (
              K (.tuple #[.int .i64 0, .slice none 0 0, .int .i64 0]) w_9
            ) (
              newO w_9 (.cells #[] 5) fun g_3 w_10 =>
              (0 : Int) ≤ 1 ∧ 1 < ((2 : Nat) : Int) ∧
              ∃ (x69 : Int), w_10.cell? ⟨g_2, 0 + (1 : Int).toNat * 1, none⟩ = some (.int .i64 x69) ∧
              (0 : Int) ≤ (64 : Int) ∧ (64 : Int) ≤ IntKind.i64.wrap (64 + x69) ∧ IntKind.i64.wrap (64 + x69) ≤ (((c16_0 : Nat) : Int) : Int) ∧
              appO Try.prog [g] w_10 5 1 1 22 (some ⟨g_3, 0, none⟩) 0 0 (.slice (sliceBase a16_0 c16_0 ((64 : Int).toNat) 1) ((IntKind.i64.wrap (64 + x69)).toNat - (64 : Int).toNat) (c16_0 - (64 : Int).toNat)) fun m72 a72 c72 w_11 =>
              drewO w_11 fun w_12 =>
              (0 : Int) ≤ (64 : Int) ∧ (64 : Int) ≤ (((c16_0 : Nat) : Int) : Int) ∧
              ∃ bs75 : List UInt8, bs75.length = (64 : Int).toNat ∧ RowAt w_12 a16_0 (bs75.map bV) ∧
              (0 : Int) ≤ 0 ∧ 0 < ((2 : Nat) : Int) ∧
              ∃ (x77 : Int), w_12.cell? ⟨g_2, 0 + (0 : Int).toNat * 1, none⟩ = some (.int .i64 x77) ∧
              Calls Try.prog 52 #[.int .i64 x77, .slice a72 (0 + m72) c72] w_12 fun e_3 w_13 => KeepG [g] w_12 w_13 ∧
              ∃ (a79 : Option Addr) (n79 : Nat) (c79 : Nat),
              e_3 = .returned (.slice a79 n79 c79) ∧
              RowAt w_13 a16_0 (bs75.map bV) ∧
              ∃ bs80 : List UInt8, bs80.length = n79 ∧ RowAt w_13 a79 (bs80.map bV) ∧
              br (decide ((strOf bs75) ≠ (strOf bs80))) (
                K (.tuple #[.int .i64 0, .slice none 0 0, .int .i64 0]) w_13
              ) (
                (0 : Int) ≤ 0 ∧ 0 < ((2 : Nat) : Int) ∧
                ∃ (x83 : Int), w_13.cell? ⟨g_2, 0 + (0 : Int).toNat * 1, none⟩ = some (.int .i64 x83) ∧
                K (.tuple #[.int .i64 x83, .slice a72 (0 + m72) c72, .int .i64 0]) w_13
              )
            )
          )
        )
      )
    )
  )
def pread_notes : Notes := ⟨[(10, ⟨[0, 1, 3, 7, 15, 31, 63, 15, 143, 511, 1023, 2047, 4095, 8191, 16383, 32767, 65535, 131071, 262143, 131071, 655359, 1703935, 4194303, 8388607], [21], [0, 1, 2, 3, 4, 5, 6, 7, 8, 9, 10, 11, 12, 13, 14, 15, 16, 17, 18, 19, 20, 22, 23]⟩), (13, ⟨[0, 1, 3, 0, 8, 0, 56, 120, 255], [6], [0, 1, 2, 3, 4, 5, 7, 8]⟩)], [(6, ⟨[(25, .lf (.int .i64))], [], [26, 27, 28, 29, 7, 8, 30, 31, 32, 33, 34, 35, 36, 37, 38, 39, 40, 41, 25], []⟩)], [], []⟩
theorem pread_calls (p0_0 : Option Addr) (x0_1 : Int) (x0_2 : Int) (x0_3 : Int) (w : World) (K : Value → World → Prop) (h : pread_vc p0_0 x0_1 x0_2 x0_3 w K) : Calls Try.prog 57 #[.agg #[.pointer p0_0, .int .i64 x0_1, .int .i64 x0_2, .int .i64 x0_3]] w fun e w' => ∃ v, e = .returned v ∧ K v w' :=
  calls_of_fvc envOk Try.func57 pread_notes [1] [.agg #[.pointer p0_0, .int .i64 x0_1, .int .i64 x0_2, .int .i64 x0_3]] w K (use_vc h (by as_aux_lemma => kernel_rfl))
/-- purser/snap.Load -/
def load_vc (p0 : Option Addr) (x1 : Int) (x2 : Int) (w : World) (K : Value → World → Prop) : Prop :=
  ∃ (I : Int → Option Addr → Nat → Nat → Int → World → Prop) (μ : Int → Option Addr → Nat → Nat → Int → World → Nat),
  I 0 none 0 0 0 w ∧
  ∀ (x9 : Int) (a10 : Option Addr) (n10 : Nat) (c10 : Nat) (x16 : Int) (w_2 : World), I x9 a10 n10 c10 x16 w_2 →
  br (decide (x16 < 2)) (
    Calls Try.prog 49 #[.pointer p0, .int .i64 x1, .int .i64 x2, .int .i64 x16] w_2 fun e w_3 => KeepG [] w_2 w_3 ∧
    ∃ (p24_0_0 : Option Addr) (x24_0_1 : Int) (x24_0_2 : Int) (x24_0_3 : Int) (x24_1 : Int),
    e = .returned (.tuple #[.agg #[.pointer p24_0_0, .int .i64 x24_0_1, .int .i64 x24_0_2, .int .i64 x24_0_3], .int .i64 x24_1]) ∧
    newO w_3 (.cells #[.pointer none, .int .i64 0, .int .i64 0, .int .i64 0] 99) fun g w_4 =>
    ∀ w_5 : World, BoxSt g w_4 w_5 →
    br (decide (x24_1 ≠ 0)) (
      K (.tuple #[.int .i64 0, .slice none 0 0, .int .i64 x24_1]) w_5
    ) (
      Calls Try.prog 57 #[.agg #[.pointer p24_0_0, .int .i64 x24_0_1, .int .i64 x24_0_2, .int .i64 x24_0_3]] w_5 fun e_2 w_6 => KeepG [g] w_5 w_6 ∧
      ∃ (x32_0 : Int) (a32_1 : Option Addr) (n32_1 : Nat) (c32_1 : Nat) (x32_2 : Int),
      e_2 = .returned (.tuple #[.int .i64 x32_0, .slice a32_1 n32_1 c32_1, .int .i64 x32_2]) ∧
      br (decide (x32_2 ≠ 0)) (
        K (.tuple #[.int .i64 0, .slice none 0 0, .int .i64 x32_2]) w_6
      ) (
        br (decide (x32_0 > x9)) (
          I x32_0 a32_1 n32_1 c32_1 (IntKind.i64.wrap (x16 + 1)) w_6 ∧ μ x32_0 a32_1 n32_1 c32_1 (IntKind.i64.wrap (x16 + 1)) w_6 < μ x9 a10 n10 c10 x16 w_2
        ) (
          I x9 a10 n10 c10 (IntKind.i64.wrap (x16 + 1)) w_6 ∧ μ x9 a10 n10 c10 (IntKind.i64.wrap (x16 + 1)) w_6 < μ x9 a10 n10 c10 x16 w_2
        )
      )
    )
  ) (
    br (decide (x9 = 0)) (
      K (.tuple #[.int .i64 0, .slice none 0 0, .int .i64 7]) w_2
    ) (
      K (.tuple #[.int .i64 x9, .slice a10 n10 c10, .int .i64 0]) w_2
    )
  )
def load_notes : Notes := ⟨[], [(3, ⟨[(9, .lf (.int .i64)), (10, .lf (.slice)), (16, .lf (.int .i64))], [], [17, 18, 11, 20, 21, 22, 23, 24, 19, 25, 26, 12, 13, 27, 28, 29, 6, 7, 8, 31, 32, 30, 33, 34, 35, 14, 15, 36, 37, 38, 39, 40, 41, 42, 43, 9, 10, 44, 16], [12]⟩)], [], []⟩
theorem load_calls (p0 : Option Addr) (x1 : Int) (x2 : Int) (w : World) (K : Value → World → Prop) (h : load_vc p0 x1 x2 w K) : Calls Try.prog 19 #[.pointer p0, .int .i64 x1, .int .i64 x2] w fun e w' => ∃ v, e = .returned v ∧ K v w' :=
  calls_of_fvc envOk Try.func19 load_notes [12] [.pointer p0, .int .i64 x1, .int .i64 x2] w K (use_vc h (by as_aux_lemma => kernel_rfl))
/-- purser/snap.Gens -/
def gens_vc (p0 : Option Addr) (x1 : Int) (x2 : Int) (w : World) (K : Value → World → Prop) : Prop :=
  newO w (.cells #[.int .i64 0, .int .i64 0] 37) fun g w_2 =>
  newO w_2 (.cells #[.bool false, .bool false] 38) fun g_2 w_3 =>
  newO w_3 (.cells #[.int .i64 0, .int .i64 0] 37) fun g_3 w_4 =>
  newO w_4 (.cells #[.bool false, .bool false] 38) fun g_4 w_5 =>
  ∃ (I : Int → Bool → Bool → Int → Int → World → Prop) (μ : Int → Bool → Bool → Int → Int → World → Nat),
  I 0 false false 0 0 w_5 ∧
  ∀ (x16 : Int) (b7_0 : Bool) (b7_1 : Bool) (x6_0 : Int) (x6_1 : Int) (w_6 : World), I x16 b7_0 b7_1 x6_0 x6_1 w_6 →
  br (decide (x16 < 2)) (
    Calls Try.prog 49 #[.pointer p0, .int .i64 x1, .int .i64 x2, .int .i64 x16] w_6 fun e w_7 => KeepG [g_2, g] w_6 w_7 ∧
    ∃ (p24_0_0 : Option Addr) (x24_0_1 : Int) (x24_0_2 : Int) (x24_0_3 : Int) (x24_1 : Int),
    e = .returned (.tuple #[.agg #[.pointer p24_0_0, .int .i64 x24_0_1, .int .i64 x24_0_2, .int .i64 x24_0_3], .int .i64 x24_1]) ∧
    newO w_7 (.cells #[.pointer none, .int .i64 0, .int .i64 0, .int .i64 0] 99) fun g_5 w_8 =>
    ∀ w_9 : World, BoxSt g_5 w_8 w_9 →
    br (decide (x24_1 ≠ 0)) (
      ∀ w_10 : World, BoxSt g w_9 w_10 →
      ∀ w_11 : World, BoxSt g_2 w_10 w_11 →
      K (.tuple #[.agg #[.int .i64 0, .int .i64 0], .agg #[.bool false, .bool false], .int .i64 x24_1]) w_11
    ) (
      Calls Try.prog 57 #[.agg #[.pointer p24_0_0, .int .i64 x24_0_1, .int .i64 x24_0_2, .int .i64 x24_0_3]] w_9 fun e_2 w_12 => KeepG [g_5, g_2, g] w_9 w_12 ∧
      ∃ (x34_0 : Int) (a34_1 : Option Addr) (n34_1 : Nat) (c34_1 : Nat) (x34_2 : Int),
      e_2 = .returned (.tuple #[.int .i64 x34_0, .slice a34_1 n34_1 c34_1, .int .i64 x34_2]) ∧
      br (decide (x34_2 ≠ 0)) (
        ∀ w_13 : World, BoxSt g w_12 w_13 →
        ∀ w_14 : World, BoxSt g_2 w_13 w_14 →
        K (.tuple #[.agg #[.int .i64 0, .int .i64 0], .agg #[.bool false, .bool false], .int .i64 x34_2]) w_14
      ) (
        (0 : Int) ≤ x16 ∧ x16 < ((2 : Nat) : Int) ∧
        stO [g_5, g_2, g] w_12 g_3 (0 + x16.toNat * 1) [.int .i64 x34_0] fun w_15 =>
        (0 : Int) ≤ x16 ∧ x16 < ((2 : Nat) : Int) ∧
        stO [g_5, g_2, g] w_15 g_4 (0 + x16.toNat * 1) [.bool (decide (x34_0 > 0))] fun w_16 =>
        I (IntKind.i64.wrap (x16 + 1)) b7_0 b7_1 x6_0 x6_1 w_16 ∧ μ (IntKind.i64.wrap (x16 + 1)) b7_0 b7_1 x6_0 x6_1 w_16 < μ x16 b7_0 b7_1 x6_0 x6_1 w_6
      )
    )
  ) (
    drewO w_6 fun w_17 =>
    ∃ (x51_0 : Int) (x51_1 : Int),
    cellsAt w_17 g_3 0 [.int .i64 x51_0, .int .i64 x51_1] ∧
    ∃ (b52_0 : Bool) (b52_1 : Bool),
    cellsAt w_17 g_4 0 [.bool b52_0, .bool b52_1] ∧
    ∀ w_18 : World, BoxSt g w_17 w_18 →
    cellsAt w_18 g_4 0 [.bool b52_0, .bool b52_1] ∧
    ∀ w_19 : World, BoxSt g_2 w_18 w_19 →
    K (.tuple #[.agg #[.int .i64 x51_0, .int .i64 x51_1], .agg #[.bool b52_0, .bool b52_1], .int .i64 0]) w_19
  )
def gens_notes : Notes := ⟨[(14, ⟨[0, 0, 1, 7, 15], [2, 3], [0, 1, 4]⟩)], [(4, ⟨[(16, .lf (.int .i64))], [(7, [.bool, .bool]), (6, [.int .i64, .int .i64])], [17, 18, 11, 20, 21, 22, 23, 24, 19, 25, 26, 12, 13, 27, 28, 29, 30, 31, 8, 33, 34, 32, 35, 36, 37, 14, 15, 38, 39, 40, 41, 42, 43, 44, 45, 46, 47, 48, 49, 50, 16], [12, 7, 6]⟩)], [], []⟩
theorem gens_calls (p0 : Option Addr) (x1 : Int) (x2 : Int) (w : World) (K : Value → World → Prop) (h : gens_vc p0 x1 x2 w K) : Calls Try.prog 20 #[.pointer p0, .int .i64 x1, .int .i64 x2] w fun e w' => ∃ v, e = .returned v ∧ K v w' :=
  calls_of_fvc envOk Try.func20 gens_notes [6, 7, 12] [.pointer p0, .int .i64 x1, .int .i64 x2] w K (use_vc h (by as_aux_lemma => kernel_rfl))
/-- purser/purserref06.number -/
def rnumber_vc (x0 : Int) (x1 : Int) (w : World) (K : Value → World → Prop) : Prop :=
  ∃ (I : ByteArray → Int → World → Prop) (μ : ByteArray → Int → World → Nat),
  I (⟨#[]⟩ : ByteArray) (IntKind.i64.wrap (x1 - 1)) w ∧
  ∀ (s5 : ByteArray) (x6 : Int) (w_2 : World), I s5 x6 w_2 →
  br (decide (x6 ≥ 0)) (
    (0 : Int) ≤ (IntKind.i64.wrap (8 * x6)) ∧
    Calls Try.prog 83 #[.int .i64 (IntKind.i64.wrap (bitsV .and .u64 (Int.fdiv (IntKind.u64.wrap x0) (2 ^ (min (IntKind.i64.wrap (8 * x6)).toNat (IntKind.bits .u64)))) 255))] w_2 fun e w_3 => KeepG [] w_2 w_3 ∧
    ∃ (s21 : ByteArray),
    e = .returned (.string s21) ∧
    s5.size + s21.size ≤ 9223372036854775807 ∧
    I (s5 ++ s21) (IntKind.i64.wrap (x6 - 1)) w_3 ∧ μ (s5 ++ s21) (IntKind.i64.wrap (x6 - 1)) w_3 < μ s5 x6 w_2
  ) (
    K (.string s5) w_2
  )
def rnumber_notes : Notes := ⟨[], [(3, ⟨[(5, .lf (.str)), (6, .lf (.int .i64))], [], [9, 10, 13, 14, 15, 16, 17, 18, 19, 20, 21, 22, 5, 11, 12, 6], []⟩)], [], []⟩
theorem rnumber_calls (x0 : Int) (x1 : Int) (w : World) (K : Value → World → Prop) (h : rnumber_vc x0 x1 w K) : Calls Try.prog 66 #[.int .i64 x0, .int .i64 x1] w fun e w' => ∃ v, e = .returned v ∧ K v w' :=
  calls_of_fvc envOk Try.func66 rnumber_notes [] [.int .i64 x0, .int .i64 x1] w K (use_vc h (by as_aux_lemma => kernel_rfl))
/-- purser/purserref06.Head -/
def rhead_vc (x0 : Int) (s1 : ByteArray) (w : World) (K : Value → World → Prop) : Prop :=
  Calls Try.prog 66 #[.int .i64 x0, .int .i64 8] w fun e w_2 => KeepG [] w w_2 ∧
  ∃ (s8 : ByteArray),
  e = .returned (.string s8) ∧
  Calls Try.prog 66 #[.int .i64 ((s1.size : Nat) : Int), .int .i64 8] w_2 fun e_2 w_3 => KeepG [] w_2 w_3 ∧
  ∃ (s11 : ByteArray),
  e_2 = .returned (.string s11) ∧
  s8.size + s11.size ≤ 9223372036854775807 ∧
  (⟨#[3]⟩ : ByteArray).size + (s8 ++ s11).size ≤ 9223372036854775807 ∧
  (s8 ++ s11).size + s1.size ≤ 9223372036854775807 ∧
  Calls Try.prog 67 #[.string ((s8 ++ s11) ++ s1)] w_3 fun e_3 w_4 => KeepG [] w_3 w_4 ∧
  ∃ (x18 : Int),
  e_3 = .returned (.int .u32 x18) ∧
  Calls Try.prog 66 #[.int .i64 (IntKind.i64.wrap x18), .int .i64 4] w_4 fun e_4 w_5 => KeepG [] w_4 w_5 ∧
  ∃ (s20 : ByteArray),
  e_4 = .returned (.string s20) ∧
  ((⟨#[3]⟩ : ByteArray) ++ (s8 ++ s11)).size + s20.size ≤ 9223372036854775807 ∧
  (0 : Int) ≤ IntKind.i64.wrap (64 - (((((⟨#[3]⟩ : ByteArray) ++ (s8 ++ s11)) ++ s20).size : Nat) : Int)) ∧ IntKind.i64.wrap (64 - (((((⟨#[3]⟩ : ByteArray) ++ (s8 ++ s11)) ++ s20).size : Nat) : Int)) ≤ IntKind.i64.wrap (64 - (((((⟨#[3]⟩ : ByteArray) ++ (s8 ++ s11)) ++ s20).size : Nat) : Int)) ∧ ((1 : Nat) : Int) * (IntKind.i64.wrap (64 - (((((⟨#[3]⟩ : ByteArray) ++ (s8 ++ s11)) ++ s20).size : Nat) : Int))) ≤ 281474976710656 ∧ IntKind.i64.wrap (64 - (((((⟨#[3]⟩ : ByteArray) ++ (s8 ++ s11)) ++ s20).size : Nat) : Int)) ≤ 9223372036854775807 ∧
  newO w_5 (.cells (madeCells (Value.cells (.int .u8 0)) ((IntKind.i64.wrap (64 - (((((⟨#[3]⟩ : ByteArray) ++ (s8 ++ s11)) ++ s20).size : Nat) : Int))).toNat * 1)) 5) fun g w_6 =>
  ∃ bs27 : List UInt8, bs27.length = (IntKind.i64.wrap (64 - (((((⟨#[3]⟩ : ByteArray) ++ (s8 ++ s11)) ++ s20).size : Nat) : Int))).toNat ∧ RowAt w_6 (some ⟨g, 0, none⟩) (bs27.map bV) ∧
  (((⟨#[3]⟩ : ByteArray) ++ (s8 ++ s11)) ++ s20).size + (strOf bs27).size ≤ 9223372036854775807 ∧
  K (.string ((((⟨#[3]⟩ : ByteArray) ++ (s8 ++ s11)) ++ s20) ++ (strOf bs27))) w_6
def rhead_notes : Notes := ⟨[], [], [], []⟩
theorem rhead_calls (x0 : Int) (s1 : ByteArray) (w : World) (K : Value → World → Prop) (h : rhead_vc x0 s1 w K) : Calls Try.prog 35 #[.int .i64 x0, .string s1] w fun e w' => ∃ v, e = .returned v ∧ K v w' :=
  calls_of_fvc envOk Try.func35 rhead_notes [] [.int .i64 x0, .string s1] w K (use_vc h (by as_aux_lemma => kernel_rfl))
/-- purser/purserref06.Body -/
def rbody_vc (s0 : ByteArray) (w : World) (K : Value → World → Prop) : Prop :=
  ∃ (I : ByteArray → World → Prop) (μ : ByteArray → World → Nat),
  I s0 w ∧
  ∀ (s0_2 : ByteArray) (w_2 : World), I s0_2 w_2 →
  (64 : Int) ≠ 0 ∧
  br (decide ((Int.tmod ((s0_2.size : Nat) : Int) 64) ≠ 0)) (
    s0_2.size + (⟨#[0]⟩ : ByteArray).size ≤ 9223372036854775807 ∧
    I (s0_2 ++ (⟨#[0]⟩ : ByteArray)) w_2 ∧ μ (s0_2 ++ (⟨#[0]⟩ : ByteArray)) w_2 < μ s0_2 w_2
  ) (
    K (.string s0_2) w_2
  )
def rbody_notes : Notes := ⟨[], [(1, ⟨[(0, .lf (.str))], [], [3, 4, 5, 6, 7, 8, 0], []⟩)], [], []⟩
theorem rbody_calls (s0 : ByteArray) (w : World) (K : Value → World → Prop) (h : rbody_vc s0 w K) : Calls Try.prog 34 #[.string s0] w fun e w' => ∃ v, e = .returned v ∧ K v w' :=
  calls_of_fvc envOk Try.func34 rbody_notes [] [.string s0] w K (use_vc h (by as_aux_lemma => kernel_rfl))
/-- purser/purserref06.Room -/
def rroom_vc (x0 : Int) (w : World) (K : Value → World → Prop) : Prop :=
  br (decide (x0 < 1)) (
    K (.int .i64 0) w
  ) (
    br (decide (x0 > 8192)) (
      K (.int .i64 0) w
    ) (
      K (.int .i64 (IntKind.i64.wrap (64 * (IntKind.i64.wrap (x0 - 1))))) w
    )
  )
def rroom_notes : Notes := ⟨[], [], [], []⟩
theorem rroom_calls (x0 : Int) (w : World) (K : Value → World → Prop) (h : rroom_vc x0 w K) : Calls Try.prog 33 #[.int .i64 x0] w fun e w' => ∃ v, e = .returned v ∧ K v w' :=
  calls_of_fvc envOk Try.func33 rroom_notes [] [.int .i64 x0] w K (use_vc h (by as_aux_lemma => kernel_rfl))
/-- purser/purserref06.Has -/
def rhas_vc (s0 : ByteArray) (x1 : Int) (w : World) (K : Value → World → Prop) : Prop :=
  ∃ (I : Int → Int → World → Prop) (μ : Int → Int → World → Nat),
  I 0 1 w ∧
  ∀ (x7 : Int) (x9 : Int) (w_2 : World), I x7 x9 w_2 →
  br (decide (x9 < 9)) (
    (0 : Int) ≤ 8 ∧
    (0 : Int) ≤ x9 ∧ x9 < (((s0.size : Nat) : Int) : Int) ∧
    I (bitsV .or .i64 (IntKind.i64.wrap (x7 * 2 ^ (min (8 : Int).toNat (IntKind.bits .i64)))) (IntKind.i64.wrap (byteAt s0 x9))) (IntKind.i64.wrap (x9 + 1)) w_2 ∧ μ (bitsV .or .i64 (IntKind.i64.wrap (x7 * 2 ^ (min (8 : Int).toNat (IntKind.bits .i64)))) (IntKind.i64.wrap (byteAt s0 x9))) (IntKind.i64.wrap (x9 + 1)) w_2 < μ x7 x9 w_2
  ) (
    ∃ (I_2 : Int → Int → World → Prop) (μ_2 : Int → Int → World → Nat),
    I_2 0 9 w_2 ∧
    ∀ (x8 : Int) (x10 : Int) (w_3 : World), I_2 x8 x10 w_3 →
    br (decide (x10 < 17)) (
      (0 : Int) ≤ 8 ∧
      (0 : Int) ≤ x10 ∧ x10 < (((s0.size : Nat) : Int) : Int) ∧
      I_2 (bitsV .or .i64 (IntKind.i64.wrap (x8 * 2 ^ (min (8 : Int).toNat (IntKind.bits .i64)))) (IntKind.i64.wrap (byteAt s0 x10))) (IntKind.i64.wrap (x10 + 1)) w_3 ∧ μ_2 (bitsV .or .i64 (IntKind.i64.wrap (x8 * 2 ^ (min (8 : Int).toNat (IntKind.bits .i64)))) (IntKind.i64.wrap (byteAt s0 x10))) (IntKind.i64.wrap (x10 + 1)) w_3 < μ_2 x8 x10 w_3
    ) (
      br (decide (x7 < 1)) (
        K (.tuple #[.int .i64 0, .string (⟨#[]⟩ : ByteArray), .bool false]) w_3
      ) (
        (2 : Int) ≠ 0 ∧
        br (decide ((Int.tmod x7 2) ≠ x1)) (
          K (.tuple #[.int .i64 0, .string (⟨#[]⟩ : ByteArray), .bool false]) w_3
        ) (
          br (decide (x8 < 0)) (
            K (.tuple #[.int .i64 0, .string (⟨#[]⟩ : ByteArray), .bool false]) w_3
          ) (
            br (decide (x8 > (IntKind.i64.wrap (((s0.size : Nat) : Int) - 64)))) (
              K (.tuple #[.int .i64 0, .string (⟨#[]⟩ : ByteArray), .bool false]) w_3
            ) (
              (0 : Int) ≤ (64 : Int) ∧ (64 : Int) ≤ IntKind.i64.wrap (64 + x8) ∧ IntKind.i64.wrap (64 + x8) ≤ (((s0.size : Nat) : Int) : Int) ∧
              drewO w_3 fun w_4 =>
              (0 : Int) ≤ (64 : Int) ∧ (64 : Int) ≤ (((s0.size : Nat) : Int) : Int) ∧
              Calls Try.prog 35 #[.int .i64 x7, .string (s0.extract ((64 : Int).toNat) ((IntKind.i64.wrap (64 + x8)).toNat))] w_4 fun e w_5 => KeepG [] w_4 w_5 ∧
              ∃ (s63 : ByteArray),
              e = .returned (.string s63) ∧
              K (.tuple #[.int .i64 x7, .string (s0.extract ((64 : Int).toNat) ((IntKind.i64.wrap (64 + x8)).toNat)), .bool (decide ((s0.extract 0 ((64 : Int).toNat)) = s63))]) w_5
            )
          )
        )
      )
    )
  )
def rhas_notes : Notes := ⟨[(13, ⟨[0, 0, 0, 4, 0, 0, 48, 124, 113, 371, 1023], [6], [0, 1, 2, 3, 4, 5, 7, 8, 9, 10]⟩)], [(3, ⟨[(7, .lf (.int .i64)), (9, .lf (.int .i64))], [], [12, 13, 16, 17, 18, 19, 20, 21, 22, 7, 14, 15, 9], []⟩), (7, ⟨[(8, .lf (.int .i64)), (10, .lf (.int .i64))], [], [23, 24, 27, 28, 29, 30, 31, 32, 33, 8, 25, 26, 10], []⟩)], [], []⟩
theorem rhas_calls (s0 : ByteArray) (x1 : Int) (w : World) (K : Value → World → Prop) (h : rhas_vc s0 x1 w K) : Calls Try.prog 21 #[.string s0, .int .i64 x1] w fun e w' => ∃ v, e = .returned v ∧ K v w' :=
  calls_of_fvc envOk Try.func21 rhas_notes [] [.string s0, .int .i64 x1] w K (use_vc h (by as_aux_lemma => kernel_rfl))
/-- purser/purserlaw06.snaps -/
def snaps_vc  (w : World) (K : Value → World → Prop) : Prop :=
  Calls Try.prog 13 #[.int .i64 8] w fun e w_2 => KeepG [] w w_2 ∧
  ∃ (p8_0 : Option Addr) (x8_1 : Int),
  e = .returned (.tuple #[.pointer p8_0, .int .i64 x8_1]) ∧
  newO w_2 (.cells #[.int .u8 97, .int .u8 98, .int .u8 99] 5) fun g w_3 =>
  frzO [] w_3 g fun w_4 =>
  Calls Try.prog 15 #[.pointer p8_0, .int .i64 1, .int .i64 3, .int .i64 1, .slice (some ⟨g, 0, none⟩) 3 3] w_4 fun e_2 w_5 => KeepG [] w_4 w_5 ∧
  ∃ (x14 : Int),
  e_2 = .returned (.int .i64 x14) ∧
  Calls Try.prog 19 #[.pointer p8_0, .int .i64 1, .int .i64 3] w_5 fun e_3 w_6 => KeepG [] w_5 w_6 ∧
  ∃ (x17_0 : Int) (a17_1 : Option Addr) (n17_1 : Nat) (c17_1 : Nat) (x17_2 : Int),
  e_3 = .returned (.tuple #[.int .i64 x17_0, .slice a17_1 n17_1 c17_1, .int .i64 x17_2]) ∧
  br (decide (x8_1 = 0)) (
    br (decide (x14 = 0)) (
      br (decide (x17_2 = 0)) (
        br (decide (x17_0 = 1)) (
          ∃ bs37 : List UInt8, bs37.length = n17_1 ∧ RowAt w_6 a17_1 (bs37.map bV) ∧
          br (decide ((strOf bs37) = (⟨#[97, 98, 99]⟩ : ByteArray))) (
            Calls Try.prog 32 #[.int .i64 3] w_6 fun e_4 w_7 => KeepG [] w_6 w_7 ∧
            ∃ (x41 : Int),
            e_4 = .returned (.int .i64 x41) ∧
            K (.bool (decide (x41 = 128))) w_7
          ) (
            K (.bool false) w_6
          )
        ) (
          K (.bool false) w_6
        )
      ) (
        K (.bool false) w_6
      )
    ) (
      K (.bool false) w_6
    )
  ) (
    K (.bool false) w_6
  )
def snaps_notes : Notes := ⟨[], [], [], []⟩
theorem snaps_calls  (w : World) (K : Value → World → Prop) (h : snaps_vc  w K) : Calls Try.prog 14 #[] w fun e w' => ∃ v, e = .returned v ∧ K v w' :=
  calls_of_fvc envOk Try.func14 snaps_notes [] [] w K (use_vc h (by as_aux_lemma => kernel_rfl))
/-- purser/purserlaw06.tame -/
def tame_vc (a0 : Option Addr) (n0 : Nat) (c0 : Nat) (w : World) (K : Value → World → Prop) : Prop :=
  newO w (.cells #[] 5) fun g w_2 =>
  (0 : Int) ≤ min ((n0 : Nat) : Int) 500 ∧ min ((n0 : Nat) : Int) 500 ≤ (((c0 : Nat) : Int) : Int) ∧
  appO Try.prog [] w_2 5 1 1 22 (some ⟨g, 0, none⟩) 0 0 (.slice a0 ((min ((n0 : Nat) : Int) 500).toNat) c0) fun m9 a9 c9 w_3 =>
  K (.slice a9 (0 + m9) c9) w_3
def tame_notes : Notes := ⟨[], [], [], []⟩
theorem tame_calls (a0 : Option Addr) (n0 : Nat) (c0 : Nat) (w : World) (K : Value → World → Prop) (h : tame_vc a0 n0 c0 w K) : Calls Try.prog 16 #[.slice a0 n0 c0] w fun e w' => ∃ v, e = .returned v ∧ K v w' :=
  calls_of_fvc envOk Try.func16 tame_notes [] [.slice a0 n0 c0] w K (use_vc h (by as_aux_lemma => kernel_rfl))
/-- purser/purserlaw06.SnapLoads -/
def lloads_k1 (K : Value → World → Prop) (x93_0 : Int) (n93_1 : Nat) (x93_2 : Int) (w_26 : World) : Prop :=
  br (decide (x93_2 = 7)) (
    br (decide (x93_0 = 0)) (
      K (.bool (decide (((n93_1 : Nat) : Int) = 0))) w_26
    ) (
      K (.bool false) w_26
    )
  ) (
    K (.bool false) w_26
  )
def lloads_k2 (K : Value → World → Prop) (x93_0 : Int) (a93_1 : Option Addr) (n93_1 : Nat) (x93_2 : Int) (x106_0 : Int) (s106_1 : ByteArray) (b106_2 : Bool) (x113_0 : Int) (s113_1 : ByteArray) (b113_2 : Bool) (w_25 : World) : Prop :=
  br b106_2 (
    br (!b113_2) (
      br (decide (x93_2 = 0)) (
        br (decide (x93_0 = x106_0)) (
          ∃ bs190 : List UInt8, bs190.length = n93_1 ∧ RowAt w_25 a93_1 (bs190.map bV) ∧
          K (.bool (decide ((strOf bs190) = s106_1))) w_25
        ) (
          K (.bool false) w_25
        )
      ) (
        K (.bool false) w_25
      )
    ) (
      br (decide (x106_0 > x113_0)) (
        br (decide (x93_2 = 0)) (
          br (decide (x93_0 = x106_0)) (
            ∃ bs190_2 : List UInt8, bs190_2.length = n93_1 ∧ RowAt w_25 a93_1 (bs190_2.map bV) ∧
            K (.bool (decide ((strOf bs190_2) = s106_1))) w_25
          ) (
            K (.bool false) w_25
          )
        ) (
          K (.bool false) w_25
        )
      ) (
        br b113_2 (
          br (decide (x93_2 = 0)) (
            br (decide (x93_0 = x113_0)) (
              ∃ bs205 : List UInt8, bs205.length = n93_1 ∧ RowAt w_25 a93_1 (bs205.map bV) ∧
              K (.bool (decide ((strOf bs205) = s113_1))) w_25
            ) (
              K (.bool false) w_25
            )
          ) (
            K (.bool false) w_25
          )
        ) (
          lloads_k1 K x93_0 n93_1 x93_2 w_25
        )
      )
    )
  ) (
    br b113_2 (
      br (decide (x93_2 = 0)) (
        br (decide (x93_0 = x113_0)) (
          ∃ bs205_2 : List UInt8, bs205_2.length = n93_1 ∧ RowAt w_25 a93_1 (bs205_2.map bV) ∧
          K (.bool (decide ((strOf bs205_2) = s113_1))) w_25
        ) (
          K (.bool false) w_25
        )
      ) (
        K (.bool false) w_25
      )
    ) (
      lloads_k1 K x93_0 n93_1 x93_2 w_25
    )
  )
def lloads_k3 (K : Value → World → Prop) (g : Nat) (p27_0 : Option Addr) (w_14 : World) : Prop :=
  Calls Try.prog 18 #[.pointer p27_0, .int .i64 0, .int .i64 6] w_14 fun e_8 w_15 => KeepG [g] w_14 w_15 ∧
  ∃ (a83_0 : Option Addr) (n83_0 : Nat) (c83_0 : Nat) (x83_1 : Int),
  e_8 = .returned (.tuple #[.slice a83_0 n83_0 c83_0, .int .i64 x83_1]) ∧
  Calls Try.prog 18 #[.pointer p27_0, .int .i64 6, .int .i64 6] w_15 fun e_9 w_16 => KeepG [g] w_15 w_16 ∧
  ∃ (a88_0 : Option Addr) (n88_0 : Nat) (c88_0 : Nat) (x88_1 : Int),
  e_9 = .returned (.tuple #[.slice a88_0 n88_0 c88_0, .int .i64 x88_1]) ∧
  Calls Try.prog 19 #[.pointer p27_0, .int .i64 0, .int .i64 6] w_16 fun e_10 w_17 => KeepG [g] w_16 w_17 ∧
  ∃ (x93_0 : Int) (a93_1 : Option Addr) (n93_1 : Nat) (c93_1 : Nat) (x93_2 : Int),
  e_10 = .returned (.tuple #[.int .i64 x93_0, .slice a93_1 n93_1 c93_1, .int .i64 x93_2]) ∧
  Calls Try.prog 20 #[.pointer p27_0, .int .i64 0, .int .i64 6] w_17 fun e_11 w_18 => KeepG [g] w_17 w_18 ∧
  ∃ (x99_0_0 : Int) (x99_0_1 : Int) (b99_1_0 : Bool) (b99_1_1 : Bool) (x99_2 : Int),
  e_11 = .returned (.tuple #[.agg #[.int .i64 x99_0_0, .int .i64 x99_0_1], .agg #[.bool b99_1_0, .bool b99_1_1], .int .i64 x99_2]) ∧
  newO w_18 (.cells #[.int .i64 0, .int .i64 0] 37) fun g_3 w_19 =>
  newO w_19 (.cells #[.bool false, .bool false] 38) fun g_4 w_20 =>
  ∀ w_21 : World, BoxSt g_3 w_20 w_21 →
  ∀ w_22 : World, BoxSt g_4 w_21 w_22 →
  ∃ bs105 : List UInt8, bs105.length = n83_0 ∧ RowAt w_22 a83_0 (bs105.map bV) ∧
  Calls Try.prog 21 #[.string (strOf bs105), .int .i64 0] w_22 fun e_12 w_23 => KeepG [g_4, g_3, g] w_22 w_23 ∧
  ∃ (x106_0 : Int) (s106_1 : ByteArray) (b106_2 : Bool),
  e_12 = .returned (.tuple #[.int .i64 x106_0, .string s106_1, .bool b106_2]) ∧
  ∃ bs112 : List UInt8, bs112.length = n88_0 ∧ RowAt w_23 a88_0 (bs112.map bV) ∧
  Calls Try.prog 21 #[.string (strOf bs112), .int .i64 1] w_23 fun e_13 w_24 => KeepG [g_4, g_3, g] w_23 w_24 ∧
  ∃ (x113_0 : Int) (s113_1 : ByteArray) (b113_2 : Bool),
  e_13 = .returned (.tuple #[.int .i64 x113_0, .string s113_1, .bool b113_2]) ∧
  br (decide (x83_1 ≠ 0)) (
    K (.bool false) w_24
  ) (
    br (decide (x88_1 ≠ 0)) (
      K (.bool false) w_24
    ) (
      br (decide (x99_2 ≠ 0)) (
        K (.bool false) w_24
      ) (
        br (!((decide (b99_1_0 = b106_2)) && ((decide (b99_1_1 = b113_2)) && true))) (
          K (.bool false) w_24
        ) (
          br b106_2 (
            br (decide (x99_0_0 ≠ x106_0)) (
              K (.bool false) w_24
            ) (
              br b113_2 (
                br (decide (x99_0_1 ≠ x113_0)) (
                  K (.bool false) w_24
                ) (
                  br (!b106_2) (
                    br (decide (x99_0_0 ≠ 0)) (
                      K (.bool false) w_24
                    ) (
                      br (!b113_2) (
                        br (decide (x99_0_1 ≠ 0)) (
                          K (.bool false) w_24
                        ) (
                          lloads_k2 K x93_0 a93_1 n93_1 x93_2 x106_0 s106_1 b106_2 x113_0 s113_1 b113_2 w_24
                        )
                      ) (
                        lloads_k2 K x93_0 a93_1 n93_1 x93_2 x106_0 s106_1 b106_2 x113_0 s113_1 b113_2 w_24
                      )
                    )
                  ) (
                    br (!b113_2) (
                      br (decide (x99_0_1 ≠ 0)) (
                        K (.bool false) w_24
                      ) (
                        lloads_k2 K x93_0 a93_1 n93_1 x93_2 x106_0 s106_1 b106_2 x113_0 s113_1 b113_2 w_24
                      )
                    ) (
                      lloads_k2 K x93_0 a93_1 n93_1 x93_2 x106_0 s106_1 b106_2 x113_0 s113_1 b113_2 w_24
                    )
                  )
                )
              ) (
                br (!b106_2) (
                  br (decide (x99_0_0 ≠ 0)) (
                    K (.bool false) w_24
                  ) (
                    br (!b113_2) (
                      br (decide (x99_0_1 ≠ 0)) (
                        K (.bool false) w_24
                      ) (
                        lloads_k2 K x93_0 a93_1 n93_1 x93_2 x106_0 s106_1 b106_2 x113_0 s113_1 b113_2 w_24
                      )
                    ) (
                      lloads_k2 K x93_0 a93_1 n93_1 x93_2 x106_0 s106_1 b106_2 x113_0 s113_1 b113_2 w_24
                    )
                  )
                ) (
                  br (!b113_2) (
                    br (decide (x99_0_1 ≠ 0)) (
                      K (.bool false) w_24
                    ) (
                      lloads_k2 K x93_0 a93_1 n93_1 x93_2 x106_0 s106_1 b106_2 x113_0 s113_1 b113_2 w_24
                    )
                  ) (
                    lloads_k2 K x93_0 a93_1 n93_1 x93_2 x106_0 s106_1 b106_2 x113_0 s113_1 b113_2 w_24
                  )
                )
              )
            )
          ) (
            br b113_2 (
              br (decide (x99_0_1 ≠ x113_0)) (
                K (.bool false) w_24
              ) (
                br (!b106_2) (
                  br (decide (x99_0_0 ≠ 0)) (
                    K (.bool false) w_24
                  ) (
                    br (!b113_2) (
                      br (decide (x99_0_1 ≠ 0)) (
                        K (.bool false) w_24
                      ) (
                        lloads_k2 K x93_0 a93_1 n93_1 x93_2 x106_0 s106_1 b106_2 x113_0 s113_1 b113_2 w_24
                      )
                    ) (
                      lloads_k2 K x93_0 a93_1 n93_1 x93_2 x106_0 s106_1 b106_2 x113_0 s113_1 b113_2 w_24
                    )
                  )
                ) (
                  br (!b113_2) (
                    br (decide (x99_0_1 ≠ 0)) (
                      K (.bool false) w_24
                    ) (
                      lloads_k2 K x93_0 a93_1 n93_1 x93_2 x106_0 s106_1 b106_2 x113_0 s113_1 b113_2 w_24
                    )
                  ) (
                    lloads_k2 K x93_0 a93_1 n93_1 x93_2 x106_0 s106_1 b106_2 x113_0 s113_1 b113_2 w_24
                  )
                )
              )
            ) (
              br (!b106_2) (
                br (decide (x99_0_0 ≠ 0)) (
                  K (.bool false) w_24
                ) (
                  br (!b113_2) (
                    br (decide (x99_0_1 ≠ 0)) (
                      K (.bool false) w_24
                    ) (
                      lloads_k2 K x93_0 a93_1 n93_1 x93_2 x106_0 s106_1 b106_2 x113_0 s113_1 b113_2 w_24
                    )
                  ) (
                    lloads_k2 K x93_0 a93_1 n93_1 x93_2 x106_0 s106_1 b106_2 x113_0 s113_1 b113_2 w_24
                  )
                )
              ) (
                br (!b113_2) (
                  br (decide (x99_0_1 ≠ 0)) (
                    K (.bool false) w_24
                  ) (
                    lloads_k2 K x93_0 a93_1 n93_1 x93_2 x106_0 s106_1 b106_2 x113_0 s113_1 b113_2 w_24
                  )
                ) (
                  lloads_k2 K x93_0 a93_1 n93_1 x93_2 x106_0 s106_1 b106_2 x113_0 s113_1 b113_2 w_24
                )
              )
            )
          )
        )
      )
    )
  )
def lloads_vc (a0 : Option Addr) (n0 : Nat) (c0 : Nat) (a1_0 : Option Addr) (n1_0 : Nat) (c1_0 : Nat) (a1_1 : Option Addr) (n1_1 : Nat) (c1_1 : Nat) (x2 : Int) (w : World) (K : Value → World → Prop) : Prop :=
  newO w (.cells #[.slice a1_0 n1_0 c1_0, .slice a1_1 n1_1 c1_1] 23) fun g w_2 =>
  Calls Try.prog 13 #[.int .i64 12] w_2 fun e w_3 => KeepG [g] w_2 w_3 ∧
  ∃ (p27_0 : Option Addr) (x27_1 : Int),
  e = .returned (.tuple #[.pointer p27_0, .int .i64 x27_1]) ∧
  Calls Try.prog 14 #[] w_3 fun e_2 w_4 => KeepG [g] w_3 w_4 ∧
  ∃ (b30 : Bool),
  e_2 = .returned (.bool b30) ∧
  br (!b30) (
    K (.bool false) w_4
  ) (
    br (decide (x27_1 ≠ 0)) (
      K (.bool false) w_4
    ) (
      drewO w_4 fun w_5 =>
      (3 : Int) ≠ 0 ∧
      Calls Try.prog 16 #[.slice a1_0 n1_0 c1_0] w_5 fun e_3 w_6 => KeepG [g] w_5 w_6 ∧
      ∃ (a44 : Option Addr) (n44 : Nat) (c44 : Nat),
      e_3 = .returned (.slice a44 n44 c44) ∧
      (0 : Int) ≤ min ((n1_0 : Nat) : Int) 300 ∧ min ((n1_0 : Nat) : Int) 300 ≤ (((c44 : Nat) : Int) : Int) ∧
      Calls Try.prog 15 #[.pointer p27_0, .int .i64 0, .int .i64 6, .int .i64 (IntKind.i64.wrap (1 + (IntKind.i64.wrap (Int.tmod (IntKind.u64.wrap x2) 3)))), .slice a44 ((min ((n1_0 : Nat) : Int) 300).toNat) c44] w_6 fun e_4 w_7 => KeepG [g] w_6 w_7 ∧
      ∃ (x50 : Int),
      e_4 = .returned (.int .i64 x50) ∧
      drewO w_7 fun w_8 =>
      (2 : Int) ≠ 0 ∧
      Calls Try.prog 16 #[.slice a1_1 n1_1 c1_1] w_8 fun e_5 w_9 => KeepG [g] w_8 w_9 ∧
      ∃ (a59 : Option Addr) (n59 : Nat) (c59 : Nat),
      e_5 = .returned (.slice a59 n59 c59) ∧
      (0 : Int) ≤ min ((n1_1 : Nat) : Int) 300 ∧ min ((n1_1 : Nat) : Int) 300 ≤ (((c59 : Nat) : Int) : Int) ∧
      Calls Try.prog 15 #[.pointer p27_0, .int .i64 0, .int .i64 6, .int .i64 (IntKind.i64.wrap (2 + (IntKind.i64.wrap (Int.tmod (IntKind.u64.wrap x2) 2)))), .slice a59 ((min ((n1_1 : Nat) : Int) 300).toNat) c59] w_9 fun e_6 w_10 => KeepG [g] w_9 w_10 ∧
      ∃ (x65 : Int),
      e_6 = .returned (.int .i64 x65) ∧
      (0 : Int) ≤ (64 : Int) ∧ (64 : Int) ≤ (64 : Int) ∧ ((1 : Nat) : Int) * (64 : Int) ≤ 281474976710656 ∧ (64 : Int) ≤ 9223372036854775807 ∧
      newO w_10 (.cells (madeCells (Value.cells (.int .u8 0)) ((64 : Int).toNat * 1)) 5) fun g_2 w_11 =>
      cpyO [g] w_11 1 (some ⟨g_2, 0, none⟩) ((64 : Int).toNat) a0 n0 fun w_12 =>
      (3 : Int) ≠ 0 ∧
      br (decide ((Int.tmod x2 3) = 0)) (
        (4 : Int) ≠ 0 ∧
        (12 : Int) ≠ 0 ∧
        Calls Try.prog 17 #[.pointer p27_0, .int .i64 (IntKind.i64.wrap (Int.tmod (IntKind.u64.wrap (Int.tdiv (IntKind.u64.wrap x2) 4)) 12)), .slice (some ⟨g_2, 0, none⟩) ((64 : Int).toNat) ((64 : Int).toNat)] w_12 fun e_7 w_13 => KeepG [g] w_12 w_13 ∧
        ∃ (x80 : Int),
        e_7 = .returned (.int .i64 x80) ∧
        lloads_k3 K g p27_0 w_13
      ) (
        lloads_k3 K g p27_0 w_12
      )
    )
  )
def lloads_notes : Notes := ⟨[(4, ⟨[0, 0, 2, 6, 14, 30, 0, 64, 192, 0, 512, 1536, 3584, 8128, 16383], [8, 14], [0, 1, 2, 3, 4, 5, 6, 7, 9, 10, 11, 12, 13]⟩), (5, ⟨[0, 0, 2, 6, 14, 30, 0, 64, 192, 0, 512, 1536, 3584, 8128, 16383], [8, 14], [0, 1, 2, 3, 4, 5, 6, 7, 9, 10, 11, 12, 13]⟩)], [], [], []⟩
theorem lloads_calls (a0 : Option Addr) (n0 : Nat) (c0 : Nat) (a1_0 : Option Addr) (n1_0 : Nat) (c1_0 : Nat) (a1_1 : Option Addr) (n1_1 : Nat) (c1_1 : Nat) (x2 : Int) (w : World) (K : Value → World → Prop) (h : lloads_vc a0 n0 c0 a1_0 n1_0 c1_0 a1_1 n1_1 c1_1 x2 w K) : Calls Try.prog 3 #[.slice a0 n0 c0, .agg #[.slice a1_0 n1_0 c1_0, .slice a1_1 n1_1 c1_1], .int .i64 x2] w fun e w' => ∃ v, e = .returned v ∧ K v w' :=
  calls_of_fvc envOk Try.func3 lloads_notes [4, 17, 18] [.slice a0 n0 c0, .agg #[.slice a1_0 n1_0 c1_0, .slice a1_1 n1_1 c1_1], .int .i64 x2] w K (use_vc h (by as_aux_lemma => kernel_rfl))
/-- purser/purserlaw06.SnapTurns -/
def lturns_k1 (K : Value → World → Prop) (p16_0 : Option Addr) (g : Nat) (x6_2 : Int) (w_9 : World) : Prop :=
  Calls Try.prog 20 #[.pointer p16_0, .int .i64 2, .int .i64 9] w_9 fun e_5 w_10 => KeepG [] w_9 w_10 ∧
  ∃ (x54_0_0 : Int) (x54_0_1 : Int) (b54_1_0 : Bool) (b54_1_1 : Bool) (x54_2 : Int),
  e_5 = .returned (.tuple #[.agg #[.int .i64 x54_0_0, .int .i64 x54_0_1], .agg #[.bool b54_1_0, .bool b54_1_1], .int .i64 x54_2]) ∧
  newO w_10 (.cells #[.int .i64 0, .int .i64 0] 37) fun g_2 w_11 =>
  newO w_11 (.cells #[.bool false, .bool false] 38) fun g_3 w_12 =>
  stO [g_3] w_12 g_2 0 [.int .i64 x54_0_0, .int .i64 x54_0_1] fun w_13 =>
  ∀ w_14 : World, BoxSt g_3 w_13 w_14 →
  br (decide (x54_2 ≠ 0)) (
    K (.bool false) w_14
  ) (
    br (decide (b54_1_1 ≠ (decide (x6_2 ≥ 1)))) (
      K (.bool false) w_14
    ) (
      br (decide (b54_1_0 ≠ (decide (x6_2 ≥ 2)))) (
        K (.bool false) w_14
      ) (
        br (decide (x6_2 = 0)) (
          ∃ (x76_0 : Int) (x76_1 : Int),
          cellsAt w_14 g_2 0 [.int .i64 x76_0, .int .i64 x76_1] ∧
          K (.bool ((decide (x76_0 = 0)) && ((decide (x76_1 = 0)) && true))) w_14
        ) (
          Calls Try.prog 19 #[.pointer p16_0, .int .i64 2, .int .i64 9] w_14 fun e_6 w_15 => KeepG [g_3] w_14 w_15 ∧
          ∃ (x81_0 : Int) (a81_1 : Option Addr) (n81_1 : Nat) (c81_1 : Nat) (x81_2 : Int),
          e_6 = .returned (.tuple #[.int .i64 x81_0, .slice a81_1 n81_1 c81_1, .int .i64 x81_2]) ∧
          drewO w_15 fun w_16 =>
          br (decide (x81_2 = 0)) (
            br (decide (x81_0 = x6_2)) (
              ∃ bs94 : List UInt8, bs94.length = n81_1 ∧ RowAt w_16 a81_1 (bs94.map bV) ∧
              (2 : Int) ≠ 0 ∧
              (0 : Int) ≤ Int.tmod x6_2 2 ∧ Int.tmod x6_2 2 < ((2 : Nat) : Int) ∧
              ∃ (s98 : ByteArray), w_16.cell? ⟨g, 0 + (Int.tmod x6_2 2).toNat * 1, none⟩ = some (.string s98) ∧
              br (decide ((strOf bs94) = s98)) (
                (2 : Int) ≠ 0 ∧
                (0 : Int) ≤ Int.tmod x6_2 2 ∧ Int.tmod x6_2 2 < ((2 : Nat) : Int) ∧
                ∃ (x105 : Int), w_16.cell? ⟨g_2, 0 + (Int.tmod x6_2 2).toNat * 1, none⟩ = some (.int .i64 x105) ∧
                br (decide (x105 = x6_2)) (
                  br (decide (x6_2 < 2)) (
                    K (.bool true) w_16
                  ) (
                    (2 : Int) ≠ 0 ∧
                    (0 : Int) ≤ Int.tmod (IntKind.i64.wrap (x6_2 + 1)) 2 ∧ Int.tmod (IntKind.i64.wrap (x6_2 + 1)) 2 < ((2 : Nat) : Int) ∧
                    ∃ (x117 : Int), w_16.cell? ⟨g_2, 0 + (Int.tmod (IntKind.i64.wrap (x6_2 + 1)) 2).toNat * 1, none⟩ = some (.int .i64 x117) ∧
                    K (.bool (decide (x117 = (IntKind.i64.wrap (x6_2 - 1))))) w_16
                  )
                ) (
                  K (.bool false) w_16
                )
              ) (
                K (.bool false) w_16
              )
            ) (
              K (.bool false) w_16
            )
          ) (
            K (.bool false) w_16
          )
        )
      )
    )
  )
def lturns_vc (a0 : Option Addr) (n0 : Nat) (c0 : Nat) (w : World) (K : Value → World → Prop) : Prop :=
  Calls Try.prog 13 #[.int .i64 20] w fun e w_2 => KeepG [] w w_2 ∧
  ∃ (p16_0 : Option Addr) (x16_1 : Int),
  e = .returned (.tuple #[.pointer p16_0, .int .i64 x16_1]) ∧
  Calls Try.prog 14 #[] w_2 fun e_2 w_3 => KeepG [] w_2 w_3 ∧
  ∃ (b19 : Bool),
  e_2 = .returned (.bool b19) ∧
  br (!b19) (
    K (.bool false) w_3
  ) (
    br (decide (x16_1 ≠ 0)) (
      K (.bool false) w_3
    ) (
      newO w_3 (.cells #[.string ByteArray.empty, .string ByteArray.empty] 45) fun g w_4 =>
      ∃ (I : Int → Int → World → Prop) (μ : Int → Int → World → Nat),
      I 0 0 w_4 ∧
      ∀ (x6 : Int) (x7 : Int) (w_5 : World), I x6 x7 w_5 →
      br (decide (x7 < ((n0 : Nat) : Int))) (
        br (decide (x7 < 8)) (
          withP a0 fun g37 o37 =>
          (0 : Int) ≤ x7 ∧ x7 < (((n0 : Nat) : Int) : Int) ∧
          ∃ (a38 : Option Addr) (n38 : Nat) (c38 : Nat), w_5.cell? ⟨g37, o37 + x7.toNat * 1, none⟩ = some (.slice a38 n38 c38) ∧
          Calls Try.prog 16 #[.slice a38 n38 c38] w_5 fun e_3 w_6 => KeepG [] w_5 w_6 ∧
          ∃ (a39 : Option Addr) (n39 : Nat) (c39 : Nat),
          e_3 = .returned (.slice a39 n39 c39) ∧
          Calls Try.prog 15 #[.pointer p16_0, .int .i64 2, .int .i64 9, .int .i64 (IntKind.i64.wrap (x6 + 1)), .slice a39 n39 c39] w_6 fun e_4 w_7 => KeepG [] w_6 w_7 ∧
          ∃ (x45 : Int),
          e_4 = .returned (.int .i64 x45) ∧
          br (decide (x45 ≠ 0)) (
            K (.bool false) w_7
          ) (
            (2 : Int) ≠ 0 ∧
            ∃ bs50 : List UInt8, bs50.length = n39 ∧ RowAt w_7 a39 (bs50.map bV) ∧
            (0 : Int) ≤ Int.tmod (IntKind.i64.wrap (x6 + 1)) 2 ∧ Int.tmod (IntKind.i64.wrap (x6 + 1)) 2 < ((2 : Nat) : Int) ∧
            stO [] w_7 g (0 + (Int.tmod (IntKind.i64.wrap (x6 + 1)) 2).toNat * 1) [.string (strOf bs50)] fun w_8 =>
            I (IntKind.i64.wrap (x6 + 1)) (IntKind.i64.wrap (x7 + 1)) w_8 ∧ μ (IntKind.i64.wrap (x6 + 1)) (IntKind.i64.wrap (x7 + 1)) w_8 < μ x6 x7 w_5
          )
        ) (
          lturns_k1 K p16_0 g x6 w_5
        )
      ) (
        lturns_k1 K p16_0 g x6 w_5
      )
    )
  )
def lturns_notes : Notes := ⟨[(20, ⟨[0, 1, 3, 7, 7, 31, 63, 127, 255, 511, 255, 1279, 3327, 7423, 16383, 32767, 65535, 131071, 262143, 524287, 1048575, 131071, 4194303, 8388607, 16777215, 33554431, 67108863, 134217727, 268435455, 536870911, 1073741823, 2147483647, 4294967295, 268435455, 8858370047, 34359738367, 68719476735, 137438953471, 274877906943], [], [0, 1, 2, 3, 4, 5, 6, 7, 8, 9, 10, 11, 12, 13, 14, 15, 16, 17, 18, 19, 20, 21, 22, 23, 24, 25, 26, 27, 28, 29, 30, 31, 32, 33, 34, 35, 36, 37, 38]⟩)], [(7, ⟨[(6, .lf (.int .i64)), (7, .lf (.int .i64))], [], [25, 26, 27, 28, 29, 30, 31, 32, 35, 36, 37, 38, 39, 8, 40, 41, 6, 42, 43, 44, 45, 46, 2, 47, 48, 49, 50, 51, 33, 34, 7], []⟩)], [], []⟩
theorem lturns_calls (a0 : Option Addr) (n0 : Nat) (c0 : Nat) (w : World) (K : Value → World → Prop) (h : lturns_vc a0 n0 c0 w K) : Calls Try.prog 4 #[.slice a0 n0 c0] w fun e w' => ∃ v, e = .returned v ∧ K v w' :=
  calls_of_fvc envOk Try.func4 lturns_notes [10] [.slice a0 n0 c0] w K (use_vc h (by as_aux_lemma => kernel_rfl))
/-- purser/purserlaw06.SnapSaves -/
def lsaves_vc (x0 : Int) (x1_0 : Int) (x1_1 : Int) (x1_2 : Int) (a2 : Option Addr) (n2 : Nat) (c2 : Nat) (w : World) (K : Value → World → Prop) : Prop :=
  newO w (.cells #[.int .i64 x1_0, .int .i64 x1_1, .int .i64 x1_2] 47) fun g w_2 =>
  (24 : Int) ≠ 0 ∧
  Calls Try.prog 13 #[.int .i64 (IntKind.i64.wrap (1 + (IntKind.i64.wrap (Int.tmod (IntKind.u64.wrap x0) 24))))] w_2 fun e w_3 => KeepG [g] w_2 w_3 ∧
  ∃ (p39_0 : Option Addr) (x39_1 : Int),
  e = .returned (.tuple #[.pointer p39_0, .int .i64 x39_1]) ∧
  Calls Try.prog 16 #[.slice a2 n2 c2] w_3 fun e_2 w_4 => KeepG [g] w_3 w_4 ∧
  ∃ (a43 : Option Addr) (n43 : Nat) (c43 : Nat),
  e_2 = .returned (.slice a43 n43 c43) ∧
  ∃ bs45 : List UInt8, bs45.length = n43 ∧ RowAt w_4 a43 (bs45.map bV) ∧
  drewO w_4 fun w_5 =>
  Calls Try.prog 15 #[.pointer p39_0, .int .i64 x1_0, .int .i64 x1_1, .int .i64 x1_2, .slice a43 n43 c43] w_5 fun e_3 w_6 => KeepG [g] w_5 w_6 ∧
  ∃ (x57 : Int),
  e_3 = .returned (.int .i64 x57) ∧
  Calls Try.prog 19 #[.pointer p39_0, .int .i64 x1_0, .int .i64 x1_1] w_6 fun e_4 w_7 => KeepG [g] w_6 w_7 ∧
  ∃ (x62_0 : Int) (a62_1 : Option Addr) (n62_1 : Nat) (c62_1 : Nat) (x62_2 : Int),
  e_4 = .returned (.tuple #[.int .i64 x62_0, .slice a62_1 n62_1 c62_1, .int .i64 x62_2]) ∧
  Calls Try.prog 20 #[.pointer p39_0, .int .i64 x1_0, .int .i64 x1_1] w_7 fun e_5 w_8 => KeepG [g] w_7 w_8 ∧
  ∃ (x70_0_0 : Int) (x70_0_1 : Int) (b70_1_0 : Bool) (b70_1_1 : Bool) (x70_2 : Int),
  e_5 = .returned (.tuple #[.agg #[.int .i64 x70_0_0, .int .i64 x70_0_1], .agg #[.bool b70_1_0, .bool b70_1_1], .int .i64 x70_2]) ∧
  newO w_8 (.cells #[.int .i64 0, .int .i64 0] 37) fun g_2 w_9 =>
  newO w_9 (.cells #[.bool false, .bool false] 38) fun g_3 w_10 =>
  ∀ w_11 : World, BoxSt g_2 w_10 w_11 →
  ∀ w_12 : World, BoxSt g_3 w_11 w_12 →
  Calls Try.prog 19 #[.pointer none, .int .i64 0, .int .i64 1] w_12 fun e_6 w_13 => KeepG [g_3, g_2, g] w_12 w_13 ∧
  ∃ (x75_0 : Int) (a75_1 : Option Addr) (n75_1 : Nat) (c75_1 : Nat) (x75_2 : Int),
  e_6 = .returned (.tuple #[.int .i64 x75_0, .slice a75_1 n75_1 c75_1, .int .i64 x75_2]) ∧
  Calls Try.prog 20 #[.pointer none, .int .i64 0, .int .i64 1] w_13 fun e_7 w_14 => KeepG [g_3, g_2, g] w_13 w_14 ∧
  ∃ (x80_0_0 : Int) (x80_0_1 : Int) (b80_1_0 : Bool) (b80_1_1 : Bool) (x80_2 : Int),
  e_7 = .returned (.tuple #[.agg #[.int .i64 x80_0_0, .int .i64 x80_0_1], .agg #[.bool b80_1_0, .bool b80_1_1], .int .i64 x80_2]) ∧
  newO w_14 (.cells #[.int .i64 0, .int .i64 0] 37) fun g_4 w_15 =>
  newO w_15 (.cells #[.bool false, .bool false] 38) fun g_5 w_16 =>
  ∀ w_17 : World, BoxSt g_4 w_16 w_17 →
  ∀ w_18 : World, BoxSt g_5 w_17 w_18 →
  Calls Try.prog 14 #[] w_18 fun e_8 w_19 => KeepG [g_5, g_4, g_3, g_2, g] w_18 w_19 ∧
  ∃ (b84 : Bool),
  e_8 = .returned (.bool b84) ∧
  br (!b84) (
    K (.bool false) w_19
  ) (
    br (decide (x39_1 ≠ 0)) (
      K (.bool false) w_19
    ) (
      ∃ bs92 : List UInt8, bs92.length = n43 ∧ RowAt w_19 a43 (bs92.map bV) ∧
      br (decide ((strOf bs92) ≠ (strOf bs45))) (
        K (.bool false) w_19
      ) (
        br (decide (x75_2 ≠ 1)) (
          K (.bool false) w_19
        ) (
          br (decide (x80_2 ≠ 1)) (
            K (.bool false) w_19
          ) (
            Calls Try.prog 15 #[.pointer none, .int .i64 0, .int .i64 1, .int .i64 1, .slice none 0 0] w_19 fun e_9 w_20 => KeepG [g_5, g_4, g_3, g_2, g] w_19 w_20 ∧
            ∃ (x105 : Int),
            e_9 = .returned (.int .i64 x105) ∧
            br (decide (x105 ≠ 1)) (
              K (.bool false) w_20
            ) (
              Calls Try.prog 32 #[.int .i64 x1_1] w_20 fun e_10 w_21 => KeepG [g_5, g_4, g_3, g_2, g] w_20 w_21 ∧
              ∃ (x110 : Int),
              e_10 = .returned (.int .i64 x110) ∧
              Calls Try.prog 33 #[.int .i64 x1_1] w_21 fun e_11 w_22 => KeepG [g_5, g_4, g_3, g_2, g] w_21 w_22 ∧
              ∃ (x112 : Int),
              e_11 = .returned (.int .i64 x112) ∧
              br (decide (x110 ≠ x112)) (
                K (.bool false) w_22
              ) (
                br (decide (x1_0 < 0)) (
                  br (decide (x57 = 1)) (
                    br (decide (x62_2 = 1)) (
                      K (.bool (decide (x70_2 = 1))) w_22
                    ) (
                      K (.bool false) w_22
                    )
                  ) (
                    K (.bool false) w_22
                  )
                ) (
                  br (decide (x1_1 < 1)) (
                    br (decide (x57 = 1)) (
                      br (decide (x62_2 = 1)) (
                        K (.bool (decide (x70_2 = 1))) w_22
                      ) (
                        K (.bool false) w_22
                      )
                    ) (
                      K (.bool false) w_22
                    )
                  ) (
                    (2 : Int) ≠ 0 ∧
                    br (decide (x1_1 > (IntKind.i64.wrap (Int.tdiv (IntKind.i64.wrap (1 + (IntKind.i64.wrap (Int.tmod (IntKind.u64.wrap x0) 24)))) 2)))) (
                      br (decide (x57 = 1)) (
                        br (decide (x62_2 = 1)) (
                          K (.bool (decide (x70_2 = 1))) w_22
                        ) (
                          K (.bool false) w_22
                        )
                      ) (
                        K (.bool false) w_22
                      )
                    ) (
                      br (decide (x1_0 > (IntKind.i64.wrap ((IntKind.i64.wrap (1 + (IntKind.i64.wrap (Int.tmod (IntKind.u64.wrap x0) 24)))) - (IntKind.i64.wrap (2 * x1_1)))))) (
                        br (decide (x57 = 1)) (
                          br (decide (x62_2 = 1)) (
                            K (.bool (decide (x70_2 = 1))) w_22
                          ) (
                            K (.bool false) w_22
                          )
                        ) (
                          K (.bool false) w_22
                        )
                      ) (
                        br (decide (x1_2 < 1)) (
                          br (decide (x57 = 1)) (
                            br (decide (x62_2 = 7)) (
                              K (.bool (decide (x70_2 = 0))) w_22
                            ) (
                              K (.bool false) w_22
                            )
                          ) (
                            K (.bool false) w_22
                          )
                        ) (
                          Calls Try.prog 33 #[.int .i64 x1_1] w_22 fun e_12 w_23 => KeepG [g_5, g_4, g_3, g_2, g] w_22 w_23 ∧
                          ∃ (x160 : Int),
                          e_12 = .returned (.int .i64 x160) ∧
                          br (decide ((((strOf bs45).size : Nat) : Int) > x160)) (
                            br (decide (x57 = 5)) (
                              br (decide (x62_2 = 7)) (
                                K (.bool (decide (x70_2 = 0))) w_23
                              ) (
                                K (.bool false) w_23
                              )
                            ) (
                              K (.bool false) w_23
                            )
                          ) (
                            (2 : Int) ≠ 0 ∧
                            Calls Try.prog 18 #[.pointer p39_0, .int .i64 (IntKind.i64.wrap (x1_0 + (IntKind.i64.wrap ((Int.tmod x1_2 2) * x1_1)))), .int .i64 1] w_23 fun e_13 w_24 => KeepG [g_5, g_4, g_3, g_2, g] w_23 w_24 ∧
                            ∃ (a181_0 : Option Addr) (n181_0 : Nat) (c181_0 : Nat) (x181_1 : Int),
                            e_13 = .returned (.tuple #[.slice a181_0 n181_0 c181_0, .int .i64 x181_1]) ∧
                            Calls Try.prog 34 #[.string (strOf bs45)] w_24 fun e_14 w_25 => KeepG [g_5, g_4, g_3, g_2, g] w_24 w_25 ∧
                            ∃ (s189 : ByteArray),
                            e_14 = .returned (.string s189) ∧
                            (64 : Int) ≠ 0 ∧
                            Calls Try.prog 18 #[.pointer p39_0, .int .i64 (IntKind.i64.wrap ((IntKind.i64.wrap (x1_0 + (IntKind.i64.wrap ((Int.tmod x1_2 2) * x1_1)))) + 1)), .int .i64 (IntKind.i64.wrap (Int.tdiv ((s189.size : Nat) : Int) 64))] w_25 fun e_15 w_26 => KeepG [g_5, g_4, g_3, g_2, g] w_25 w_26 ∧
                            ∃ (a192_0 : Option Addr) (n192_0 : Nat) (c192_0 : Nat) (x192_1 : Int),
                            e_15 = .returned (.tuple #[.slice a192_0 n192_0 c192_0, .int .i64 x192_1]) ∧
                            drewO w_26 fun w_27 =>
                            br (decide (x57 = 0)) (
                              br (decide (x62_2 = 0)) (
                                br (decide (x70_2 = 0)) (
                                  br (decide (x181_1 = 0)) (
                                    br (decide (x192_1 = 0)) (
                                      ∃ bs215 : List UInt8, bs215.length = n181_0 ∧ RowAt w_27 a181_0 (bs215.map bV) ∧
                                      Calls Try.prog 35 #[.int .i64 x1_2, .string (strOf bs45)] w_27 fun e_16 w_28 => KeepG [g_5, g_4, g_3, g_2, g] w_27 w_28 ∧
                                      ∃ (s218 : ByteArray),
                                      e_16 = .returned (.string s218) ∧
                                      RowAt w_28 a181_0 (bs215.map bV) ∧
                                      br (decide ((strOf bs215) = s218)) (
                                        ∃ bs223 : List UInt8, bs223.length = n192_0 ∧ RowAt w_28 a192_0 (bs223.map bV) ∧
                                        Calls Try.prog 34 #[.string (strOf bs45)] w_28 fun e_17 w_29 => KeepG [g_5, g_4, g_3, g_2, g] w_28 w_29 ∧
                                        ∃ (s225 : ByteArray),
                                        e_17 = .returned (.string s225) ∧
                                        RowAt w_29 a192_0 (bs223.map bV) ∧
                                        br (decide ((strOf bs223) = s225)) (
                                          Calls Try.prog 36 #[.pointer p39_0] w_29 fun e_18 w_30 => KeepG [g_5, g_4, g_3, g_2, g] w_29 w_30 ∧
                                          ∃ (a230 : Option Addr) (n230 : Nat) (c230 : Nat),
                                          e_18 = .returned (.slice a230 n230 c230) ∧
                                          K (.bool (decide (((n230 : Nat) : Int) = 0))) w_30
                                        ) (
                                          K (.bool false) w_29
                                        )
                                      ) (
                                        K (.bool false) w_28
                                      )
                                    ) (
                                      K (.bool false) w_27
                                    )
                                  ) (
                                    K (.bool false) w_27
                                  )
                                ) (
                                  K (.bool false) w_27
                                )
                              ) (
                                K (.bool false) w_27
                              )
                            ) (
                              K (.bool false) w_27
                            )
                          )
                        )
                      )
                    )
                  )
                )
              )
            )
          )
        )
      )
    )
  )
def lsaves_notes : Notes := ⟨[(5, ⟨[0, 1, 0, 4, 0, 16, 3, 79, 255], [], [0, 1, 2, 3, 4, 5, 6, 7, 8]⟩), (22, ⟨[0, 1, 3, 7, 15, 31, 63, 127, 255, 511, 1023, 2047, 4095, 8191, 16383, 32767, 65535, 131071, 262143, 524287, 1048575, 524287, 524287, 6815743, 16777215, 33554431, 67108863, 134217727, 268435455, 134217727, 671088639, 2147483647, 4294967295, 8589934591, 17179869183, 34359738367, 68719476735, 137438953471, 274877906943, 549755813887], [23, 30, 35], [0, 1, 2, 3, 4, 5, 6, 7, 8, 9, 10, 11, 12, 13, 14, 15, 16, 17, 18, 19, 20, 21, 22, 24, 25, 26, 27, 28, 29, 31, 32, 33, 34, 36, 37, 38, 39]⟩)], [], [], []⟩
theorem lsaves_calls (x0 : Int) (x1_0 : Int) (x1_1 : Int) (x1_2 : Int) (a2 : Option Addr) (n2 : Nat) (c2 : Nat) (w : World) (K : Value → World → Prop) (h : lsaves_vc x0 x1_0 x1_1 x1_2 a2 n2 c2 w K) : Calls Try.prog 6 #[.int .i64 x0, .agg #[.int .i64 x1_0, .int .i64 x1_1, .int .i64 x1_2], .slice a2 n2 c2] w fun e w' => ∃ v, e = .returned v ∧ K v w' :=
  calls_of_fvc envOk Try.func6 lsaves_notes [4, 18, 19, 24, 25] [.int .i64 x0, .agg #[.int .i64 x1_0, .int .i64 x1_1, .int .i64 x1_2], .slice a2 n2 c2] w K (use_vc h (by as_aux_lemma => kernel_rfl))
/-- purser/purserlaw06.SnapFalls -/
def lfalls_k1 (K : Value → World → Prop) (I : Int → ByteArray → Int → World → Prop) (μ : Int → ByteArray → Int → World → Nat) (x5 : Int) (s6 : ByteArray) (x7 : Int) (w_4 : World) (x5_3 : Int) (s9_2 : ByteArray) (b10_2 : Bool) (x90_0 : Int) (a90_1 : Option Addr) (n90_1 : Nat) (w_18 : World) : Prop :=
  br (!b10_2) (
    K (.bool false) w_18
  ) (
    br (decide (x90_0 ≠ (IntKind.i64.wrap (x5_3 + 1)))) (
      K (.bool false) w_18
    ) (
      ∃ bs130 : List UInt8, bs130.length = n90_1 ∧ RowAt w_18 a90_1 (bs130.map bV) ∧
      br (decide ((strOf bs130) ≠ s9_2)) (
        K (.bool false) w_18
      ) (
        I x90_0 s9_2 (IntKind.i64.wrap (x7 + 1)) w_18 ∧ μ x90_0 s9_2 (IntKind.i64.wrap (x7 + 1)) w_18 < μ x5 s6 x7 w_4
      )
    )
  )
def lfalls_k2 (K : Value → World → Prop) (I : Int → ByteArray → Int → World → Prop) (μ : Int → ByteArray → Int → World → Nat) (x5 : Int) (s6 : ByteArray) (x7 : Int) (w_4 : World) (x5_3 : Int) (s6_3 : ByteArray) (s9_2 : ByteArray) (b10_2 : Bool) (x90_0 : Int) (a90_1 : Option Addr) (n90_1 : Nat) (x90_2 : Int) (w_17 : World) : Prop :=
  br (decide (x90_2 ≠ 0)) (
    K (.bool false) w_17
  ) (
    br (decide (x90_0 = x5_3)) (
      ∃ bs116 : List UInt8, bs116.length = n90_1 ∧ RowAt w_17 a90_1 (bs116.map bV) ∧
      br (decide ((strOf bs116) = s6_3)) (
        I x5_3 s6_3 (IntKind.i64.wrap (x7 + 1)) w_17 ∧ μ x5_3 s6_3 (IntKind.i64.wrap (x7 + 1)) w_17 < μ x5 s6 x7 w_4
      ) (
        lfalls_k1 K I μ x5 s6 x7 w_4 x5_3 s9_2 b10_2 x90_0 a90_1 n90_1 w_17
      )
    ) (
      lfalls_k1 K I μ x5 s6 x7 w_4 x5_3 s9_2 b10_2 x90_0 a90_1 n90_1 w_17
    )
  )
def lfalls_k3 (K : Value → World → Prop) (I : Int → ByteArray → Int → World → Prop) (μ : Int → ByteArray → Int → World → Nat) (p18_0 : Option Addr) (x5 : Int) (s6 : ByteArray) (x7 : Int) (w_4 : World) (a40_2 : Option Addr) (n40_2 : Nat) (c40_2 : Nat) (g : Nat) (x5_3 : Int) (s6_3 : ByteArray) (s9_2 : ByteArray) (b10_2 : Bool) (w_13 : World) : Prop :=
  Calls Try.prog 39 #[.pointer p18_0, .slice a40_2 n40_2 c40_2] w_13 fun e_7 w_14 => KeepG [g] w_13 w_14 ∧
  e_7 = .returned (.tuple #[]) ∧
  Calls Try.prog 19 #[.pointer p18_0, .int .i64 2, .int .i64 9] w_14 fun e_8 w_15 => KeepG [g] w_14 w_15 ∧
  ∃ (x90_0 : Int) (a90_1 : Option Addr) (n90_1 : Nat) (c90_1 : Nat) (x90_2 : Int),
  e_8 = .returned (.tuple #[.int .i64 x90_0, .slice a90_1 n90_1 c90_1, .int .i64 x90_2]) ∧
  br (decide (x5_3 = 0)) (
    br (decide (x90_2 = 7)) (
      br (decide (x90_0 = 0)) (
        br (decide (((n90_1 : Nat) : Int) = 0)) (
          I x5_3 s6_3 (IntKind.i64.wrap (x7 + 1)) w_15 ∧ μ x5_3 s6_3 (IntKind.i64.wrap (x7 + 1)) w_15 < μ x5 s6 x7 w_4
        ) (
          lfalls_k2 K I μ x5 s6 x7 w_4 x5_3 s6_3 s9_2 b10_2 x90_0 a90_1 n90_1 x90_2 w_15
        )
      ) (
        lfalls_k2 K I μ x5 s6 x7 w_4 x5_3 s6_3 s9_2 b10_2 x90_0 a90_1 n90_1 x90_2 w_15
      )
    ) (
      lfalls_k2 K I μ x5 s6 x7 w_4 x5_3 s6_3 s9_2 b10_2 x90_0 a90_1 n90_1 x90_2 w_15
    )
  ) (
    lfalls_k2 K I μ x5 s6 x7 w_4 x5_3 s6_3 s9_2 b10_2 x90_0 a90_1 n90_1 x90_2 w_15
  )
def lfalls_vc (a0 : Option Addr) (n0 : Nat) (c0 : Nat) (w : World) (K : Value → World → Prop) : Prop :=
  Calls Try.prog 13 #[.int .i64 20] w fun e w_2 => KeepG [] w w_2 ∧
  ∃ (p18_0 : Option Addr) (x18_1 : Int),
  e = .returned (.tuple #[.pointer p18_0, .int .i64 x18_1]) ∧
  Calls Try.prog 14 #[] w_2 fun e_2 w_3 => KeepG [] w_2 w_3 ∧
  ∃ (b21 : Bool),
  e_2 = .returned (.bool b21) ∧
  br (!b21) (
    K (.bool false) w_3
  ) (
    br (decide (x18_1 ≠ 0)) (
      K (.bool false) w_3
    ) (
      ∃ (I : Int → ByteArray → Int → World → Prop) (μ : Int → ByteArray → Int → World → Nat),
      I 0 (⟨#[]⟩ : ByteArray) 0 w_3 ∧
      ∀ (x5 : Int) (s6 : ByteArray) (x7 : Int) (w_4 : World), I x5 s6 x7 w_4 →
      br (decide (x7 < ((n0 : Nat) : Int))) (
        br (decide (x7 < 4)) (
          withP a0 fun g39 o39 =>
          (0 : Int) ≤ x7 ∧ x7 < (((n0 : Nat) : Int) : Int) ∧
          ∃ (a40_0 : Option Addr) (n40_0 : Nat) (c40_0 : Nat) (x40_1 : Int) (a40_2 : Option Addr) (n40_2 : Nat) (c40_2 : Nat),
          cellsAt w_4 g39 (o39 + x7.toNat * 3) [.slice a40_0 n40_0 c40_0, .int .i64 x40_1, .slice a40_2 n40_2 c40_2] ∧
          newO w_4 (.cells #[.slice none 0 0, .int .i64 0, .slice none 0 0] 66) fun g w_5 =>
          ∀ w_6 : World, BoxSt g w_5 w_6 →
          (14 : Int) ≠ 0 ∧
          Calls Try.prog 37 #[.pointer p18_0, .int .i64 (IntKind.i64.wrap (Int.tmod (IntKind.u64.wrap x40_1) 14))] w_6 fun e_3 w_7 => KeepG [g] w_6 w_7 ∧
          e_3 = .returned (.tuple #[]) ∧
          ∃ (I_2 : Int → ByteArray → ByteArray → Bool → Int → World → Prop) (μ_2 : Int → ByteArray → ByteArray → Bool → Int → World → Nat),
          I_2 x5 s6 (⟨#[]⟩ : ByteArray) false 0 w_7 ∧
          ∀ (x5_2 : Int) (s6_2 : ByteArray) (s9 : ByteArray) (b10 : Bool) (x11 : Int) (w_8 : World), I_2 x5_2 s6_2 s9 b10 x11 w_8 →
          br (decide (x11 < ((n40_0 : Nat) : Int))) (
            br (decide (x11 < 4)) (
              br (!b10) (
                withP a40_0 fun g66 o66 =>
                (0 : Int) ≤ x11 ∧ x11 < (((n40_0 : Nat) : Int) : Int) ∧
                ∃ (a67 : Option Addr) (n67 : Nat) (c67 : Nat), w_8.cell? ⟨g66, o66 + x11.toNat * 1, none⟩ = some (.slice a67 n67 c67) ∧
                Calls Try.prog 16 #[.slice a67 n67 c67] w_8 fun e_4 w_9 => KeepG [g] w_8 w_9 ∧
                ∃ (a68 : Option Addr) (n68 : Nat) (c68 : Nat),
                e_4 = .returned (.slice a68 n68 c68) ∧
                Calls Try.prog 15 #[.pointer p18_0, .int .i64 2, .int .i64 9, .int .i64 (IntKind.i64.wrap (x5_2 + 1)), .slice a68 n68 c68] w_9 fun e_5 w_10 => KeepG [g] w_9 w_10 ∧
                ∃ (x73 : Int),
                e_5 = .returned (.int .i64 x73) ∧
                Calls Try.prog 38 #[.pointer p18_0] w_10 fun e_6 w_11 => KeepG [g] w_10 w_11 ∧
                ∃ (b75 : Bool),
                e_6 = .returned (.bool b75) ∧
                br b75 (
                  ∃ bs77 : List UInt8, bs77.length = n68 ∧ RowAt w_11 a68 (bs77.map bV) ∧
                  I_2 x5_2 s6_2 (strOf bs77) true (IntKind.i64.wrap (x11 + 1)) w_11 ∧ μ_2 x5_2 s6_2 (strOf bs77) true (IntKind.i64.wrap (x11 + 1)) w_11 < μ_2 x5_2 s6_2 s9 b10 x11 w_8
                ) (
                  br (decide (x73 = 0)) (
                    drewO w_11 fun w_12 =>
                    ∃ bs83 : List UInt8, bs83.length = n68 ∧ RowAt w_12 a68 (bs83.map bV) ∧
                    I_2 (IntKind.i64.wrap (x5_2 + 1)) (strOf bs83) s9 b10 (IntKind.i64.wrap (x11 + 1)) w_12 ∧ μ_2 (IntKind.i64.wrap (x5_2 + 1)) (strOf bs83) s9 b10 (IntKind.i64.wrap (x11 + 1)) w_12 < μ_2 x5_2 s6_2 s9 b10 x11 w_8
                  ) (
                    K (.bool false) w_11
                  )
                )
              ) (
                lfalls_k3 K I μ p18_0 x5 s6 x7 w_4 a40_2 n40_2 c40_2 g x5_2 s6_2 s9 b10 w_8
              )
            ) (
              lfalls_k3 K I μ p18_0 x5 s6 x7 w_4 a40_2 n40_2 c40_2 g x5_2 s6_2 s9 b10 w_8
            )
          ) (
            lfalls_k3 K I μ p18_0 x5 s6 x7 w_4 a40_2 n40_2 c40_2 g x5_2 s6_2 s9 b10 w_8
          )
        ) (
          K (.bool true) w_4
        )
      ) (
        K (.bool true) w_4
      )
    )
  )
def lfalls_notes : Notes := ⟨[(19, ⟨[0, 1, 0, 4, 3, 31], [], [0, 1, 2, 3, 4, 5]⟩)], [(6, ⟨[(5, .lf (.int .i64)), (6, .lf (.str)), (7, .lf (.int .i64))], [], [27, 28, 29, 30, 31, 32, 33, 34, 37, 38, 39, 40, 8, 41, 42, 43, 44, 45, 46, 47, 9, 10, 11, 48, 49, 50, 51, 52, 53, 54, 55, 56, 57, 58, 59, 60, 63, 64, 65, 66, 67, 68, 12, 69, 70, 71, 72, 73, 13, 74, 75, 76, 77, 78, 79, 80, 81, 82, 83, 5, 6, 2, 61, 62, 84, 85, 86, 87, 89, 90, 88, 91, 92, 93, 14, 15, 16, 94, 95, 96, 97, 98, 99, 100, 101, 102, 103, 104, 105, 106, 107, 108, 109, 110, 111, 112, 113, 114, 115, 116, 117, 118, 119, 120, 121, 122, 123, 124, 125, 126, 127, 128, 129, 130, 131, 132, 133, 134, 135, 35, 36, 7], [8]⟩), (12, ⟨[(5, .lf (.int .i64)), (6, .lf (.str)), (9, .lf (.str)), (10, .lf (.bool)), (11, .lf (.int .i64))], [], [48, 49, 50, 51, 52, 53, 54, 55, 56, 57, 58, 59, 60, 63, 64, 65, 66, 67, 68, 12, 69, 70, 71, 72, 73, 13, 74, 75, 76, 77, 9, 10, 78, 79, 80, 81, 82, 83, 5, 6, 2, 61, 62, 11], []⟩)], [], []⟩
theorem lfalls_calls (a0 : Option Addr) (n0 : Nat) (c0 : Nat) (w : World) (K : Value → World → Prop) (h : lfalls_vc a0 n0 c0 w K) : Calls Try.prog 7 #[.slice a0 n0 c0] w fun e w' => ∃ v, e = .returned v ∧ K v w' :=
  calls_of_fvc envOk Try.func7 lfalls_notes [8] [.slice a0 n0 c0] w K (use_vc h (by as_aux_lemma => kernel_rfl))
end GSn
end Go.Proofs.Ytpfmadinijofeaa
end
section
/- The program's slots: numbers, heads, bodies, places; walked. -/
namespace Go.Proofs.Ytpfmadinijofeaa
open Go.RowKit
theorem number_on {w0 w : World} (B : Bs w0 w) {n1 c : Nat} {a : Option Addr} {xs : List UInt8} (o : Own w n1 5 1 (.slice a xs.length c) xs.length (xs.map bV)) (h1 : w0.heap.size ≤ n1) (h2 : n1 ≤ w.heap.size) (hl : xs.length ≤ 1000000) (n k : Nat) (hk : k ≤ 8) :
    Calls Try.prog 74 #[.slice a xs.length c, .int .u64 (n : Int), .int .i64 (k : Int)] w fun e w' => NewB w0 n1 (xs ++ beB n k) e w' ∧ w.heap.size ≤ w'.heap.size := by
  refine (GSn.number_calls a xs.length c n k w (fun v w' => ∃ a c, v = .slice a (xs ++ beB n k).length c ∧ Own w' n1 5 1 (.slice a (xs ++ beB n k).length c) (xs ++ beB n k).length ((xs ++ beB n k).map bV) ∧ Bs w0 w' ∧ w.heap.size ≤ w'.heap.size) ?_).mono (by rintro e w' ⟨v, rfl, a, c, rfl, h1, h2, h3⟩; exact ⟨⟨a, c, rfl, h1, h2⟩, h3⟩)
  unfold GSn.number_vc
  refine ⟨fun a2 m c2 x w2 => ∃ j : Nat, j ≤ k ∧ x = (k : Int) - 1 - j ∧ m = (xs ++ beJ n k j).length ∧ Own w2 n1 5 1 (.slice a2 m c2) m ((xs ++ beJ n k j).map bV) ∧ Bs w0 w2 ∧ w.heap.size ≤ w2.heap.size, fun _ _ _ x _ => (x + 1).toNat, ⟨0, by omega, by rw [wr64 (by omega) (by omega)]; omega, by simp [beJ], by simpa [beJ] using o, B, Nat.le_refl _⟩, ?_⟩
  rintro a2 m c2 x w2 ⟨j, hj, rfl, rfl, o2, B2, z2⟩
  refine br_dec (fun h => ?_) fun h => ?_
  · have hl2 : (xs ++ beJ n k j).length = xs.length + j := by rw [List.length_append, beJ_len]
    obtain ⟨x, hx⟩ : ∃ x : Nat, (k : Int) - 1 - j = (x : Int) := ⟨k - 1 - j, by omega⟩
    rw [hx]
    refine ⟨by rw [wr64 (by omega) (by omega)]; omega, appU B2 o2 h1 (Nat.le_trans h2 z2) (by omega) (b := UInt8.ofNat (n / 2 ^ (8 * x) % 256)) (by rw [numByte n x (by omega)]; rfl) (fun g hg => by cases hg) fun a' c' w3 o3 B3 z3 => ⟨⟨j + 1, by omega, by rw [wr64 (by omega) (by omega)]; omega, ?_, ?_, B3, Nat.le_trans z2 z3⟩, by dsimp only; rw [wr64 (by omega) (by omega)]; omega⟩⟩
    · simp only [List.length_append, beJ_succ, List.length_singleton]; omega
    · rw [beJ_succ, show k - 1 - j = x by omega, ← List.append_assoc]
      exact o3
  · obtain rfl : j = k := by omega
    exact ⟨a2, c2, rfl, o2, B2, z2⟩
theorem room_ret (z : Int) (w : World) : Calls Try.prog 32 #[.int .i64 z] w (Ret (.int .i64 (roomZ z)) w) := by
  refine ret_in (GSn.room_calls z w (fun u w' => u = .int .i64 (roomZ z) ∧ Below w.heap.size w w') ?_)
  unfold GSn.room_vc roomZ
  refine br_dec (fun h => ⟨by rw [if_pos (.inl h)], Bs.refl _⟩) fun h => br_dec (fun h2 => ⟨by rw [if_pos (.inr h2)], Bs.refl _⟩) fun h2 => ⟨?_, Bs.refl _⟩
  rw [if_neg (by omega), wr64 (z := z - 1) (by omega) (by omega), wr64 (by omega) (by omega)]
theorem head_new (gen : Nat) (hg : gen < 9223372036854775808) {a : Option Addr} {c : Nat} {im : List UInt8} (w : World) (hr : RowAt w a (im.map bV)) (hl : im.length ≤ 1000000) (hc : im.length ≤ c) :
    Calls Try.prog 52 #[.int .i64 (gen : Int), .slice a im.length c] w (NewB w w.heap.size (headK gen im)) := by
  refine (GSn.head_calls gen a im.length c w (fun v w' => ∃ a c, v = .slice a (headK gen im).length c ∧ Own w' w.heap.size 5 1 (.slice a (headK gen im).length c) (headK gen im).length ((headK gen im).map bV) ∧ Bs w w') ?_).mono (by rintro e w' ⟨v, rfl, a, c, rfl, h⟩; exact ⟨a, c, rfl, h⟩)
  unfold GSn.head_vc
  rw [wru64 (by omega) (by omega), wru64 (by omega) (by omega)]
  refine (number_on (Bs.refl w) (xs := []) (Own.nil w w.heap.size 5 1) (Nat.le_refl _) (Nat.le_refl _) (by simp) gen 8 (by omega)).mono ?_
  rintro e w2 ⟨⟨a2, c2, rfl, o2, B2⟩, z2⟩
  rw [List.nil_append] at o2 ⊢
  refine ⟨keepG_nil _ _, a2, _, c2, rfl, (number_on B2 o2 (Nat.le_refl _) z2 (by rw [beB_len]; omega) im.length 8 (by omega)).mono ?_⟩
  rintro e w3 ⟨⟨a3, c3, he, o3, B3⟩, z3⟩
  rw [show beB gen 8 ++ beB im.length 8 = headH gen im.length from rfl] at he o3
  subst he
  refine ⟨keepG_nil _ _, a3, _, c3, rfl, ?_⟩
  show newO w3 (.cells #[.slice a3 (headH gen im.length).length c3, _] _) _
  have hpl := headH_len gen im.length
  refine newB B3 fun g w4 g0 sg n4 z4 b4 B4 => ?_
  have o4 := o3.below b4 (Nat.le_refl _)
  have hp : PartsAt w4 (some ⟨g, 0, none⟩) [headH gen im.length, im] := by
    refine ⟨[(a3, c3), (a, c)], RowAt.ofWhole n4, rfl, fun v p hm => ?_⟩
    simp at hm
    rcases hm with ⟨rfl, rfl⟩ | ⟨rfl, rfl⟩
    · exact ⟨o4.row, o4.cap.1, by unfold maxLen; omega⟩
    · exact ⟨hr.below B4 (Nat.le_refl _), hc, by unfold maxLen; omega⟩
  refine (csum_any (some ⟨g, 0, none⟩) 2 [headH gen im.length, im] w4 (by show 2 ≤ maxLen; decide) hp).mono ?_
  rintro e w5 ⟨rfl, b5⟩
  have B5 := B4.to b5
  have o5 := o4.below b5 (Nat.le_refl _)
  have hcr : crcP 0 [headH gen im.length, im] = more 0 (headH gen im.length ++ im) := by
    rw [crcP_join]
    simp
  have hlt : more 0 (headH gen im.length ++ im) < 4294967296 := more_lt _ (by omega)
  rw [hcr]
  refine ⟨keepG_nil _ _, _, rfl, newB B5 fun g2 w6 g20 sg2 n6 z6 b6 B6 => ?_⟩
  have o6 := o5.below b6 (Nat.le_refl _)
  have h3 : Own w6 w5.heap.size 5 1 (.slice (some ⟨g2, 0, none⟩) 1 1) 1 (([3] : List UInt8).map bV) := own_lit (bs := [3]) n6 (by omega) (by unfold maxLen; decide)
  refine appB (n1 := w5.heap.size) B6 h3 B5.size (by omega) (srcB o6.row) (by unfold maxLen; omega) (by omega) (fun q hq => by cases hq) fun a' c' w7 o7 g7 B7 z7 => ?_
  have o7 : Own w7 w5.heap.size 5 1 (.slice a' (([3] : List UInt8) ++ headH gen im.length).length c') (([3] : List UInt8) ++ headH gen im.length).length ((([3] : List UInt8) ++ headH gen im.length).map bV) := by
    rw [List.map_append, List.length_append]
    exact o7
  rw [show IntKind.u64.wrap ((more 0 (headH gen im.length ++ im) : Nat) : Int) = ((more 0 (headH gen im.length ++ im) : Nat) : Int) from wru64 (by omega) (by omega)]
  have e7 : 1 + (headH gen im.length).length = (([3] : List UInt8) ++ headH gen im.length).length := by rw [List.length_append]; rfl
  rw [e7]
  refine (number_on B7 o7 B5.size (by omega) (by simp [hpl]) (more 0 (headH gen im.length ++ im)) 4 (by omega)).mono ?_
  rintro e w8 ⟨⟨a8, c8, rfl, o8, B8⟩, z8⟩
  refine ⟨keepG_nil _ _, a8, _, c8, rfl, ?_⟩
  have hl8 : (([3] : List UInt8) ++ headH gen im.length ++ beB (more 0 (headH gen im.length ++ im)) 4).length = 21 := by simp [hpl, beB_len]
  rw [hl8] at o8 ⊢
  rw [show IntKind.i64.wrap (64 - ((21 : Nat) : Int)) = 43 by decide]
  refine ⟨by decide, _, o8.base_le fun _ _ => Nat.zero_le _, by unfold maxLen; decide, by decide, fun q hq => (by cases hq), fun a9 c9 w9 o9 g9 or9 => ⟨a9, c9, ?_, ?_, ?_⟩⟩
  · rw [headK_len]; rfl
  · rw [headK_len]
    have e9 : ((([3] : List UInt8) ++ headH gen im.length ++ beB (more 0 (headH gen im.length ++ im)) 4).map bV) ++ repL (43 : Int).toNat [.int .u8 0] = (headK gen im).map bV := by
      unfold headK zerosB
      rw [List.map_append (l₂ := List.replicate 43 0), List.map_replicate]
      rfl
    rw [e9] at o9
    refine o9.base_le fun q hq => ?_
    rcases or9 with h | ⟨g, h, h3⟩
    · exact Nat.le_trans B5.size (o8.lt q (h ▸ hq)).1
    · rw [h] at hq; injection hq with hq; have := B8.size; omega
  · exact ⟨g9.os.trans B8.os, g9.tape.trans B8.tape, g9.output.trans B8.output, Nat.le_trans B8.size g9.size, fun q hq => (g9.block q (by have := B8.size; omega) fun e => by have := (o8.lt q e.symm).1; have := B5.size; omega).trans (B8.block q hq)⟩
end Go.Proofs.Ytpfmadinijofeaa
end
