import Derived.Test.YtckeljphaeickaaMGrO5
import Derived.Test.YtckeljphaeickaaMGrO3
import Derived.Test.YtckeljphaeickaaMGrO4
import Derived.Test.YtckeljphaeickaaMGrO2
set_option linter.unusedVariables false
section
/- What lines cost, by the document; the document's rate, worst and fit; walked. -/
namespace Go.Proofs.Ytckeljphaeickaa
open Go.RowKit
def bigA (x0 x1 x2 x3 x4 x5 x6 x7 x8 x9 : Int) (b : Bool) : Value := .agg #[.int .u64 x0, .int .u64 x1, .int .u64 x2, .int .u64 x3, .int .u64 x4, .int .u64 x5, .int .u64 x6, .int .u64 x7, .int .u64 x8, .int .u64 x9, .bool b]
theorem small_lim {z : Int} (h : 0 ≤ z ∧ z ≤ 1152921504606846976) : z.natAbs < lim ∧ 2 * z.natAbs < lim ∧ z.natAbs < 2 ^ (32 * 5) := by
  have h1 : 2 * z.natAbs < 2 ^ 62 := by show _ < 4611686018427387904; omega
  refine ⟨lim_big (by decide) (Nat.lt_of_le_of_lt (by omega) h1), lim_big (by decide) h1, Nat.lt_of_lt_of_le (Nat.lt_of_le_of_lt (by omega) h1) (Nat.pow_le_pow_right (by omega) (by omega))⟩
set_option maxRecDepth 10000 in
theorem r10cost_ret (a : Option Addr) (c : Nat) (ls : List Ln) (w : World) (h : LsAt 0 w a ls) (ho : LsOk ls) : Calls Try.prog 92 #[.slice a ls.length c] w (Ret (.tuple #[.int .i64 (costOf ls), .bool true]) w) := by
  refine ret_in (GTar.rcost_calls a ls.length c w (fun u w' => u = .tuple #[.int .i64 (costOf ls), .bool true] ∧ Below w.heap.size w w') ?_)
  unfold GTar.rcost_vc
  have hl := ho.2
  refine callB (Bs.refl w) (rOf_any 0 w (by omega) (by omega)) fun w2 b2 B2 => ⟨_, _, _, _, _, _, _, _, _, _, _, rfl, newB B2 fun g w3 g0 sg n3 z3 b3 B3 => boxB B3 g0 fun w4 h4 B4 z4 => ?_⟩
  refine ⟨fun x x0 x1 x2 x3 x4 x5 x6 x7 x8 x9 b wx => ∃ i : Nat, x = i ∧ i ≤ ls.length ∧ bigA x0 x1 x2 x3 x4 x5 x6 x7 x8 x9 b = bigOf (costOf (ls.take i)) ∧ Bs w wx, fun x _ _ _ _ _ _ _ _ _ _ _ _ => ls.length - x.toNat, ⟨0, rfl, by omega, rfl, B4⟩, ?_⟩
  rintro x x0 x1 x2 x3 x4 x5 x6 x7 x8 x9 b wx ⟨i, rfl, hi, he, B⟩
  refine br_dec (fun hlt => ?_) fun hge => ?_
  · have hil : i < ls.length := by omega
    have hmem := List.getElem_mem hil
    have hp := ho.1 _ hmem
    have hf := prod_fits hp
    have htk : costOf (ls.take (i + 1)) = costOf (ls.take i) + ls[i].blocks * ls[i].price := by
      rw [List.take_add_one, List.getElem?_eq_getElem hil, costOf_app]
      simp [costOf]
    have hcf := cost_fits (ls := ls.take i) ⟨fun l hl => ho.1 l (List.mem_of_mem_take hl), by rw [List.length_take]; omega⟩
    rw [List.length_take] at hcf
    have hcs : 0 ≤ costOf (ls.take i) ∧ costOf (ls.take i) ≤ 1152921504606846976 := by omega
    have s1 := small_lim (z := ls[i].blocks * ls[i].price) (by omega)
    have s2 := small_lim hcs
    have sb := small_lim (z := ls[i].blocks) (by omega)
    have sp := small_lim (z := ls[i].price) (by omega)
    rw [wr64 (show -9223372036854775808 ≤ ((i : Nat) : Int) + 1 by omega) (by omega)]
    have fin : ∀ wy, Bs w wy → ∀ gs : List Nat, ∀ y0 y1 y2 y3 y4 y5 y6 y7 y8 y9 : Int, ∀ yb : Bool, bigA y0 y1 y2 y3 y4 y5 y6 y7 y8 y9 yb = bigOf (ls[i].blocks * ls[i].price) → Calls Try.prog 96 #[bigA y0 y1 y2 y3 y4 y5 y6 y7 y8 y9 yb] wy fun e w12 => KeepG gs wy w12 ∧ ∃ (x31 : Int) (b31 : Bool), e = .returned (.tuple #[.int .i64 x31, .bool b31]) ∧
        br (!b31) (Value.tuple #[.int .i64 0, .bool false] = .tuple #[.int .i64 (costOf ls), .bool true] ∧ Below w.heap.size w w12) (
          Calls Try.prog 94 #[bigA x0 x1 x2 x3 x4 x5 x6 x7 x8 x9 b, bigA y0 y1 y2 y3 y4 y5 y6 y7 y8 y9 yb] w12 fun e w13 => KeepG gs w12 w13 ∧ ∃ (z0 : Int) (z1 : Int) (z2 : Int) (z3 : Int) (z4 : Int) (z5 : Int) (z6 : Int) (z7 : Int) (z8 : Int) (z9 : Int) (zb : Bool), e = .returned (bigA z0 z1 z2 z3 z4 z5 z6 z7 z8 z9 zb) ∧
          ∀ w14, BoxSt g w13 w14 → (∃ j : Nat, ((i : Nat) : Int) + 1 = j ∧ j ≤ ls.length ∧ bigA z0 z1 z2 z3 z4 z5 z6 z7 z8 z9 zb = bigOf (costOf (ls.take j)) ∧ Bs w w14) ∧ ls.length - (((i : Nat) : Int) + 1).toNat < ls.length - ((i : Nat) : Int).toNat) := by
      intro wy By gs y0 y1 y2 y3 y4 y5 y6 y7 y8 y9 yb hy
      rw [hy, he]
      refine callB By (rIntZ_any _ s1.1 wy) fun w12 b12 B12 => ⟨_, _, congrArg Ending.returned (fitV_yes (by omega) (by omega)), br_f rfl (callB B12 (rPlus_any _ _ s2.2.1 s1.2.1 w12) fun w13 b13 B13 => ⟨_, _, _, _, _, _, _, _, _, _, _, rfl, boxB B13 g0 fun w14 h14 B14 z14 => ⟨⟨i + 1, by omega, by omega, ?_, B14⟩, by omega⟩⟩)⟩
      rw [htk]; rfl
    have hgOf1 : ∀ wy, Calls Try.prog 95 #[.int .i64 ls[i].blocks] wy (Ret (bigOf ls[i].blocks) wy) := fun wy => rOf_any _ wy (by omega) (by omega)
    have hgOf2 : ∀ wy, Calls Try.prog 95 #[.int .i64 ls[i].price] wy (Ret (bigOf ls[i].price) wy) := fun wy => rOf_any _ wy (by omega) (by omega)
    have hgT : ∀ wy, Calls Try.prog 118 #[bigOf ls[i].blocks, bigOf ls[i].price] wy (Ret (bigOf (ls[i].blocks * ls[i].price)) wy) := fun wy => rTimes_any _ _ sb.2.2 sp.2.2 wy
    clear s1 s2 sb sp hcs hcf hf
    refine drewB B fun w6 b6 B6 _ => ?_
    obtain ⟨b', off, rfl, hc⟩ := (h.below B6).get hil
    have c1 : ∀ {wy : World}, Below w6.heap.size w6 wy → wy.cell? ⟨b', off + ((i : Nat) : Int).toNat * 3 + 1, none⟩ = some (.int .i64 ls[i].blocks) := fun hb => by
      have k := cellsAt_get hc 1 _ rfl
      rw [Int.toNat_natCast, Nat.add_assoc]
      rw [Nat.add_assoc] at k
      rw [cell_keep (hb.block b' (block_lt_of_cell k))]
      exact k
    have c2 : ∀ {wy : World}, Below w6.heap.size w6 wy → wy.cell? ⟨b', off + ((i : Nat) : Int).toNat * 3 + 2, none⟩ = some (.int .i64 ls[i].price) := fun hb => by
      have k := cellsAt_get hc 2 _ rfl
      rw [Int.toNat_natCast, Nat.add_assoc]
      rw [Nat.add_assoc] at k
      rw [cell_keep (hb.block b' (block_lt_of_cell k))]
      exact k
    refine ⟨by omega, by omega, _, c1 (Below.refl _ _), by omega, by omega, _, c2 (Below.refl _ _), ⟨?_, ?_⟩⟩
    · refine callB B6 (hgOf1 w6) fun w7 b7 B7 => ⟨_, _, _, _, _, _, _, _, _, _, _, rfl, c2 b7, ⟨?_, ?_⟩⟩
      · refine callB B7 (hgOf2 w7) fun w8 b8 B8 => ⟨_, _, _, _, _, _, _, _, _, _, _, rfl, ⟨?_, ?_⟩⟩
        · exact callB B8 (hgT w8) fun w9 b9 B9 => ⟨_, _, _, _, _, _, _, _, _, _, _, rfl, newB B9 fun g' w10 g0' sg' n10 z10 b10 B10 => boxB B10 g0' fun w11 h11 B11 z11 => fin w11 B11 _ _ _ _ _ _ _ _ _ _ _ _ rfl⟩
        · exact newB B8 fun g' w10 g0' sg' n10 z10 b10 B10 => callB B10 (hgT w10) fun w9 b9 B9 => ⟨_, _, _, _, _, _, _, _, _, _, _, rfl, boxB B9 g0' fun w11 h11 B11 z11 => fin w11 B11 _ _ _ _ _ _ _ _ _ _ _ _ rfl⟩
      · exact newB B7 fun g' w10 g0' sg' n10 z10 b10 B10 => ⟨c2 (b7.trans (b10.mono b7.size)), callB B10 (hgOf2 w10) fun w8 b8 B8 => ⟨_, _, _, _, _, _, _, _, _, _, _, rfl, callB B8 (hgT w8) fun w9 b9 B9 => ⟨_, _, _, _, _, _, _, _, _, _, _, rfl, boxB B9 g0' fun w11 h11 B11 z11 => fin w11 B11 _ _ _ _ _ _ _ _ _ _ _ _ rfl⟩⟩⟩
    · exact newB B6 fun g' w10 g0' sg' n10 z10 b10 B10 => ⟨c1 b10, c2 b10, callB B10 (hgOf1 w10) fun w7 b7 B7 => ⟨_, _, _, _, _, _, _, _, _, _, _, rfl, c2 (b10.trans (b7.mono b10.size)), callB B7 (hgOf2 w7) fun w8 b8 B8 => ⟨_, _, _, _, _, _, _, _, _, _, _, rfl, callB B8 (hgT w8) fun w9 b9 B9 => ⟨_, _, _, _, _, _, _, _, _, _, _, rfl, boxB B9 g0' fun w11 h11 B11 z11 => fin w11 B11 _ _ _ _ _ _ _ _ _ _ _ _ rfl⟩⟩⟩⟩
  · obtain rfl : i = ls.length := by omega
    rw [List.take_length] at he
    have hcf := cost_fits ho
    have s2 := small_lim (z := costOf ls) (by omega)
    have hI := rIntZ_any (costOf ls) s2.1 wx
    rw [← he] at hI
    exact callB B hI fun w12 b12 B12 => ⟨_, _, congrArg Ending.returned (fitV_yes (by omega) (by omega)), rfl, B12⟩
theorem lsame_ret (a a2 : Option Addr) (c c2 : Nat) (ls : List Ln) (w : World) (h : LsAt 0 w a ls) (h2 : LsAt 0 w a2 ls) (hl : ls.length ≤ 1000) : Calls Try.prog 29 #[.slice a ls.length c, .slice a2 ls.length c2] w (Ret (.bool true) w) := by
  refine ret_in (GTar.rlsame_calls a ls.length c a2 ls.length c2 w (fun u w' => u = .bool true ∧ Below w.heap.size w w') ?_)
  unfold GTar.rlsame_vc
  refine br_n (by omega) ⟨fun x wx => ∃ i : Nat, x = i ∧ i ≤ ls.length ∧ Bs w wx, fun x _ => ls.length - x.toNat, ⟨0, rfl, by omega, Bs.refl _⟩, ?_⟩
  rintro x wx ⟨i, rfl, hi, B⟩
  refine br_dec (fun hlt => drewB B fun w3 b3 B3 _ => ?_) fun hge => ⟨rfl, B⟩
  have hil : i < ls.length := by omega
  obtain ⟨b, off, rfl, hc⟩ := (h.below B3).get hil
  obtain ⟨b', off', rfl, hc'⟩ := (h2.below B3).get hil
  refine ⟨by omega, by omega, ls[i].tier, ls[i].blocks, ls[i].price, by rw [Int.toNat_natCast]; exact hc, by omega, by omega, ls[i].tier, ls[i].blocks, ls[i].price, by rw [Int.toNat_natCast]; exact hc', br_f (by simp) ?_⟩
  rw [wr64 (by omega) (by omega)]
  exact ⟨⟨i + 1, by omega, by omega, B3⟩, by dsimp only; omega⟩
theorem dearT_app : ∀ (xs ys : List Tr), dearT (xs ++ ys) = max (dearT xs) (dearT ys)
  | [], ys => by have := dearT_nn ys; simp only [List.nil_append, dearT]; omega
  | x :: r, ys => by simp only [List.cons_append, dearT, dearT_app r ys]; omega
theorem rdear_ret (p : Pl) (a a2 : Option Addr) (c c2 : Nat) (w : World) (h : PlAt w p a a2) : Calls Try.prog 112 #[planV p a c a2 c2] w (Ret (.int .i64 (dear p)) w) := by
  refine ret_in (GTar.rdear_calls p.day p.frm p.til p.base.grp p.base.mode p.base.block a p.base.ts.length c p.other.grp p.other.mode p.other.block a2 p.other.ts.length c2 w (fun u w' => u = .int .i64 (dear p) ∧ Below w.heap.size w w') ?_)
  unfold GTar.rdear_vc
  have h1 := h.lb
  have h2 := h.lo
  refine newB (Bs.refl w) fun g w2 g0 sg n2 z2 b2 B2 => drewB B2 fun w3 b3 B3 _ => newB B3 fun g' w4 g0' sg' n4 z4 b4 B4 => ?_
  have b3s := b3.size
  have o4 : Own w4 w3.heap.size 114 2 (.slice (some ⟨g', 0, none⟩) 0 0) 0 [] := (own_empty 2 n4).base_le fun k hk => by simp [Value.ownBlock] at hk; omega
  refine appB B4 o4 B3.size (by omega) ((h.base.below B4).src (c := c) Try.underlying49 (by decide) tr_len tr_one) (by unfold maxLen; omega) (by omega) (fun x hx e => ?_) fun a5 c5 w5 o5 g5 B5 z5 => ?_
  · rw [List.mem_singleton] at hx; subst hx
    have := (o4.lt _ e).1
    omega
  refine appB B5 o5 B3.size (by omega) ((h.other.below B5).src (c := c2) Try.underlying49 (by decide) tr_len tr_one) (by unfold maxLen; omega) (by omega) (fun x hx e => ?_) fun a6 c6 w6 o6 g6 B6 z6 => ?_
  · rw [List.mem_singleton] at hx; subst hx
    have := (o5.lt _ e).1
    omega
  have hall : TsAt w3.heap.size w6 a6 (p.base.ts ++ p.other.ts) := Rws.ofOwn (by decide) tr_len (by rw [List.flatMap_append]; rw [List.nil_append] at o6; exact o6)
  have hlen : 0 + p.base.ts.length + p.other.ts.length = (p.base.ts ++ p.other.ts).length := by simp
  rw [hlen]
  have hdr : dear p = dearT (p.base.ts ++ p.other.ts) := by rw [dearT_app]; rfl
  rw [hdr]
  have hl : (p.base.ts ++ p.other.ts).length ≤ 2000 := by simp; omega
  generalize p.base.ts ++ p.other.ts = ts at *
  have nn := dearT_nn ts
  refine ⟨fun x y wx => ∃ i : Nat, y = i ∧ i ≤ ts.length ∧ dearT ts = max x (dearT (ts.drop i)) ∧ 0 ≤ x ∧ w6 = wx, fun _ y _ => ts.length - y.toNat, ⟨0, rfl, by omega, by simp; omega, by omega, rfl⟩, ?_⟩
  rintro x y wx ⟨i, rfl, hi, he, hx, rfl⟩
  refine br_dec (fun hlt => ?_) fun hge => ?_
  · have hil : i < ts.length := by omega
    obtain ⟨b, off, rfl, hc⟩ := hall.get hil
    rw [List.drop_eq_getElem_cons hil, dearT] at he
    refine ⟨by omega, by omega, ts[i].price, by rw [Int.toNat_natCast, Nat.add_assoc]; exact cellsAt_get hc 1 _ rfl, ?_⟩
    rw [wr64 (by omega) (by omega)]
    exact ⟨⟨i + 1, by omega, by omega, by omega, by omega, rfl⟩, by dsimp only; omega⟩
  · obtain rfl : i = ts.length := by omega
    refine ⟨?_, B6⟩
    rw [List.drop_length] at he
    congr 1
    simp only [dearT] at he
    omega
theorem rblocks_ret (n b : Int) (w : World) (hn : 0 ≤ n ∧ n ≤ 1073741824) (hb : 1 ≤ b ∧ b ≤ 1073741824) : Calls Try.prog 90 #[.int .i64 n, .int .i64 b] w (Ret (.tuple #[.int .i64 (blk n b), .bool true]) w) :=
  ret_same (rBlocks_any n b (by omega) (by omega) (by omega) (by omega) w _ (blkT_yes hn.1 hb.1).symm)
theorem rworst_ret (p : Pl) (a a2 : Option Addr) (c c2 : Nat) (n : Int) (w : World) (h : PlAt w p a a2) :
    Calls Try.prog 84 #[planV p a c a2 c2, .int .i64 n] w (Ret (.tuple #[.int .i64 (worstN p n), .int .i64 (worstE p n)]) w) := by
  refine ret_in (GTar.rworst_calls p.day p.frm p.til p.base.grp p.base.mode p.base.block a p.base.ts.length c p.other.grp p.other.mode p.other.block a2 p.other.ts.length c2 n w (fun u w' => u = .tuple #[.int .i64 (worstN p n), .int .i64 (worstE p n)] ∧ Below w.heap.size w w') ?_)
  unfold GTar.rworst_vc
  have bad : ∀ w', Below w.heap.size w w' → worstE p n = 1 → Value.tuple #[.int .i64 0, .int .i64 1] = .tuple #[.int .i64 (worstN p n), .int .i64 (worstE p n)] ∧ Below w.heap.size w w' := fun w' B hE => by
    unfold worstN
    rw [hE]
    exact ⟨rfl, B⟩
  refine newB (Bs.refl w) fun g w2 g0 sg n2 z2 b2 B2 => callB B2 (r9cplan_ret p a a2 c c2 w2 (h.to B2)) fun w3 b3 B3 => ⟨_, rfl, br_dec (fun h1 => bad _ B3 (by unfold worstE; rw [if_pos (.inl h1)])) fun h1 => br_dec (fun h2 => bad _ B3 (by unfold worstE; rw [if_pos (.inr (by omega))])) fun h2 => br_dec (fun h3 => bad _ B3 (by unfold worstE; rw [if_pos (.inr (by omega))])) fun h3 => ?_⟩
  have hp : planE p = 0 := Decidable.not_not.1 h1
  have hb := (chk_ok (plan_ok hp).1).1.2
  have hn : 0 ≤ n ∧ n ≤ 1073741824 := by omega
  refine callB B3 (rblocks_ret n p.base.block w3 hn hb) fun w5 b5 B5 => ⟨_, _, rfl, callB B5 (rdear_ret p a a2 c c2 w5 (h.to B5)) fun w6 b6 B6 => ⟨_, rfl, ?_, B6⟩⟩
  have hs := worst_small hp hn
  have hE : worstE p n = 0 := by unfold worstE; rw [if_neg (by omega)]
  unfold worstN
  rw [wr64 (by omega) (by omega), hE, if_pos rfl]
theorem rfit_ret (p : Pl) (a a2 : Option Addr) (c c2 : Nat) (cr want : Int) (w : World) (h : PlAt w p a a2) :
    Calls Try.prog 59 #[planV p a c a2 c2, .int .i64 cr, .int .i64 want] w (Ret (.tuple #[.int .i64 (fitU p cr want), .int .i64 (fitC p cr want), .int .i64 (fitE p cr want)]) w) := by
  refine ret_in (GTar.rfit_calls p.day p.frm p.til p.base.grp p.base.mode p.base.block a p.base.ts.length c p.other.grp p.other.mode p.other.block a2 p.other.ts.length c2 cr want w (fun u w' => u = .tuple #[.int .i64 (fitU p cr want), .int .i64 (fitC p cr want), .int .i64 (fitE p cr want)] ∧ Below w.heap.size w w') ?_)
  unfold GTar.rfit_vc
  have bad : ∀ w', Below w.heap.size w w' → fitE p cr want = 1 → Value.tuple #[.int .i64 0, .int .i64 0, .int .i64 1] = .tuple #[.int .i64 (fitU p cr want), .int .i64 (fitC p cr want), .int .i64 (fitE p cr want)] ∧ Below w.heap.size w w' := fun w' B hE => by
    unfold fitU fitC
    rw [hE]
    exact ⟨rfl, B⟩
  refine newB (Bs.refl w) fun g w2 g0 sg n2 z2 b2 B2 => callB B2 (r9cplan_ret p a a2 c c2 w2 (h.to B2)) fun w3 b3 B3 => ⟨_, rfl, br_dec (fun h1 => bad _ B3 (by unfold fitE; rw [if_pos (.inl h1)])) fun h1 => br_dec (fun h2 => bad _ B3 (by unfold fitE; rw [if_pos (.inr (by omega))])) fun h2 => br_dec (fun h3 => bad _ B3 (by unfold fitE; rw [if_pos (.inr (by omega))])) fun h3 => br_dec (fun h4 => bad _ B3 (by unfold fitE; rw [if_pos (.inr (by omega))])) fun h4 => ?_⟩
  have hp : planE p = 0 := Decidable.not_not.1 h1
  have hb := (chk_ok (plan_ok hp).1).1.2
  have hE : fitE p cr want = 0 := by unfold fitE; rw [if_neg (by omega)]
  have hU : fitU p cr want = fitN p.base.block (dear p) cr want := by unfold fitU; rw [if_pos hE]
  have hC : fitC p cr want = blk (fitU p cr want) p.base.block * dear p := by unfold fitC; rw [if_pos hE]
  have hdr := dear_plan hp
  have hnn := fitN_nn p.base.block (dear p) cr want (by omega) (by omega) (by omega)
  rw [← hU] at hnn
  refine ⟨fun lo hi wx => 0 ≤ lo ∧ lo ≤ fitU p cr want ∧ fitU p cr want ≤ hi ∧ hi ≤ want ∧ Bs w wx, fun lo hi _ => (hi - lo).toNat, ⟨by omega, by omega, by omega, by omega, B3⟩, ?_⟩
  rintro lo hi wx ⟨k0, k1, k2, k3, B⟩
  refine br_dec (fun hlt => ⟨by decide, ?_⟩) fun hge => ?_
  · rw [wr64 (show -9223372036854775808 ≤ hi - lo by omega) (by omega), wr64 (show -9223372036854775808 ≤ hi - lo + 1 by omega) (by omega), Int.tdiv_eq_ediv_of_nonneg (show 0 ≤ hi - lo + 1 by omega)]
    have m0 : lo < lo + (hi - lo + 1) / 2 ∧ lo + (hi - lo + 1) / 2 ≤ hi ∧ (hi - lo + 1) / 2 ≤ hi := by omega
    rw [wr64 (show -9223372036854775808 ≤ (hi - lo + 1) / 2 by omega) (by omega), wr64 (show -9223372036854775808 ≤ lo + (hi - lo + 1) / 2 by omega) (by omega)]
    generalize lo + (hi - lo + 1) / 2 = mid at *
    rw [wr64 (show -9223372036854775808 ≤ mid - 1 by omega) (by omega)]
    have hw : worstE p mid = 0 := by unfold worstE; rw [if_neg (by omega)]
    have hN : worstN p mid = blk mid p.base.block * dear p := by unfold worstN; rw [if_pos hw]
    have hle := fitN_le p.base.block (dear p) cr want mid (by omega) hdr.1 (by omega) (by omega) (by omega)
    rw [← hU] at hle
    refine callB B (rworst_ret p a a2 c c2 mid wx (h.to B)) fun w5 b5 B5 => ⟨_, _, rfl, br_dec (fun hc => ?_) fun hc => ?_⟩
    · rw [hN] at hc
      have := hle.1 hc
      exact ⟨⟨by omega, by omega, k2, k3, B5⟩, by dsimp only; omega⟩
    · rw [hN] at hc
      have : ¬ mid ≤ fitU p cr want := fun q => hc (hle.2 q)
      exact ⟨⟨k0, k1, by omega, by omega, B5⟩, by dsimp only; omega⟩
  · obtain rfl : lo = fitU p cr want := by omega
    refine callB B (rworst_ret p a a2 c c2 _ wx (h.to B)) fun w5 b5 B5 => ⟨_, _, rfl, ?_, B5⟩
    have hw : worstE p (fitU p cr want) = 0 := by unfold worstE; rw [if_neg (by omega)]
    unfold worstN
    rw [if_pos hw, hE, hC]
set_option maxRecDepth 10000 in
theorem rrate_new (p : Pl) (a a2 : Option Addr) (c c2 : Nat) (now pos n : Int) (w : World) (h : PlAt w p a a2) :
    Calls Try.prog 61 #[planV p a c a2 c2, .int .i64 now, .int .i64 pos, .int .i64 n] w fun e w' => (∃ a' c', e = .returned (.tuple #[rtdV (rateR p now pos n) a' c', .int .i64 (rateE p now pos n)]) ∧ LsAt w.heap.size w' a' (rateR p now pos n).ls) ∧ Below w.heap.size w w' := by
  refine (GTar.rrate_calls p.day p.frm p.til p.base.grp p.base.mode p.base.block a p.base.ts.length c p.other.grp p.other.mode p.other.block a2 p.other.ts.length c2 now pos n w (fun u w' => (∃ a' c', u = .tuple #[rtdV (rateR p now pos n) a' c', .int .i64 (rateE p now pos n)] ∧ LsAt w.heap.size w' a' (rateR p now pos n).ls) ∧ Below w.heap.size w w') ?_).mono (by rintro e w' ⟨v, rfl, ⟨a', c', rfl, h⟩, h2⟩; exact ⟨⟨a', c', rfl, h⟩, h2⟩)
  unfold GTar.rrate_vc
  have bad : ∀ w', Below w.heap.size w w' → rateE p now pos n = 1 → (∃ a' c', Value.tuple #[.agg #[.slice none 0 0, .int .i64 0, .int .i64 0, .int .i64 0], .int .i64 1] = .tuple #[rtdV (rateR p now pos n) a' c', .int .i64 (rateE p now pos n)] ∧ LsAt w.heap.size w' a' (rateR p now pos n).ls) ∧ Below w.heap.size w w' := fun w' B hE => by
    have hR : rateR p now pos n = ⟨[], 0, 0, 0⟩ := by unfold rateR; rw [if_neg (by rw [hE]; decide)]
    rw [hR, hE]
    exact ⟨⟨none, 0, rfl, Rws.nil⟩, B⟩
  refine newB (Bs.refl w) fun g w2 g0 sg n2 z2 b2 B2 => newB B2 fun g' w3 g0' sg' n3 z3 b3 B3 => callB B3 (r9cplan_ret p a a2 c c2 w3 (h.to B3)) fun w4 b4 B4 => ⟨_, rfl, br_dec (fun h1 => boxB B4 g0' fun w5 h5 B5 _ => bad _ B5 (by unfold rateE; rw [if_pos (.inl h1)])) fun h1 => ?_⟩
  refine br_dec (fun h2 => boxB B4 g0' fun w5 h5 B5 _ => bad _ B5 (by unfold rateE; rw [if_pos (.inr (.inl h2))])) fun h2 => br_dec (fun h3 => boxB B4 g0' fun w5 h5 B5 _ => bad _ B5 (by unfold rateE; rw [if_pos (.inr (.inr (.inl (by omega))))])) fun h3 => br_dec (fun h3 => boxB B4 g0' fun w5 h5 B5 _ => bad _ B5 (by unfold rateE; rw [if_pos (.inr (.inr (.inl (by omega))))])) fun h4 => ?_
  have hp : planE p = 0 := Decidable.not_not.1 h1
  obtain ⟨hat, hbl, _⟩ := at_ok hp now
  have hb := (chk_ok (plan_ok hp).1).1.2
  have hn : 0 ≤ n ∧ n ≤ 1073741824 := by omega
  have hRR : rateE p now pos n = 0 → rateR p now pos n = ⟨splitL (atT p now) pos (blk n p.base.block), blk n p.base.block, costOf (splitL (atT p now) pos (blk n p.base.block)), pos + blk n p.base.block⟩ := fun hE => by unfold rateR; rw [if_pos hE]
  have hbn := blk_nn n p.base.block (by omega) hn.1
  have hbs := blk_self n p.base.block (by omega) hn.1
  have hbb : 0 ≤ blk n p.base.block ∧ blk n p.base.block ≤ 1073741824 := ⟨hbn, Int.le_trans hbs hn.2⟩
  have hbk := fun wy => rblocks_ret n p.base.block wy hn hb
  have hso : posOk pos → ∀ tt : Tar, splitO tt pos (blk n p.base.block) = splitL tt pos (blk n p.base.block) := fun hpos tt => by unfold splitO; rw [if_pos hpos]
  have hE1 : posOk pos → rateE p now pos n = 0 := fun hpos => by
    have hno : ¬ (planE p ≠ 0 ∨ now < 0 ∨ ¬ (0 ≤ n ∧ n ≤ 1073741824) ∨ ¬ posOk pos) := fun k => k.elim (fun k => k hp) fun k => k.elim h2 fun k => k.elim (fun k => k hn) fun k => k hpos
    unfold rateE
    rw [if_neg hno]
  have hE0 : ¬ posOk pos → rateE p now pos n = 1 := fun k => by unfold rateE; rw [if_pos (.inr (.inr (.inr k)))]
  rw [← hbl] at hbk hbb hRR hso
  have b4s := b4.size
  refine newB B4 fun g3 w9 g0'' sg'' n9 z9 b9 B9 => boxB B9 g0'' fun w10 h10 B10 z10 => callB B10 (ris_ret p a a2 c c2 now w10) fun w11 b11 B11 => ⟨_, rfl, ?_⟩
  have b11s := b11.size
  have rest : ∀ (tt : Tar) (at' : Option Addr) (ct : Nat), tt = atT p now → (∀ wy, Bs w wy → TsAt 0 wy at' tt.ts) → ∀ wy, Bs w wy → w11.heap.size ≤ wy.heap.size → Calls Try.prog 90 #[.int .i64 n, .int .i64 tt.block] wy fun e_3 w_13 => KeepG [g3, g', g] wy w_13 ∧
            ∃ (x44_0 : Int) (b44_1 : Bool),
            e_3 = .returned (.tuple #[.int .i64 x44_0, .bool b44_1]) ∧
            Calls Try.prog 91 #[tarV tt at' ct, .int .i64 pos, .int .i64 x44_0] w_13 fun e_4 w_14 => KeepG [g3, g', g] w_13 w_14 ∧
            ∃ (a51_0 : Option Addr) (n51_0 : Nat) (c51_0 : Nat) (x51_1 : Int),
            e_4 = .returned (.tuple #[.slice a51_0 n51_0 c51_0, .int .i64 x51_1]) ∧
            br (decide (x51_1 ≠ 0)) (
              ∀ w_15 : World, BoxSt g' w_14 w_15 →
              (∃ a' c', Value.tuple #[.agg #[.slice none 0 0, .int .i64 0, .int .i64 0, .int .i64 0], .int .i64 1] = .tuple #[rtdV (rateR p now pos n) a' c', .int .i64 (rateE p now pos n)] ∧ LsAt w.heap.size w_15 a' (rateR p now pos n).ls) ∧ Below w.heap.size w w_15
            ) (
              Calls Try.prog 92 #[.slice a51_0 n51_0 c51_0] w_14 fun e_5 w_16 => KeepG [g3, g', g] w_14 w_16 ∧
              ∃ (x59_0 : Int) (b59_1 : Bool),
              e_5 = .returned (.tuple #[.int .i64 x59_0, .bool b59_1]) ∧
              ∀ w_17 : World, BoxSt g' w_16 w_17 →
              (∃ a' c', Value.tuple #[.agg #[.slice a51_0 n51_0 c51_0, .int .i64 x44_0, .int .i64 x59_0, .int .i64 (IntKind.i64.wrap (pos + x44_0))], .int .i64 0] = .tuple #[rtdV (rateR p now pos n) a' c', .int .i64 (rateE p now pos n)] ∧ LsAt w.heap.size w_17 a' (rateR p now pos n).ls) ∧ Below w.heap.size w w_17
            ) := by
    intro tt at' ct htt hts wy By hsz
    rw [← htt] at hbk hbb hRR hso hat
    generalize blk n tt.block = m at *
    refine callB By (hbk wy) fun w13 b13 B13 => ⟨_, _, rfl, callQ B13 (r10split_new tt at' ct pos m w13 (hts w13 B13) hat hbb) ?_⟩
    rintro e w14 ⟨a14, c14, rfl, h14⟩ b14 B14
    have b13s := b13.size
    refine ⟨_, _, _, _, rfl, br_dec (fun h5 => boxB B14 g0' fun w15 h15 B15 _ => bad _ B15 (hE0 fun k => h5 (by rw [if_pos k]))) fun h5 => ?_⟩
    have hpos : posOk pos := Decidable.byContradiction fun k => h5 (by rw [if_neg k]; decide)
    have hls := splitO_ok hat pos (n := m) hbb
    rw [hso hpos] at h14 hls ⊢
    rw [hRR (hE1 hpos), hE1 hpos]
    refine callB B14 (r10cost_ret a14 c14 _ w14 (h14.low (Nat.zero_le _)) hls) fun w16 b16 B16 => ⟨_, _, rfl, boxB B16 g0' fun w18 h18 B18 z18 => ⟨⟨a14, c14, ?_, ?_⟩, B18⟩⟩
    · rw [wr64 (by have := hpos.1; omega) (by have := hpos.2; omega)]
      rfl
    · exact ((h14.below b16).box h18 (by omega)).low (by omega)
  refine br_dec (fun ho => boxB B11 g0'' fun w12 h12 B12 z12 => ?_) fun ho => ?_
  · exact rest p.other a2 c2 (by unfold atT; rw [if_pos ho]) (fun wy By => h.other.below By) w12 B12 (by omega)
  · exact rest p.base a c (by unfold atT; rw [if_neg ho]) (fun wy By => h.base.below By) w11 B11 (by omega)
end Go.Proofs.Ytckeljphaeickaa
end
section
/- Plans, tamed; what a rate comes to. -/
namespace Go.Proofs.Ytckeljphaeickaa
open Go.RowKit
def tameT (t : Tar) : Tar := { t with ts := t.ts.take 9 }
def tameP (p : Pl) : Pl := { p with base := tameT p.base, other := tameT p.other }
theorem min9 (ts : List Tr) : (min ((ts.length : Nat) : Int) 9).toNat = (ts.take 9).length := by rw [List.length_take]; omega
theorem take9 (ts : List Tr) : (ts.take 9).length ≤ 9 := by rw [List.length_take]; omega
def DayIn (p : Pl) : Prop := -9223372036854775808 ≤ p.day ∧ p.day ≤ 9223372036854775807
theorem PlAt.box {w w1 : World} {p : Pl} {a a2 : Option Addr} {n g : Nat} (h1 : TsAt n w a p.base.ts) (h2 : TsAt n w a2 p.other.ts) (l1 : p.base.ts.length ≤ 1000) (l2 : p.other.ts.length ≤ 1000) (hb : BoxSt g w w1) (hg : g < n) : PlAt w1 p a a2 :=
  ⟨(h1.box hb hg).low (Nat.zero_le _), (h2.box hb hg).low (Nat.zero_le _), l1, l2⟩
def plan0 : Pl := ⟨0, 0, 0, ⟨1, 1, 10, [⟨0, 3⟩]⟩, ⟨0, 0, 0, []⟩⟩
theorem plan0_rate : rateE plan0 0 0 11 = 0 ∧ (rateR plan0 0 0 11).blocks = 2 ∧ (rateR plan0 0 0 11).cost = 6 ∧ (rateR plan0 0 0 11).pos = 2 ∧ fitE plan0 7 100 = 0 ∧ fitU plan0 7 100 = 20 ∧ fitC plan0 7 100 = 6 := by decide +kernel
theorem dearT_at {p : Pl} (now : Int) : dearT (atT p now).ts ≤ dear p := by
  unfold atT dear
  split <;> omega
theorem rateR_len (q : Pl) (now pos n : Int) : (rateR q now pos n).ls.length ≤ 1000 := by
  by_cases hE : rateE q now pos n = 0
  · obtain ⟨k1, k2, k3, k4⟩ := rateE_ok hE
    have hat := at_ok k1 now
    have hb := (chk_ok (plan_ok k1).1).1.2
    have := (splitL_ok hat.1 k4.1 (blk_nn n q.base.block (by omega) k3.1)).2.2
    unfold rateR
    rw [if_pos hE]
    exact Nat.le_trans this (by decide)
  · unfold rateR
    rw [if_neg hE]
    exact Nat.zero_le _
theorem rateR_yes {q : Pl} {now pos n : Int} (hE : rateE q now pos n = 0) : rateR q now pos n = ⟨splitL (atT q now) pos (blk n q.base.block), blk n q.base.block, costOf (splitL (atT q now) pos (blk n q.base.block)), pos + blk n q.base.block⟩ := by unfold rateR; rw [if_pos hE]
theorem rate_facts {q : Pl} {now pos n : Int} (hE : rateE q now pos n = 0) :
    LsOk (rateR q now pos n).ls ∧ (rateR q now pos n).cost = costOf (rateR q now pos n).ls ∧ 0 ≤ (rateR q now pos n).cost ∧ (rateR q now pos n).cost ≤ worstN q n ∧ (rateR q now pos n).pos = pos + (rateR q now pos n).blocks ∧ 0 ≤ (rateR q now pos n).blocks ∧ (rateR q now pos n).blocks ≤ 1073741824 ∧ worstE q n = 0 ∧ posOk pos := by
  obtain ⟨k1, k2, k3, k4⟩ := rateE_ok hE
  have hat := at_ok k1 now
  have hb := (chk_ok (plan_ok k1).1).1.2
  have hbn := blk_nn n q.base.block (by omega) k3.1
  have hbs := blk_self n q.base.block (by omega) k3.1
  have hc := splitL_cost hat.1 k4.1 hbn
  have hso : LsOk (splitL (atT q now) pos (blk n q.base.block)) := by
    have := splitO_ok hat.1 pos (n := blk n q.base.block) (by omega)
    unfold splitO at this
    rwa [if_pos k4] at this
  have hw : worstE q n = 0 := by unfold worstE; rw [if_neg (by omega)]
  have hd := Int.mul_le_mul_of_nonneg_left (dearT_at (p := q) now) hbn
  rw [rateR_yes hE]
  unfold worstN
  rw [if_pos hw]
  exact ⟨hso, rfl, hc.1, Int.le_trans hc.2 hd, rfl, hbn, by dsimp only; omega, hw, k4⟩
end Go.Proofs.Ytckeljphaeickaa
end
section
/- Grants, in plain numbers. No program in sight. -/
namespace Go.Proofs.Ytckeljphaeickaa
structure Gnt where
  grp : Int
  units : Int
  amount : Int
  fin : Bool
deriving DecidableEq
def gnt0 : Gnt := ⟨0, 0, 0, false⟩
def makeE (p : Pl) (cr want : Int) : Int := if fitE p cr want ≠ 0 ∨ want < 1 then 1 else if fitU p cr want = 0 then 9 else 0
def makeG (p : Pl) (cr want : Int) : Gnt := if makeE p cr want = 0 then ⟨p.base.grp, fitU p cr want, fitC p cr want, decide (fitU p cr want < want)⟩ else gnt0
theorem fitE_ok {p : Pl} {cr want : Int} (h : fitE p cr want = 0) : planE p = 0 ∧ (0 ≤ want ∧ want ≤ 1073741824) ∧ 0 ≤ cr := by
  unfold fitE at h
  split at h
  · cases h
  · omega
theorem fit_facts {p : Pl} {cr want : Int} (h : fitE p cr want = 0) : (0 ≤ fitU p cr want ∧ fitU p cr want ≤ want) ∧ fitC p cr want = blk (fitU p cr want) p.base.block * dear p ∧ 0 ≤ fitC p cr want ∧ fitC p cr want ≤ cr ∧ fitC p cr want ≤ 1125899906842624 := by
  obtain ⟨k1, k2, k3⟩ := fitE_ok h
  have hU : fitU p cr want = fitN p.base.block (dear p) cr want := by unfold fitU; rw [if_pos h]
  have hC : fitC p cr want = blk (fitU p cr want) p.base.block * dear p := by unfold fitC; rw [if_pos h]
  have hb := (chk_ok (plan_ok k1).1).1.2
  have hdr := dear_plan k1
  have hnn := fitN_nn p.base.block (dear p) cr want (by omega) k3 k2.1
  rw [← hU] at hnn
  have hle := fitN_le p.base.block (dear p) cr want (fitU p cr want) (by omega) hdr.1 k3 hnn.1 hnn.2
  rw [← hU] at hle
  have hs := worst_small k1 (n := fitU p cr want) (by omega)
  have hcr := hle.2 (Int.le_refl _)
  rw [hC]
  exact ⟨hnn, rfl, hs.1, hcr, hs.2⟩
theorem makeE_cases (p : Pl) (cr want : Int) : makeE p cr want = 0 ∨ makeE p cr want = 9 ∨ makeE p cr want = 1 := by
  unfold makeE
  split
  · simp
  · split <;> simp
theorem makeE_ok {p : Pl} {cr want : Int} (h : makeE p cr want = 0) : fitE p cr want = 0 ∧ 1 ≤ want ∧ fitU p cr want ≠ 0 := by
  unfold makeE at h
  split at h
  · cases h
  · split at h
    · cases h
    · omega
theorem makeE_9 {p : Pl} {cr want : Int} (h : makeE p cr want = 9) : fitE p cr want = 0 ∧ 1 ≤ want := by
  unfold makeE at h
  split at h
  · cases h
  · omega
theorem makeG_yes {p : Pl} {cr want : Int} (h : makeE p cr want = 0) : makeG p cr want = ⟨p.base.grp, fitU p cr want, fitC p cr want, decide (fitU p cr want < want)⟩ := by unfold makeG; rw [if_pos h]
theorem makeG_no {p : Pl} {cr want : Int} (h : makeE p cr want ≠ 0) : makeG p cr want = gnt0 := by unfold makeG; rw [if_neg h]
/-- What stands in the list for a plan. -/
def gOf (p : Pl) (cr want : Int) : Gnt := if makeE p cr want = 9 then ⟨p.base.grp, 0, 0, true⟩ else makeG p cr want
theorem gOf_amount {p : Pl} {cr want : Int} (hc : 0 ≤ cr) : 0 ≤ (gOf p cr want).amount ∧ (gOf p cr want).amount ≤ cr ∧ (gOf p cr want).amount ≤ 1125899906842624 := by
  unfold gOf
  split
  · exact ⟨Int.le_refl 0, hc, show (0 : Int) ≤ 1125899906842624 by decide⟩
  · rcases makeE_cases p cr want with h | h | h
    · rw [makeG_yes h]
      have := (fit_facts (makeE_ok h).1).2.2
      exact this
    · contradiction
    · rw [makeG_no (by rw [h]; decide)]
      exact ⟨Int.le_refl _, hc, by decide⟩
theorem gOf_bad {p : Pl} {cr want : Int} (h : makeE p cr want = 1) : gOf p cr want = gnt0 := by
  unfold gOf
  rw [if_neg (by rw [h]; decide), makeG_no (by rw [h]; decide)]
theorem makeE_neg {p : Pl} {cr want : Int} (h : cr < 0) : makeE p cr want = 1 := by
  have : fitE p cr want = 1 := by unfold fitE; rw [if_pos (.inr (.inr h))]
  unfold makeE
  rw [if_pos (.inl (by rw [this]; decide))]
/-- One behind the other: grants, and codes. -/
def mGo : List Pl → List Int → Int → List Gnt
  | p :: ps, n :: ns, cr => gOf p cr n :: mGo ps ns (cr - (gOf p cr n).amount)
  | _, _, _ => []
def mEs : List Pl → List Int → Int → List Int
  | p :: ps, n :: ns, cr => makeE p cr n :: mEs ps ns (cr - (gOf p cr n).amount)
  | _, _, _ => []
def apartP (l : List Pl) : Prop := (l.map (·.base.grp)).Nodup
instance (l : List Pl) : Decidable (apartP l) := by unfold apartP; infer_instance
def manyE (l : List Pl) (cr : Int) (ns : List Int) : Int :=
  if ¬ (1 ≤ l.length ∧ l.length ≤ 4) ∨ l.length ≠ ns.length ∨ ¬ apartP l then 1 else if 1 ∈ mEs l ns cr then 1 else if 0 ∈ mEs l ns cr then 0 else 9
def manyG (l : List Pl) (cr : Int) (ns : List Int) : List Gnt := if manyE l cr ns = 0 then mGo l ns cr else []
/-- What is left of the credit behind some. -/
def mCr : List Pl → List Int → Int → Int
  | p :: ps, n :: ns, cr => mCr ps ns (cr - (gOf p cr n).amount)
  | _, _, cr => cr
theorem m_len : ∀ (l : List Pl) (ns : List Int) (cr : Int), l.length = ns.length → (mGo l ns cr).length = l.length ∧ (mEs l ns cr).length = l.length
  | [], [], _, _ => ⟨rfl, rfl⟩
  | p :: ps, n :: ns, cr, h => by
    have := m_len ps ns (cr - (gOf p cr n).amount) (by simpa using h)
    simp [mGo, mEs, this]
theorem mGo_cons (p : Pl) (ps : List Pl) (n : Int) (ns : List Int) (cr : Int) : mGo (p :: ps) (n :: ns) cr = gOf p cr n :: mGo ps ns (cr - (gOf p cr n).amount) := rfl
theorem mEs_cons (p : Pl) (ps : List Pl) (n : Int) (ns : List Int) (cr : Int) : mEs (p :: ps) (n :: ns) cr = makeE p cr n :: mEs ps ns (cr - (gOf p cr n).amount) := rfl
theorem mCr_cons (p : Pl) (ps : List Pl) (n : Int) (ns : List Int) (cr : Int) : mCr (p :: ps) (n :: ns) cr = mCr ps ns (cr - (gOf p cr n).amount) := rfl
theorem mGo_nil (ns : List Int) (cr : Int) : mGo [] ns cr = [] := rfl
theorem mEs_nil (ns : List Int) (cr : Int) : mEs [] ns cr = [] := rfl
theorem mCr_nil (ns : List Int) (cr : Int) : mCr [] ns cr = cr := rfl
theorem m_app (p : Pl) (n : Int) : ∀ (l : List Pl) (ns : List Int) (cr : Int), l.length = ns.length → mGo (l ++ [p]) (ns ++ [n]) cr = mGo l ns cr ++ [gOf p (mCr l ns cr) n] ∧ mEs (l ++ [p]) (ns ++ [n]) cr = mEs l ns cr ++ [makeE p (mCr l ns cr) n] ∧ mCr (l ++ [p]) (ns ++ [n]) cr = mCr l ns cr - (gOf p (mCr l ns cr) n).amount := by
  intro l
  induction l with
  | nil =>
    intro ns cr h
    obtain rfl : ns = [] := List.length_eq_zero_iff.1 h.symm
    rw [List.nil_append, List.nil_append, mGo_cons, mEs_cons, mCr_cons, mGo_nil, mGo_nil, mEs_nil, mEs_nil, mCr_nil, mCr_nil, List.nil_append, List.nil_append]
    exact ⟨rfl, rfl, rfl⟩
  | cons q l ih =>
    intro ns cr h
    match ns, h with
    | m :: ns, h =>
      obtain ⟨h1, h2, h3⟩ := ih ns (cr - (gOf q cr m).amount) (by simpa using h)
      rw [List.cons_append, List.cons_append, mGo_cons, mEs_cons, mCr_cons, mGo_cons, mEs_cons, mCr_cons, h1, h2, h3]
      exact ⟨rfl, rfl, rfl⟩
theorem m_take : ∀ (l : List Pl) (ns : List Int) (cr : Int) (i : Nat), mEs (l.take i) (ns.take i) cr = (mEs l ns cr).take i ∧ mGo (l.take i) (ns.take i) cr = (mGo l ns cr).take i
  | _, _, _, 0 => by simp [mEs_nil, mGo_nil]
  | [], ns, cr, i + 1 => by simp [mEs_nil, mGo_nil]
  | p :: ps, [], cr, i + 1 => by simp [mEs, mGo]
  | p :: ps, n :: ns, cr, i + 1 => by
    obtain ⟨h1, h2⟩ := m_take ps ns (cr - (gOf p cr n).amount) i
    simp only [List.take_succ_cons, mEs_cons, mGo_cons, h1, h2]
    exact ⟨trivial, trivial⟩
def amtsG (gs : List Gnt) : List Int := gs.map (·.amount)
def sumG : List Gnt → Int
  | [] => 0
  | g :: r => g.amount + sumG r
theorem m_sum : ∀ (l : List Pl) (ns : List Int) (cr : Int), 0 ≤ cr → 0 ≤ sumG (mGo l ns cr) ∧ sumG (mGo l ns cr) ≤ cr ∧ (∀ g ∈ mGo l ns cr, 0 ≤ g.amount ∧ g.amount ≤ 1125899906842624) ∧ 0 ≤ mCr l ns cr ∧ mCr l ns cr ≤ cr
  | [], _, cr, h => by simp [mGo, sumG, mCr, h]
  | p :: ps, [], cr, h => by simp [mGo, sumG, mCr, h]
  | p :: ps, n :: ns, cr, h => by
    have ha := gOf_amount (p := p) (want := n) h
    obtain ⟨h1, h2, h3, h4, h5⟩ := m_sum ps ns (cr - (gOf p cr n).amount) (by omega)
    simp only [mGo, sumG, mCr]
    refine ⟨by omega, by omega, fun g hg => ?_, h4, by omega⟩
    rcases List.mem_cons.1 hg with rfl | hg
    · exact ⟨ha.1, ha.2.2⟩
    · exact h3 g hg
theorem m_neg {l : List Pl} {ns : List Int} {cr : Int} (h : cr < 0) (hl : l.length = ns.length) (h0 : 0 < l.length) : 1 ∈ mEs l ns cr := by
  match l, ns, hl with
  | p :: ps, n :: ns, _ => simp [mEs, makeE_neg h]
theorem mCr_neg : ∀ {l : List Pl} {ns : List Int} {cr : Int}, cr < 0 → mCr l ns cr = cr
  | [], ns, cr, _ => by simp [mCr_nil]
  | p :: ps, [], cr, _ => by simp [mCr]
  | p :: ps, n :: ns, cr, h => by
    have e : (gOf p cr n).amount = 0 := by rw [gOf_bad (makeE_neg h)]; rfl
    rw [mCr_cons, e, Int.sub_zero]
    exact mCr_neg h
theorem m_codes : ∀ (l : List Pl) (ns : List Int) (cr : Int), ∀ e ∈ mEs l ns cr, e = 0 ∨ e = 9 ∨ e = 1
  | p :: ps, n :: ns, cr, e, h => by
    rcases List.mem_cons.1 h with rfl | h
    · exact makeE_cases _ _ _
    · exact m_codes ps ns _ e h
  | [], _, _, e, h => by cases h
  | _ :: _, [], _, e, h => by cases h
def settleE (g : Gnt) (p : Pl) (now pos used : Int) : Int :=
  if rateE p now pos used ≠ 0 ∨ g.grp ≠ p.base.grp ∨ g.units < 0 ∨ g.amount < 0 then 1 else if g.units < used then 19 else if g.amount < (rateR p now pos used).cost then 20 else 0
def settleR (g : Gnt) (p : Pl) (now pos used : Int) : Rtd := if settleE g p now pos used = 0 then rateR p now pos used else ⟨[], 0, 0, 0⟩
def settleN (g : Gnt) (p : Pl) (now pos used : Int) : Int := if settleE g p now pos used = 0 then g.amount - (rateR p now pos used).cost else 0
end Go.Proofs.Ytckeljphaeickaa
end
section
/- The laws of grants: the plan that comes in, tamed; walked. -/
namespace Go.Proofs.Ytckeljphaeickaa
open Go.RowKit
set_option maxRecDepth 10000 in
theorem tame_new (p : Pl) (a a2 : Option Addr) (c c2 : Nat) (w : World) (h1 : TsAt 0 w a p.base.ts) (h2 : TsAt 0 w a2 p.other.ts) (l1 : p.base.ts.length ≤ c) (l2 : p.other.ts.length ≤ c2) :
    Calls Try.prog 21 #[planV p a c a2 c2] w fun e w' => (∃ a' c' b' d', e = .returned (planV (tameP p) a' c' b' d') ∧ TsAt w.heap.size w' a' (tameP p).base.ts ∧ TsAt w.heap.size w' b' (tameP p).other.ts) ∧ Below w.heap.size w w' := by
  refine (GGrant.tame_calls p.day p.frm p.til p.base.grp p.base.mode p.base.block a p.base.ts.length c p.other.grp p.other.mode p.other.block a2 p.other.ts.length c2 w (fun u w' => (∃ a' c' b' d', u = planV (tameP p) a' c' b' d' ∧ TsAt w.heap.size w' a' (tameP p).base.ts ∧ TsAt w.heap.size w' b' (tameP p).other.ts) ∧ Below w.heap.size w w') ?_).mono (by rintro e w' ⟨v, rfl, ⟨a', c', b', d', rfl, h⟩, h2⟩; exact ⟨⟨a', c', b', d', rfl, h⟩, h2⟩)
  unfold GGrant.tame_vc
  have t1 := take9 p.base.ts
  have t2 := take9 p.other.ts
  refine newB (Bs.refl w) fun g w2 g0 sg n2 z2 b2 B2 => newB B2 fun g' w3 g0' sg' n3 z3 b3 B3 => newB B3 fun g4 w4 g04 sg4 n4 z4 b4 B4 => ⟨by omega, by omega, ?_⟩
  have o4 : Own w4 w3.heap.size 114 2 (.slice (some ⟨g4, 0, none⟩) 0 0) 0 [] := (own_empty 2 n4).base_le fun k hk => by simp [Value.ownBlock] at hk; omega
  have s4 := ((h1.below B4).take 9).src (c := c) Try.underlying49 (by decide) tr_len tr_one
  rw [min9]
  refine appB B4 o4 B3.size (by omega) s4 (by unfold maxLen; omega) (by omega) (fun x hx e => ?_) fun a5 c5 w5 o5 g5 B5 z5 => boxB B5 g0 fun w6 h6 B6 z6 => ?_
  · have := (o4.lt _ e).1
    simp at hx
    omega
  have f5 : TsAt w3.heap.size w5 a5 (p.base.ts.take 9) := Rws.ofOwn (by decide) tr_len (by rw [List.nil_append] at o5; exact o5)
  have f6 := f5.box h6 (by omega)
  refine newB B6 fun g7 w7 g07 sg7 n7 z7 b7 B7 => ⟨by omega, by omega, ?_⟩
  have o7 : Own w7 w6.heap.size 114 2 (.slice (some ⟨g7, 0, none⟩) 0 0) 0 [] := (own_empty 2 n7).base_le fun k hk => by simp [Value.ownBlock] at hk; omega
  have s7 := ((h2.below B7).take 9).src (c := c2) Try.underlying49 (by decide) tr_len tr_one
  rw [min9]
  refine appB B7 o7 B6.size (by omega) s7 (by unfold maxLen; omega) (by omega) (fun x hx e => ?_) fun a8 c8 w8 o8 g8 B8 z8 => boxB B8 g0 fun w9 h9 B9 z9 => boxB B9 g0' fun w10 h10 B10 z10 => ?_
  · have := (o7.lt _ e).1
    simp at hx
    omega
  have f8 : TsAt w3.heap.size w8 a5 (p.base.ts.take 9) := f6.keep fun b _ hb => (g8.block b (by omega) (by simp [Value.ownBlock]; omega)).trans (b7.block b hb)
  have e8 : TsAt w3.heap.size w8 a8 (p.other.ts.take 9) := Rws.low (Rws.ofOwn (by decide) tr_len (by rw [List.nil_append] at o8; exact o8)) (by omega)
  rw [Nat.zero_add, Nat.zero_add]
  exact ⟨⟨a5, c5, a8, c8, rfl, ((f8.box h9 (by omega)).box h10 (by omega)).low (by omega), ((e8.box h9 (by omega)).box h10 (by omega)).low (by omega)⟩, B10⟩
theorem to_ret (p : Pl) (a a2 : Option Addr) (c c2 : Nat) (w : World) : Calls Try.prog 23 #[planV p a c a2 c2] w (Ret (planV p a c a2 c2) w) := by
  refine ret_in (GGrant.lto_calls p.day p.frm p.til p.base.grp p.base.mode p.base.block a p.base.ts.length c p.other.grp p.other.mode p.other.block a2 p.other.ts.length c2 w (fun u w' => u = planV p a c a2 c2 ∧ Below w.heap.size w w') ?_)
  unfold GGrant.lto_vc
  exact newB (Bs.refl w) fun g w2 g0 sg n2 z2 b2 B2 => newB B2 fun g' w3 g0' sg' n3 z3 b3 B3 => boxB B3 g0' fun w4 h4 B4 z4 => ⟨rfl, B4⟩
end Go.Proofs.Ytckeljphaeickaa
end
section
/- Grants: made, settled, held, by both; walked. -/
namespace Go.Proofs.Ytckeljphaeickaa
open Go.RowKit
def gnV (g : Gnt) : Value := .agg #[.int .i64 g.grp, .int .i64 g.units, .int .i64 g.amount, .bool g.fin]
def gnCells (g : Gnt) : List Value := [.int .i64 g.grp, .int .i64 g.units, .int .i64 g.amount, .bool g.fin]
theorem gn_len (g : Gnt) : (gnCells g).length = 4 := rfl
theorem gn_one (g : Gnt) : ∀ v ∈ gnCells g, v.oneCell' = true := by
  intro v hv
  simp [gnCells] at hv
  rcases hv with rfl | rfl | rfl | rfl <;> rfl
abbrev GsAt (n0 : Nat) (w : World) (a : Option Addr) (gs : List Gnt) : Prop := Rws gnCells 4 n0 w a gs
theorem make_ret (p : Pl) (a a2 : Option Addr) (c c2 : Nat) (cr want : Int) (w : World) (h : PlAt w p a a2) (hd : DayIn p) (hc : cr ≤ 9223372036854775807) :
    Calls Try.prog 22 #[planV p a c a2 c2, .int .i64 cr, .int .i64 want] w (Ret (.tuple #[gnV (makeG p cr want), .int .i64 (makeE p cr want)]) w) := by
  refine ret_in (GGrant.make_calls p.day p.frm p.til p.base.grp p.base.mode p.base.block a p.base.ts.length c p.other.grp p.other.mode p.other.block a2 p.other.ts.length c2 cr want w (fun u w' => u = .tuple #[gnV (makeG p cr want), .int .i64 (makeE p cr want)] ∧ Below w.heap.size w w') ?_)
  unfold GGrant.make_vc
  refine newB (Bs.refl w) fun g w2 g0 sg n2 z2 b2 B2 => newB B2 fun g' w3 g0' sg' n3 z3 b3 B3 => callB B3 (fit_ret p a a2 c c2 cr want w3 (h.to B3) hd hc) fun w4 b4 B4 => ⟨_, _, _, rfl, ?_⟩
  have bad : ∀ z, z ≠ 0 → makeE p cr want = z → ∀ w5, BoxSt g' w4 w5 → Value.tuple #[.agg #[.int .i64 0, .int .i64 0, .int .i64 0, .bool false], .int .i64 z] = .tuple #[gnV (makeG p cr want), .int .i64 (makeE p cr want)] ∧ Below w.heap.size w w5 := fun z hz he => boxB B4 g0' fun w5 h5 B5 _ => ⟨by rw [makeG_no (by rw [he]; exact hz), he]; rfl, B5⟩
  refine br_dec (fun h1 => bad 1 (by decide) (by unfold makeE; rw [if_pos (.inl h1)])) fun h1 => br_dec (fun h2 => bad 1 (by decide) (by unfold makeE; rw [if_pos (.inr h2)])) fun h2 => br_dec (fun h3 => bad 9 (by decide) (by unfold makeE; rw [if_neg (by omega), if_pos h3])) fun h3 => boxB B4 g0' fun w5 h5 B5 _ => ⟨?_, B5⟩
  have he : makeE p cr want = 0 := by unfold makeE; rw [if_neg (by omega), if_neg h3]
  rw [makeG_yes he, he]
  rfl
theorem rmake_ret (p : Pl) (a a2 : Option Addr) (c c2 : Nat) (cr want : Int) (w : World) (h : PlAt w p a a2) :
    Calls Try.prog 24 #[planV p a c a2 c2, .int .i64 cr, .int .i64 want] w (Ret (.tuple #[gnV (makeG p cr want), .int .i64 (makeE p cr want)]) w) := by
  refine ret_in (GGrant.rmake_calls p.day p.frm p.til p.base.grp p.base.mode p.base.block a p.base.ts.length c p.other.grp p.other.mode p.other.block a2 p.other.ts.length c2 cr want w (fun u w' => u = .tuple #[gnV (makeG p cr want), .int .i64 (makeE p cr want)] ∧ Below w.heap.size w w') ?_)
  unfold GGrant.rmake_vc
  refine newB (Bs.refl w) fun g w2 g0 sg n2 z2 b2 B2 => newB B2 fun g' w3 g0' sg' n3 z3 b3 B3 => callB B3 (rfit_ret p a a2 c c2 cr want w3 (h.to B3)) fun w4 b4 B4 => ⟨_, _, _, rfl, ?_⟩
  have bad : ∀ z, z ≠ 0 → makeE p cr want = z → ∀ w5, BoxSt g' w4 w5 → Value.tuple #[.agg #[.int .i64 0, .int .i64 0, .int .i64 0, .bool false], .int .i64 z] = .tuple #[gnV (makeG p cr want), .int .i64 (makeE p cr want)] ∧ Below w.heap.size w w5 := fun z hz he => boxB B4 g0' fun w5 h5 B5 _ => ⟨by rw [makeG_no (by rw [he]; exact hz), he]; rfl, B5⟩
  refine br_dec (fun h1 => bad 1 (by decide) (by unfold makeE; rw [if_pos (.inl h1)])) fun h1 => br_dec (fun h2 => bad 1 (by decide) (by unfold makeE; rw [if_pos (.inr h2)])) fun h2 => br_dec (fun h3 => bad 9 (by decide) (by unfold makeE; rw [if_neg (by omega), if_pos h3])) fun h3 => boxB B4 g0' fun w5 h5 B5 _ => ⟨?_, B5⟩
  have he : makeE p cr want = 0 := by unfold makeE; rw [if_neg (by omega), if_neg h3]
  rw [makeG_yes he, he]
  rfl
theorem settle_new (gn : Gnt) (p : Pl) (a a2 : Option Addr) (c c2 : Nat) (now pos used : Int) (w : World) (h : PlAt w p a a2) (hd : DayIn p) (hm : gn.amount ≤ 9223372036854775807) :
    Calls Try.prog 27 #[gnV gn, planV p a c a2 c2, .int .i64 now, .int .i64 pos, .int .i64 used] w fun e w' => (∃ a' c', e = .returned (.tuple #[rtdV (settleR gn p now pos used) a' c', .int .i64 (settleN gn p now pos used), .int .i64 (settleE gn p now pos used)]) ∧ LsAt w.heap.size w' a' (settleR gn p now pos used).ls) ∧ Below w.heap.size w w' := by
  refine (GGrant.settle_calls gn.grp gn.units gn.amount gn.fin p.day p.frm p.til p.base.grp p.base.mode p.base.block a p.base.ts.length c p.other.grp p.other.mode p.other.block a2 p.other.ts.length c2 now pos used w (fun u w' => (∃ a' c', u = .tuple #[rtdV (settleR gn p now pos used) a' c', .int .i64 (settleN gn p now pos used), .int .i64 (settleE gn p now pos used)] ∧ LsAt w.heap.size w' a' (settleR gn p now pos used).ls) ∧ Below w.heap.size w w') ?_).mono (by rintro e w' ⟨v, rfl, ⟨a', c', rfl, h⟩, h2⟩; exact ⟨⟨a', c', rfl, h⟩, h2⟩)
  unfold GGrant.settle_vc
  refine newB (Bs.refl w) fun g w2 g0 sg n2 z2 b2 B2 => newB B2 fun g' w3 g0' sg' n3 z3 b3 B3 => newB B3 fun g4 w4 g04 sg4 n4 z4 b4 B4 => callQ B4 (rate_new p a a2 c c2 now pos used w4 (h.to B4) hd) ?_
  rintro e w5 ⟨a5, c5, rfl, l5⟩ b5 B5
  refine ⟨_, _, _, _, _, _, _, rfl, newB B5 fun g6 w6 g06 sg6 n6 z6 b6 B6 => boxB B6 g06 fun w7 h7 B7 z7 => ?_⟩
  have l7 := l5.newbox b6 sg6 h7
  have bad : ∀ z, z ≠ 0 → settleE gn p now pos used = z → ∀ w8, BoxSt g4 w7 w8 → (∃ a' c', Value.tuple #[.agg #[.slice none 0 0, .int .i64 0, .int .i64 0, .int .i64 0], .int .i64 0, .int .i64 z] = .tuple #[rtdV (settleR gn p now pos used) a' c', .int .i64 (settleN gn p now pos used), .int .i64 (settleE gn p now pos used)] ∧ LsAt w.heap.size w8 a' (settleR gn p now pos used).ls) ∧ Below w.heap.size w w8 := fun z hz he => boxB B7 g04 fun w8 h8 B8 _ => by
    have hn : settleE gn p now pos used ≠ 0 := by rw [he]; exact hz
    have e1 : settleR gn p now pos used = ⟨[], 0, 0, 0⟩ := by unfold settleR; rw [if_neg hn]
    have e2 : settleN gn p now pos used = 0 := by unfold settleN; rw [if_neg hn]
    rw [e1, e2, he]
    exact ⟨⟨none, 0, rfl, Rws.nil⟩, B8⟩
  refine br_dec (fun k1 => bad 1 (by decide) (by unfold settleE; rw [if_pos (.inl k1)])) fun k1 => br_dec (fun k2 => bad 1 (by decide) (by unfold settleE; rw [if_pos (.inr (.inl k2))])) fun k2 => br_dec (fun k3 => bad 1 (by decide) (by unfold settleE; rw [if_pos (.inr (.inr (.inl k3)))])) fun k3 => br_dec (fun k4 => bad 1 (by decide) (by unfold settleE; rw [if_pos (.inr (.inr (.inr k4)))])) fun k4 => br_dec (fun k5 => bad 19 (by decide) (by unfold settleE; rw [if_neg (by omega), if_pos k5])) fun k5 => br_dec (fun k6 => bad 20 (by decide) (by unfold settleE; rw [if_neg (by omega), if_neg k5, if_pos k6])) fun k6 => drewB B7 fun w14 b14 B14 _ => boxB B14 g04 fun w15 h15 B15 _ => ⟨⟨a5, c5, ?_, ?_⟩, B15⟩
  · have he : settleE gn p now pos used = 0 := by unfold settleE; rw [if_neg (by omega), if_neg k5, if_neg k6]
    have f := (rate_facts (Decidable.not_not.1 k1)).2.2.1
    have e1 : settleR gn p now pos used = rateR p now pos used := by unfold settleR; rw [if_pos he]
    have e2 : settleN gn p now pos used = gn.amount - (rateR p now pos used).cost := by unfold settleN; rw [if_pos he]
    rw [e1, e2, he, wr64 (by omega) (by omega)]
    rfl
  · have he : settleE gn p now pos used = 0 := by unfold settleE; rw [if_neg (by omega), if_neg k5, if_neg k6]
    have e1 : settleR gn p now pos used = rateR p now pos used := by unfold settleR; rw [if_pos he]
    rw [e1]
    exact ((l7.below b14).box h15 (by omega)).low (by omega)
theorem rsettle_new (gn : Gnt) (p : Pl) (a a2 : Option Addr) (c c2 : Nat) (now pos used : Int) (w : World) (h : PlAt w p a a2) (hm : gn.amount ≤ 9223372036854775807) :
    Calls Try.prog 28 #[gnV gn, planV p a c a2 c2, .int .i64 now, .int .i64 pos, .int .i64 used] w fun e w' => (∃ a' c', e = .returned (.tuple #[rtdV (settleR gn p now pos used) a' c', .int .i64 (settleN gn p now pos used), .int .i64 (settleE gn p now pos used)]) ∧ LsAt w.heap.size w' a' (settleR gn p now pos used).ls) ∧ Below w.heap.size w w' := by
  refine (GGrant.rsettle_calls gn.grp gn.units gn.amount gn.fin p.day p.frm p.til p.base.grp p.base.mode p.base.block a p.base.ts.length c p.other.grp p.other.mode p.other.block a2 p.other.ts.length c2 now pos used w (fun u w' => (∃ a' c', u = .tuple #[rtdV (settleR gn p now pos used) a' c', .int .i64 (settleN gn p now pos used), .int .i64 (settleE gn p now pos used)] ∧ LsAt w.heap.size w' a' (settleR gn p now pos used).ls) ∧ Below w.heap.size w w') ?_).mono (by rintro e w' ⟨v, rfl, ⟨a', c', rfl, h⟩, h2⟩; exact ⟨⟨a', c', rfl, h⟩, h2⟩)
  unfold GGrant.rsettle_vc
  refine newB (Bs.refl w) fun g w2 g0 sg n2 z2 b2 B2 => newB B2 fun g' w3 g0' sg' n3 z3 b3 B3 => newB B3 fun g4 w4 g04 sg4 n4 z4 b4 B4 => callQ B4 (rrate_new p a a2 c c2 now pos used w4 (h.to B4)) ?_
  rintro e w5 ⟨a5, c5, rfl, l5⟩ b5 B5
  refine ⟨_, _, _, _, _, _, _, rfl, newB B5 fun g6 w6 g06 sg6 n6 z6 b6 B6 => boxB B6 g06 fun w7 h7 B7 z7 => ?_⟩
  have l7 := l5.newbox b6 sg6 h7
  have bad : ∀ z, z ≠ 0 → settleE gn p now pos used = z → ∀ w8, BoxSt g4 w7 w8 → (∃ a' c', Value.tuple #[.agg #[.slice none 0 0, .int .i64 0, .int .i64 0, .int .i64 0], .int .i64 0, .int .i64 z] = .tuple #[rtdV (settleR gn p now pos used) a' c', .int .i64 (settleN gn p now pos used), .int .i64 (settleE gn p now pos used)] ∧ LsAt w.heap.size w8 a' (settleR gn p now pos used).ls) ∧ Below w.heap.size w w8 := fun z hz he => boxB B7 g04 fun w8 h8 B8 _ => by
    have hn : settleE gn p now pos used ≠ 0 := by rw [he]; exact hz
    have e1 : settleR gn p now pos used = ⟨[], 0, 0, 0⟩ := by unfold settleR; rw [if_neg hn]
    have e2 : settleN gn p now pos used = 0 := by unfold settleN; rw [if_neg hn]
    rw [e1, e2, he]
    exact ⟨⟨none, 0, rfl, Rws.nil⟩, B8⟩
  refine br_dec (fun k1 => bad 1 (by decide) (by unfold settleE; rw [if_pos (.inl k1)])) fun k1 => br_dec (fun k2 => bad 1 (by decide) (by unfold settleE; rw [if_pos (.inr (.inl k2))])) fun k2 => br_dec (fun k3 => bad 1 (by decide) (by unfold settleE; rw [if_pos (.inr (.inr (.inl k3)))])) fun k3 => br_dec (fun k4 => bad 1 (by decide) (by unfold settleE; rw [if_pos (.inr (.inr (.inr k4)))])) fun k4 => br_dec (fun k5 => bad 19 (by decide) (by unfold settleE; rw [if_neg (by omega), if_pos k5])) fun k5 => br_dec (fun k6 => bad 20 (by decide) (by unfold settleE; rw [if_neg (by omega), if_neg k5, if_pos k6])) fun k6 => drewB B7 fun w14 b14 B14 _ => boxB B14 g04 fun w15 h15 B15 _ => ⟨⟨a5, c5, ?_, ?_⟩, B15⟩
  · have he : settleE gn p now pos used = 0 := by unfold settleE; rw [if_neg (by omega), if_neg k5, if_neg k6]
    have f := (rate_facts (Decidable.not_not.1 k1)).2.2.1
    have e1 : settleR gn p now pos used = rateR p now pos used := by unfold settleR; rw [if_pos he]
    have e2 : settleN gn p now pos used = gn.amount - (rateR p now pos used).cost := by unfold settleN; rw [if_pos he]
    rw [e1, e2, he, wr64 (by omega) (by omega)]
    rfl
  · have he : settleE gn p now pos used = 0 := by unfold settleE; rw [if_neg (by omega), if_neg k5, if_neg k6]
    have e1 : settleR gn p now pos used = rateR p now pos used := by unfold settleR; rw [if_pos he]
    rw [e1]
    exact ((l7.below b14).box h15 (by omega)).low (by omega)
def heldZ (zs : List Int) : Int := if fitB (total zs) = true then total zs else 0
theorem held_ret (a : Option Addr) (c : Nat) (gs : List Gnt) (w : World) (h : GsAt 0 w a gs) (hl : gs.length ≤ 1000) (hi : ints (amtsG gs)) : Calls Try.prog 30 #[.slice a gs.length c] w (Ret (.int .i64 (heldZ (amtsG gs))) w) := by
  refine ret_in (GGrant.held_calls a gs.length c w (fun u w' => u = .int .i64 (heldZ (amtsG gs)) ∧ Below w.heap.size w w') ?_)
  unfold GGrant.held_vc
  refine ⟨fun a4 n4 c4 x wx => ∃ i : Nat, x = i ∧ i ≤ gs.length ∧ n4 = i ∧ Own wx w.heap.size 3 1 (.slice a4 i c4) i ((amtsG (gs.take i)).map iV) ∧ Bs w wx, fun _ _ _ x _ => gs.length - x.toNat, ⟨0, rfl, by omega, rfl, Own.nil _ _ _ _, Bs.refl _⟩, ?_⟩
  rintro a4 n4 c4 x wx ⟨i, rfl, hil', rfl, hO, B⟩
  have Bs' := B.size
  refine br_dec (fun hlt => ?_) fun hge => ?_
  · have hil : n4 < gs.length := by omega
    obtain ⟨b, off, rfl, hc⟩ := (h.below B).get hil
    have hk := fun k hk => hO.lt k hk
    refine ⟨by omega, by omega, gs[n4].grp, gs[n4].units, gs[n4].amount, gs[n4].fin, by rw [Int.toNat_natCast]; exact hc, newB B fun g w3 g0 sg n3 z3 b3 B3 => boxB B3 g0 fun w4 h4 B4 z4 => newB B4 fun g' w6 g0' sg' n6 z6 b6 B6 => ?_⟩
    have o4 := hO.newbox b3 sg h4
    refine appB B6 (o4.below b6 (Nat.le_refl _)) (Nat.le_refl _) B6.size (src_block (n := 1) (size := 1) Try.underlying23 n6 rfl rfl) (by unfold maxLen; omega) (by omega) (fun x hx e => ?_) fun a' c' w7 o7 g7 B7 z7 => ?_
    · rw [List.mem_singleton] at hx; subst hx
      have := (hk _ e).2
      omega
    rw [wr64 (by omega) (by omega)]
    refine ⟨⟨n4 + 1, by omega, by omega, rfl, ?_, B7⟩, by dsimp only; omega⟩
    unfold amtsG at o7 ⊢
    rw [List.take_add_one, List.getElem?_eq_getElem hil, List.map_append, List.map_append]
    exact o7
  · obtain rfl : n4 = gs.length := by omega
    rw [List.take_length] at hO
    have hpl : (amtsG gs).length = gs.length := List.length_map _
    have hs := aSum_any a4 c4 (amtsG gs) wx _ rfl hi (by omega) hO.row
    rw [hpl] at hs
    exact callB B (ret_same hs) fun w8 b8 B8 => ⟨_, _, rfl, rfl, B8⟩
theorem rheld_ret (a : Option Addr) (c : Nat) (gs : List Gnt) (w : World) (h : GsAt 0 w a gs) (hl : gs.length ≤ 1000) (hi : ints (amtsG gs)) : Calls Try.prog 31 #[.slice a gs.length c] w (Ret (.int .i64 (heldZ (amtsG gs))) w) := by
  refine ret_in (GGrant.rheld_calls a gs.length c w (fun u w' => u = .int .i64 (heldZ (amtsG gs)) ∧ Below w.heap.size w w') ?_)
  unfold GGrant.rheld_vc
  refine ⟨fun a4 n4 c4 x wx => ∃ i : Nat, x = i ∧ i ≤ gs.length ∧ n4 = i ∧ Own wx w.heap.size 3 1 (.slice a4 i c4) i ((amtsG (gs.take i)).map iV) ∧ Bs w wx, fun _ _ _ x _ => gs.length - x.toNat, ⟨0, rfl, by omega, rfl, Own.nil _ _ _ _, Bs.refl _⟩, ?_⟩
  rintro a4 n4 c4 x wx ⟨i, rfl, hil', rfl, hO, B⟩
  have Bs' := B.size
  refine br_dec (fun hlt => ?_) fun hge => ?_
  · have hil : n4 < gs.length := by omega
    obtain ⟨b, off, rfl, hc⟩ := (h.below B).get hil
    refine ⟨by omega, by omega, gs[n4].amount, by rw [Int.toNat_natCast, Nat.add_assoc]; exact cellsAt_get hc 2 _ rfl, newB B fun g' w6 g0' sg' n6 z6 b6 B6 => ?_⟩
    refine appB B6 (hO.below b6 (Nat.le_refl _)) (Nat.le_refl _) B6.size (src_block (n := 1) (size := 1) Try.underlying23 n6 rfl rfl) (by unfold maxLen; omega) (by omega) (by simp) fun a' c' w7 o7 g7 B7 z7 => ?_
    rw [wr64 (by omega) (by omega)]
    refine ⟨⟨n4 + 1, by omega, by omega, rfl, ?_, B7⟩, by dsimp only; omega⟩
    unfold amtsG at o7 ⊢
    rw [List.take_add_one, List.getElem?_eq_getElem hil, List.map_append, List.map_append]
    exact o7
  · obtain rfl : n4 = gs.length := by omega
    rw [List.take_length] at hO
    have hpl : (amtsG gs).length = gs.length := List.length_map _
    have hs := rSum_any a4 c4 (amtsG gs) wx _ rfl hi (by omega) hO.row
    rw [hpl] at hs
    exact callB B hs fun w8 b8 B8 => ⟨_, _, rfl, rfl, B8⟩
theorem like_ret (g : Gnt) (w : World) : Calls Try.prog 26 #[gnV g, gnV g] w (Ret (.bool true) w) := by
  refine ret_in (GGrant.like_calls g.grp g.units g.amount g.fin g.grp g.units g.amount g.fin w (fun u w' => u = .bool true ∧ Below w.heap.size w w') ?_)
  unfold GGrant.like_vc
  exact newB (Bs.refl w) fun g w2 g0 sg n2 z2 b2 B2 => newB B2 fun g' w3 g0' sg' n3 z3 b3 B3 => br_y rfl (br_y rfl (br_y rfl ⟨by simp, B3⟩))
theorem plan0_grant : makeE plan0 7 100 = 0 ∧ makeG plan0 7 100 = ⟨1, 20, 6, true⟩ ∧ settleE ⟨1, 20, 6, true⟩ plan0 0 0 15 = 0 ∧ (settleR ⟨1, 20, 6, true⟩ plan0 0 0 15).cost = 6 ∧ settleN ⟨1, 20, 6, true⟩ plan0 0 0 15 = 0 := by decide +kernel
theorem grants_ret (w : World) : Calls Try.prog 25 #[] w (Ret (.bool true) w) := by
  refine ret_in (GGrant.grants_calls w (fun u w' => u = .bool true ∧ Below w.heap.size w w') ?_)
  unfold GGrant.grants_vc
  obtain ⟨q1, q2, q3, q4, q5⟩ := plan0_grant
  refine newB (Bs.refl w) fun g w2 g0 sg n2 z2 b2 B2 => ?_
  have hp : PlAt w2 plan0 (some ⟨g, 0, none⟩) none := ⟨Rws.one (x := (⟨0, 3⟩ : Tr)) n2 (Nat.zero_le _), Rws.nil, by decide, by decide⟩
  have hm := fun wy (h : Bs w2 wy) => make_ret plan0 (some ⟨g, 0, none⟩) none 1 0 7 100 wy (hp.to h) (by unfold DayIn; decide) (by decide)
  rw [q1, q2] at hm
  refine newB (Bs.refl w2) fun g' w3 g0' sg' n3 z3 b3 B3 => boxB B3 g0' fun w4 h4 B4 z4 => callB B4 (hm w4 B4) fun w5 b5 B5 => ⟨_, _, _, _, _, rfl, newB B5 fun g6 w6 g06 sg6 n6 z6 b6 B6 => boxB B6 g06 fun w7 h7 B7 z7 => callQ B7 (settle_new ⟨1, 20, 6, true⟩ plan0 (some ⟨g, 0, none⟩) none 1 0 0 0 15 w7 (hp.to B7) (by unfold DayIn; decide) (by decide)) ?_⟩
  rintro e w8 ⟨a8, c8, rfl, l8⟩ b8 B8
  refine ⟨_, _, _, _, _, _, _, _, rfl, newB B8 fun g9 w9 g09 sg9 n9 z9 b9 B9 => boxB B9 g09 fun w10 h10 B10 z10 => ?_⟩
  rw [q3, q4, q5]
  exact br_y rfl (br_y rfl (br_t rfl (br_y rfl ⟨rfl, B2.to B10⟩)))
set_option maxRecDepth 10000 in
theorem gmakes_walk (p : Pl) (a a2 : Option Addr) (c c2 : Nat) (cr want : Int) (w : World) (h1 : TsAt 0 w a p.base.ts) (h2 : TsAt 0 w a2 p.other.ts) (l1 : p.base.ts.length ≤ c) (l2 : p.other.ts.length ≤ c2) (hd : DayIn p) (hc : cr ≤ 9223372036854775807) :
    Calls Try.prog 5 #[planV p a c a2 c2, .int .i64 cr, .int .i64 want] w (Ret (.bool true) w) := by
  refine ret_in (GGrant.gmakes_calls p.day p.frm p.til p.base.grp p.base.mode p.base.block a p.base.ts.length c p.other.grp p.other.mode p.other.block a2 p.other.ts.length c2 cr want w (fun u w' => u = .bool true ∧ Below w.heap.size w w') ?_)
  unfold GGrant.gmakes_vc
  refine newB (Bs.refl w) fun g w2 g0 sg n2 z2 b2 B2 => callQ B2 (tame_new p a a2 c c2 w2 (h1.below B2) (h2.below B2) l1 l2) ?_
  rintro e w4 ⟨a', c', b', d', rfl, h3, h4⟩ b4 B4
  refine ⟨_, _, _, _, _, _, _, _, _, _, _, _, _, _, _, rfl, boxB B4 g0 fun w5 h5 B5 z5 => ?_⟩
  have hP : PlAt w5 (tameP p) a' b' := PlAt.box h3 h4 (Nat.le_trans (take9 _) (by decide)) (Nat.le_trans (take9 _) (by decide)) h5 (by omega)
  have hd' : DayIn (tameP p) := hd
  generalize tameP p = q at *
  refine callB (Bs.refl w5) (to_ret q a' b' c' d' w5) fun w6 b6 C6 => ⟨_, _, _, _, _, _, _, _, _, _, _, _, _, _, _, rfl, callB C6 (make_ret q a' b' c' d' cr want w6 (hP.to C6) hd' hc) fun w7 b7 C7 => ⟨_, _, _, _, _, rfl, newB C7 fun g8 w8 g08 sg8 n8 z8 b8 C8 => boxB C8 g08 fun w9 h9 C9 z9 => callB C9 (rmake_ret q a' b' c' d' cr want w9 (hP.to C9)) fun w10 b10 C10 => ⟨_, _, _, _, _, rfl, newB C10 fun g11 w11 g011 sg11 n11 z11 b11 C11 => boxB C11 g011 fun w12 h12 C12 z12 => callB C12 (grants_ret w12) fun w13 b13 C13 => ⟨_, rfl, br_t rfl (br_y rfl (callB C13 (like_ret (makeG q cr want) w13) fun w14 b14 C14 => ⟨_, rfl, rfl, B5.to C14⟩))⟩⟩⟩⟩
end Go.Proofs.Ytckeljphaeickaa
end
section
/- The laws of grants: GrantSettles, GrantBounds; walked. -/
namespace Go.Proofs.Ytckeljphaeickaa
open Go.RowKit
theorem Rws.ofRow {α : Type} {enc : α → List Value} {k n0 g : Nat} {w : World} {xs : List α} {t : TypeId} {fr : Nat × Nat} (hk : ∀ x, (enc x).length = k) (h : w.heap[g]? = some (.cells (xs.flatMap enc).toArray t fr)) (hg : n0 ≤ g) : Rws enc k n0 w (some ⟨g, 0, none⟩) xs := by
  refine .inr ⟨g, 0, rfl, hg, fun i x hx => cellsAt_of fun j v hj => ?_⟩
  have hjk : j < k := by have := (List.getElem?_eq_some_iff.1 hj).1; rw [hk] at this; exact this
  have := flatK_get hk xs i x j hx hjk
  rw [cell_of_row _ _ _ _ _ _ h, Nat.zero_add, List.getElem?_toArray, this]
  exact hj
theorem settleR_len (g : Gnt) (q : Pl) (now pos used : Int) : (settleR g q now pos used).ls.length ≤ 1000 := by
  unfold settleR
  split
  · exact rateR_len _ _ _ _
  · exact Nat.zero_le _
theorem ints2 {z : Int} (h : -9223372036854775808 ≤ z ∧ z ≤ 9223372036854775807) : ints [z, z] := fun y hy => by
  simp at hy
  rw [hy]; exact h
set_option maxRecDepth 10000 in
theorem gsettles_walk (gn : Gnt) (p : Pl) (a a2 : Option Addr) (c c2 : Nat) (now pos used : Int) (w : World) (h1 : TsAt 0 w a p.base.ts) (h2 : TsAt 0 w a2 p.other.ts) (l1 : p.base.ts.length ≤ c) (l2 : p.other.ts.length ≤ c2) (hd : DayIn p) (hm : -9223372036854775808 ≤ gn.amount ∧ gn.amount ≤ 9223372036854775807) :
    Calls Try.prog 7 #[gnV gn, planV p a c a2 c2, .agg #[.int .i64 now, .int .i64 pos, .int .i64 used]] w (Ret (.bool true) w) := by
  refine ret_in (GGrant.gsettles_calls gn.grp gn.units gn.amount gn.fin p.day p.frm p.til p.base.grp p.base.mode p.base.block a p.base.ts.length c p.other.grp p.other.mode p.other.block a2 p.other.ts.length c2 now pos used w (fun u w' => u = .bool true ∧ Below w.heap.size w w') ?_)
  unfold GGrant.gsettles_vc
  refine newB (Bs.refl w) fun g w2 g0 sg n2 z2 b2 B2 => newB B2 fun g' w3 g0' sg' n3 z3 b3 B3 => newB B3 fun g'' w3' g0'' sg'' n3' z3' b3' B3' => callQ B3' (tame_new p a a2 c c2 w3' (h1.below B3') (h2.below B3') l1 l2) ?_
  rintro e w4 ⟨a', c', b', d', rfl, h3, h4⟩ b4 B4
  refine ⟨_, _, _, _, _, _, _, _, _, _, _, _, _, _, _, rfl, boxB B4 g0' fun w5 h5 B5 z5 => ?_⟩
  have hP : PlAt w5 (tameP p) a' b' := PlAt.box h3 h4 (Nat.le_trans (take9 _) (by decide)) (Nat.le_trans (take9 _) (by decide)) h5 (by omega)
  have hd' : DayIn (tameP p) := hd
  generalize tameP p = q at *
  have fin : ∀ (wy : World) (gz gx : Nat) (ax : Option Addr) (cx : Nat), Bs w5 wy → LsAt 0 wy ax (settleR gn q now pos used).ls → GGrant.gsettles_k1 (fun u w' => u = .bool true ∧ Below w.heap.size w w') gn.grp gn.units gn.amount gn.fin now pos used g g' g'' q.day q.frm q.til q.base.grp q.base.mode q.base.block a' q.base.ts.length c' q.other.grp q.other.mode q.other.block b' q.other.ts.length d' gz (settleN gn q now pos used) (settleE gn q now pos used) gx ax (settleR gn q now pos used).ls.length cx (settleR gn q now pos used).blocks (settleR gn q now pos used).cost (settleR gn q now pos used).pos wy := by
    intro wy gz gx ax cx By hx
    unfold GGrant.gsettles_k1
    refine callQ (Bs.refl wy) (rsettle_new gn q a' b' c' d' now pos used wy (hP.to By) hm.2) ?_
    rintro e w15 ⟨a15, c15, rfl, l15⟩ b15 C15
    refine ⟨_, _, _, _, _, _, _, _, rfl, newB C15 fun g16 w16 g016 sg16 n16 z16 b16 C16 => boxB C16 g016 fun w17 h17 C17 z17 => drewB C17 fun w18 b18 C18 _ => callB C18 (grants_ret w18) fun w19 b19 C19 => ⟨_, rfl, br_t rfl (br_y rfl (br_y rfl (br_y rfl (br_y rfl (br_y rfl ?_)))))⟩⟩
    have l19 := ((l15.newbox b16 sg16 h17).below b18).below b19
    refine callB C19 (lsame_ret ax a15 cx c15 _ w19 (hx.below C19) (l19.low (Nat.zero_le _)) (settleR_len _ _ _ _ _)) fun w20 b20 C20 => ⟨_, rfl, br_t rfl ?_⟩
    have hh : ∀ (wz : World) (t : TypeId) (gb : Nat), wz.heap[gb]? = some (.cells #[.int .i64 gn.grp, .int .i64 gn.units, .int .i64 gn.amount, .bool gn.fin, .int .i64 gn.grp, .int .i64 gn.units, .int .i64 gn.amount, .bool gn.fin] t (0, 0)) → GsAt 0 wz (some ⟨gb, 0, none⟩) [gn, gn] := fun wz t gb hb => Rws.ofRow gn_len hb (Nat.zero_le _)
    have hi : ints (amtsG [gn, gn]) := ints2 hm
    refine ⟨newB C20 fun g21 w21 g021 sg21 n21 z21 b21 C21 => ⟨?_, ?_⟩, ?_⟩
    · exact callB C21 (held_ret _ 2 [gn, gn] w21 (hh _ _ _ n21) (by simp) hi) fun w22 b22 C22 => ⟨_, rfl, newB C22 fun g23 w23 g023 sg23 n23 z23 b23 C23 => callB C23 (rheld_ret _ 2 [gn, gn] w23 (hh _ _ _ n23) (by simp) hi) fun w24 b24 C24 => ⟨_, rfl, by rw [decide_eq_true rfl], B5.to (By.to C24)⟩⟩
    · exact newB C21 fun g23 w23 g023 sg23 n23 z23 b23 C23 => callB C23 (held_ret _ 2 [gn, gn] w23 ((hh _ _ _ n21).below b23) (by simp) hi) fun w22 b22 C22 => ⟨_, rfl, callB C22 (rheld_ret _ 2 [gn, gn] w22 ((hh _ _ _ n23).below b22) (by simp) hi) fun w24 b24 C24 => ⟨_, rfl, by rw [decide_eq_true rfl], B5.to (By.to C24)⟩⟩
    · exact newB C20 fun g21 w21 g021 sg21 n21 z21 b21 C21 => newB C21 fun g23 w23 g023 sg23 n23 z23 b23 C23 => callB C23 (held_ret _ 2 [gn, gn] w23 (hh _ _ _ n23) (by simp) hi) fun w22 b22 C22 => ⟨_, rfl, callB C22 (rheld_ret _ 2 [gn, gn] w22 (((hh _ _ _ n21).below b23).below b22) (by simp) hi) fun w24 b24 C24 => ⟨_, rfl, by rw [decide_eq_true rfl], B5.to (By.to C24)⟩⟩
  refine newB (Bs.refl w5) fun g6 w6 g06 sg6 n6 z6 b6 C6 => boxB C6 g06 fun w7 h7 C7 z7 => drewB C7 fun w9 b9 C9 _ => ?_
  refine ⟨callB C9 (to_ret q a' b' c' d' w9) fun w17 b17 C17 => ⟨_, _, _, _, _, _, _, _, _, _, _, _, _, _, _, rfl, ⟨callQ C17 (settle_new gn q a' b' c' d' now pos used w17 (hP.to C17) hd' hm.2) ?_, newB C17 fun g8 w18 g08 sg8 n8 z8 b8 C18 => callQ C18 (settle_new gn q a' b' c' d' now pos used w18 (hP.to C18) hd' hm.2) ?_⟩⟩, newB C9 fun g8 w18 g08 sg8 n8 z8 b8 C18 => callB C18 (to_ret q a' b' c' d' w18) fun w19 b19 C19 => ⟨_, _, _, _, _, _, _, _, _, _, _, _, _, _, _, rfl, callQ C19 (settle_new gn q a' b' c' d' now pos used w19 (hP.to C19) hd' hm.2) ?_⟩⟩
  · rintro e w11 ⟨a9, c9, rfl, l9⟩ b9 C11
    exact ⟨_, _, _, _, _, _, _, _, rfl, newB C11 fun g10 w10 g010 sg10 n10 z10 b10 C10 => boxB C10 g010 fun w12 h11 C12 z11 => fin w12 _ _ _ _ C12 ((l9.newbox b10 sg10 h11).low (Nat.zero_le _))⟩
  · rintro e w11 ⟨a9, c9, rfl, l9⟩ b9 C11
    exact ⟨_, _, _, _, _, _, _, _, rfl, boxB C11 g08 fun w12 h11 C12 z11 => fin w12 _ _ _ _ C12 ((l9.box h11 (by omega)).low (Nat.zero_le _))⟩
  · rintro e w11 ⟨a9, c9, rfl, l9⟩ b9 C11
    have b19s := b19.size
    exact ⟨_, _, _, _, _, _, _, _, rfl, boxB C11 g08 fun w12 h11 C12 z11 => fin w12 _ _ _ _ C12 ((l9.box h11 (by omega)).low (Nat.zero_le _))⟩
set_option maxRecDepth 10000 in
theorem gbounds_walk (p : Pl) (a a2 : Option Addr) (c c2 : Nat) (cr k0 k1 k2 k3 : Int) (w : World) (h1 : TsAt 0 w a p.base.ts) (h2 : TsAt 0 w a2 p.other.ts) (l1 : p.base.ts.length ≤ c) (l2 : p.other.ts.length ≤ c2) (hd : DayIn p) (hc : cr ≤ 9223372036854775807) :
    Calls Try.prog 6 #[planV p a c a2 c2, .int .i64 cr, .agg #[.int .i64 k0, .int .i64 k1, .int .i64 k2, .int .i64 k3]] w (Ret (.bool true) w) := by
  refine ret_in (GGrant.gbounds_calls p.day p.frm p.til p.base.grp p.base.mode p.base.block a p.base.ts.length c p.other.grp p.other.mode p.other.block a2 p.other.ts.length c2 cr k0 k1 k2 k3 w (fun u w' => u = .bool true ∧ Below w.heap.size w w') ?_)
  unfold GGrant.gbounds_vc
  refine newB (Bs.refl w) fun g w2 g0 sg n2 z2 b2 B2 => newB B2 fun g' w3 g0' sg' n3 z3 b3 B3 => callQ B3 (tame_new p a a2 c c2 w3 (h1.below B3) (h2.below B3) l1 l2) ?_
  rintro e w4 ⟨a', c', b', d', rfl, h3, h4⟩ b4 B4
  refine ⟨_, _, _, _, _, _, _, _, _, _, _, _, _, _, _, rfl, boxB B4 g0 fun w5 h5 B5 z5 => ?_⟩
  have hP : PlAt w5 (tameP p) a' b' := PlAt.box h3 h4 (Nat.le_trans (take9 _) (by decide)) (Nat.le_trans (take9 _) (by decide)) h5 (by omega)
  have hd' : DayIn (tameP p) := hd
  generalize tameP p = q at *
  have fin : ∀ (wy : World) (gx : Nat), Bs w5 wy → GGrant.gbounds_k2 (fun u w' => u = .bool true ∧ Below w.heap.size w w') cr k0 k1 k2 k3 g g' q.day q.frm q.til q.base.grp q.base.mode q.base.block a' q.base.ts.length c' q.other.grp q.other.mode q.other.block b' q.other.ts.length d' (makeE q cr k0) gx (makeG q cr k0).grp (makeG q cr k0).units (makeG q cr k0).amount (makeG q cr k0).fin wy := by
    intro wy gx By
    unfold GGrant.gbounds_k2
    refine callB By (grants_ret wy) fun w12 b12 C12 => ⟨_, rfl, br_f rfl (br_dec (fun hE => callB C12 (grants_ret w12) fun w13 b13 C13 => ⟨_, rfl, rfl, B5.to C13⟩) fun hE => ?_)⟩
    have hE := Decidable.not_not.1 hE
    obtain ⟨f1, f2, f3⟩ := makeE_ok hE
    obtain ⟨f4, f5, f6⟩ := fitE_ok f1
    obtain ⟨f7, f8, f9, f10, f11⟩ := fit_facts f1
    rw [makeG_yes hE]
    dsimp only
    obtain ⟨m, em⟩ : ∃ m : Nat, fitU q cr k0 + 1 = (m : Int) := ⟨(fitU q cr k0 + 1).toNat, by omega⟩
    have hm0 : 0 < m := by omega
    have e1 : IntKind.u64.wrap (IntKind.i64.wrap (fitU q cr k0 + 1)) = (m : Int) := by rw [wr64 (by omega) (by omega), wru64 (by omega) (by omega), em]
    obtain ⟨us, hus, eus⟩ := u64_mod k1 m hm0
    have eus' : IntKind.i64.wrap (Int.tmod (IntKind.u64.wrap k1) (m : Int)) = (us : Int) := by rw [eus, wr64 (by omega) (by omega)]
    obtain ⟨ps, hps, eps⟩ := u64_mod k3 1099511627776 (by decide)
    have eps' : IntKind.i64.wrap (Int.tmod (IntKind.u64.wrap k3) 1099511627776) = (ps : Int) := by
      rw [show Int.tmod (IntKind.u64.wrap k3) 1099511627776 = (ps : Int) from eps, wr64 (by omega) (by omega)]
    obtain ⟨nw, hnw, enw⟩ : ∃ nw : Int, 0 ≤ nw ∧ IntKind.i64.wrap (Int.fdiv (IntKind.u64.wrap k2) (2 ^ (min (1 : Int).toNat (IntKind.bits .u64)))) = nw := by
      have h0 : 0 ≤ IntKind.u64.wrap k2 ∧ IntKind.u64.wrap k2 ≤ 18446744073709551615 := by rw [IntKind.wrap_u64]; omega
      have hpw : (2 : Int) ^ (min (1 : Int).toNat (IntKind.bits .u64)) = 2 := by decide
      rw [hpw, Int.fdiv_eq_ediv_of_nonneg _ (by omega)]
      refine ⟨IntKind.u64.wrap k2 / 2, by omega, wr64 (by omega) (by omega)⟩
    rw [e1, eus', eps', enw]
    have hpo : posOk (ps : Int) := ⟨by omega, by omega⟩
    have hb := (chk_ok (plan_ok f4).1).1.2
    have hrE : rateE q nw ps us = 0 := by
      unfold rateE
      rw [if_neg]
      intro h
      rcases h with h | h | h | h
      · exact h f4
      · omega
      · exact h ⟨by omega, by omega⟩
      · exact h hpo
    obtain ⟨_, _, r3, r4, _, _, _, r8, _⟩ := rate_facts hrE
    have hN : worstN q us = blk us q.base.block * dear q := by unfold worstN; rw [if_pos r8]
    have hcost : (rateR q nw ps us).cost ≤ fitC q cr k0 := by
      rw [f8]
      refine Int.le_trans r4 ?_
      rw [hN]
      exact Int.mul_le_mul_of_nonneg_right (blk_mono (by omega) (by omega)) (dear_plan f4).1
    have hsE : settleE ⟨q.base.grp, fitU q cr k0, fitC q cr k0, decide (fitU q cr k0 < k0)⟩ q nw ps us = 0 := by
      unfold settleE
      dsimp only
      rw [if_neg (by omega), if_neg (by omega), if_neg (by omega)]
    have hsR : settleR ⟨q.base.grp, fitU q cr k0, fitC q cr k0, decide (fitU q cr k0 < k0)⟩ q nw ps us = rateR q nw ps us := by unfold settleR; rw [if_pos hsE]
    have hsN : settleN ⟨q.base.grp, fitU q cr k0, fitC q cr k0, decide (fitU q cr k0 < k0)⟩ q nw ps us = fitC q cr k0 - (rateR q nw ps us).cost := by unfold settleN; rw [if_pos hsE]
    have hset := fun wz (h : Bs w5 wz) => settle_new ⟨q.base.grp, fitU q cr k0, fitC q cr k0, decide (fitU q cr k0 < k0)⟩ q a' b' c' d' nw ps us wz (hP.to h) hd' (by dsimp only; omega)
    rw [hsE, hsR, hsN] at hset
    have fin2 : ∀ (wz : World), Bs w5 wz → GGrant.gbounds_k1 (fun u w' => u = .bool true ∧ Below w.heap.size w w') cr k0 (fitU q cr k0) (fitC q cr k0) (decide (fitU q cr k0 < k0)) (fitC q cr k0 - (rateR q nw ps us).cost) 0 (rateR q nw ps us).cost wz := by
      intro wz Bz
      unfold GGrant.gbounds_k1
      refine br_y rfl (br_y (by omega) (br_y ?_ (br_y (by omega) (br_y (by omega) ⟨by simp, B5.to Bz⟩))))
      rw [wr64 (by omega) (by omega)]; omega
    refine ⟨by omega, drewB C12 fun w15 b15 C15 _ => ⟨by decide, by decide, drewB C15 fun w16 b16 C16 _ => ?_⟩⟩
    refine ⟨callB C16 (to_ret q a' b' c' d' w16) fun w17 b17 C17 => ⟨_, _, _, _, _, _, _, _, _, _, _, _, _, _, _, rfl, ⟨callQ C17 (hset w17 C17) ?_, newB C17 fun g8 w18 g08 sg8 n8 z8 b8 C18 => callQ C18 (hset w18 C18) ?_⟩⟩, newB C16 fun g8 w18 g08 sg8 n8 z8 b8 C18 => callB C18 (to_ret q a' b' c' d' w18) fun w19 b19 C19 => ⟨_, _, _, _, _, _, _, _, _, _, _, _, _, _, _, rfl, callQ C19 (hset w19 C19) ?_⟩⟩
    · rintro e w9 ⟨a9, c9, rfl, l9⟩ b9 C9
      exact ⟨_, _, _, _, _, _, _, _, rfl, newB C9 fun g10 w10 g010 sg10 n10 z10 b10 C10 => boxB C10 g010 fun w11 h11 C11 z11 => fin2 w11 C11⟩
    · rintro e w9 ⟨a9, c9, rfl, l9⟩ b9 C9
      exact ⟨_, _, _, _, _, _, _, _, rfl, boxB C9 g08 fun w11 h11 C11 z11 => fin2 w11 C11⟩
    · rintro e w9 ⟨a9, c9, rfl, l9⟩ b9 C9
      exact ⟨_, _, _, _, _, _, _, _, rfl, boxB C9 g08 fun w11 h11 C11 z11 => fin2 w11 C11⟩
  refine drewB (Bs.refl w5) fun w9 b9 C9 _ => ?_
  refine ⟨callB C9 (to_ret q a' b' c' d' w9) fun w17 b17 C17 => ⟨_, _, _, _, _, _, _, _, _, _, _, _, _, _, _, rfl, ⟨callB C17 (make_ret q a' b' c' d' cr k0 w17 (hP.to C17) hd' hc) fun w11 b11 C11 => ⟨_, _, _, _, _, rfl, newB C11 fun g10 w10 g010 sg10 n10 z10 b10 C10 => boxB C10 g010 fun w12 h12 C12 z12 => fin w12 _ C12⟩, newB C17 fun g8 w18 g08 sg8 n8 z8 b8 C18 => callB C18 (make_ret q a' b' c' d' cr k0 w18 (hP.to C18) hd' hc) fun w11 b11 C11 => ⟨_, _, _, _, _, rfl, boxB C11 g08 fun w12 h12 C12 z12 => fin w12 _ C12⟩⟩⟩, newB C9 fun g8 w18 g08 sg8 n8 z8 b8 C18 => callB C18 (to_ret q a' b' c' d' w18) fun w19 b19 C19 => ⟨_, _, _, _, _, _, _, _, _, _, _, _, _, _, _, rfl, callB C19 (make_ret q a' b' c' d' cr k0 w19 (hP.to C19) hd' hc) fun w11 b11 C11 => ⟨_, _, _, _, _, rfl, boxB C11 g08 fun w12 h12 C12 z12 => fin w12 _ C12⟩⟩⟩
end Go.Proofs.Ytckeljphaeickaa
end
section
/- Several plans: are they of unlike groups; grants for them, by both; walked. -/
namespace Go.Proofs.Ytckeljphaeickaa
open Go.RowKit
/-- A plan, and where its tiers lie. -/
structure PlE where
  p : Pl
  a : Option Addr
  a2 : Option Addr
  c : Nat
  c2 : Nat
def plCells (e : PlE) : List Value := [.int .i64 e.p.day, .int .i64 e.p.frm, .int .i64 e.p.til, .int .i64 e.p.base.grp, .int .i64 e.p.base.mode, .int .i64 e.p.base.block, .slice e.a e.p.base.ts.length e.c, .int .i64 e.p.other.grp, .int .i64 e.p.other.mode, .int .i64 e.p.other.block, .slice e.a2 e.p.other.ts.length e.c2]
theorem pl_len (e : PlE) : (plCells e).length = 11 := rfl
abbrev PlsAt (n0 : Nat) (w : World) (a : Option Addr) (es : List PlE) : Prop := Rws plCells 11 n0 w a es
def psOf (es : List PlE) : List Pl := es.map (·.p)
theorem psOf_len (es : List PlE) : (psOf es).length = es.length := List.length_map _
def PAll (w : World) (es : List PlE) : Prop := ∀ e ∈ es, PlAt w e.p e.a e.a2 ∧ DayIn e.p
theorem PAll.to {w w' : World} {es : List PlE} (h : PAll w es) (b : Below w.heap.size w w') : PAll w' es := fun e he => ⟨(h e he).1.to b, (h e he).2⟩
def grpsOf (es : List PlE) : List Int := es.map (·.p.base.grp)
theorem apart_iff (es : List PlE) : apartP (psOf es) ↔ (grpsOf es).Nodup := by
  unfold apartP psOf grpsOf
  rw [List.map_map]
  exact Iff.rfl
theorem apart1_ret (e : PlE) (g : Nat) (x : Int) (w : World) (hc : w.cell? ⟨g, 3, none⟩ = some (.int .i64 x)) :
    Calls Try.prog 98 #[planV e.p e.a e.c e.a2 e.c2, .pointer (some ⟨g, 0, none⟩)] w (Ret (.bool (decide (e.p.base.grp = x))) w) := by
  refine ret_in (GGrant.apart1_calls e.p.day e.p.frm e.p.til e.p.base.grp e.p.base.mode e.p.base.block e.a e.p.base.ts.length e.c e.p.other.grp e.p.other.mode e.p.other.block e.a2 e.p.other.ts.length e.c2 (some ⟨g, 0, none⟩) w (fun u w' => u = .bool (decide (e.p.base.grp = x)) ∧ Below w.heap.size w w') ?_)
  unfold GGrant.apart1_vc
  exact newB (Bs.refl w) fun g' w2 g0 sg n2 z2 b2 B2 => ⟨x, (cell_keep (b2.block g (block_lt_of_cell hc)) 3).trans hc, rfl, B2⟩
theorem gindex_any (a : Option Addr) (n c g : Nat) (es : List PlE) (x : Int) (w : World) (h : PlsAt 0 w a es) (hn : n ≤ es.length) (hl : es.length ≤ 1000) (hc : w.cell? ⟨g, 3, none⟩ = some (.int .i64 x)) :
    Calls Try.prog 123 #[.slice a n c, .func (.func 98) #[] #[.pointer (some ⟨g, 0, none⟩)]] w fun e w' => (∃ r : Int, e = .returned (.int .i64 r) ∧ (0 ≤ r ↔ x ∈ (grpsOf es).take n)) ∧ Below w.heap.size w w' := by
  refine (GGrant.gindex_calls a n c (some ⟨g, 0, none⟩) w (fun v w' => (∃ r : Int, v = .int .i64 r ∧ (0 ≤ r ↔ x ∈ (grpsOf es).take n)) ∧ Below w.heap.size w w') ?_).mono (by rintro e w' ⟨v, rfl, ⟨r, rfl, h⟩, h2⟩; exact ⟨⟨r, rfl, h⟩, h2⟩)
  unfold GGrant.gindex_vc
  have hgl : (grpsOf es).length = es.length := List.length_map _
  refine ⟨fun y wx => ∃ i : Nat, y = i ∧ i ≤ n ∧ x ∉ (grpsOf es).take i ∧ Bs w wx, fun y _ => n - y.toNat, ⟨0, rfl, by omega, by simp, Bs.refl _⟩, ?_⟩
  rintro y wx ⟨i, rfl, hi, hno, B⟩
  refine br_dec (fun hlt => ?_) fun hge => ?_
  · have hil : i < es.length := by omega
    obtain ⟨b, off, rfl, hcc⟩ := (h.below B).get hil
    have htk : (grpsOf es).take (i + 1) = (grpsOf es).take i ++ [es[i].p.base.grp] := by
      rw [List.take_add_one, List.getElem?_eq_getElem (by omega)]
      simp [grpsOf]
    refine ⟨by omega, by omega, _, _, _, _, _, _, _, _, _, _, _, _, _, _, _, by rw [Int.toNat_natCast]; exact hcc, callB B (apart1_ret es[i] g x wx ((cell_keep (B.block g (block_lt_of_cell hc)) 3).trans hc)) fun w3 b3 B3 => ⟨_, rfl, br_dec (fun he => ⟨⟨i, rfl, ?_⟩, B3⟩) fun he => ?_⟩⟩
    · refine ⟨fun _ => ?_, fun _ => by omega⟩
      have : x ∈ (grpsOf es).take (i + 1) := by rw [htk]; simp [he]
      exact List.mem_of_mem_take (by rw [List.take_take, Nat.min_eq_left (by omega)]; exact this : x ∈ ((grpsOf es).take n).take (i + 1))
    · rw [wr64 (by omega) (by omega)]
      refine ⟨⟨i + 1, by omega, by omega, ?_, B3⟩, by dsimp only; omega⟩
      rw [htk, List.mem_append]
      rintro (h1 | h1)
      · exact hno h1
      · simp at h1; exact he h1.symm
  · obtain rfl : i = n := by omega
    exact ⟨⟨-1, rfl, ⟨fun h => by omega, fun h => absurd h hno⟩⟩, B⟩
theorem gcontains_ret (a : Option Addr) (n c g : Nat) (es : List PlE) (x : Int) (w : World) (h : PlsAt 0 w a es) (hn : n ≤ es.length) (hl : es.length ≤ 1000) (hc : w.cell? ⟨g, 3, none⟩ = some (.int .i64 x)) :
    Calls Try.prog 97 #[.slice a n c, .func (.func 98) #[] #[.pointer (some ⟨g, 0, none⟩)]] w (Ret (.bool (decide (x ∈ (grpsOf es).take n))) w) := by
  refine ret_in (GGrant.gcontains_calls a n c (some ⟨g, 0, none⟩) w (fun u w' => u = .bool (decide (x ∈ (grpsOf es).take n)) ∧ Below w.heap.size w w') ?_)
  unfold GGrant.gcontains_vc
  refine callQ (Bs.refl w) (gindex_any a n c g es x w h hn hl hc) ?_
  rintro e w2 ⟨r, rfl, hr⟩ b2 B2
  refine ⟨_, rfl, ?_, B2⟩
  congr 1
  exact decide_eq_decide.2 hr
/-- A block that is written over, whole. -/
theorem stL_bk {w : World} {g : Nat} {t : TypeId} {vs : List Value} : ∀ {cs : Array Value}, Bk w g cs t → cs.size = vs.length → Bk (w.setCells g 0 vs) g vs.toArray t ∧ Fr [g] w (w.setCells g 0 vs) ∧ (w.setCells g 0 vs).heap.size = w.heap.size := by
  intro cs h hs
  have key : ∀ (vs : List Value) (w : World) (cs : Array Value) (off : Nat), Bk w g cs t → off + vs.length ≤ cs.size → Bk (w.setCells g off vs) g (setL cs.toList off vs).toArray t ∧ Fr [g] w (w.setCells g off vs) ∧ (w.setCells g off vs).heap.size = w.heap.size := by
    intro vs
    induction vs with
    | nil => intro w cs off h _; exact ⟨by simpa [World.setCells, setL] using h, Fr.refl _ _, rfl⟩
    | cons v r ih =>
      intro w cs off h hl
      rw [List.length_cons] at hl
      obtain ⟨k1, k2, k3⟩ := ih (w.setCell ⟨g, off, none⟩ v) (cs.setIfInBounds off v) (off + 1) (h.setCell off v) (by simp; omega)
      refine ⟨?_, ((Fr.refl [g] w).setCell (p := ⟨g, off, none⟩) (.inl (by simp)) v).trans k2 (Gr.refl _ _), by rw [show w.setCells g off (v :: r) = (w.setCell ⟨g, off, none⟩ v).setCells g (off + 1) r from rfl, k3]; simp [World.setCell]⟩
      rw [Array.toList_setIfInBounds] at k1
      exact k1
  obtain ⟨k1, k2, k3⟩ := key vs w cs 0 h (by omega)
  refine ⟨?_, k2, k3⟩
  have e : setL cs.toList 0 vs = vs := by
    apply List.ext_getElem?
    intro i
    rw [setL_get vs cs.toList 0 i (by simp; omega)]
    by_cases hi : i < vs.length
    · rw [if_pos (by omega), Nat.sub_zero]
    · rw [if_neg (by omega), List.getElem?_eq_none (by simp; omega), List.getElem?_eq_none (by omega)]
  rwa [e] at k1
theorem apart_ret (a : Option Addr) (c : Nat) (es : List PlE) (w : World) (h : PlsAt 0 w a es) (hc : es.length ≤ c) (hl : es.length ≤ 1000) : Calls Try.prog 64 #[.slice a es.length c] w (Ret (.bool (decide (apartP (psOf es)))) w) := by
  refine ret_in (GGrant.apart_calls a es.length c w (fun u w' => u = .bool (decide (apartP (psOf es))) ∧ Below w.heap.size w w') ?_)
  unfold GGrant.apart_vc
  have hgl : (grpsOf es).length = es.length := List.length_map _
  refine ⟨fun y wx => ∃ i : Nat, y = i ∧ i ≤ es.length ∧ ((grpsOf es).take i).Nodup ∧ Bs w wx, fun y _ => es.length - y.toNat, ⟨0, rfl, by omega, by simp, Bs.refl _⟩, ?_⟩
  rintro y wx ⟨i, rfl, hi, hnd, B⟩
  refine br_dec (fun hlt => ?_) fun hge => ?_
  · have hil : i < es.length := by omega
    obtain ⟨b, off, ha, hcc⟩ := (h.below B).get hil
    have htk : (grpsOf es).take (i + 1) = (grpsOf es).take i ++ [es[i].p.base.grp] := by
      rw [List.take_add_one, List.getElem?_eq_getElem (by omega)]
      simp [grpsOf]
    subst ha
    refine ⟨by omega, by omega, _, _, _, _, _, _, _, _, _, _, _, _, _, _, _, by rw [Int.toNat_natCast]; exact hcc, newB B fun g w3 g0 sg n3 z3 b3 B3 => ⟨by simp, Bk.there n3 (by simp), fun w4 e4 => ?_⟩⟩
    have hst := stL_bk (g := g) (cs := #[.int .i64 0, .int .i64 0, .int .i64 0, .int .i64 0, .int .i64 0, .int .i64 0, .slice none 0 0, .int .i64 0, .int .i64 0, .int .i64 0, .slice none 0 0]) (vs := plCells es[i]) n3 rfl
    obtain ⟨hb4, f4, z4⟩ := hst
    obtain rfl : w4 = _ := e4
    have B4 : Bs w (w3.setCells g 0 (plCells es[i])) := B3.trans (f4.below (fun k hk => by rw [List.mem_singleton] at hk; omega) B3.size)
    refine ⟨by omega, by omega, callB B4 (gcontains_ret _ i c g es es[i].p.base.grp _ (h.below B4) (by omega) hl ?_) fun w6 b6 B6 => ⟨_, rfl, br_dec (fun h4 => ⟨?_, B6⟩) fun h4 => ?_⟩⟩
    · show (w3.setCells g 0 (plCells es[i])).cell? ⟨g, 3, none⟩ = _
      rw [Bk.cell hb4]; rfl
    · rw [decide_eq_false]
      intro hk
      rw [apart_iff] at hk
      have h5 : ((grpsOf es).take (i + 1)).Nodup := hk.sublist (List.take_sublist _ _)
      rw [htk, List.nodup_append] at h5
      exact h5.2.2 _ h4 _ (by simp) rfl
    · rw [wr64 (by omega) (by omega)]
      refine ⟨⟨i + 1, by omega, by omega, ?_, B6⟩, by dsimp only; omega⟩
      rw [htk, List.nodup_append]
      refine ⟨hnd, by simp, ?_⟩
      intro u hu v hv
      simp at hv
      rintro rfl
      exact h4 (hv ▸ hu)
  · obtain rfl : i = es.length := by omega
    rw [← hgl, List.take_length] at hnd
    exact ⟨by rw [decide_eq_true ((apart_iff es).2 hnd)], B⟩
end Go.Proofs.Ytckeljphaeickaa
end
section
/- Grants of several plans, by both; walked. -/
namespace Go.Proofs.Ytckeljphaeickaa
open Go.RowKit
structure ManyIn (w : World) (a a2 : Option Addr) (es : List PlE) (ns : List Int) : Prop where
  pls : PlsAt 0 w a es
  all : PAll w es
  lp : es.length ≤ 1000
  ns : RowAt w a2 (ns.map iV)
theorem ManyIn.to {w w' : World} {a a2 : Option Addr} {es : List PlE} {ns : List Int} (h : ManyIn w a a2 es ns) (b : Below w.heap.size w w') : ManyIn w' a a2 es ns := ⟨h.pls.below b, h.all.to b, h.lp, h.ns.below b (Nat.le_refl _)⟩
theorem psOf_get {es : List PlE} {i : Nat} (h : i < es.length) : (psOf es)[i]? = some es[i].p := by unfold psOf; rw [List.getElem?_map, List.getElem?_eq_getElem h]; rfl
theorem many_step {es : List PlE} {ns : List Int} (cr : Int) {i : Nat} (h : i < es.length) (hl : es.length = ns.length) :
    mGo ((psOf es).take (i + 1)) (ns.take (i + 1)) cr = mGo ((psOf es).take i) (ns.take i) cr ++ [gOf es[i].p (mCr ((psOf es).take i) (ns.take i) cr) ns[i]] ∧
    mEs ((psOf es).take (i + 1)) (ns.take (i + 1)) cr = mEs ((psOf es).take i) (ns.take i) cr ++ [makeE es[i].p (mCr ((psOf es).take i) (ns.take i) cr) ns[i]] ∧
    mCr ((psOf es).take (i + 1)) (ns.take (i + 1)) cr = mCr ((psOf es).take i) (ns.take i) cr - (gOf es[i].p (mCr ((psOf es).take i) (ns.take i) cr) ns[i]).amount := by
  have hp := psOf_len es
  have h1 : (psOf es).take (i + 1) = (psOf es).take i ++ [es[i].p] := by rw [List.take_add_one, psOf_get h]; rfl
  have h2 : ns.take (i + 1) = ns.take i ++ [ns[i]] := by rw [List.take_add_one, List.getElem?_eq_getElem (by omega)]; rfl
  rw [h1, h2]
  exact m_app es[i].p ns[i] ((psOf es).take i) (ns.take i) cr (by rw [List.length_take, List.length_take]; omega)
theorem many_in {es : List PlE} {ns : List Int} {cr : Int} {i : Nat} {z : Int} (h : z ∈ mEs ((psOf es).take i) (ns.take i) cr) : z ∈ mEs (psOf es) ns cr := by
  rw [(m_take _ _ _ _).1] at h
  exact List.mem_of_mem_take h
theorem cr_range {es : List PlE} {ns : List Int} {cr : Int} {i : Nat} (h0 : 0 ≤ cr) : 0 ≤ mCr ((psOf es).take i) (ns.take i) cr ∧ mCr ((psOf es).take i) (ns.take i) cr ≤ cr := (m_sum _ _ _ h0).2.2.2
set_option maxRecDepth 10000 in
theorem many_new (a a2 : Option Addr) (c c2 : Nat) (es : List PlE) (ns : List Int) (cr : Int) (w : World) (h : ManyIn w a a2 es ns) (hc : es.length ≤ c) (hcr : cr ≤ 9223372036854775807) :
    Calls Try.prog 32 #[.slice a es.length c, .int .i64 cr, .slice a2 ns.length c2] w fun e w' => (∃ a' c', e = .returned (.tuple #[.slice a' (manyG (psOf es) cr ns).length c', .int .i64 (manyE (psOf es) cr ns)]) ∧ GsAt w.heap.size w' a' (manyG (psOf es) cr ns)) ∧ Below w.heap.size w w' := by
  refine (GGrant.many_calls a es.length c cr a2 ns.length c2 w (fun u w' => (∃ a' c', u = .tuple #[.slice a' (manyG (psOf es) cr ns).length c', .int .i64 (manyE (psOf es) cr ns)] ∧ GsAt w.heap.size w' a' (manyG (psOf es) cr ns)) ∧ Below w.heap.size w w') ?_).mono (by rintro e w' ⟨v, rfl, ⟨a', c', rfl, h⟩, h2⟩; exact ⟨⟨a', c', rfl, h⟩, h2⟩)
  unfold GGrant.many_vc
  have hp := psOf_len es
  have hlp := h.lp
  have bad : ∀ z, z ≠ 0 → manyE (psOf es) cr ns = z → ∀ wy, Bs w wy → (∃ a' c', Value.tuple #[.slice none 0 0, .int .i64 z] = .tuple #[.slice a' (manyG (psOf es) cr ns).length c', .int .i64 (manyE (psOf es) cr ns)] ∧ GsAt w.heap.size wy a' (manyG (psOf es) cr ns)) ∧ Below w.heap.size w wy := fun z hz he wy By => by
    have : manyG (psOf es) cr ns = [] := by unfold manyG; rw [if_neg (by rw [he]; exact hz)]
    rw [this, he]
    exact ⟨⟨none, 0, rfl, Rws.nil⟩, By⟩
  refine br_dec (fun k => bad 1 (by decide) (by unfold manyE; rw [if_pos (.inl (by omega))]) _ (Bs.refl _)) fun k1 => br_dec (fun k => bad 1 (by decide) (by unfold manyE; rw [if_pos (.inl (by omega))]) _ (Bs.refl _)) fun k2 => br_dec (fun k => bad 1 (by decide) (by unfold manyE; rw [if_pos (.inr (.inl (by omega)))]) _ (Bs.refl _)) fun k3 => ?_
  have hln : es.length = ns.length := by omega
  refine callB (Bs.refl w) (apart_ret a c es w h.pls hc h.lp) fun w2 b2 B2 => ⟨_, rfl, br_not (br_dec (fun hap => ?_) fun hap => bad 1 (by decide) (by unfold manyE; rw [if_pos (.inr (.inr hap))]) _ B2)⟩
  have hgood : ¬ (¬ (1 ≤ (psOf es).length ∧ (psOf es).length ≤ 4) ∨ (psOf es).length ≠ ns.length ∨ ¬ apartP (psOf es)) := fun k => k.elim (fun k => by omega) fun k => k.elim (fun k => by omega) fun k => k hap
  have hE1 : 1 ∈ mEs (psOf es) ns cr → manyE (psOf es) cr ns = 1 := fun k => by unfold manyE; rw [if_neg hgood, if_pos k]
  have hE0 : 1 ∉ mEs (psOf es) ns cr → manyE (psOf es) cr ns = if 0 ∈ mEs (psOf es) ns cr then 0 else 9 := fun k => by unfold manyE; rw [if_neg hgood, if_neg k]
  have B2s := B2.size
  refine ⟨fun x1 a8 n8 c8 b9 x wx => ∃ i : Nat, x = i ∧ i ≤ es.length ∧ x1 = mCr ((psOf es).take i) (ns.take i) cr ∧ n8 = i ∧ b9 = decide (0 ∈ mEs ((psOf es).take i) (ns.take i) cr) ∧ 1 ∉ mEs ((psOf es).take i) (ns.take i) cr ∧ (0 ≤ cr ∨ i = 0) ∧ Own wx w2.heap.size 56 4 (.slice a8 i c8) i ((mGo ((psOf es).take i) (ns.take i) cr).flatMap gnCells) ∧ Bs w wx ∧ w2.heap.size ≤ wx.heap.size, fun _ _ _ _ _ x _ => es.length - x.toNat,
    ⟨0, rfl, by omega, by simp [mCr_nil], rfl, by simp [mEs_nil], by simp [mEs_nil], .inr rfl, by simpa [mGo_nil] using Own.nil _ _ _ _, B2, by omega⟩, ?_⟩
  rintro x1 a8 n8 c8 b9 x wx ⟨i, rfl, hi, rfl, rfl, rfl, hno, hcr0, hO, B, hsz⟩
  refine br_dec (fun hlt => ?_) fun hge => ?_
  · have hil : n8 < es.length := by omega
    obtain ⟨s1, s2, s3⟩ := many_step cr hil hln
    have hC : mCr ((psOf es).take n8) (ns.take n8) cr ≤ cr := by
      rcases hcr0 with h0 | h0
      · exact (cr_range h0).2
      · subst h0; simp [mCr_nil]
    have hCm : 0 ≤ cr ∨ mCr ((psOf es).take n8) (ns.take n8) cr < 0 := by
      by_cases h0 : 0 ≤ cr
      · exact .inl h0
      · refine .inr ?_
        rcases hcr0 with h1 | h1
        · exact absurd h1 h0
        · subst h1; simp [mCr_nil]; omega
    have hC0 : 0 ≤ cr → 0 ≤ mCr ((psOf es).take n8) (ns.take n8) cr := fun h0 => (cr_range h0).1
    generalize mCr ((psOf es).take n8) (ns.take n8) cr = C at *
    obtain ⟨b, off, rfl, hcc⟩ := (h.pls.below B).get hil
    have hk := fun k hk => hO.lt k hk
    refine ⟨by omega, by omega, _, _, _, _, _, _, _, _, _, _, _, _, _, _, _, by rw [Int.toNat_natCast]; exact hcc, newB B fun g w4 g0 sg n4 z4 b4 B4 => boxB B4 g0 fun w5 h5 B5 z5 => drewB B5 fun w6 b6 B6 _ => ?_⟩
    have o6 := (hO.newbox b4 sg h5).below b6 (Nat.le_refl _)
    obtain ⟨bn, offn, ha2, hcn⟩ := (h.ns.below B6 (Nat.le_refl _)).int (k := n8) (by omega)
    subst ha2
    have b6s := b6.size
    have fin : ∀ (wy : World) (gy : Nat), Bs w wy → Below w6.heap.size w6 wy → w6.heap.size ≤ gy → gy < wy.heap.size → GGrant.many_k1 (fun u w' => (∃ a' c', u = .tuple #[.slice a' (manyG (psOf es) cr ns).length c', .int .i64 (manyE (psOf es) cr ns)] ∧ GsAt w.heap.size w' a' (manyG (psOf es) cr ns)) ∧ Below w.heap.size w w')
        (fun x1 a8 n8 c8 b9 x wx => ∃ i : Nat, x = i ∧ i ≤ es.length ∧ x1 = mCr ((psOf es).take i) (ns.take i) cr ∧ n8 = i ∧ b9 = decide (0 ∈ mEs ((psOf es).take i) (ns.take i) cr) ∧ 1 ∉ mEs ((psOf es).take i) (ns.take i) cr ∧ (0 ≤ cr ∨ i = 0) ∧ Own wx w2.heap.size 56 4 (.slice a8 i c8) i ((mGo ((psOf es).take i) (ns.take i) cr).flatMap gnCells) ∧ Bs w wx ∧ w2.heap.size ≤ wx.heap.size) (fun _ _ _ _ _ x _ => es.length - x.toNat)
        C a8 n8 c8 (decide (0 ∈ mEs ((psOf es).take n8) (ns.take n8) cr)) ((n8 : Nat) : Int) wx es[n8].p.base.grp g (makeE es[n8].p C ns[n8]) gy (makeG es[n8].p C ns[n8]).grp (makeG es[n8].p C ns[n8]).units (makeG es[n8].p C ns[n8]).amount (makeG es[n8].p C ns[n8]).fin wy := by
      intro wy gy By by6 hg1 hg2
      have oy := o6.below by6 (Nat.le_refl _)
      have bys := by6.size
      unfold GGrant.many_k1
      refine br_dec (fun e0 => ?_) fun e0 => br_dec (fun e9 => ?_) fun e9 => ?_
      · have hg : gOf es[n8].p C ns[n8] = makeG es[n8].p C ns[n8] := by unfold gOf; rw [if_neg (by rw [e0]; decide)]
        have hCn : 0 ≤ C := by
          have := (fitE_ok (makeE_ok e0).1).2.2
          exact this
        have hcr2 : 0 ≤ cr := by rcases hCm with h | h <;> omega
        have ham := gOf_amount (p := es[n8].p) (want := ns[n8]) hCn
        rw [hg] at s1 s3 ham
        refine newB By fun g4 w11 g04 sg4 n11 z11 b11 B11 => appB B11 (oy.below b11 (Nat.le_refl _)) B2s (by omega) (src_block (n := 1) (size := 4) Try.underlying80 n11 rfl rfl) (by unfold maxLen; omega) (by omega) (fun x hx e => ?_) fun a' c' w12 o12 g12 B12 z12 => ?_
        · have := hk _ e
          simp at hx
          omega
        rw [wr64 (show -9223372036854775808 ≤ C - (makeG es[n8].p C ns[n8]).amount by omega) (by omega), wr64 (show -9223372036854775808 ≤ ((n8 : Nat) : Int) + 1 by omega) (by omega)]
        refine ⟨⟨n8 + 1, by omega, by omega, s3.symm, rfl, ?_, ?_, .inl hcr2, ?_, B12, by omega⟩, by dsimp only; omega⟩
        · rw [s2, e0, decide_eq_true (by simp)]
        · rw [s2, e0]; simp [hno]
        · rw [s1, List.flatMap_append]; simpa [gnCells] using o12
      · have hCn : 0 ≤ C := (fitE_ok (makeE_9 e9).1).2.2
        have hcr2 : 0 ≤ cr := by rcases hCm with h | h <;> omega
        have hg : gOf es[n8].p C ns[n8] = ⟨es[n8].p.base.grp, 0, 0, true⟩ := by unfold gOf; rw [if_pos e9]
        rw [hg] at s1 s3
        refine boxB By (by have := B6.size; omega) fun w13 h13 B13 z13 => newB B13 fun g4 w11 g04 sg4 n11 z11 b11 B11 => appB B11 ((oy.box h13 fun k hkk => by have := hk k hkk; omega).below b11 (Nat.le_refl _)) B2s (by omega) (src_block (n := 1) (size := 4) Try.underlying80 n11 rfl rfl) (by unfold maxLen; omega) (by omega) (fun x hx e => ?_) fun a' c' w12 o12 g12 B12 z12 => ?_
        · have := hk _ e
          simp at hx
          omega
        rw [wr64 (show -9223372036854775808 ≤ C - 0 by omega) (by omega), wr64 (show -9223372036854775808 ≤ ((n8 : Nat) : Int) + 1 by omega) (by omega)]
        refine ⟨⟨n8 + 1, by omega, by omega, s3.symm, rfl, ?_, ?_, .inl hcr2, ?_, B12, by omega⟩, by dsimp only; omega⟩
        · rw [s2, e9]
          exact decide_eq_decide.2 (by simp)
        · rw [s2, e9]; simp [hno]
        · rw [s1, List.flatMap_append]; simpa [gnCells] using o12
      · have e1 : makeE es[n8].p C ns[n8] = 1 := by
          rcases makeE_cases es[n8].p C ns[n8] with h | h | h
          · exact absurd h e0
          · exact absurd h e9
          · exact h
        rw [e1]
        exact bad 1 (by decide) (hE1 (many_in (i := n8 + 1) (by rw [s2, e1]; simp))) _ By
    have hall := h.all _ (List.getElem_mem hil)
    have hmk := fun wy (By : Bs w wy) => make_ret es[n8].p es[n8].a es[n8].a2 es[n8].c es[n8].c2 C ns[n8] wy (hall.1.to By) hall.2 (by omega)
    refine ⟨by omega, by omega, ns[n8], by rw [Int.toNat_natCast, Nat.mul_one]; exact hcn, ?_, ?_⟩
    · exact callB B6 (hmk w6 B6) fun w7 b7 B7 => ⟨_, _, _, _, _, rfl, newB B7 fun g8 w8 g08 sg8 n8' z8 b8 B8 => boxB B8 g08 fun w9 h9 B9 z9 => fin w9 g8 B9 (Bs.box ((Bs.refl w6).to b7 |>.to b8) (by have := b7.size; omega) h9) (by have := b7.size; omega) (by omega)⟩
    · refine newB B6 fun g8 w8 g08 sg8 n8' z8 b8 B8 => ⟨?_, callB B8 (hmk w8 B8) fun w7 b7 B7 => ⟨_, _, _, _, _, rfl, boxB B7 g08 fun w9 h9 B9 z9 => fin w9 g8 B9 (Bs.box ((Bs.refl w6).to b8 |>.to b7) (by omega) h9) (by omega) (by have := b7.size; omega)⟩⟩
      rw [cell_keep (b8.block bn (block_lt_of_cell hcn)), Int.toNat_natCast, Nat.mul_one]; exact hcn
  · obtain rfl : n8 = es.length := by omega
    rw [List.take_of_length_le (by omega), List.take_of_length_le (by omega)] at hno hO ⊢
    refine br_not (br_dec (fun k0 => ?_) fun k0 => bad 9 (by decide) (by rw [hE0 hno, if_neg k0]) _ B)
    have he : manyE (psOf es) cr ns = 0 := by rw [hE0 hno, if_pos k0]
    have hG : manyG (psOf es) cr ns = mGo (psOf es) ns cr := by unfold manyG; rw [if_pos he]
    have hGl := (m_len (psOf es) ns cr (by omega)).1
    rw [hG, he, hGl, hp]
    exact ⟨⟨a8, c8, rfl, (Rws.ofOwn (by decide) gn_len hO).low (by omega)⟩, B⟩
end Go.Proofs.Ytckeljphaeickaa
end
section
/- Grants of several plans, by the document; walked. -/
namespace Go.Proofs.Ytckeljphaeickaa
open Go.RowKit
theorem cell3 {w : World} {b off : Nat} {e : PlE} (h : cellsAt w b off (plCells e)) : w.cell? ⟨b, off + 3, none⟩ = some (.int .i64 e.p.base.grp) := cellsAt_get h 3 _ rfl
set_option maxRecDepth 10000 in
theorem rmany_new (a a2 : Option Addr) (c c2 : Nat) (es : List PlE) (ns : List Int) (cr : Int) (w : World) (h : ManyIn w a a2 es ns) (hcr : cr ≤ 9223372036854775807) :
    Calls Try.prog 33 #[.slice a es.length c, .int .i64 cr, .slice a2 ns.length c2] w fun e w' => (∃ a' c', e = .returned (.tuple #[.slice a' (manyG (psOf es) cr ns).length c', .int .i64 (manyE (psOf es) cr ns)]) ∧ GsAt w.heap.size w' a' (manyG (psOf es) cr ns)) ∧ Below w.heap.size w w' := by
  refine (GGrant.rmany_calls a es.length c cr a2 ns.length c2 w (fun u w' => (∃ a' c', u = .tuple #[.slice a' (manyG (psOf es) cr ns).length c', .int .i64 (manyE (psOf es) cr ns)] ∧ GsAt w.heap.size w' a' (manyG (psOf es) cr ns)) ∧ Below w.heap.size w w') ?_).mono (by rintro e w' ⟨v, rfl, ⟨a', c', rfl, h⟩, h2⟩; exact ⟨⟨a', c', rfl, h⟩, h2⟩)
  unfold GGrant.rmany_vc
  have hp := psOf_len es
  have hlp := h.lp
  have hgl : (grpsOf es).length = es.length := List.length_map _
  have bad : ∀ z, z ≠ 0 → manyE (psOf es) cr ns = z → ∀ wy, Bs w wy → (∃ a' c', Value.tuple #[.slice none 0 0, .int .i64 z] = .tuple #[.slice a' (manyG (psOf es) cr ns).length c', .int .i64 (manyE (psOf es) cr ns)] ∧ GsAt w.heap.size wy a' (manyG (psOf es) cr ns)) ∧ Below w.heap.size w wy := fun z hz he wy By => by
    have : manyG (psOf es) cr ns = [] := by unfold manyG; rw [if_neg (by rw [he]; exact hz)]
    rw [this, he]
    exact ⟨⟨none, 0, rfl, Rws.nil⟩, By⟩
  refine br_dec (fun k => bad 1 (by decide) (by unfold manyE; rw [if_pos (.inl (by omega))]) _ (Bs.refl _)) fun k1 => br_dec (fun k => bad 1 (by decide) (by unfold manyE; rw [if_pos (.inl (by omega))]) _ (Bs.refl _)) fun k2 => br_dec (fun k => bad 1 (by decide) (by unfold manyE; rw [if_pos (.inr (.inl (by omega)))]) _ (Bs.refl _)) fun k3 => ?_
  have hln : es.length = ns.length := by omega
  have htk : ∀ i (hi : i < es.length), (grpsOf es).take (i + 1) = (grpsOf es).take i ++ [es[i].p.base.grp] := fun i hi => by
    rw [List.take_add_one, List.getElem?_eq_getElem (by omega)]
    simp [grpsOf]
  refine ⟨fun x wx => ∃ i : Nat, x = i ∧ i ≤ es.length ∧ ((grpsOf es).take i).Nodup ∧ Bs w wx, fun x _ => es.length - x.toNat, ⟨0, rfl, by omega, by simp, Bs.refl _⟩, ?_⟩
  rintro x wx ⟨i, rfl, hi, hnd, B⟩
  refine br_dec (fun hlt => ?_) fun hge => ?_
  · have hil : i < es.length := by omega
    refine ⟨fun y wy => ∃ j : Nat, y = j ∧ j ≤ i ∧ es[i].p.base.grp ∉ (grpsOf es).take j ∧ Bs w wy, fun y _ => i - y.toNat, ⟨0, rfl, by omega, by simp, B⟩, ?_⟩
    rintro y wy ⟨j, rfl, hj, hno, B⟩
    refine br_dec (fun hlt => drewB B fun w4 b4 B4 _ => ?_) fun hge => ?_
    · have hjl : j < es.length := by omega
      obtain ⟨b, off, rfl, hc1⟩ := (h.pls.below B4).get hil
      obtain ⟨b', off', e', hc2⟩ := (h.pls.below B4).get hjl
      injection e' with e'
      injection e' with e1 e2
      subst e1; subst e2
      refine ⟨by omega, by omega, _, by rw [Int.toNat_natCast]; exact cell3 hc1, by omega, by omega, _, by rw [Int.toNat_natCast]; exact cell3 hc2, br_dec (fun he => ?_) fun he => ?_⟩
      · refine bad 1 (by decide) ?_ _ B4
        have : ¬ apartP (psOf es) := fun hk => by
          rw [apart_iff] at hk
          have h5 : ((grpsOf es).take (i + 1)).Nodup := hk.sublist (List.take_sublist _ _)
          rw [htk i hil, List.nodup_append] at h5
          have hm : es[j].p.base.grp ∈ (grpsOf es).take i := by
            have : es[j].p.base.grp ∈ (grpsOf es).take (j + 1) := by rw [htk j hjl]; simp
            exact List.mem_of_mem_take (by rw [List.take_take, Nat.min_eq_left (by omega)]; exact this : _ ∈ ((grpsOf es).take i).take (j + 1))
          exact h5.2.2 _ hm _ (by simp) he.symm
        unfold manyE
        rw [if_pos (.inr (.inr this))]
      · rw [wr64 (by omega) (by omega)]
        refine ⟨⟨j + 1, by omega, by omega, ?_, B4⟩, by dsimp only; omega⟩
        rw [htk j hjl, List.mem_append]
        rintro (h1 | h1)
        · exact hno h1
        · simp at h1; exact he h1
    · obtain rfl : j = i := by omega
      rw [wr64 (by omega) (by omega)]
      refine ⟨⟨j + 1, by omega, by omega, ?_, B⟩, by dsimp only; omega⟩
      rw [htk j hil, List.nodup_append]
      refine ⟨hnd, by simp, ?_⟩
      intro u hu v hv
      simp at hv
      rintro rfl
      exact hno (hv ▸ hu)
  obtain rfl : i = es.length := by omega
  rw [← hgl, List.take_length] at hnd
  have hap := (apart_iff es).2 hnd
  have hgood : ¬ (¬ (1 ≤ (psOf es).length ∧ (psOf es).length ≤ 4) ∨ (psOf es).length ≠ ns.length ∨ ¬ apartP (psOf es)) := fun k => k.elim (fun k => by omega) fun k => k.elim (fun k => by omega) fun k => k hap
  have hE1 : 1 ∈ mEs (psOf es) ns cr → manyE (psOf es) cr ns = 1 := fun k => by unfold manyE; rw [if_neg hgood, if_pos k]
  have hE0 : 1 ∉ mEs (psOf es) ns cr → manyE (psOf es) cr ns = if 0 ∈ mEs (psOf es) ns cr then 0 else 9 := fun k => by unfold manyE; rw [if_neg hgood, if_neg k]
  have Bsz := B.size
  refine ⟨fun x1 a8 n8 c8 b9 b10 x wy => ∃ i : Nat, x = i ∧ i ≤ es.length ∧ x1 = mCr ((psOf es).take i) (ns.take i) cr ∧ n8 = i ∧ b9 = decide (0 ∈ mEs ((psOf es).take i) (ns.take i) cr) ∧ b10 = decide (1 ∈ mEs ((psOf es).take i) (ns.take i) cr) ∧ Own wy wx.heap.size 61 4 (.slice a8 i c8) i ((mGo ((psOf es).take i) (ns.take i) cr).flatMap gnCells) ∧ Bs w wy ∧ wx.heap.size ≤ wy.heap.size, fun _ _ _ _ _ _ x _ => es.length - x.toNat,
    ⟨0, rfl, by omega, by simp [mCr_nil], rfl, by simp [mEs_nil], by simp [mEs_nil], by simpa [mGo_nil] using Own.nil _ _ _ _, B, by omega⟩, ?_⟩
  rintro x1 a8 n8 c8 b9 b10 x wz ⟨i, rfl, hi, rfl, rfl, rfl, rfl, hO, B2, hsz⟩
  refine br_dec (fun hlt => drewB B2 fun w6 b6 B6 _ => ?_) fun hge => ?_
  · have hil : n8 < es.length := by omega
    obtain ⟨s1, s2, s3⟩ := many_step cr hil hln
    have hCm : mCr ((psOf es).take n8) (ns.take n8) cr ≤ cr ∨ cr < 0 := by
      by_cases h0 : 0 ≤ cr
      · exact .inl (cr_range h0).2
      · exact .inr (by omega)
    have hCneg : cr < 0 → mCr ((psOf es).take n8) (ns.take n8) cr = cr := fun h0 => mCr_neg h0
    generalize mCr ((psOf es).take n8) (ns.take n8) cr = C at *
    obtain ⟨b, off, rfl, hcc⟩ := (h.pls.below B6).get hil
    have hk := fun k hk => hO.lt k hk
    have o6 := hO.below b6 (Nat.le_refl _)
    obtain ⟨bn, offn, ha2, hcn⟩ := (h.ns.below B6 (Nat.le_refl _)).int (k := n8) (by omega)
    subst ha2
    have b6s := b6.size
    have hcc' : ∀ {wy : World}, Below w6.heap.size w6 wy → cellsAt wy b (off + ((n8 : Nat) : Int).toNat * 11) (plCells es[n8]) := fun hb => by rw [Int.toNat_natCast]; exact cellsAt_below hcc hb (Nat.le_refl _)
    have fin : ∀ (wy : World) (gy : Nat), Bs w wy → Below w6.heap.size w6 wy → w6.heap.size ≤ gy → gy < wy.heap.size → GGrant.rmany_k1
        (fun x1 a8 n8 c8 b9 b10 x wy => ∃ i : Nat, x = i ∧ i ≤ es.length ∧ x1 = mCr ((psOf es).take i) (ns.take i) cr ∧ n8 = i ∧ b9 = decide (0 ∈ mEs ((psOf es).take i) (ns.take i) cr) ∧ b10 = decide (1 ∈ mEs ((psOf es).take i) (ns.take i) cr) ∧ Own wy wx.heap.size 61 4 (.slice a8 i c8) i ((mGo ((psOf es).take i) (ns.take i) cr).flatMap gnCells) ∧ Bs w wy ∧ wx.heap.size ≤ wy.heap.size) (fun _ _ _ _ _ _ x _ => es.length - x.toNat)
        (some ⟨b, off, none⟩) es.length C a8 n8 c8 (decide (0 ∈ mEs ((psOf es).take n8) (ns.take n8) cr)) (decide (1 ∈ mEs ((psOf es).take n8) (ns.take n8) cr)) ((n8 : Nat) : Int) wz (makeE es[n8].p C ns[n8]) gy (makeG es[n8].p C ns[n8]).grp (makeG es[n8].p C ns[n8]).units (makeG es[n8].p C ns[n8]).amount (makeG es[n8].p C ns[n8]).fin wy := by
      intro wy gy By by6 hg1 hg2
      have oy := o6.below by6 (Nat.le_refl _)
      have bys := by6.size
      have hc3 := cell3 (hcc' by6)
      unfold GGrant.rmany_k1
      refine br_dec (fun e0 => ?_) fun e0 => br_dec (fun e9 => ?_) fun e9 => ?_
      · have hg : gOf es[n8].p C ns[n8] = makeG es[n8].p C ns[n8] := by unfold gOf; rw [if_neg (by rw [e0]; decide)]
        have hCn : 0 ≤ C := (fitE_ok (makeE_ok e0).1).2.2
        have ham := gOf_amount (p := es[n8].p) (want := ns[n8]) hCn
        rw [hg] at s1 s3 ham
        refine newB By fun g4 w11 g04 sg4 n11 z11 b11 B11 => appB B11 (oy.below b11 (Nat.le_refl _)) Bsz (by omega) (src_block (n := 1) (size := 4) Try.underlying82 n11 rfl rfl) (by unfold maxLen; omega) (by omega) (fun x hx e => ?_) fun a' c' w12 o12 g12 B12 z12 => ?_
        · have := hk _ e
          simp at hx
          omega
        rw [wr64 (show -9223372036854775808 ≤ C - (makeG es[n8].p C ns[n8]).amount by omega) (by omega), wr64 (show -9223372036854775808 ≤ ((n8 : Nat) : Int) + 1 by omega) (by omega)]
        refine ⟨⟨n8 + 1, by omega, by omega, s3.symm, rfl, ?_, ?_, ?_, B12, by omega⟩, by dsimp only; omega⟩
        · rw [s2, e0, decide_eq_true (by simp)]
        · rw [s2, e0]; exact decide_eq_decide.2 (by simp)
        · rw [s1, List.flatMap_append]; simpa [gnCells] using o12
      · have hg : gOf es[n8].p C ns[n8] = ⟨es[n8].p.base.grp, 0, 0, true⟩ := by unfold gOf; rw [if_pos e9]
        rw [hg] at s1 s3
        refine ⟨by omega, by omega, _, hc3, boxB By (by have := B6.size; omega) fun w13 h13 B13 z13 => newB B13 fun g4 w11 g04 sg4 n11 z11 b11 B11 => appB B11 ((oy.box h13 fun k hkk => by have := hk k hkk; omega).below b11 (Nat.le_refl _)) Bsz (by omega) (src_block (n := 1) (size := 4) Try.underlying82 n11 rfl rfl) (by unfold maxLen; omega) (by omega) (fun x hx e => ?_) fun a' c' w12 o12 g12 B12 z12 => ?_⟩
        · have := hk _ e
          simp at hx
          omega
        rw [wr64 (show -9223372036854775808 ≤ ((n8 : Nat) : Int) + 1 by omega) (by omega)]
        refine ⟨⟨n8 + 1, by omega, by omega, by rw [s3, Int.sub_zero], rfl, ?_, ?_, ?_, B12, by omega⟩, by dsimp only; omega⟩
        · rw [s2, e9]; exact decide_eq_decide.2 (by simp)
        · rw [s2, e9]; exact decide_eq_decide.2 (by simp)
        · rw [s1, List.flatMap_append]; simpa [gnCells] using o12
      · have e1 : makeE es[n8].p C ns[n8] = 1 := by
          rcases makeE_cases es[n8].p C ns[n8] with h | h | h
          · exact absurd h e0
          · exact absurd h e9
          · exact h
        have hg := gOf_bad e1
        have hg2 : makeG es[n8].p C ns[n8] = gnt0 := makeG_no e0
        rw [hg] at s1 s3
        rw [hg2]
        refine newB By fun g4 w11 g04 sg4 n11 z11 b11 B11 => appB B11 (oy.below b11 (Nat.le_refl _)) Bsz (by omega) (src_block (n := 1) (size := 4) Try.underlying82 n11 rfl rfl) (by unfold maxLen; omega) (by omega) (fun x hx e => ?_) fun a' c' w12 o12 g12 B12 z12 => ?_
        · have := hk _ e
          simp at hx
          omega
        rw [wr64 (show -9223372036854775808 ≤ ((n8 : Nat) : Int) + 1 by omega) (by omega)]
        refine ⟨⟨n8 + 1, by omega, by omega, by rw [s3]; simp [gnt0], rfl, ?_, ?_, ?_, B12, by omega⟩, by dsimp only; omega⟩
        · rw [s2, e1]; exact decide_eq_decide.2 (by simp)
        · rw [s2, e1, decide_eq_true (by simp)]
        · rw [s1, List.flatMap_append]; simpa [gnCells] using o12
    have hall := h.all _ (List.getElem_mem hil)
    have hmk := fun wy (By : Bs w wy) => rmake_ret es[n8].p es[n8].a es[n8].a2 es[n8].c es[n8].c2 C ns[n8] wy (hall.1.to By)
    refine ⟨by omega, by omega, _, _, _, _, _, _, _, _, _, _, _, _, _, _, _, hcc' (Below.refl _ _), by omega, by omega, ns[n8], by rw [Int.toNat_natCast, Nat.mul_one]; exact hcn, ?_, ?_⟩
    · exact callB B6 (hmk w6 B6) fun w7 b7 B7 => ⟨_, _, _, _, _, rfl, newB B7 fun g8 w8 g08 sg8 n8' z8 b8 B8 => boxB B8 g08 fun w9 h9 B9 z9 => fin w9 g8 B9 (Bs.box ((Bs.refl w6).to b7 |>.to b8) (by have := b7.size; omega) h9) (by have := b7.size; omega) (by omega)⟩
    · refine newB B6 fun g8 w8 g08 sg8 n8' z8 b8 B8 => ⟨hcc' b8, ?_, callB B8 (hmk w8 B8) fun w7 b7 B7 => ⟨_, _, _, _, _, rfl, boxB B7 g08 fun w9 h9 B9 z9 => fin w9 g8 B9 (Bs.box ((Bs.refl w6).to b8 |>.to b7) (by omega) h9) (by omega) (by have := b7.size; omega)⟩⟩
      rw [cell_keep (b8.block bn (block_lt_of_cell hcn)), Int.toNat_natCast, Nat.mul_one]; exact hcn
  · obtain rfl : n8 = es.length := by omega
    rw [List.take_of_length_le (by omega), List.take_of_length_le (by omega)] at hO ⊢
    refine br_dec (fun k1 => bad 1 (by decide) (hE1 k1) _ B2) fun hno => br_not (br_dec (fun k0 => ?_) fun k0 => bad 9 (by decide) (by rw [hE0 hno, if_neg k0]) _ B2)
    have he : manyE (psOf es) cr ns = 0 := by rw [hE0 hno, if_pos k0]
    have hG : manyG (psOf es) cr ns = mGo (psOf es) ns cr := by unfold manyG; rw [if_pos he]
    have hGl := (m_len (psOf es) ns cr (by omega)).1
    rw [hG, he, hGl, hp]
    exact ⟨⟨a8, c8, rfl, (Rws.ofOwn (by decide) gn_len hO).low (by omega)⟩, B2⟩
end Go.Proofs.Ytckeljphaeickaa
end
section
/- Arrays and structs that came in as values: their numbers. -/
namespace Go.Proofs.Ytckeljphaeickaa
open Go.RowKit Go.WideShapes Go.ChangeShapes
theorem okWide_arr {P : Program} {W : World} {r : Reach} {base : Nat} {t : TypeId} {v : Value} {n : Nat} {e : Sh} {k : Nat} (hf : fitsB P (.arr n e k) t = true) (hv : Value.okWide P W r base t v) : ∃ cs, v = .agg cs ∧ cs.size = P.cellsOf t := by
  unfold fitsB at hf
  split at hf
  · rename_i l et hu
    unfold Value.okWide at hv
    rw [hu] at hv
    obtain ⟨cs, h1, h2, _⟩ := hv
    exact ⟨cs, h1, h2⟩
  · cases hf
theorem open_arrI {H : Type} {enc : TypeId × Value → H} {P : Program} {W : World} {r : Reach} {base : Nat} {t : TypeId} {v : Value} {d : DataW H} {p : List MemPlace} (n : Nat) (hf : fitsB P (.arr n (.int .i64) 1) t = true) (hc : P.cellsOf t = n) (hv : Value.okWide P W r base t v)
    (h : DataW.Trod enc P W 0 (fun _ => true) true t v d p) : ∃ zs : List Int, zs.length = n ∧ v = .agg (zs.map (Value.int .i64)).toArray ∧ ∀ z ∈ zs, -9223372036854775808 ≤ z ∧ z ≤ 9223372036854775807 := by
  obtain ⟨cs, rfl, hs⟩ := okWide_arr hf hv
  have hh := open_sh hf h
  obtain ⟨zs, hz, hp⟩ := exists_list (p := fun i z => cs.toList[i]? = some (Value.int .i64 z) ∧ (Lit.int .i64 z).wf = true) n (fun i hi => by
    obtain ⟨z, h1, h2⟩ := hh i hi
    refine ⟨z, ?_, h2⟩
    have := congrArg (·[0]?) h1
    simpa [Value.cells] using this)
  refine ⟨zs, hz, ?_, fun z hm => ?_⟩
  · congr 1
    apply Array.ext'
    apply List.ext_getElem?
    intro i
    rw [List.getElem?_map]
    by_cases hi : i < n
    · rw [List.getElem?_eq_getElem (show i < zs.length by omega)]
      exact (hp i _ (List.getElem?_eq_getElem (by omega))).1
    · rw [List.getElem?_eq_none (by simp; omega), List.getElem?_eq_none (by omega)]
      rfl
  · obtain ⟨i, hi⟩ := List.getElem?_of_mem hm
    exact i64_range (hp i z hi).2
theorem open_arr2 {H : Type} {enc : TypeId × Value → H} {P : Program} {W : World} {r : Reach} {base : Nat} {t : TypeId} {v : Value} {d : DataW H} {p : List MemPlace} (hf : fitsB P (.arr 2 (.int .i64) 1) t = true) (hc : P.cellsOf t = 2) (hv : Value.okWide P W r base t v)
    (h : DataW.Trod enc P W 0 (fun _ => true) true t v d p) : ∃ x y : Int, v = .agg #[.int .i64 x, .int .i64 y] ∧ (-9223372036854775808 ≤ x ∧ x ≤ 9223372036854775807) ∧ -9223372036854775808 ≤ y ∧ y ≤ 9223372036854775807 := by
  obtain ⟨zs, hz, rfl, hr⟩ := open_arrI 2 hf hc hv h
  match zs, hz with
  | [x, y], _ => exact ⟨x, y, rfl, hr x (by simp), hr y (by simp)⟩
theorem open_arr4 {H : Type} {enc : TypeId × Value → H} {P : Program} {W : World} {r : Reach} {base : Nat} {t : TypeId} {v : Value} {d : DataW H} {p : List MemPlace} (hf : fitsB P (.arr 4 (.int .i64) 1) t = true) (hc : P.cellsOf t = 4) (hv : Value.okWide P W r base t v)
    (h : DataW.Trod enc P W 0 (fun _ => true) true t v d p) : ∃ x y z u : Int, v = .agg #[.int .i64 x, .int .i64 y, .int .i64 z, .int .i64 u] ∧ (-9223372036854775808 ≤ x ∧ x ≤ 9223372036854775807) ∧ (-9223372036854775808 ≤ y ∧ y ≤ 9223372036854775807) ∧ (-9223372036854775808 ≤ z ∧ z ≤ 9223372036854775807) ∧ -9223372036854775808 ≤ u ∧ u ≤ 9223372036854775807 := by
  obtain ⟨zs, hz, rfl, hr⟩ := open_arrI 4 hf hc hv h
  match zs, hz with
  | [x, y, z, u], _ => exact ⟨x, y, z, u, rfl, hr x (by simp), hr y (by simp), hr z (by simp), hr u (by simp)⟩
end Go.Proofs.Ytckeljphaeickaa
end
section
/- Structs that came in as values. No program in sight. -/
namespace Go.Proofs.Ytckeljphaeickaa
open Go.RowKit Go.WideShapes Go.ChangeShapes
theorem okWide_str {P : Program} {W : World} {r : Reach} {base : Nat} {t : TypeId} {v : Value} {fs : Sh} (hf : fitsB P (.agg fs) t = true) (hv : Value.okWide P W r base t v) : ∃ cs, v = .agg cs ∧ cs.size = P.cellsOf t := by
  unfold fitsB at hf
  split at hf
  · rename_i fl hu
    unfold Value.okWide at hv
    rw [hu] at hv
    obtain ⟨cs, h1, h2, _⟩ := hv
    exact ⟨cs, h1, h2⟩
  · cases hf
/-- Structs of ints alone. -/
def intsF : Nat → Nat → Sh
  | _, 0 => .fnil
  | i, n + 1 => .fcons i 1 (.int .i64) (intsF (i + 1) n)
theorem has_intsF {w : World} : ∀ (n i : Nat) (cs : List Value), (intsF i n).Has w cs → i + n = cs.length → ∃ zs : List Int, zs.length = n ∧ cs.drop i = zs.map (Value.int .i64) ∧ ∀ z ∈ zs, -9223372036854775808 ≤ z ∧ z ≤ 9223372036854775807
  | 0, i, cs, _, hl => ⟨[], rfl, by rw [List.drop_eq_nil_iff.2 (by omega)]; rfl, fun z hz => by cases hz⟩
  | n + 1, i, cs, h, hl => by
    obtain ⟨⟨z, hz, hw⟩, hr⟩ := h
    obtain ⟨zs, h1, h2, h3⟩ := has_intsF n (i + 1) cs hr (by omega)
    refine ⟨z :: zs, by simp [h1], ?_, fun y hy => ?_⟩
    · have hi : i < cs.length := by omega
      have h0 : cs[i]? = some (.int .i64 z) := by
        have := congrArg (·[0]?) hz
        simpa [List.getElem?_take, List.getElem?_drop] using this
      rw [List.getElem?_eq_getElem hi] at h0
      injection h0 with h0
      rw [List.drop_eq_getElem_cons hi, h0, h2]; rfl
    · rcases List.mem_cons.1 hy with rfl | hy
      · exact i64_range hw
      · exact h3 y hy
theorem open_strI {H : Type} {enc : TypeId × Value → H} {P : Program} {W : World} {r : Reach} {base : Nat} {t : TypeId} {v : Value} {d : DataW H} {p : List MemPlace} (n : Nat) (hf : fitsB P (.agg (intsF 0 n)) t = true) (hc : P.cellsOf t = n) (hv : Value.okWide P W r base t v)
    (h : DataW.Trod enc P W 0 (fun _ => true) true t v d p) : ∃ zs : List Int, zs.length = n ∧ v = .agg (zs.map (Value.int .i64)).toArray ∧ ∀ z ∈ zs, -9223372036854775808 ≤ z ∧ z ≤ 9223372036854775807 := by
  obtain ⟨cs, rfl, hs⟩ := okWide_str hf hv
  have hh := open_sh hf h
  obtain ⟨zs, h1, h2, h3⟩ := has_intsF n 0 cs.toList (by simpa [Value.cells, Sh.Has] using hh) (by simp; omega)
  refine ⟨zs, h1, ?_, h3⟩
  congr 1
  apply Array.ext'
  rw [← h2]
  simp
theorem open_str4 {H : Type} {enc : TypeId × Value → H} {P : Program} {W : World} {r : Reach} {base : Nat} {t : TypeId} {v : Value} {d : DataW H} {p : List MemPlace} (hf : fitsB P (.agg (intsF 0 4)) t = true) (hc : P.cellsOf t = 4) (hv : Value.okWide P W r base t v)
    (h : DataW.Trod enc P W 0 (fun _ => true) true t v d p) : ∃ x y z u : Int, v = .agg #[.int .i64 x, .int .i64 y, .int .i64 z, .int .i64 u] ∧ (-9223372036854775808 ≤ x ∧ x ≤ 9223372036854775807) ∧ (-9223372036854775808 ≤ y ∧ y ≤ 9223372036854775807) ∧ (-9223372036854775808 ≤ z ∧ z ≤ 9223372036854775807) ∧ -9223372036854775808 ≤ u ∧ u ≤ 9223372036854775807 := by
  obtain ⟨zs, hz, rfl, hr⟩ := open_strI 4 hf hc hv h
  match zs, hz with
  | [x, y, z, u], _ => exact ⟨x, y, z, u, rfl, hr x (by simp), hr y (by simp), hr z (by simp), hr u (by simp)⟩
end Go.Proofs.Ytckeljphaeickaa
end
section
/- Tariffs and plans that came in. No program in sight. -/
namespace Go.Proofs.Ytckeljphaeickaa
open Go.RowKit Go.WideShapes Go.ChangeShapes
def shTier : Sh := .agg (intsF 0 2)
def shTar : Sh := .agg (.fcons 0 1 (.int .i64) (.fcons 1 1 (.int .i64) (.fcons 2 1 (.int .i64) (.fcons 3 1 (.slice shTier 2) .fnil))))
def shPlan : Sh := .agg (.fcons 0 1 (.int .i64) (.fcons 1 1 (.int .i64) (.fcons 2 1 (.int .i64) (.fcons 3 4 shTar (.fcons 7 4 shTar .fnil)))))
theorem tier_elem {w : World} (cs' : List Value) (b off : Nat) (hl : cs'.length = 2) (hc : cellsAt w b off cs') (h : shTier.Has w cs') : ∃ t : Tr, cellsAt w b off (trCells t) := by
  obtain ⟨zs, h1, h2, _⟩ := has_intsF 2 0 cs' h (by omega)
  rw [List.drop_zero] at h2
  subst h2
  match zs, h1 with
  | [x, y], _ => exact ⟨⟨x, y⟩, hc⟩
/-- Tiers that came in: no more than there can be. -/
structure TsIn (w : World) (a : Option Addr) (c : Nat) (ts : List Tr) : Prop where
  at' : TsAt 0 w a ts
  cap : ts.length ≤ c
theorem has_tar {w : World} {cs : List Value} (hl : cs.length = 4) (h : shTar.Has w cs) : ∃ (t : Tar) (a : Option Addr) (c : Nat), cs = [.int .i64 t.grp, .int .i64 t.mode, .int .i64 t.block, .slice a t.ts.length c] ∧ TsIn w a c t.ts := by
  obtain ⟨⟨x, hx, _⟩, ⟨y, hy, _⟩, ⟨z, hz, _⟩, hs, _⟩ := h
  obtain ⟨ts, a, c, k1, k2, _, k3⟩ := has_rows (R := fun w b off x => cellsAt w b off (trCells x)) (by decide) tier_elem hs
  match cs, hl with
  | [v0, v1, v2, v3], _ =>
    simp at hx hy hz k1
    subst hx; subst hy; subst hz; subst k1
    exact ⟨⟨x, y, z, ts⟩, a, c, rfl, Rws.ofRows k3, k2⟩
theorem has_plan {w : World} {cs : List Value} (hl : cs.length = 11) (h : shPlan.Has w cs) :
    ∃ (p : Pl) (a a2 : Option Addr) (c c2 : Nat), Value.agg cs.toArray = planV p a c a2 c2 ∧ TsIn w a c p.base.ts ∧ TsIn w a2 c2 p.other.ts ∧ -9223372036854775808 ≤ p.day ∧ p.day ≤ 9223372036854775807 := by
  obtain ⟨⟨x, hx, wx⟩, ⟨y, hy, _⟩, ⟨z, hz, _⟩, h1, h2, _⟩ := h
  match cs, hl with
  | [v0, v1, v2, v3, v4, v5, v6, v7, v8, v9, v10], _ =>
    obtain ⟨t1, a, c, e1, k1⟩ := has_tar (by simp) h1
    obtain ⟨t2, a2, c2, e2, k2⟩ := has_tar (by simp) h2
    simp at hx hy hz e1 e2
    obtain ⟨rfl, rfl, rfl, rfl⟩ := e1
    obtain ⟨rfl, rfl, rfl, rfl⟩ := e2
    subst hx; subst hy; subst hz
    exact ⟨⟨x, y, z, t1, t2⟩, a, a2, c, c2, rfl, k1, k2, i64_range wx⟩
theorem open_plan {H : Type} {enc : TypeId × Value → H} {P : Program} {W : World} {r : Reach} {base : Nat} {t : TypeId} {v : Value} {d : DataW H} {p : List MemPlace} (hf : fitsB P shPlan t = true) (hc : P.cellsOf t = 11) (hv : Value.okWide P W r base t v) (h : DataW.Trod enc P W 0 (fun _ => true) true t v d p) :
    ∃ (q : Pl) (a a2 : Option Addr) (c c2 : Nat), v = planV q a c a2 c2 ∧ TsIn W a c q.base.ts ∧ TsIn W a2 c2 q.other.ts ∧ -9223372036854775808 ≤ q.day ∧ q.day ≤ 9223372036854775807 := by
  obtain ⟨cs, rfl, hs⟩ := okWide_str hf hv
  have hh := open_sh hf h
  obtain ⟨q, a, a2, c, c2, e, k⟩ := has_plan (cs := cs.toList) (by simp; omega) (by simpa [Value.cells] using hh)
  exact ⟨q, a, a2, c, c2, by simpa using e, k⟩
theorem open_tar {H : Type} {enc : TypeId × Value → H} {P : Program} {W : World} {r : Reach} {base : Nat} {t : TypeId} {v : Value} {d : DataW H} {p : List MemPlace} (hf : fitsB P shTar t = true) (hc : P.cellsOf t = 4) (hv : Value.okWide P W r base t v) (h : DataW.Trod enc P W 0 (fun _ => true) true t v d p) :
    ∃ (q : Tar) (a : Option Addr) (c : Nat), v = tarV q a c ∧ TsIn W a c q.ts := by
  obtain ⟨cs, rfl, hs⟩ := okWide_str hf hv
  have hh := open_sh hf h
  obtain ⟨q, a, c, e, k⟩ := has_tar (cs := cs.toList) (by simp; omega) (by simpa [Value.cells] using hh)
  refine ⟨q, a, c, ?_, k⟩
  unfold tarV
  congr 1
  apply Array.ext'
  rw [e]
end Go.Proofs.Ytckeljphaeickaa
end
section
/- Grants, and pairs of plans, that came in. No program in sight. -/
namespace Go.Proofs.Ytckeljphaeickaa
open Go.RowKit Go.WideShapes Go.ChangeShapes
theorem open_arr3 {H : Type} {enc : TypeId × Value → H} {P : Program} {W : World} {r : Reach} {base : Nat} {t : TypeId} {v : Value} {d : DataW H} {p : List MemPlace} (hf : fitsB P (.arr 3 (.int .i64) 1) t = true) (hc : P.cellsOf t = 3) (hv : Value.okWide P W r base t v)
    (h : DataW.Trod enc P W 0 (fun _ => true) true t v d p) : ∃ x y z : Int, v = .agg #[.int .i64 x, .int .i64 y, .int .i64 z] ∧ (-9223372036854775808 ≤ x ∧ x ≤ 9223372036854775807) ∧ (-9223372036854775808 ≤ y ∧ y ≤ 9223372036854775807) ∧ -9223372036854775808 ≤ z ∧ z ≤ 9223372036854775807 := by
  obtain ⟨zs, hz, rfl, hr⟩ := open_arrI 3 hf hc hv h
  match zs, hz with
  | [x, y, z], _ => exact ⟨x, y, z, rfl, hr x (by simp), hr y (by simp), hr z (by simp)⟩
def shGnt : Sh := .agg (.fcons 0 1 (.int .i64) (.fcons 1 1 (.int .i64) (.fcons 2 1 (.int .i64) (.fcons 3 1 .bool .fnil))))
theorem open_gnt {H : Type} {enc : TypeId × Value → H} {P : Program} {W : World} {r : Reach} {base : Nat} {t : TypeId} {v : Value} {d : DataW H} {p : List MemPlace} (hf : fitsB P shGnt t = true) (hc : P.cellsOf t = 4) (hv : Value.okWide P W r base t v) (h : DataW.Trod enc P W 0 (fun _ => true) true t v d p) :
    ∃ g : Gnt, v = gnV g ∧ -9223372036854775808 ≤ g.amount ∧ g.amount ≤ 9223372036854775807 := by
  obtain ⟨cs, rfl, hs⟩ := okWide_str hf hv
  obtain ⟨⟨x, hx, _⟩, ⟨y, hy, _⟩, ⟨z, hz, wz⟩, ⟨b, hb⟩, _⟩ := open_sh hf h
  obtain ⟨l⟩ := cs
  match l, (show l.length = 4 by simpa [hc] using hs) with
  | [v0, v1, v2, v3], _ =>
    simp [Value.cells] at hx hy hz hb
    subst hx; subst hy; subst hz; subst hb
    exact ⟨⟨x, y, z, b⟩, rfl, i64_range wz⟩
end Go.Proofs.Ytckeljphaeickaa
end
section
/- The law of several grants; walked. -/
namespace Go.Proofs.Ytckeljphaeickaa
open Go.RowKit Go.WideShapes Go.ChangeShapes
/-- Elements that lie in a block of M. -/
def RwsM {α : Type} (enc : α → List Value) (k : Nat) (M : List Nat) (w : World) (a : Option Addr) (xs : List α) : Prop := xs = [] ∨ ∃ b off, a = some ⟨b, off, none⟩ ∧ b ∈ M ∧ ∀ i x, xs[i]? = some x → cellsAt w b (off + i * k) (enc x)
section
variable {α : Type} {enc : α → List Value} {k n0 : Nat} {w w' : World} {M N : List Nat} {a : Option Addr} {xs : List α}
theorem RwsM.rws (h : RwsM enc k M w a xs) : Rws enc k 0 w a xs := h.elim .inl fun ⟨b, off, h1, _, h2⟩ => .inr ⟨b, off, h1, Nat.zero_le _, h2⟩
theorem RwsM.keep (h : RwsM enc k M w a xs) (hk : ∀ b ∈ M, w'.heap[b]? = w.heap[b]?) : RwsM enc k M w' a xs := by
  rcases h with h | ⟨b, off, ha, hb, h⟩
  · exact .inl h
  · exact .inr ⟨b, off, ha, hb, fun i x hx => cellsAt_keep (hk b hb) (h i x hx)⟩
theorem RwsM.mono (h : RwsM enc k M w a xs) (hs : ∀ b ∈ M, b ∈ N) : RwsM enc k N w a xs := h.elim .inl fun ⟨b, off, h1, h2, h3⟩ => .inr ⟨b, off, h1, hs b h2, h3⟩
theorem Rws.named (hk : 0 < k) (hl : ∀ x, (enc x).length = k) (h : Rws enc k n0 w a xs) : ∃ M, (∀ b ∈ M, n0 ≤ b ∧ b < w.heap.size) ∧ RwsM enc k M w a xs := by
  by_cases h0 : xs = []
  · exact ⟨[], fun b h => (by cases h), .inl h0⟩
  rcases h with h | ⟨b, off, ha, hb, h⟩
  · exact absurd h h0
  · obtain ⟨x, r, rfl⟩ := List.exists_cons_of_ne_nil h0
    have h1 := h 0 x rfl
    obtain ⟨v, r2, hv⟩ := List.exists_cons_of_ne_nil (show enc x ≠ [] from fun e => by have := hl x; rw [e] at this; simp at this; omega)
    have h2 := cellsAt_get h1 0 v (by rw [hv]; rfl)
    exact ⟨[b], fun y hy => by rw [List.mem_singleton] at hy; subst hy; exact ⟨hb, block_lt_of_cell h2⟩, .inr ⟨b, off, ha, by simp, h⟩⟩
end
/-- Plans whose tiers lie in M. -/
def PlM (w : World) (M : List Nat) (e : PlE) : Prop := RwsM trCells 2 M w e.a e.p.base.ts ∧ RwsM trCells 2 M w e.a2 e.p.other.ts ∧ e.p.base.ts.length ≤ 9 ∧ e.p.other.ts.length ≤ 9 ∧ DayIn e.p
theorem PlM.keep {w w' : World} {M : List Nat} {e : PlE} (h : PlM w M e) (hk : ∀ b ∈ M, w'.heap[b]? = w.heap[b]?) : PlM w' M e := ⟨h.1.keep hk, h.2.1.keep hk, h.2.2⟩
theorem PlM.mono {w : World} {M N : List Nat} {e : PlE} (h : PlM w M e) (hs : ∀ b ∈ M, b ∈ N) : PlM w N e := ⟨h.1.mono hs, h.2.1.mono hs, h.2.2⟩
theorem PlM.all {w : World} {M : List Nat} {es : List PlE} (h : ∀ e ∈ es, PlM w M e) : PAll w es := fun e he => by
  obtain ⟨h1, h2, h3, h4, h5⟩ := h e he
  exact ⟨⟨h1.rws, h2.rws, by omega, by omega⟩, h5⟩
/-- A plan that came in, in memory. -/
def PlIn (w : World) (b off : Nat) (e : PlE) : Prop := cellsAt w b off (plCells e) ∧ TsIn w e.a e.c e.p.base.ts ∧ TsIn w e.a2 e.c2 e.p.other.ts ∧ DayIn e.p
theorem TsIn.below {w w' : World} {a : Option Addr} {c : Nat} {ts : List Tr} (h : TsIn w a c ts) (b : Below w.heap.size w w') : TsIn w' a c ts := ⟨h.at'.below b, h.cap⟩
theorem PlIn.below {w w' : World} {b off : Nat} {e : PlE} (h : PlIn w b off e) (hb : Below w.heap.size w w') : PlIn w' b off e := ⟨cellsAt_below h.1 hb (Nat.le_refl _), h.2.1.below hb, h.2.2.1.below hb, h.2.2.2⟩
theorem pl_elem {w : World} (cs' : List Value) (b off : Nat) (hl : cs'.length = 11) (hc : cellsAt w b off cs') (h : shPlan.Has w cs') : ∃ e, PlIn w b off e := by
  obtain ⟨p, a, a2, c, c2, e1, h1, h2, h3⟩ := has_plan hl h
  refine ⟨⟨p, a, a2, c, c2⟩, ?_, h1, h2, h3⟩
  have : cs' = plCells ⟨p, a, a2, c, c2⟩ := by
    unfold planV at e1
    injection e1 with e1
    have := congrArg Array.toList e1
    simpa [plCells] using this
  rw [← this]
  exact hc
theorem open_plans {P : Program} {H : Type} {enc : TypeId × Value → H} {W : World} {t : TypeId} {v : Value} {d : DataW H} {p : List MemPlace} (hf : fitsB P (.slice shPlan 11) t = true) (hv : ∃ a l c, v = .slice a l c) (h : DataW.Trod enc P W 0 (fun _ => true) true t v d p) :
    ∃ (xs : List PlE) (a : Option Addr) (c : Nat), v = .slice a xs.length c ∧ RowsAt PlIn 11 W a xs ∧ xs.length ≤ c ∧ c ≤ maxLen := open_rows (by decide) pl_elem hf hv h
end Go.Proofs.Ytckeljphaeickaa
end
section
/- The law of several grants; walked. -/
namespace Go.Proofs.Ytckeljphaeickaa
open Go.RowKit
/-- What is appended to, is one's own; and where it lies then. -/
theorem appB2 {P : Program} {gs : List Nat} {w0 w : World} {e : TypeId} {size bytes n1 n c m : Nat} {tx : TypeId} {a : Option Addr} {x : Value} {xs news : List Value} {K : Nat → Option Addr → Nat → World → Prop}
    (B : Bs w0 w) (o : Own w n1 e size (.slice a n c) n xs) (hn1 : w0.heap.size ≤ n1) (hn2 : n1 ≤ w.heap.size) (s : Src P size tx x m news w) (h1 : n + m ≤ maxLen) (h2 : (n + m) * bytes ≤ 140737488355328)
    (hg : ∀ g ∈ gs, (Value.slice a n c).ownBlock ≠ some g)
    (k : ∀ a' c' w1, Own w1 n1 e size (.slice a' (n + m) c') (n + m) (xs ++ news) → w.grownBy w1 (Value.slice a n c).ownBlock → Bs w0 w1 → w.heap.size ≤ w1.heap.size → ((Value.slice a' (n + m) c').ownBlock = (Value.slice a n c).ownBlock ∨ ∃ g, (Value.slice a' (n + m) c').ownBlock = some g ∧ w.heap.size ≤ g) → K m a' c' w1) :
    appO P gs w e size bytes tx a n c x K := by
  refine ⟨m, xs, news, o.base_le fun _ _ => Nat.zero_le _, s, h1, h2, hg, fun a' c' w1 o1 g1 or1 _ => k a' c' w1 (o1.base_le fun q hq => ?_) g1 ?_ g1.size or1⟩
  · rcases or1 with h | ⟨g, h, h3⟩
    · exact (o.lt q (h ▸ hq)).1
    · rw [h] at hq; injection hq with hq; omega
  · exact ⟨g1.os.trans B.os, g1.tape.trans B.tape, g1.output.trans B.output, Nat.le_trans B.size g1.size, fun q hq => (g1.block q (by have := B.size; omega) fun e => by have := (o.lt q e.symm).1; omega).trans (B.block q hq)⟩
/-- Both lists of plans, and where their tiers lie. -/
structure GLoop (w wx : World) (ts : List PlE) (a7 : Option Addr) (c7 : Nat) (a8 : Option Addr) (c8 : Nat) : Prop where
  ow : Own wx w.heap.size 53 11 (.slice a8 ts.length c8) ts.length (ts.flatMap plCells)
  oi : Own wx w.heap.size 59 11 (.slice a7 ts.length c7) ts.length (ts.flatMap plCells)
  m : ∃ M, (∀ e ∈ ts, PlM wx M e) ∧ ∀ b ∈ M, b < wx.heap.size ∧ (Value.slice a8 ts.length c8).ownBlock ≠ some b ∧ (Value.slice a7 ts.length c7).ownBlock ≠ some b
  bs : Bs w wx
theorem total_amts : ∀ gs : List Gnt, total (amtsG gs) = sumG gs
  | [] => rfl
  | g :: r => by
    have key : ∀ (z : Int) (zs : List Int), total (z :: zs) = z + total zs := total_cons
    unfold amtsG
    rw [List.map_cons, key]
    show _ + total (amtsG r) = _
    rw [total_amts r]; rfl
theorem ntypes : (53 : Nat) ≠ 59 := by decide
set_option maxRecDepth 10000 in
theorem gloop_step {w wx : World} {ts : List PlE} {a7 a8 : Option Addr} {c7 c8 : Nat} (h : GLoop w wx ts a7 c7 a8 c8) (hl : ts.length < 6) (e : PlE) (he : TsIn wx e.a e.c e.p.base.ts ∧ TsIn wx e.a2 e.c2 e.p.other.ts ∧ DayIn e.p) {K : Nat → Nat → Option Addr → Nat → Option Addr → Nat → World → Prop}
    (k : ∀ (e' : PlE) a7' c7' a8' c8' w8, GLoop w w8 (ts ++ [e']) a7' c7' a8' c8' → K 1 1 a7' c7' a8' c8' w8) :
    Calls Try.prog 21 #[planV e.p e.a e.c e.a2 e.c2] wx fun r w3 => KeepG [] wx w3 ∧ ∃ (x0 x1 x2 x3 x4 x5 : Int) (a6 : Option Addr) (n6 c6 : Nat) (x7 x8 x9 : Int) (a10 : Option Addr) (n10 c10 : Nat),
      r = .returned (.agg #[.int .i64 x0, .int .i64 x1, .int .i64 x2, .int .i64 x3, .int .i64 x4, .int .i64 x5, .slice a6 n6 c6, .int .i64 x7, .int .i64 x8, .int .i64 x9, .slice a10 n10 c10]) ∧
      newO w3 (.cells #[.int .i64 x0, .int .i64 x1, .int .i64 x2, .int .i64 x3, .int .i64 x4, .int .i64 x5, .slice a6 n6 c6, .int .i64 x7, .int .i64 x8, .int .i64 x9, .slice a10 n10 c10] 53) fun g w4 =>
      appO Try.prog [] w4 53 11 120 90 a8 ts.length c8 (.slice (some ⟨g, 0, none⟩) 1 1) fun m32 a32 c32 w5 =>
      withP a32 fun g36 o36 =>
      (0 : Int) ≤ ((ts.length : Nat) : Int) ∧ ((ts.length : Nat) : Int) < (((ts.length + m32 : Nat) : Int) : Int) ∧
      ∃ (x0 x1 x2 x3 x4 x5 : Int) (a6 : Option Addr) (n6 c6 : Nat) (x7 x8 x9 : Int) (a10 : Option Addr) (n10 c10 : Nat),
      cellsAt w5 g36 (o36 + (((ts.length : Nat) : Int)).toNat * 11) [.int .i64 x0, .int .i64 x1, .int .i64 x2, .int .i64 x3, .int .i64 x4, .int .i64 x5, .slice a6 n6 c6, .int .i64 x7, .int .i64 x8, .int .i64 x9, .slice a10 n10 c10] ∧
      Calls Try.prog 23 #[.agg #[.int .i64 x0, .int .i64 x1, .int .i64 x2, .int .i64 x3, .int .i64 x4, .int .i64 x5, .slice a6 n6 c6, .int .i64 x7, .int .i64 x8, .int .i64 x9, .slice a10 n10 c10]] w5 fun r w6 => KeepG [] w5 w6 ∧ ∃ (x0 x1 x2 x3 x4 x5 : Int) (a6 : Option Addr) (n6 c6 : Nat) (x7 x8 x9 : Int) (a10 : Option Addr) (n10 c10 : Nat),
      r = .returned (.agg #[.int .i64 x0, .int .i64 x1, .int .i64 x2, .int .i64 x3, .int .i64 x4, .int .i64 x5, .slice a6 n6 c6, .int .i64 x7, .int .i64 x8, .int .i64 x9, .slice a10 n10 c10]) ∧
      newO w6 (.cells #[.int .i64 x0, .int .i64 x1, .int .i64 x2, .int .i64 x3, .int .i64 x4, .int .i64 x5, .slice a6 n6 c6, .int .i64 x7, .int .i64 x8, .int .i64 x9, .slice a10 n10 c10] 59) fun g w7 =>
      appO Try.prog [] w7 59 11 120 88 a7 ts.length c7 (.slice (some ⟨g, 0, none⟩) 1 1) fun m40 a40 c40 w8 => K m32 m40 a40 c40 a32 c32 w8 := by
  obtain ⟨hW, hI, ⟨M, hM, hMb⟩, B⟩ := h
  refine callQ B (tame_new e.p e.a e.a2 e.c e.c2 wx he.1.at' he.2.1.at' he.1.cap he.2.1.cap) ?_
  rintro r w3 ⟨a', c', b', d', rfl, h1, h2⟩ b3 B3
  obtain ⟨M1, hM1, h1⟩ := Rws.named (by decide) tr_len h1
  obtain ⟨M2, hM2, h2⟩ := Rws.named (by decide) tr_len h2
  refine ⟨_, _, _, _, _, _, _, _, _, _, _, _, _, _, _, rfl, newB B3 fun g w4 g0 sg n4 z4 b4 B4 => ?_⟩
  have b3s := b3.size
  have kW := fun k hk => hW.lt k hk
  have kI := fun k hk => hI.lt k hk
  have hW4 := (hW.below b3 (Nat.le_refl _)).below b4 (Nat.le_refl _)
  have hI4 := (hI.below b3 (Nat.le_refl _)).below b4 (Nat.le_refl _)
  let e' : PlE := ⟨tameP e.p, a', b', c', d'⟩
  have he' : PlM w4 (M1 ++ M2) e' := ⟨(h1.keep fun b hb => b4.block b (hM1 b hb).2).mono (by simp +contextual), (h2.keep fun b hb => b4.block b (hM2 b hb).2).mono (by simp +contextual), take9 _, take9 _, he.2.2⟩
  have hM4 : ∀ x ∈ ts, PlM w4 M x := fun x hx => (hM x hx).keep fun b hb => (b4.block b (by have := (hMb b hb).1; omega)).trans (b3.block b (hMb b hb).1)
  have nu : ∀ b ∈ M1 ++ M2, wx.heap.size ≤ b ∧ b < w3.heap.size := fun b hb => (List.mem_append.1 hb).elim (hM1 b) (hM2 b)
  have s4 : Src Try.prog 11 90 (.slice (some ⟨g, 0, none⟩) 1 1) 1 (plCells e') w4 := src_block (n := 1) (size := 11) Try.underlying90 n4 rfl rfl
  refine appB2 B4 hW4 (Nat.le_refl _) B4.size s4 (by unfold maxLen; omega) (by omega) (by simp) fun a32 c32 w5 o5 g5 B5 z5 or5 => ?_
  have o5' : Own w5 w.heap.size 53 11 (.slice a32 (ts ++ [e']).length c32) (ts ++ [e']).length ((ts ++ [e']).flatMap plCells) := by
    rw [List.length_append, List.flatMap_append]
    simpa using o5
  have hI5 := hI4.kept g5 ((Own.ne_of_type hI4 hW4 (fun h => ntypes h.symm)))
  have keep5 : ∀ b ∈ M ++ (M1 ++ M2), w5.heap[b]? = w4.heap[b]? := fun b hb => by
    rcases List.mem_append.1 hb with hb | hb
    · exact g5.block b (by have := (hMb b hb).1; omega) fun h => (hMb b hb).2.1 h.symm
    · exact g5.block b (by have := (nu b hb).2; omega) fun h => by have := (kW b h.symm).2; have := (nu b hb).1; omega
  have far5 : ∀ b ∈ M ++ (M1 ++ M2), b < w5.heap.size ∧ (Value.slice a32 (ts ++ [e']).length c32).ownBlock ≠ some b := fun b hb => by
    have hlt : b < w4.heap.size := (List.mem_append.1 hb).elim (fun h => by have := (hMb b h).1; omega) fun h => by have := (nu b h).2; omega
    refine ⟨by omega, fun h => ?_⟩
    have ho : (Value.slice a32 (ts ++ [e']).length c32).ownBlock = (Value.slice a32 (ts.length + 1) c32).ownBlock := by cases a32 <;> rfl
    rw [ho] at h
    rcases or5 with q | ⟨y, q, hy⟩
    · rw [q] at h
      rcases List.mem_append.1 hb with hb | hb
      · exact (hMb b hb).2.1 h
      · have := (kW b h).2
        have := (nu b hb).1
        omega
    · rw [q] at h; injection h with h; omega
  obtain ⟨b5, off5, ha5, hc5⟩ := (Rws.ofOwn (by decide) pl_len o5').get (i := ts.length) (by simp)
  subst ha5
  have hgt : (ts ++ [e'])[ts.length]'(by simp) = e' := by simp
  rw [hgt] at hc5
  refine ⟨by omega, by omega, _, _, _, _, _, _, _, _, _, _, _, _, _, _, _, by rw [Int.toNat_natCast]; exact hc5, callB B5 (to_ret e'.p e'.a e'.a2 e'.c e'.c2 w5) fun w6 b6 B6 => ⟨_, _, _, _, _, _, _, _, _, _, _, _, _, _, _, rfl, newB B6 fun g' w7 g0' sg' n7 z7 b7 B7 => ?_⟩⟩
  have b6s := b6.size
  have hI7 := (hI5.below b6 (Nat.le_refl _)).below b7 (Nat.le_refl _)
  have hW7 := (o5'.below b6 (Nat.le_refl _)).below b7 (Nat.le_refl _)
  have s7 : Src Try.prog 11 88 (.slice (some ⟨g', 0, none⟩) 1 1) 1 (plCells e') w7 := src_block (n := 1) (size := 11) Try.underlying88 n7 rfl rfl
  refine appB2 B7 hI7 (Nat.le_refl _) B7.size s7 (by unfold maxLen; omega) (by omega) (by simp) fun a40 c40 w8 o8 g8 B8 z8 or8 => ?_
  have o8' : Own w8 w.heap.size 59 11 (.slice a40 (ts ++ [e']).length c40) (ts ++ [e']).length ((ts ++ [e']).flatMap plCells) := by
    rw [List.length_append, List.flatMap_append]
    simpa using o8
  have keep8 : ∀ b ∈ M ++ (M1 ++ M2), w8.heap[b]? = w4.heap[b]? := fun b hb => by
    have h5 := (far5 b hb).1
    refine ((g8.block b (by omega) fun h => ?_).trans ((b7.block b (by omega)).trans (b6.block b h5))).trans (keep5 b hb)
    rcases List.mem_append.1 hb with hb | hb
    · exact (hMb b hb).2.2 h.symm
    · have := (kI b h.symm).2
      have := (nu b hb).1
      omega
  refine k e' a40 c40 _ c32 w8 ⟨hW7.kept g8 (Own.ne_of_type hW7 hI7 ntypes), o8', ⟨M ++ (M1 ++ M2), fun x hx => ?_, fun b hb => ?_⟩, B8⟩
  · rcases List.mem_append.1 hx with hx | hx
    · exact ((hM4 x hx).mono (by simp +contextual)).keep keep8
    · rw [List.mem_singleton] at hx; subst hx
      exact (he'.mono (by simp +contextual)).keep keep8
  · obtain ⟨f1, f2⟩ := far5 b hb
    refine ⟨by omega, f2, fun h => ?_⟩
    have ho : (Value.slice a40 (ts ++ [e']).length c40).ownBlock = (Value.slice a40 (ts.length + 1) c40).ownBlock := by cases a40 <;> rfl
    rw [ho] at h
    rcases or8 with q | ⟨y, q, hy⟩
    · rw [q] at h
      rcases List.mem_append.1 hb with hb | hb
      · exact (hMb b hb).2.2 h
      · have := (kI b h).2
        have := (nu b hb).1
        omega
    · rw [q] at h; injection h with h; omega
theorem GLoop.len7 {w wx : World} {ts : List PlE} {a7 a8 : Option Addr} {c7 c8 : Nat} (h : GLoop w wx ts a7 c7 a8 c8) : ts.length ≤ c7 := (Own.cap h.oi).1
theorem row_take {w : World} {a : Option Addr} {ns : List Int} (h : RowAt w a (ns.map iV)) (k : Nat) : RowAt w a ((ns.take k).map iV) := by
  have := h.take k
  rwa [← List.map_take] at this
theorem manyE_cr {ps : List Pl} {cr : Int} {ns : List Int} (h : manyE ps cr ns = 0) : 0 ≤ cr := by
  unfold manyE at h
  split at h
  · cases h
  · rename_i hg
    by_cases h0 : 0 ≤ cr
    · exact h0
    · have hl : ps.length = ns.length := Decidable.byContradiction fun k => hg (.inr (.inl k))
      have h1 : 1 ≤ ps.length := Decidable.byContradiction fun k => hg (.inl (by omega))
      rw [if_pos (m_neg (by omega) hl (by omega))] at h
      cases h
theorem manyG_facts (ps : List Pl) (cr : Int) (ns : List Int) : (manyG ps cr ns).length ≤ 1000 ∧ ints (amtsG (manyG ps cr ns)) ∧ (manyE ps cr ns = 0 → heldZ (amtsG (manyG ps cr ns)) ≤ cr) := by
  by_cases h : manyE ps cr ns = 0
  · have hc := manyE_cr h
    have hG : manyG ps cr ns = mGo ps ns cr := by unfold manyG; rw [if_pos h]
    obtain ⟨s1, s2, s3, _, _⟩ := m_sum ps ns cr hc
    have hlen : ps.length ≤ 4 ∧ ps.length = ns.length := by
      unfold manyE at h
      split at h
      · cases h
      · rename_i hg
        exact ⟨Decidable.byContradiction fun k => hg (.inl (by omega)), Decidable.byContradiction fun k => hg (.inr (.inl k))⟩
    rw [hG]
    refine ⟨by rw [(m_len ps ns cr hlen.2).1]; omega, fun z hz => ?_, fun _ => ?_⟩
    · obtain ⟨g, hg, rfl⟩ := List.mem_map.1 hz
      have := s3 g hg
      omega
    · unfold heldZ
      rw [total_amts]
      split <;> omega
  · have hG : manyG ps cr ns = [] := by unfold manyG; rw [if_neg h]
    rw [hG]
    exact ⟨by simp, fun z hz => (by cases hz), fun k => absurd k h⟩
set_option maxRecDepth 10000 in
theorem gmany_walk (a a2 : Option Addr) (c c2 : Nat) (xs : List PlE) (ns : List Int) (cr : Int) (w : World) (h : RowsAt PlIn 11 w a xs) (hx : xs.length ≤ maxLen) (hn : RowAt w a2 (ns.map iV)) (hc2 : ns.length ≤ c2) (hcr : cr ≤ 9223372036854775807) :
    Calls Try.prog 9 #[.slice a xs.length c, .int .i64 cr, .slice a2 ns.length c2] w (Ret (.bool true) w) := by
  refine ret_in (GGrant.gmany_calls a xs.length c cr a2 ns.length c2 w (fun u w' => u = .bool true ∧ Below w.heap.size w w') ?_)
  unfold GGrant.gmany_vc
  unfold maxLen at hx
  refine ⟨fun a7 n7 c7 a8 n8 c8 wx => ∃ ts : List PlE, n7 = ts.length ∧ n8 = ts.length ∧ ts.length ≤ 6 ∧ GLoop w wx ts a7 c7 a8 c8, ?_, ?_⟩
  · refine ⟨fun a7 n7 c7 a8 n8 c8 x wx => ∃ ts : List PlE, x = (ts.length : Int) ∧ n7 = ts.length ∧ n8 = ts.length ∧ ts.length ≤ 6 ∧ GLoop w wx ts a7 c7 a8 c8, fun _ _ _ _ _ _ x _ => 6 - x.toNat, ⟨[], rfl, rfl, rfl, by simp, ⟨Own.nil _ _ _ _, Own.nil _ _ _ _, ⟨[], fun e he => (by cases he), fun b hb => (by cases hb)⟩, Bs.refl _⟩⟩, ?_⟩
    rintro a7 n7 c7 a8 n8 c8 x wx ⟨ts, rfl, rfl, rfl, h6, hL⟩
    refine br_dec (fun hlt => br_dec (fun hl6 => ?_) fun _ => ⟨ts, rfl, rfl, h6, hL⟩) fun _ => ⟨ts, rfl, rfl, h6, hL⟩
    have hil : ts.length < xs.length := by omega
    obtain ⟨b, off, rfl, hp⟩ := RowsAt.get (RowsAt.mono h fun b off x hx => hx.below hL.bs) hil
    refine ⟨by omega, by omega, _, _, _, _, _, _, _, _, _, _, _, _, _, _, _, by rw [Int.toNat_natCast]; exact hp.1, ?_⟩
    refine gloop_step hL (by omega) xs[ts.length] hp.2 fun e' a7' c7' a8' c8' w8 hL' => ?_
    rw [wr64 (by omega) (by omega)]
    have hl' : (ts ++ [e']).length = ts.length + 1 := by simp
    exact ⟨⟨ts ++ [e'], by rw [hl']; push_cast; rfl, hl'.symm, hl'.symm, by omega, hL'⟩, by dsimp only; omega⟩
  rintro a7 n7 c7 a8 n8 c8 wx ⟨ts, rfl, rfl, h6, hL⟩
  have B := hL.bs
  have Bsz := B.size
  have hlen6 : (min ((ns.length : Nat) : Int) 6).toNat = (ns.take 6).length := by rw [List.length_take]; omega
  have hl6 : (ns.take 6).length ≤ 6 := by rw [List.length_take]; omega
  refine newB B fun g w10 g0 sg n10 z10 b10 B10 => ⟨by omega, by omega, ?_⟩
  rw [hlen6]
  have o10 : Own w10 wx.heap.size 3 1 (.slice (some ⟨g, 0, none⟩) 0 0) 0 [] := (own_empty 1 n10).base_le fun k hk => by simp [Value.ownBlock] at hk; omega
  have hrow := row_take (hn.below B10 (Nat.le_refl _)) 6
  have hsrc := Src.ofRow (P := Try.prog) Try.underlying23 a2 c2 ((ns.take 6).map iV) hrow one_iV
  rw [List.length_map] at hsrc
  refine appB B10 o10 B.size (by omega) hsrc (by unfold maxLen; omega) (by omega) (by simp) fun a47 c47 w11 o11 g11 B11 z11 => ?_
  rw [Nat.zero_add] at o11 ⊢
  rw [List.nil_append] at o11
  have kp : ∀ b, b < wx.heap.size → w11.heap[b]? = wx.heap[b]? := fun b hb => (g11.block b (by omega) (by simp [Value.ownBlock]; omega)).trans (b10.block b hb)
  obtain ⟨M, hM, hMb⟩ := hL.m
  have pl7 : PlsAt w.heap.size w11 a7 ts := Rws.ofOwn (by decide) pl_len (hL.oi.keep fun k hk => kp k (hL.oi.lt k hk).2)
  have pl8 : PlsAt w.heap.size w11 a8 ts := Rws.ofOwn (by decide) pl_len (hL.ow.keep fun k hk => kp k (hL.ow.lt k hk).2)
  have hall : PAll w11 ts := PlM.all (M := M) fun e he => (hM e he).keep fun b hb => kp b (hMb b hb).1
  have hin7 : ManyIn w11 a7 a47 ts (ns.take 6) := ⟨pl7.low (Nat.zero_le _), hall, by omega, o11.row⟩
  have hin8 : ManyIn w11 a8 a47 ts (ns.take 6) := ⟨pl8.low (Nat.zero_le _), hall, by omega, o11.row⟩
  obtain ⟨f1, f2, f3⟩ := manyG_facts (psOf ts) cr (ns.take 6)
  refine callQ B11 (many_new a7 a47 c7 c47 ts (ns.take 6) cr w11 hin7 hL.len7 hcr) ?_
  rintro e w12 ⟨a12, c12, rfl, g12⟩ b12 B12
  refine ⟨_, _, _, _, rfl, callQ B12 (rmany_new a8 a47 c8 c47 ts (ns.take 6) cr w12 (hin8.to b12) hcr) ?_⟩
  rintro e w13 ⟨a13, c13, rfl, g13⟩ b13 B13
  refine ⟨_, _, _, _, rfl, callB B13 (grants_ret w13) fun w14 b14 B14 => ⟨_, rfl, br_f rfl (br_n (by simp) (br_n (by simp) ?_))⟩⟩
  have ga : GsAt 0 w14 a12 (manyG (psOf ts) cr (ns.take 6)) := ((g12.below b13).below b14).low (Nat.zero_le _)
  have gb : GsAt 0 w14 a13 (manyG (psOf ts) cr (ns.take 6)) := (g13.below b14).low (Nat.zero_le _)
  generalize manyG (psOf ts) cr (ns.take 6) = G at *
  generalize manyE (psOf ts) cr (ns.take 6) = E at *
  refine ⟨fun x wy => ∃ i : Nat, x = i ∧ i ≤ G.length ∧ Bs w14 wy, fun x _ => G.length - x.toNat, ⟨0, rfl, by omega, Bs.refl _⟩, ?_⟩
  rintro x wy ⟨i, rfl, hi, C⟩
  refine br_dec (fun hlt => drewB C fun w16 b16 C16 _ => ?_) fun hge => ?_
  · have hil : i < G.length := by omega
    obtain ⟨b, off, rfl, hc⟩ := (ga.below C16).get hil
    obtain ⟨b', off', rfl, hc'⟩ := (gb.below C16).get hil
    refine ⟨by omega, by omega, _, _, _, _, by rw [Int.toNat_natCast]; exact hc, by omega, by omega, _, _, _, _, by rw [Int.toNat_natCast]; exact hc', callB C16 (like_ret G[i] w16) fun w17 b17 C17 => ⟨_, rfl, br_f rfl ?_⟩⟩
    rw [wr64 (by omega) (by omega)]
    exact ⟨⟨i + 1, by omega, by omega, C17⟩, by dsimp only; omega⟩
  · refine callB C (held_ret a12 c12 G wy (ga.below C) f1 f2) fun w18 b18 C18 => ⟨_, rfl, callB C18 (rheld_ret a13 c13 G w18 (gb.below C18) f1 f2) fun w19 b19 C19 => ⟨_, rfl, br_y rfl (br_dec (fun he => ⟨rfl, B14.to C19⟩) fun he => callB C19 (held_ret a12 c12 G w19 (ga.below C19) f1 f2) fun w20 b20 C20 => ⟨_, rfl, ?_, B14.to C20⟩)⟩⟩
    rw [decide_eq_true (f3 (Decidable.not_not.1 he))]
end Go.Proofs.Ytckeljphaeickaa
end
section
/- The law of the order of two grants; walked. Printed by gen_order.py. -/
namespace Go.Proofs.Ytckeljphaeickaa
open Go.RowKit
theorem gOf_9 {p : Pl} {cr want : Int} (h : makeE p cr want = 9) : gOf p cr want = ⟨p.base.grp, 0, 0, true⟩ := by unfold gOf; rw [if_pos h]
theorem gOf_0 {p : Pl} {cr want : Int} (h : makeE p cr want = 0) : gOf p cr want = makeG p cr want := by unfold gOf; rw [if_neg (by rw [h]; decide)]
theorem makeE_9' {p : Pl} {cr want : Int} (h : makeE p cr want ≠ 1) (h0 : makeE p cr want ≠ 0) : makeE p cr want = 9 := by exact ((makeE_cases p cr want).resolve_left h0).resolve_right h
theorem Rws.two {α : Type} {enc : α → List Value} {k n0 : Nat} {w wb wc wd : World} {a : Option Addr} {xs : List α} {g g' : Nat} (h : Rws enc k n0 w a xs) (hb : Below w.heap.size w wb) (h1 : BoxSt g wb wc) (h2 : BoxSt g' wc wd) (hg : g < n0 ∨ w.heap.size ≤ g) (hg' : g' < n0 ∨ w.heap.size ≤ g') : Rws enc k n0 wd a xs := h.keep fun b k1 k2 => by
  have z := hb.size
  have z1 := h1.2
  exact ((h2.1.block b (by omega) (by rw [List.mem_singleton]; omega)).trans (h1.1.block b (by omega) (by rw [List.mem_singleton]; omega))).trans (hb.block b k2)
set_option maxRecDepth 20000
theorem ord_k1 {w w17 w35 : World} (q1 q2 : Pl) (n1 n2 cr : Int) (a9 : Option Addr) (g : Nat) (R : GsAt 0 w17 a9 [gOf q1 cr n1, (gOf q2 (cr - (gOf q1 cr n1).amount) n2)]) (B : Bs w w17) (C : Bs w17 w35) (hg : w17.heap.size ≤ g) (h2 : makeE q2 (cr - (gOf q1 cr n1).amount) n2 ≠ 1) (h0 : makeE q1 cr n1 = 0 ∨ makeE q2 (cr - (gOf q1 cr n1).amount) n2 = 0) (hc : 0 ≤ cr) :
    GGrantO.gorder_k1 (fun u w' => u = .bool true ∧ Below w.heap.size w w') q2.base.grp a9 2 (makeE q1 cr n1) (cr - (gOf q1 cr n1).amount) (gOf q1 cr n1).grp (gOf q1 cr n1).units (gOf q1 cr n1).amount (gOf q1 cr n1).fin (makeE q2 (cr - (gOf q1 cr n1).amount) n2) g (makeG q2 (cr - (gOf q1 cr n1).amount) n2).grp (makeG q2 (cr - (gOf q1 cr n1).amount) n2).units (makeG q2 (cr - (gOf q1 cr n1).amount) n2).amount (makeG q2 (cr - (gOf q1 cr n1).amount) n2).fin w35 := by
  unfold GGrantO.gorder_k1
  have ha := gOf_amount (p := q1) (want := n1) hc
  refine ⟨fun x y z b wx => (⟨x, y, z, b⟩ : Gnt) = (gOf q2 (cr - (gOf q1 cr n1).amount) n2) ∧ Bs w17 wx, br_dec (fun k => boxB C hg fun w36 h36 B36 _ => ⟨(gOf_9 (makeE_9' h2 k)).symm, B36⟩) fun k => ⟨(gOf_0 (Decidable.not_not.1 k)).symm, C⟩, ?_⟩
  rintro x y z b w37 ⟨hG, C37⟩
  rw [← hG] at R
  generalize gOf q1 cr n1 = G1 at *
  refine drewB C37 fun w38 b38 C38 _ => br_y rfl ?_
  have R38 := R.below C38
  rcases R38 with R38 | ⟨b0, off, rfl, _, hr⟩
  · cases R38
  have r0 := hr 0 _ rfl
  have r1 := hr 1 _ rfl
  refine ⟨by decide, by decide, _, _, _, _, r0, br_t (by simp) ⟨by decide, by decide, _, _, _, _, r1, br_t (by simp) ?_⟩⟩
  have hz : Value.bool (decide (cr - G1.amount ≥ 0)) = .bool true := by rw [decide_eq_true (by omega)]
  exact br_dec (fun _ => ⟨hz, B.to C38⟩) fun k => br_y (h0.resolve_left k) ⟨hz, B.to C38⟩
theorem ord_k2 {w w17 w27 : World} (q1 q2 : Pl) (u2 v2 : Option Addr) (c2 d2 : Nat) (n1 n2 cr : Int) (a9 : Option Addr) (gs2 gs3 gs4 gs5 g : Nat) (hq2 : PlAt w17 q2 u2 v2) (hd2 : DayIn q2) (R : GsAt 0 w17 a9 [gOf q1 cr n1, (gOf q2 (cr - (gOf q1 cr n1).amount) n2)]) (B : Bs w w17) (C : Bs w17 w27) (hg : w17.heap.size ≤ g) (h1 : makeE q1 cr n1 ≠ 1) (h2 : makeE q2 (cr - (gOf q1 cr n1).amount) n2 ≠ 1) (h0 : makeE q1 cr n1 = 0 ∨ makeE q2 (cr - (gOf q1 cr n1).amount) n2 = 0) (hc : 0 ≤ cr) (hcr : cr ≤ 9223372036854775807) :
    GGrantO.gorder_k2 (fun u w' => u = .bool true ∧ Below w.heap.size w w') cr n2 gs2 gs3 gs4 q2.day q2.frm q2.til q2.base.grp q2.base.mode q2.base.block u2 q2.base.ts.length c2 q2.other.grp q2.other.mode q2.other.block v2 q2.other.ts.length d2 gs5 q1.base.grp a9 2 (makeE q1 cr n1) g (makeG q1 cr n1).grp (makeG q1 cr n1).units (makeG q1 cr n1).amount (makeG q1 cr n1).fin w27 := by
  unfold GGrantO.gorder_k2
  have ha := gOf_amount (p := q1) (want := n1) hc
  refine ⟨fun x13 x y z b wx => x13 = (cr - (gOf q1 cr n1).amount) ∧ (⟨x, y, z, b⟩ : Gnt) = gOf q1 cr n1 ∧ Bs w17 wx, br_dec (fun k => ⟨by rw [← gOf_0 k, wr64 (by omega) (by omega)], (gOf_0 k).symm, C⟩) fun k => boxB C hg fun w28 h28 B28 _ => ⟨by rw [gOf_9 (makeE_9' h1 k)]; exact (Int.sub_zero _).symm, (gOf_9 (makeE_9' h1 k)).symm, B28⟩, ?_⟩
  rintro x13 x y z b w29 ⟨rfl, hG, C29⟩
  have fx : x = (gOf q1 cr n1).grp ∧ y = (gOf q1 cr n1).units ∧ z = (gOf q1 cr n1).amount ∧ b = (gOf q1 cr n1).fin := by rw [← hG]; exact ⟨rfl, rfl, rfl, rfl⟩
  obtain ⟨rfl, rfl, rfl, rfl⟩ := fx
  have hcr2 : (cr - (gOf q1 cr n1).amount) ≤ 9223372036854775807 := by omega
  have fin := fun g' (hg' : w17.heap.size ≤ g') wz (Cz : Bs w17 wz) => ord_k1 q1 q2 n1 n2 cr a9 g' R B Cz hg' h2 h0 hc
  refine drewB C29 fun w30 b30 C30 _ => ⟨?_, ?_⟩
  · refine callB C30 (to_ret q2 u2 v2 c2 d2 w30) fun w31 b31 C31 => ⟨_, _, _, _, _, _, _, _, _, _, _, _, _, _, _, rfl, ?_, ?_⟩
    · exact callB C31 (make_ret q2 u2 v2 c2 d2 _ n2 w31 (hq2.to C31) hd2 hcr2) fun w32 b32 C32 => ⟨_, _, _, _, _, rfl, newB C32 fun g' w33 g0' sg' n33 z33 b33 C33 => boxB C33 g0' fun w34 h34 C34 _ => fin g' g0' w34 C34⟩
    · exact newB C31 fun g' w41 g0' sg' n33 z33 b33 C41 => callB C41 (make_ret q2 u2 v2 c2 d2 _ n2 w41 (hq2.to C41) hd2 hcr2) fun w42 b42 C42 => ⟨_, _, _, _, _, rfl, boxB C42 g0' fun w43 h43 C43 _ => fin g' g0' w43 C43⟩
  · exact newB C30 fun g' w44 g0' sg' n33 z33 b33 C44 => callB C44 (to_ret q2 u2 v2 c2 d2 w44) fun w45 b45 C45 => ⟨_, _, _, _, _, _, _, _, _, _, _, _, _, _, _, rfl, callB C45 (make_ret q2 u2 v2 c2 d2 _ n2 w45 (hq2.to C45) hd2 hcr2) fun w46 b46 C46 => ⟨_, _, _, _, _, rfl, boxB C46 g0' fun w47 h47 C47 _ => fin g' g0' w47 C47⟩⟩
theorem ord_k3 {w w18 : World} (q1 q2 : Pl) (u1 v1 u2 v2 : Option Addr) (c1 d1 c2 d2 : Nat) (n1 n2 cr : Int) (a9 : Option Addr) (gs2 gs3 gs4 gs5 : Nat) (hq1 : PlAt w18 q1 u1 v1) (hd1 : DayIn q1) (hq2 : PlAt w18 q2 u2 v2) (hd2 : DayIn q2) (R : GsAt 0 w18 a9 (manyG [q1, q2] cr [n1, n2])) (B : Bs w w18) (hcr : cr ≤ 9223372036854775807) :
    GGrantO.gorder_k3 (fun u w' => u = .bool true ∧ Below w.heap.size w w') cr n1 n2 gs2 gs3 gs4 q2.day q2.frm q2.til q2.base.grp q2.base.mode q2.base.block u2 q2.base.ts.length c2 q2.other.grp q2.other.mode q2.other.block v2 q2.other.ts.length d2 gs5 q1.day q1.frm q1.til q1.base.grp q1.base.mode q1.base.block u1 q1.base.ts.length c1 q1.other.grp q1.other.mode q1.other.block v1 q1.other.ts.length d1 a9 (manyG [q1, q2] cr [n1, n2]).length (manyE [q1, q2] cr [n1, n2]) w18 := by
  unfold GGrantO.gorder_k3
  refine callB (Bs.refl w18) (grants_ret w18) fun w19 b19 C19 => ⟨_, rfl, br_f rfl (br_dec (fun hE => ?_) fun hE => ?_)⟩
  · have : manyG [q1, q2] cr [n1, n2] = [] := by unfold manyG; rw [if_neg hE]
    rw [this]
    exact callB C19 (grants_ret w19) fun w21 b21 C21 => ⟨_, rfl, br_t rfl ⟨rfl, B.to C21⟩⟩
  have hE := Decidable.not_not.1 hE
  have hM : manyG [q1, q2] cr [n1, n2] = [gOf q1 cr n1, (gOf q2 (cr - (gOf q1 cr n1).amount) n2)] := by unfold manyG; rw [if_pos hE]; rfl
  have hm : mEs [q1, q2] [n1, n2] cr = [makeE q1 cr n1, makeE q2 (cr - (gOf q1 cr n1).amount) n2] := rfl
  have h01 : 1 ∉ mEs [q1, q2] [n1, n2] cr ∧ 0 ∈ mEs [q1, q2] [n1, n2] cr := by
    unfold manyE at hE
    split at hE
    · cases hE
    · split at hE
      · cases hE
      · rename_i k
        split at hE
        · rename_i k2; exact ⟨k, k2⟩
        · cases hE
  rw [hm] at h01
  have h1 : makeE q1 cr n1 ≠ 1 := fun k => h01.1 (by rw [k]; simp)
  have h2 : makeE q2 (cr - (gOf q1 cr n1).amount) n2 ≠ 1 := fun k => h01.1 (by rw [k]; simp)
  have h0 : makeE q1 cr n1 = 0 ∨ makeE q2 (cr - (gOf q1 cr n1).amount) n2 = 0 := by
    rcases List.mem_cons.1 h01.2 with k | k
    · exact .inl k.symm
    · exact .inr (List.mem_singleton.1 k).symm
  have hc : 0 ≤ cr := Int.not_lt.1 fun k => h1 (makeE_neg k)
  rw [hM] at R ⊢
  have fin := fun g' (hg' : w18.heap.size ≤ g') wz (Cz : Bs w18 wz) => ord_k2 q1 q2 u2 v2 c2 d2 n1 n2 cr a9 gs2 gs3 gs4 gs5 g' hq2 hd2 R B Cz hg' h1 h2 h0 hc hcr
  refine drewB C19 fun w22 b22 C22 _ => ⟨?_, ?_⟩
  · refine callB C22 (to_ret q1 u1 v1 c1 d1 w22) fun w31 b31 C31 => ⟨_, _, _, _, _, _, _, _, _, _, _, _, _, _, _, rfl, ?_, ?_⟩
    · exact callB C31 (make_ret q1 u1 v1 c1 d1 _ n1 w31 (hq1.to C31) hd1 hcr) fun w32 b32 C32 => ⟨_, _, _, _, _, rfl, newB C32 fun g' w33 g0' sg' n33 z33 b33 C33 => boxB C33 g0' fun w34 h34 C34 _ => fin g' g0' w34 C34⟩
    · exact newB C31 fun g' w41 g0' sg' n33 z33 b33 C41 => callB C41 (make_ret q1 u1 v1 c1 d1 _ n1 w41 (hq1.to C41) hd1 hcr) fun w42 b42 C42 => ⟨_, _, _, _, _, rfl, boxB C42 g0' fun w43 h43 C43 _ => fin g' g0' w43 C43⟩
  · exact newB C22 fun g' w44 g0' sg' n33 z33 b33 C44 => callB C44 (to_ret q1 u1 v1 c1 d1 w44) fun w45 b45 C45 => ⟨_, _, _, _, _, _, _, _, _, _, _, _, _, _, _, rfl, callB C45 (make_ret q1 u1 v1 c1 d1 _ n1 w45 (hq1.to C45) hd1 hcr) fun w46 b46 C46 => ⟨_, _, _, _, _, rfl, boxB C46 g0' fun w47 h47 C47 _ => fin g' g0' w47 C47⟩⟩
theorem ord_k4 {w w11 : World} (q1 q2 : Pl) (u1 v1 u2 v2 : Option Addr) (c1 d1 c2 d2 : Nat) (n1 n2 cr : Int) (gs2 gs3 gs4 gs5 : Nat) (hq1 : PlAt w11 q1 u1 v1) (hd1 : DayIn q1) (hq2 : PlAt w11 q2 u2 v2) (hd2 : DayIn q2) (B : Bs w w11) (hcr : cr ≤ 9223372036854775807) :
    GGrantO.gorder_k4 (fun u w' => u = .bool true ∧ Below w.heap.size w w') cr n1 n2 gs2 gs3 gs4 q2.day q2.frm q2.til q2.base.grp q2.base.mode q2.base.block u2 q2.base.ts.length c2 q2.other.grp q2.other.mode q2.other.block v2 q2.other.ts.length d2 gs5 q1.day q1.frm q1.til q1.base.grp q1.base.mode q1.base.block u1 q1.base.ts.length c1 q1.other.grp q1.other.mode q1.other.block v1 q1.other.ts.length d1 w11 := by
  unfold GGrantO.gorder_k4
  have hM : ∀ (gp gn : Nat) (wz : World), Bs w11 wz → wz.heap[gp]? = some (.cells (plCells ⟨q1, u1, v1, c1, d1⟩ ++ plCells ⟨q2, u2, v2, c2, d2⟩).toArray 59 (0, 0)) → RowAt wz (some ⟨gn, 0, none⟩) ([n1, n2].map iV) → ManyIn wz (some ⟨gp, 0, none⟩) (some ⟨gn, 0, none⟩) [⟨q1, u1, v1, c1, d1⟩, ⟨q2, u2, v2, c2, d2⟩] [n1, n2] := fun gp gn wz Cz h1 h2 => by
    refine ⟨Rws.ofRow pl_len (xs := [⟨q1, u1, v1, c1, d1⟩, ⟨q2, u2, v2, c2, d2⟩]) (by simpa using h1) (Nat.zero_le _), fun e he => ?_, by simp, h2⟩
    rcases List.mem_cons.1 he with rfl | he
    · exact ⟨hq1.to Cz, hd1⟩
    · rw [List.mem_singleton] at he; subst he; exact ⟨hq2.to Cz, hd2⟩
  have fin : ∀ (gp gn : Nat) (wz : World) (gs : List Nat), Bs w11 wz → wz.heap[gp]? = some (.cells (plCells ⟨q1, u1, v1, c1, d1⟩ ++ plCells ⟨q2, u2, v2, c2, d2⟩).toArray 59 (0, 0)) → RowAt wz (some ⟨gn, 0, none⟩) ([n1, n2].map iV) → Calls Try.prog 32 #[.slice (some ⟨gp, 0, none⟩) 2 2, .int .i64 cr, .slice (some ⟨gn, 0, none⟩) 2 2] wz fun e w17 => KeepG gs wz w17 ∧
      ∃ (a34_0 : Option Addr) (n34_0 : Nat) (c34_0 : Nat) (x34_1 : Int), e = .returned (.tuple #[.slice a34_0 n34_0 c34_0, .int .i64 x34_1]) ∧ GGrantO.gorder_k3 (fun u w' => u = .bool true ∧ Below w.heap.size w w') cr n1 n2 gs2 gs3 gs4 q2.day q2.frm q2.til q2.base.grp q2.base.mode q2.base.block u2 q2.base.ts.length c2 q2.other.grp q2.other.mode q2.other.block v2 q2.other.ts.length d2 gs5 q1.day q1.frm q1.til q1.base.grp q1.base.mode q1.base.block u1 q1.base.ts.length c1 q1.other.grp q1.other.mode q1.other.block v1 q1.other.ts.length d1 a34_0 n34_0 x34_1 w17 := fun gp gn wz gs Cz h1 h2 => by
    refine callQ Cz (many_new (some ⟨gp, 0, none⟩) (some ⟨gn, 0, none⟩) 2 2 [⟨q1, u1, v1, c1, d1⟩, ⟨q2, u2, v2, c2, d2⟩] [n1, n2] cr wz (hM gp gn wz Cz h1 h2) (by simp) hcr) ?_
    rintro e w17 ⟨a', c', rfl, hg⟩ b17 C17
    exact ⟨_, _, _, _, rfl, ord_k3 q1 q2 u1 v1 u2 v2 c1 d1 c2 d2 n1 n2 cr a' gs2 gs3 gs4 gs5 (hq1.to C17) hd1 (hq2.to C17) hd2 (hg.low (Nat.zero_le _)) (B.to C17) hcr⟩
  refine drewB (Bs.refl w11) fun w12 b12 C12 _ => ⟨?_, ?_⟩
  · refine callB C12 (to_ret q1 u1 v1 c1 d1 w12) fun w13 b13 C13 => ⟨_, _, _, _, _, _, _, _, _, _, _, _, _, _, _, rfl, ?_, ?_⟩
    · refine callB C13 (to_ret q2 u2 v2 c2 d2 w13) fun w14 b14 C14 => ⟨_, _, _, _, _, _, _, _, _, _, _, _, _, _, _, rfl, ?_, ?_⟩
      · exact newB C14 fun gp w15 gp0 sgp np zp bp C15 => newB C15 fun gn w16 gn0 sgn nn zn bn C16 => fin gp gn w16 _ C16 (by rw [bn.block gp (by omega)]; exact np) (RowAt.ofWhole nn)
      · exact newB C14 fun gn w15 gn0 sgn nn zn bn C15 => newB C15 fun gp w16 gp0 sgp np zp bp C16 => fin gp gn w16 _ C16 np ((RowAt.ofWhole nn).below bp (Nat.le_refl _))
    · exact newB C13 fun gn w58 gn0 sgn nn zn bn C58 => callB C58 (to_ret q2 u2 v2 c2 d2 w58) fun w59 b59 C59 => ⟨_, _, _, _, _, _, _, _, _, _, _, _, _, _, _, rfl, newB C59 fun gp w60 gp0 sgp np zp bp C60 => fin gp gn w60 _ C60 np (((RowAt.ofWhole nn).below b59 (Nat.le_refl _)).below bp (Nat.le_refl _))⟩
  · exact newB C12 fun gn w62 gn0 sgn nn zn bn C62 => callB C62 (to_ret q1 u1 v1 c1 d1 w62) fun w63 b63 C63 => ⟨_, _, _, _, _, _, _, _, _, _, _, _, _, _, _, rfl, callB C63 (to_ret q2 u2 v2 c2 d2 w63) fun w64 b64 C64 => ⟨_, _, _, _, _, _, _, _, _, _, _, _, _, _, _, rfl, newB C64 fun gp w65 gp0 sgp np zp bp C65 => fin gp gn w65 _ C65 np ((((RowAt.ofWhole nn).below b63 (Nat.le_refl _)).below b64 (Nat.le_refl _)).below bp (Nat.le_refl _))⟩⟩
def pl2V (e1 e2 : PlE) : Value := .agg #[.int .i64 e1.p.day, .int .i64 e1.p.frm, .int .i64 e1.p.til, .int .i64 e1.p.base.grp, .int .i64 e1.p.base.mode, .int .i64 e1.p.base.block, .slice e1.a e1.p.base.ts.length e1.c, .int .i64 e1.p.other.grp, .int .i64 e1.p.other.mode, .int .i64 e1.p.other.block, .slice e1.a2 e1.p.other.ts.length e1.c2,
  .int .i64 e2.p.day, .int .i64 e2.p.frm, .int .i64 e2.p.til, .int .i64 e2.p.base.grp, .int .i64 e2.p.base.mode, .int .i64 e2.p.base.block, .slice e2.a e2.p.base.ts.length e2.c, .int .i64 e2.p.other.grp, .int .i64 e2.p.other.mode, .int .i64 e2.p.other.block, .slice e2.a2 e2.p.other.ts.length e2.c2]
structure PlOk (w : World) (e : PlE) : Prop where
  b : TsIn w e.a e.c e.p.base.ts
  o : TsIn w e.a2 e.c2 e.p.other.ts
  d : DayIn e.p
theorem gorder_walk (e1 e2 : PlE) (cr n1 n2 : Int) (w : World) (h1 : PlOk w e1) (h2 : PlOk w e2) (hcr : cr ≤ 9223372036854775807) :
    Calls Try.prog 8 #[pl2V e1 e2, .int .i64 cr, .agg #[.int .i64 n1, .int .i64 n2]] w (Ret (.bool true) w) := by
  have e1ok := h1
  have e2ok := h2
  obtain ⟨p1, a1, b1, x1, y1⟩ := e1
  obtain ⟨p2, a2, b2, x2, y2⟩ := e2
  refine ret_in (GGrantO.gorder_calls p1.day p1.frm p1.til p1.base.grp p1.base.mode p1.base.block a1 p1.base.ts.length x1 p1.other.grp p1.other.mode p1.other.block b1 p1.other.ts.length y1 p2.day p2.frm p2.til p2.base.grp p2.base.mode p2.base.block a2 p2.base.ts.length x2 p2.other.grp p2.other.mode p2.other.block b2 p2.other.ts.length y2 cr n1 n2 w (fun u w' => u = .bool true ∧ Below w.heap.size w w') ?_)
  unfold GGrantO.gorder_vc
  have t1 := take9 p1.base.ts
  have t2 := take9 p1.other.ts
  have t3 := take9 p2.base.ts
  have t4 := take9 p2.other.ts
  have go : ∀ (s1 s2 r1 r2 : Option Addr) (k1 k2 l1 l2 gA gB g3 g4 : Nat) (wz : World), Bs w wz → TsAt 0 wz s1 (tameP p1).base.ts → TsAt 0 wz s2 (tameP p1).other.ts → TsAt 0 wz r1 (tameP p2).base.ts → TsAt 0 wz r2 (tameP p2).other.ts →
      GGrantO.gorder_k4 (fun u w' => u = .bool true ∧ Below w.heap.size w w') cr n1 n2 gA gB g3 (tameP p2).day (tameP p2).frm (tameP p2).til (tameP p2).base.grp (tameP p2).base.mode (tameP p2).base.block r1 (tameP p2).base.ts.length l1 (tameP p2).other.grp (tameP p2).other.mode (tameP p2).other.block r2 (tameP p2).other.ts.length l2 g4 (tameP p1).day (tameP p1).frm (tameP p1).til (tameP p1).base.grp (tameP p1).base.mode (tameP p1).base.block s1 (tameP p1).base.ts.length k1 (tameP p1).other.grp (tameP p1).other.mode (tameP p1).other.block s2 (tameP p1).other.ts.length k2 wz := fun s1 s2 r1 r2 k1 k2 l1 l2 gA gB g3 g4 wz Bz j1 j2 j3 j4 =>
    ord_k4 (tameP p1) (tameP p2) s1 s2 r1 r2 k1 k2 l1 l2 n1 n2 cr gA gB g3 g4 ⟨j1, j2, by dsimp only [tameP, tameT]; omega, by dsimp only [tameP, tameT]; omega⟩ h1.d ⟨j3, j4, by dsimp only [tameP, tameT]; omega, by dsimp only [tameP, tameT]; omega⟩ h2.d Bz hcr
  refine newB (Bs.refl w) fun g w2 g0 sg n2' z2 b2' B2 => newB B2 fun g' w3 g0' sg' n3 z3 b3 B3 => drewB B3 fun w4 b4 B4 _ => ?_
  have s4 := b4.size
  refine ⟨?_, ?_, ?_⟩
  · refine callQ B4 (tame_new p1 a1 b1 x1 y1 w4 (e1ok.b.at'.below B4) (e1ok.o.at'.below B4) e1ok.b.cap e1ok.o.cap) ?_
    rintro r w11 ⟨s1a11, k1a11, s1b11, k1b11, rfl, ts1a, ts1b⟩ b11 B11
    have z11 := b11.size
    refine ⟨_, _, _, _, _, _, _, _, _, _, _, _, _, _, _, rfl, ?_⟩
    refine ⟨?_, ?_, ?_⟩
    · refine callQ B11 (tame_new p2 a2 b2 x2 y2 w11 (e2ok.b.at'.below B11) (e2ok.o.at'.below B11) e2ok.b.cap e2ok.o.cap) ?_
      rintro r w12 ⟨s2a12, k2a12, s2b12, k2b12, rfl, ts2a, ts2b⟩ b12 B12
      have z12 := b12.size
      refine ⟨_, _, _, _, _, _, _, _, _, _, _, _, _, _, _, rfl, ?_⟩
      refine ⟨?_, ?_⟩
      · refine newB B12 fun ga w13 ga0 sga n13 z13 b13 B13 => ?_
        refine newB B13 fun gb w14 gb0 sgb n14 z14 b14 B14 => ?_
        refine boxB B14 ga0 fun w15 ha B15 z15 => ?_
        refine boxB B15 gb0 fun w16 hb B16 z16 => ?_
        exact go s1a11 s1b11 s2a12 s2b12 k1a11 k1b11 k2a12 k2b12 g g' gb ga w16 B16 ((ts1a.two ((((Bs.refl w11).to b12).to b13).to b14) ha hb (by omega) (by omega)).low (Nat.zero_le _)) ((ts1b.two ((((Bs.refl w11).to b12).to b13).to b14) ha hb (by omega) (by omega)).low (Nat.zero_le _)) ((ts2a.two (((Bs.refl w12).to b13).to b14) ha hb (by omega) (by omega)).low (Nat.zero_le _)) ((ts2b.two (((Bs.refl w12).to b13).to b14) ha hb (by omega) (by omega)).low (Nat.zero_le _))
      · refine newB B12 fun ga w17 ga0 sga n17 z17 b17 B17 => ?_
        refine newB B17 fun gb w18 gb0 sgb n18 z18 b18 B18 => ?_
        refine boxB B18 gb0 fun w19 hb B19 z19 => ?_
        refine boxB B19 ga0 fun w20 ha B20 z20 => ?_
        exact go s1a11 s1b11 s2a12 s2b12 k1a11 k1b11 k2a12 k2b12 g g' gb ga w20 B20 ((ts1a.two ((((Bs.refl w11).to b12).to b17).to b18) hb ha (by omega) (by omega)).low (Nat.zero_le _)) ((ts1b.two ((((Bs.refl w11).to b12).to b17).to b18) hb ha (by omega) (by omega)).low (Nat.zero_le _)) ((ts2a.two (((Bs.refl w12).to b17).to b18) hb ha (by omega) (by omega)).low (Nat.zero_le _)) ((ts2b.two (((Bs.refl w12).to b17).to b18) hb ha (by omega) (by omega)).low (Nat.zero_le _))
    · refine newB B11 fun ga w21 ga0 sga n21 z21 b21 B21 => ?_
      refine ⟨?_, ?_⟩
      · refine callQ B21 (tame_new p2 a2 b2 x2 y2 w21 (e2ok.b.at'.below B21) (e2ok.o.at'.below B21) e2ok.b.cap e2ok.o.cap) ?_
        rintro r w22 ⟨s2a22, k2a22, s2b22, k2b22, rfl, ts2a, ts2b⟩ b22 B22
        have z22 := b22.size
        refine ⟨_, _, _, _, _, _, _, _, _, _, _, _, _, _, _, rfl, ?_⟩
        refine newB B22 fun gb w23 gb0 sgb n23 z23 b23 B23 => ?_
        refine boxB B23 ga0 fun w24 ha B24 z24 => ?_
        refine boxB B24 gb0 fun w25 hb B25 z25 => ?_
        exact go s1a11 s1b11 s2a22 s2b22 k1a11 k1b11 k2a22 k2b22 g g' gb ga w25 B25 ((ts1a.two ((((Bs.refl w11).to b21).to b22).to b23) ha hb (by omega) (by omega)).low (Nat.zero_le _)) ((ts1b.two ((((Bs.refl w11).to b21).to b22).to b23) ha hb (by omega) (by omega)).low (Nat.zero_le _)) ((ts2a.two ((Bs.refl w22).to b23) ha hb (by omega) (by omega)).low (Nat.zero_le _)) ((ts2b.two ((Bs.refl w22).to b23) ha hb (by omega) (by omega)).low (Nat.zero_le _))
      · refine newB B21 fun gb w26 gb0 sgb n26 z26 b26 B26 => ?_
        refine callQ B26 (tame_new p2 a2 b2 x2 y2 w26 (e2ok.b.at'.below B26) (e2ok.o.at'.below B26) e2ok.b.cap e2ok.o.cap) ?_
        rintro r w27 ⟨s2a27, k2a27, s2b27, k2b27, rfl, ts2a, ts2b⟩ b27 B27
        have z27 := b27.size
        refine ⟨_, _, _, _, _, _, _, _, _, _, _, _, _, _, _, rfl, ?_⟩
        refine boxB B27 ga0 fun w28 ha B28 z28 => ?_
        refine boxB B28 gb0 fun w29 hb B29 z29 => ?_
        exact go s1a11 s1b11 s2a27 s2b27 k1a11 k1b11 k2a27 k2b27 g g' gb ga w29 B29 ((ts1a.two ((((Bs.refl w11).to b21).to b26).to b27) ha hb (by omega) (by omega)).low (Nat.zero_le _)) ((ts1b.two ((((Bs.refl w11).to b21).to b26).to b27) ha hb (by omega) (by omega)).low (Nat.zero_le _)) ((ts2a.two (Bs.refl w27) ha hb (by omega) (by omega)).low (Nat.zero_le _)) ((ts2b.two (Bs.refl w27) ha hb (by omega) (by omega)).low (Nat.zero_le _))
    · refine newB B11 fun ga w30 ga0 sga n30 z30 b30 B30 => ?_
      refine ⟨?_, ?_⟩
      · refine callQ B30 (tame_new p2 a2 b2 x2 y2 w30 (e2ok.b.at'.below B30) (e2ok.o.at'.below B30) e2ok.b.cap e2ok.o.cap) ?_
        rintro r w31 ⟨s2a31, k2a31, s2b31, k2b31, rfl, ts2a, ts2b⟩ b31 B31
        have z31 := b31.size
        refine ⟨_, _, _, _, _, _, _, _, _, _, _, _, _, _, _, rfl, ?_⟩
        refine newB B31 fun gb w32 gb0 sgb n32 z32 b32 B32 => ?_
        refine boxB B32 gb0 fun w33 hb B33 z33 => ?_
        refine boxB B33 ga0 fun w34 ha B34 z34 => ?_
        exact go s1a11 s1b11 s2a31 s2b31 k1a11 k1b11 k2a31 k2b31 g g' gb ga w34 B34 ((ts1a.two ((((Bs.refl w11).to b30).to b31).to b32) hb ha (by omega) (by omega)).low (Nat.zero_le _)) ((ts1b.two ((((Bs.refl w11).to b30).to b31).to b32) hb ha (by omega) (by omega)).low (Nat.zero_le _)) ((ts2a.two ((Bs.refl w31).to b32) hb ha (by omega) (by omega)).low (Nat.zero_le _)) ((ts2b.two ((Bs.refl w31).to b32) hb ha (by omega) (by omega)).low (Nat.zero_le _))
      · refine newB B30 fun gb w35 gb0 sgb n35 z35 b35 B35 => ?_
        refine callQ B35 (tame_new p2 a2 b2 x2 y2 w35 (e2ok.b.at'.below B35) (e2ok.o.at'.below B35) e2ok.b.cap e2ok.o.cap) ?_
        rintro r w36 ⟨s2a36, k2a36, s2b36, k2b36, rfl, ts2a, ts2b⟩ b36 B36
        have z36 := b36.size
        refine ⟨_, _, _, _, _, _, _, _, _, _, _, _, _, _, _, rfl, ?_⟩
        refine boxB B36 gb0 fun w37 hb B37 z37 => ?_
        refine boxB B37 ga0 fun w38 ha B38 z38 => ?_
        exact go s1a11 s1b11 s2a36 s2b36 k1a11 k1b11 k2a36 k2b36 g g' gb ga w38 B38 ((ts1a.two ((((Bs.refl w11).to b30).to b35).to b36) hb ha (by omega) (by omega)).low (Nat.zero_le _)) ((ts1b.two ((((Bs.refl w11).to b30).to b35).to b36) hb ha (by omega) (by omega)).low (Nat.zero_le _)) ((ts2a.two (Bs.refl w36) hb ha (by omega) (by omega)).low (Nat.zero_le _)) ((ts2b.two (Bs.refl w36) hb ha (by omega) (by omega)).low (Nat.zero_le _))
  · refine newB B4 fun ga w39 ga0 sga n39 z39 b39 B39 => ?_
    refine ⟨?_, ?_⟩
    · refine callQ B39 (tame_new p1 a1 b1 x1 y1 w39 (e1ok.b.at'.below B39) (e1ok.o.at'.below B39) e1ok.b.cap e1ok.o.cap) ?_
      rintro r w40 ⟨s1a40, k1a40, s1b40, k1b40, rfl, ts1a, ts1b⟩ b40 B40
      have z40 := b40.size
      refine ⟨_, _, _, _, _, _, _, _, _, _, _, _, _, _, _, rfl, ?_⟩
      refine ⟨?_, ?_⟩
      · refine callQ B40 (tame_new p2 a2 b2 x2 y2 w40 (e2ok.b.at'.below B40) (e2ok.o.at'.below B40) e2ok.b.cap e2ok.o.cap) ?_
        rintro r w41 ⟨s2a41, k2a41, s2b41, k2b41, rfl, ts2a, ts2b⟩ b41 B41
        have z41 := b41.size
        refine ⟨_, _, _, _, _, _, _, _, _, _, _, _, _, _, _, rfl, ?_⟩
        refine newB B41 fun gb w42 gb0 sgb n42 z42 b42 B42 => ?_
        refine boxB B42 ga0 fun w43 ha B43 z43 => ?_
        refine boxB B43 gb0 fun w44 hb B44 z44 => ?_
        exact go s1a40 s1b40 s2a41 s2b41 k1a40 k1b40 k2a41 k2b41 g g' gb ga w44 B44 ((ts1a.two (((Bs.refl w40).to b41).to b42) ha hb (by omega) (by omega)).low (Nat.zero_le _)) ((ts1b.two (((Bs.refl w40).to b41).to b42) ha hb (by omega) (by omega)).low (Nat.zero_le _)) ((ts2a.two ((Bs.refl w41).to b42) ha hb (by omega) (by omega)).low (Nat.zero_le _)) ((ts2b.two ((Bs.refl w41).to b42) ha hb (by omega) (by omega)).low (Nat.zero_le _))
      · refine newB B40 fun gb w45 gb0 sgb n45 z45 b45 B45 => ?_
        refine callQ B45 (tame_new p2 a2 b2 x2 y2 w45 (e2ok.b.at'.below B45) (e2ok.o.at'.below B45) e2ok.b.cap e2ok.o.cap) ?_
        rintro r w46 ⟨s2a46, k2a46, s2b46, k2b46, rfl, ts2a, ts2b⟩ b46 B46
        have z46 := b46.size
        refine ⟨_, _, _, _, _, _, _, _, _, _, _, _, _, _, _, rfl, ?_⟩
        refine boxB B46 ga0 fun w47 ha B47 z47 => ?_
        refine boxB B47 gb0 fun w48 hb B48 z48 => ?_
        exact go s1a40 s1b40 s2a46 s2b46 k1a40 k1b40 k2a46 k2b46 g g' gb ga w48 B48 ((ts1a.two (((Bs.refl w40).to b45).to b46) ha hb (by omega) (by omega)).low (Nat.zero_le _)) ((ts1b.two (((Bs.refl w40).to b45).to b46) ha hb (by omega) (by omega)).low (Nat.zero_le _)) ((ts2a.two (Bs.refl w46) ha hb (by omega) (by omega)).low (Nat.zero_le _)) ((ts2b.two (Bs.refl w46) ha hb (by omega) (by omega)).low (Nat.zero_le _))
    · refine newB B39 fun gb w49 gb0 sgb n49 z49 b49 B49 => ?_
      refine callQ B49 (tame_new p1 a1 b1 x1 y1 w49 (e1ok.b.at'.below B49) (e1ok.o.at'.below B49) e1ok.b.cap e1ok.o.cap) ?_
      rintro r w50 ⟨s1a50, k1a50, s1b50, k1b50, rfl, ts1a, ts1b⟩ b50 B50
      have z50 := b50.size
      refine ⟨_, _, _, _, _, _, _, _, _, _, _, _, _, _, _, rfl, ?_⟩
      refine callQ B50 (tame_new p2 a2 b2 x2 y2 w50 (e2ok.b.at'.below B50) (e2ok.o.at'.below B50) e2ok.b.cap e2ok.o.cap) ?_
      rintro r w51 ⟨s2a51, k2a51, s2b51, k2b51, rfl, ts2a, ts2b⟩ b51 B51
      have z51 := b51.size
      refine ⟨_, _, _, _, _, _, _, _, _, _, _, _, _, _, _, rfl, ?_⟩
      refine boxB B51 ga0 fun w52 ha B52 z52 => ?_
      refine boxB B52 gb0 fun w53 hb B53 z53 => ?_
      exact go s1a50 s1b50 s2a51 s2b51 k1a50 k1b50 k2a51 k2b51 g g' gb ga w53 B53 ((ts1a.two ((Bs.refl w50).to b51) ha hb (by omega) (by omega)).low (Nat.zero_le _)) ((ts1b.two ((Bs.refl w50).to b51) ha hb (by omega) (by omega)).low (Nat.zero_le _)) ((ts2a.two (Bs.refl w51) ha hb (by omega) (by omega)).low (Nat.zero_le _)) ((ts2b.two (Bs.refl w51) ha hb (by omega) (by omega)).low (Nat.zero_le _))
  · refine newB B4 fun ga w54 ga0 sga n54 z54 b54 B54 => ?_
    refine ⟨?_, ?_⟩
    · refine callQ B54 (tame_new p1 a1 b1 x1 y1 w54 (e1ok.b.at'.below B54) (e1ok.o.at'.below B54) e1ok.b.cap e1ok.o.cap) ?_
      rintro r w55 ⟨s1a55, k1a55, s1b55, k1b55, rfl, ts1a, ts1b⟩ b55 B55
      have z55 := b55.size
      refine ⟨_, _, _, _, _, _, _, _, _, _, _, _, _, _, _, rfl, ?_⟩
      refine ⟨?_, ?_⟩
      · refine callQ B55 (tame_new p2 a2 b2 x2 y2 w55 (e2ok.b.at'.below B55) (e2ok.o.at'.below B55) e2ok.b.cap e2ok.o.cap) ?_
        rintro r w56 ⟨s2a56, k2a56, s2b56, k2b56, rfl, ts2a, ts2b⟩ b56 B56
        have z56 := b56.size
        refine ⟨_, _, _, _, _, _, _, _, _, _, _, _, _, _, _, rfl, ?_⟩
        refine newB B56 fun gb w57 gb0 sgb n57 z57 b57 B57 => ?_
        refine boxB B57 gb0 fun w58 hb B58 z58 => ?_
        refine boxB B58 ga0 fun w59 ha B59 z59 => ?_
        exact go s1a55 s1b55 s2a56 s2b56 k1a55 k1b55 k2a56 k2b56 g g' gb ga w59 B59 ((ts1a.two (((Bs.refl w55).to b56).to b57) hb ha (by omega) (by omega)).low (Nat.zero_le _)) ((ts1b.two (((Bs.refl w55).to b56).to b57) hb ha (by omega) (by omega)).low (Nat.zero_le _)) ((ts2a.two ((Bs.refl w56).to b57) hb ha (by omega) (by omega)).low (Nat.zero_le _)) ((ts2b.two ((Bs.refl w56).to b57) hb ha (by omega) (by omega)).low (Nat.zero_le _))
      · refine newB B55 fun gb w60 gb0 sgb n60 z60 b60 B60 => ?_
        refine callQ B60 (tame_new p2 a2 b2 x2 y2 w60 (e2ok.b.at'.below B60) (e2ok.o.at'.below B60) e2ok.b.cap e2ok.o.cap) ?_
        rintro r w61 ⟨s2a61, k2a61, s2b61, k2b61, rfl, ts2a, ts2b⟩ b61 B61
        have z61 := b61.size
        refine ⟨_, _, _, _, _, _, _, _, _, _, _, _, _, _, _, rfl, ?_⟩
        refine boxB B61 gb0 fun w62 hb B62 z62 => ?_
        refine boxB B62 ga0 fun w63 ha B63 z63 => ?_
        exact go s1a55 s1b55 s2a61 s2b61 k1a55 k1b55 k2a61 k2b61 g g' gb ga w63 B63 ((ts1a.two (((Bs.refl w55).to b60).to b61) hb ha (by omega) (by omega)).low (Nat.zero_le _)) ((ts1b.two (((Bs.refl w55).to b60).to b61) hb ha (by omega) (by omega)).low (Nat.zero_le _)) ((ts2a.two (Bs.refl w61) hb ha (by omega) (by omega)).low (Nat.zero_le _)) ((ts2b.two (Bs.refl w61) hb ha (by omega) (by omega)).low (Nat.zero_le _))
    · refine newB B54 fun gb w64 gb0 sgb n64 z64 b64 B64 => ?_
      refine callQ B64 (tame_new p1 a1 b1 x1 y1 w64 (e1ok.b.at'.below B64) (e1ok.o.at'.below B64) e1ok.b.cap e1ok.o.cap) ?_
      rintro r w65 ⟨s1a65, k1a65, s1b65, k1b65, rfl, ts1a, ts1b⟩ b65 B65
      have z65 := b65.size
      refine ⟨_, _, _, _, _, _, _, _, _, _, _, _, _, _, _, rfl, ?_⟩
      refine callQ B65 (tame_new p2 a2 b2 x2 y2 w65 (e2ok.b.at'.below B65) (e2ok.o.at'.below B65) e2ok.b.cap e2ok.o.cap) ?_
      rintro r w66 ⟨s2a66, k2a66, s2b66, k2b66, rfl, ts2a, ts2b⟩ b66 B66
      have z66 := b66.size
      refine ⟨_, _, _, _, _, _, _, _, _, _, _, _, _, _, _, rfl, ?_⟩
      refine boxB B66 gb0 fun w67 hb B67 z67 => ?_
      refine boxB B67 ga0 fun w68 ha B68 z68 => ?_
      exact go s1a65 s1b65 s2a66 s2b66 k1a65 k1b65 k2a66 k2b66 g g' gb ga w68 B68 ((ts1a.two ((Bs.refl w65).to b66) hb ha (by omega) (by omega)).low (Nat.zero_le _)) ((ts1b.two ((Bs.refl w65).to b66) hb ha (by omega) (by omega)).low (Nat.zero_le _)) ((ts2a.two (Bs.refl w66) hb ha (by omega) (by omega)).low (Nat.zero_le _)) ((ts2b.two (Bs.refl w66) hb ha (by omega) (by omega)).low (Nat.zero_le _))
end Go.Proofs.Ytckeljphaeickaa
end
section
/- Two plans that came in, in an array; what the row of their order needs. -/
namespace Go.Proofs.Ytckeljphaeickaa
open Go.RowKit Go.WideShapes Go.ChangeShapes
theorem pl_of {w : World} (cs : List Value) (hl : cs.length = 11) (h : shPlan.Has w cs) : ∃ e : PlE, cs = plCells e ∧ PlOk w e := by
  obtain ⟨p, a, a2, c, c2, e1, h1, h2, h3⟩ := has_plan hl h
  refine ⟨⟨p, a, a2, c, c2⟩, ?_, h1, h2, h3⟩
  unfold planV at e1
  injection e1 with e1
  have := congrArg Array.toList e1
  simpa [plCells] using this
theorem open_plan2 {H : Type} {enc : TypeId × Value → H} {P : Program} {W : World} {r : Reach} {base : Nat} {t : TypeId} {v : Value} {d : DataW H} {p : List MemPlace} (hf : fitsB P (.arr 2 shPlan 11) t = true) (hc : P.cellsOf t = 22) (hv : Value.okWide P W r base t v)
    (h : DataW.Trod enc P W 0 (fun _ => true) true t v d p) : ∃ e1 e2 : PlE, v = pl2V e1 e2 ∧ PlOk W e1 ∧ PlOk W e2 := by
  obtain ⟨cs, rfl, hs⟩ := okWide_arr hf hv
  have hh : ∀ i, i < 2 → shPlan.Has W ((cs.toList.drop (i * 11)).take 11) := open_sh hf h
  have hl : cs.toList.length = 22 := by simp; omega
  obtain ⟨e1, k1, o1⟩ := pl_of _ (by rw [List.length_take, List.length_drop]; omega) (hh 0 (by omega))
  obtain ⟨e2, k2, o2⟩ := pl_of _ (by rw [List.length_take, List.length_drop]; omega) (hh 1 (by omega))
  refine ⟨e1, e2, ?_, o1, o2⟩
  unfold pl2V
  congr 1
  apply Array.ext'
  have e : cs.toList = (cs.toList.drop (0 * 11)).take 11 ++ (cs.toList.drop (1 * 11)).take 11 := by
    rw [Nat.zero_mul, List.drop_zero, Nat.one_mul, List.take_of_length_le (l := cs.toList.drop 11) (by rw [List.length_drop]; omega), List.take_append_drop]
  rw [e, k1, k2]
  rfl
end Go.Proofs.Ytckeljphaeickaa
end
