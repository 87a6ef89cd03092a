import Derived.Test.YtecmpjccdhmeeaaMRate4
import Derived.Test.YtecmpjccdhmeeaaMRate2
import Derived.Test.YtecmpjccdhmeeaaMRate3
section
/- What lines cost, by the document; the document's rate, worst and fit; walked. -/
namespace Go.Proofs.Ytecmpjccdhmeeaa
open Go.RowKit
def bigA (x0 x1 x2 x3 x4 x5 x6 x7 x8 x9 : Int) (b : Bool) : Value := .agg #[.int .u64 x0, .int .u64 x1, .int .u64 x2, .int .u64 x3, .int .u64 x4, .int .u64 x5, .int .u64 x6, .int .u64 x7, .int .u64 x8, .int .u64 x9, .bool b]
theorem small_lim {z : Int} (h : 0 ≤ z ∧ z ≤ 1152921504606846976) : z.natAbs < lim ∧ 2 * z.natAbs < lim ∧ z.natAbs < 2 ^ (32 * 5) := by
  have h1 : 2 * z.natAbs < 2 ^ 62 := by show _ < 4611686018427387904; omega
  refine ⟨lim_big (by decide) (Nat.lt_of_le_of_lt (by omega) h1), lim_big (by decide) h1, Nat.lt_of_lt_of_le (Nat.lt_of_le_of_lt (by omega) h1) (Nat.pow_le_pow_right (by omega) (by omega))⟩
set_option maxRecDepth 10000 in
theorem r10cost_ret (a : Option Addr) (c : Nat) (ls : List Ln) (w : World) (h : LsAt 0 w a ls) (ho : LsOk ls) : Calls Try.prog 37 #[.slice a ls.length c] w (Ret (.tuple #[.int .i64 (costOf ls), .bool true]) w) := by
  refine ret_in (GTar.rcost_calls a ls.length c w (fun u w' => u = .tuple #[.int .i64 (costOf ls), .bool true] ∧ Below w.heap.size w w') ?_)
  unfold GTar.rcost_vc
  have hl := ho.2
  refine callB (Bs.refl w) (rOf_any 0 w (by omega) (by omega)) fun w2 b2 B2 => ⟨_, _, _, _, _, _, _, _, _, _, _, rfl, newB B2 fun g w3 g0 sg n3 z3 b3 B3 => boxB B3 g0 fun w4 h4 B4 z4 => ?_⟩
  refine ⟨fun x x0 x1 x2 x3 x4 x5 x6 x7 x8 x9 b wx => ∃ i : Nat, x = i ∧ i ≤ ls.length ∧ bigA x0 x1 x2 x3 x4 x5 x6 x7 x8 x9 b = bigOf (costOf (ls.take i)) ∧ Bs w wx, fun x _ _ _ _ _ _ _ _ _ _ _ _ => ls.length - x.toNat, ⟨0, rfl, by omega, rfl, B4⟩, ?_⟩
  rintro x x0 x1 x2 x3 x4 x5 x6 x7 x8 x9 b wx ⟨i, rfl, hi, he, B⟩
  refine br_dec (fun hlt => ?_) fun hge => ?_
  · have hil : i < ls.length := by omega
    have hmem := List.getElem_mem hil
    have hp := ho.1 _ hmem
    have hf := prod_fits hp
    have htk : costOf (ls.take (i + 1)) = costOf (ls.take i) + ls[i].blocks * ls[i].price := by
      rw [List.take_add_one, List.getElem?_eq_getElem hil, costOf_app]
      simp [costOf]
    have hcf := cost_fits (ls := ls.take i) ⟨fun l hl => ho.1 l (List.mem_of_mem_take hl), by rw [List.length_take]; omega⟩
    rw [List.length_take] at hcf
    have hcs : 0 ≤ costOf (ls.take i) ∧ costOf (ls.take i) ≤ 1152921504606846976 := by omega
    have s1 := small_lim (z := ls[i].blocks * ls[i].price) (by omega)
    have s2 := small_lim hcs
    have sb := small_lim (z := ls[i].blocks) (by omega)
    have sp := small_lim (z := ls[i].price) (by omega)
    rw [wr64 (show -9223372036854775808 ≤ ((i : Nat) : Int) + 1 by omega) (by omega)]
    have fin : ∀ wy, Bs w wy → ∀ gs : List Nat, ∀ y0 y1 y2 y3 y4 y5 y6 y7 y8 y9 : Int, ∀ yb : Bool, bigA y0 y1 y2 y3 y4 y5 y6 y7 y8 y9 yb = bigOf (ls[i].blocks * ls[i].price) → Calls Try.prog 74 #[bigA y0 y1 y2 y3 y4 y5 y6 y7 y8 y9 yb] wy fun e w12 => KeepG gs wy w12 ∧ ∃ (x31 : Int) (b31 : Bool), e = .returned (.tuple #[.int .i64 x31, .bool b31]) ∧
        br (!b31) (Value.tuple #[.int .i64 0, .bool false] = .tuple #[.int .i64 (costOf ls), .bool true] ∧ Below w.heap.size w w12) (
          Calls Try.prog 75 #[bigA x0 x1 x2 x3 x4 x5 x6 x7 x8 x9 b, bigA y0 y1 y2 y3 y4 y5 y6 y7 y8 y9 yb] w12 fun e w13 => KeepG gs w12 w13 ∧ ∃ (z0 : Int) (z1 : Int) (z2 : Int) (z3 : Int) (z4 : Int) (z5 : Int) (z6 : Int) (z7 : Int) (z8 : Int) (z9 : Int) (zb : Bool), e = .returned (bigA z0 z1 z2 z3 z4 z5 z6 z7 z8 z9 zb) ∧
          ∀ w14, BoxSt g w13 w14 → (∃ j : Nat, ((i : Nat) : Int) + 1 = j ∧ j ≤ ls.length ∧ bigA z0 z1 z2 z3 z4 z5 z6 z7 z8 z9 zb = bigOf (costOf (ls.take j)) ∧ Bs w w14) ∧ ls.length - (((i : Nat) : Int) + 1).toNat < ls.length - ((i : Nat) : Int).toNat) := by
      intro wy By gs y0 y1 y2 y3 y4 y5 y6 y7 y8 y9 yb hy
      rw [hy, he]
      refine callB By (rIntZ_any _ s1.1 wy) fun w12 b12 B12 => ⟨_, _, congrArg Ending.returned (fitV_yes (by omega) (by omega)), br_f rfl (callB B12 (rPlus_any _ _ s2.2.1 s1.2.1 w12) fun w13 b13 B13 => ⟨_, _, _, _, _, _, _, _, _, _, _, rfl, boxB B13 g0 fun w14 h14 B14 z14 => ⟨⟨i + 1, by omega, by omega, ?_, B14⟩, by omega⟩⟩)⟩
      rw [htk]; rfl
    have hgOf1 : ∀ wy, Calls Try.prog 72 #[.int .i64 ls[i].blocks] wy (Ret (bigOf ls[i].blocks) wy) := fun wy => rOf_any _ wy (by omega) (by omega)
    have hgOf2 : ∀ wy, Calls Try.prog 72 #[.int .i64 ls[i].price] wy (Ret (bigOf ls[i].price) wy) := fun wy => rOf_any _ wy (by omega) (by omega)
    have hgT : ∀ wy, Calls Try.prog 73 #[bigOf ls[i].blocks, bigOf ls[i].price] wy (Ret (bigOf (ls[i].blocks * ls[i].price)) wy) := fun wy => rTimes_any _ _ sb.2.2 sp.2.2 wy
    clear s1 s2 sb sp hcs hcf hf
    refine drewB B fun w6 b6 B6 _ => ?_
    obtain ⟨b', off, rfl, hc⟩ := (h.below B6).get hil
    have c1 : ∀ {wy : World}, Below w6.heap.size w6 wy → wy.cell? ⟨b', off + ((i : Nat) : Int).toNat * 3 + 1, none⟩ = some (.int .i64 ls[i].blocks) := fun hb => by
      have k := cellsAt_get hc 1 _ rfl
      rw [Int.toNat_natCast, Nat.add_assoc]
      rw [Nat.add_assoc] at k
      rw [cell_keep (hb.block b' (block_lt_of_cell k))]
      exact k
    have c2 : ∀ {wy : World}, Below w6.heap.size w6 wy → wy.cell? ⟨b', off + ((i : Nat) : Int).toNat * 3 + 2, none⟩ = some (.int .i64 ls[i].price) := fun hb => by
      have k := cellsAt_get hc 2 _ rfl
      rw [Int.toNat_natCast, Nat.add_assoc]
      rw [Nat.add_assoc] at k
      rw [cell_keep (hb.block b' (block_lt_of_cell k))]
      exact k
    refine ⟨by omega, by omega, _, c1 (Below.refl _ _), by omega, by omega, _, c2 (Below.refl _ _), ⟨?_, ?_⟩⟩
    · refine callB B6 (hgOf1 w6) fun w7 b7 B7 => ⟨_, _, _, _, _, _, _, _, _, _, _, rfl, c2 b7, ⟨?_, ?_⟩⟩
      · refine callB B7 (hgOf2 w7) fun w8 b8 B8 => ⟨_, _, _, _, _, _, _, _, _, _, _, rfl, ⟨?_, ?_⟩⟩
        · exact callB B8 (hgT w8) fun w9 b9 B9 => ⟨_, _, _, _, _, _, _, _, _, _, _, rfl, newB B9 fun g' w10 g0' sg' n10 z10 b10 B10 => boxB B10 g0' fun w11 h11 B11 z11 => fin w11 B11 _ _ _ _ _ _ _ _ _ _ _ _ rfl⟩
        · exact newB B8 fun g' w10 g0' sg' n10 z10 b10 B10 => callB B10 (hgT w10) fun w9 b9 B9 => ⟨_, _, _, _, _, _, _, _, _, _, _, rfl, boxB B9 g0' fun w11 h11 B11 z11 => fin w11 B11 _ _ _ _ _ _ _ _ _ _ _ _ rfl⟩
      · exact newB B7 fun g' w10 g0' sg' n10 z10 b10 B10 => ⟨c2 (b7.trans (b10.mono b7.size)), callB B10 (hgOf2 w10) fun w8 b8 B8 => ⟨_, _, _, _, _, _, _, _, _, _, _, rfl, callB B8 (hgT w8) fun w9 b9 B9 => ⟨_, _, _, _, _, _, _, _, _, _, _, rfl, boxB B9 g0' fun w11 h11 B11 z11 => fin w11 B11 _ _ _ _ _ _ _ _ _ _ _ _ rfl⟩⟩⟩
    · exact newB B6 fun g' w10 g0' sg' n10 z10 b10 B10 => ⟨c1 b10, c2 b10, callB B10 (hgOf1 w10) fun w7 b7 B7 => ⟨_, _, _, _, _, _, _, _, _, _, _, rfl, c2 (b10.trans (b7.mono b10.size)), callB B7 (hgOf2 w7) fun w8 b8 B8 => ⟨_, _, _, _, _, _, _, _, _, _, _, rfl, callB B8 (hgT w8) fun w9 b9 B9 => ⟨_, _, _, _, _, _, _, _, _, _, _, rfl, boxB B9 g0' fun w11 h11 B11 z11 => fin w11 B11 _ _ _ _ _ _ _ _ _ _ _ _ rfl⟩⟩⟩⟩
  · obtain rfl : i = ls.length := by omega
    rw [List.take_length] at he
    have hcf := cost_fits ho
    have s2 := small_lim (z := costOf ls) (by omega)
    have hI := rIntZ_any (costOf ls) s2.1 wx
    rw [← he] at hI
    exact callB B hI fun w12 b12 B12 => ⟨_, _, congrArg Ending.returned (fitV_yes (by omega) (by omega)), rfl, B12⟩
theorem lsame_ret (a a2 : Option Addr) (c c2 : Nat) (ls : List Ln) (w : World) (h : LsAt 0 w a ls) (h2 : LsAt 0 w a2 ls) (hl : ls.length ≤ 1000) : Calls Try.prog 36 #[.slice a ls.length c, .slice a2 ls.length c2] w (Ret (.bool true) w) := by
  refine ret_in (GTar.rlsame_calls a ls.length c a2 ls.length c2 w (fun u w' => u = .bool true ∧ Below w.heap.size w w') ?_)
  unfold GTar.rlsame_vc
  refine br_n (by omega) ⟨fun x wx => ∃ i : Nat, x = i ∧ i ≤ ls.length ∧ Bs w wx, fun x _ => ls.length - x.toNat, ⟨0, rfl, by omega, Bs.refl _⟩, ?_⟩
  rintro x wx ⟨i, rfl, hi, B⟩
  refine br_dec (fun hlt => drewB B fun w3 b3 B3 _ => ?_) fun hge => ⟨rfl, B⟩
  have hil : i < ls.length := by omega
  obtain ⟨b, off, rfl, hc⟩ := (h.below B3).get hil
  obtain ⟨b', off', rfl, hc'⟩ := (h2.below B3).get hil
  refine ⟨by omega, by omega, ls[i].tier, ls[i].blocks, ls[i].price, by rw [Int.toNat_natCast]; exact hc, by omega, by omega, ls[i].tier, ls[i].blocks, ls[i].price, by rw [Int.toNat_natCast]; exact hc', br_f (by simp) ?_⟩
  rw [wr64 (by omega) (by omega)]
  exact ⟨⟨i + 1, by omega, by omega, B3⟩, by dsimp only; omega⟩
theorem dearT_app : ∀ (xs ys : List Tr), dearT (xs ++ ys) = max (dearT xs) (dearT ys)
  | [], ys => by have := dearT_nn ys; simp only [List.nil_append, dearT]; omega
  | x :: r, ys => by simp only [List.cons_append, dearT, dearT_app r ys]; omega
theorem rdear_ret (p : Pl) (a a2 : Option Addr) (c c2 : Nat) (w : World) (h : PlAt w p a a2) : Calls Try.prog 70 #[planV p a c a2 c2] w (Ret (.int .i64 (dear p)) w) := by
  refine ret_in (GTar.rdear_calls p.day p.frm p.til p.base.grp p.base.mode p.base.block a p.base.ts.length c p.other.grp p.other.mode p.other.block a2 p.other.ts.length c2 w (fun u w' => u = .int .i64 (dear p) ∧ Below w.heap.size w w') ?_)
  unfold GTar.rdear_vc
  have h1 := h.lb
  have h2 := h.lo
  refine newB (Bs.refl w) fun g w2 g0 sg n2 z2 b2 B2 => drewB B2 fun w3 b3 B3 _ => newB B3 fun g' w4 g0' sg' n4 z4 b4 B4 => ?_
  have b3s := b3.size
  have o4 : Own w4 w3.heap.size 120 2 (.slice (some ⟨g', 0, none⟩) 0 0) 0 [] := (own_empty 2 n4).base_le fun k hk => by simp [Value.ownBlock] at hk; omega
  refine appB B4 o4 B3.size (by omega) ((h.base.below B4).src (c := c) Try.underlying22 (by decide) tr_len tr_one) (by unfold maxLen; omega) (by omega) (fun x hx e => ?_) fun a5 c5 w5 o5 g5 B5 z5 => ?_
  · rw [List.mem_singleton] at hx; subst hx
    have := (o4.lt _ e).1
    omega
  refine appB B5 o5 B3.size (by omega) ((h.other.below B5).src (c := c2) Try.underlying22 (by decide) tr_len tr_one) (by unfold maxLen; omega) (by omega) (fun x hx e => ?_) fun a6 c6 w6 o6 g6 B6 z6 => ?_
  · rw [List.mem_singleton] at hx; subst hx
    have := (o5.lt _ e).1
    omega
  have hall : TsAt w3.heap.size w6 a6 (p.base.ts ++ p.other.ts) := Rws.ofOwn (by decide) tr_len (by rw [List.flatMap_append]; rw [List.nil_append] at o6; exact o6)
  have hlen : 0 + p.base.ts.length + p.other.ts.length = (p.base.ts ++ p.other.ts).length := by simp
  rw [hlen]
  have hdr : dear p = dearT (p.base.ts ++ p.other.ts) := by rw [dearT_app]; rfl
  rw [hdr]
  have hl : (p.base.ts ++ p.other.ts).length ≤ 2000 := by simp; omega
  generalize p.base.ts ++ p.other.ts = ts at *
  have nn := dearT_nn ts
  refine ⟨fun x y wx => ∃ i : Nat, y = i ∧ i ≤ ts.length ∧ dearT ts = max x (dearT (ts.drop i)) ∧ 0 ≤ x ∧ w6 = wx, fun _ y _ => ts.length - y.toNat, ⟨0, rfl, by omega, by simp; omega, by omega, rfl⟩, ?_⟩
  rintro x y wx ⟨i, rfl, hi, he, hx, rfl⟩
  refine br_dec (fun hlt => ?_) fun hge => ?_
  · have hil : i < ts.length := by omega
    obtain ⟨b, off, rfl, hc⟩ := hall.get hil
    rw [List.drop_eq_getElem_cons hil, dearT] at he
    refine ⟨by omega, by omega, ts[i].price, by rw [Int.toNat_natCast, Nat.add_assoc]; exact cellsAt_get hc 1 _ rfl, ?_⟩
    rw [wr64 (by omega) (by omega)]
    exact ⟨⟨i + 1, by omega, by omega, by omega, by omega, rfl⟩, by dsimp only; omega⟩
  · obtain rfl : i = ts.length := by omega
    refine ⟨?_, B6⟩
    rw [List.drop_length] at he
    congr 1
    simp only [dearT] at he
    omega
theorem rblocks_ret (n b : Int) (w : World) (hn : 0 ≤ n ∧ n ≤ 1073741824) (hb : 1 ≤ b ∧ b ≤ 1073741824) : Calls Try.prog 68 #[.int .i64 n, .int .i64 b] w (Ret (.tuple #[.int .i64 (blk n b), .bool true]) w) :=
  ret_same (rBlocks_any n b (by omega) (by omega) (by omega) (by omega) w _ (blkT_yes hn.1 hb.1).symm)
theorem rworst_ret (p : Pl) (a a2 : Option Addr) (c c2 : Nat) (n : Int) (w : World) (h : PlAt w p a a2) :
    Calls Try.prog 32 #[planV p a c a2 c2, .int .i64 n] w (Ret (.tuple #[.int .i64 (worstN p n), .int .i64 (worstE p n)]) w) := by
  refine ret_in (GTar.rworst_calls p.day p.frm p.til p.base.grp p.base.mode p.base.block a p.base.ts.length c p.other.grp p.other.mode p.other.block a2 p.other.ts.length c2 n w (fun u w' => u = .tuple #[.int .i64 (worstN p n), .int .i64 (worstE p n)] ∧ Below w.heap.size w w') ?_)
  unfold GTar.rworst_vc
  have bad : ∀ w', Below w.heap.size w w' → worstE p n = 1 → Value.tuple #[.int .i64 0, .int .i64 1] = .tuple #[.int .i64 (worstN p n), .int .i64 (worstE p n)] ∧ Below w.heap.size w w' := fun w' B hE => by
    unfold worstN
    rw [hE]
    exact ⟨rfl, B⟩
  refine newB (Bs.refl w) fun g w2 g0 sg n2 z2 b2 B2 => callB B2 (r9cplan_ret p a a2 c c2 w2 (h.to B2)) fun w3 b3 B3 => ⟨_, rfl, br_dec (fun h1 => bad _ B3 (by unfold worstE; rw [if_pos (.inl h1)])) fun h1 => br_dec (fun h2 => bad _ B3 (by unfold worstE; rw [if_pos (.inr (by omega))])) fun h2 => br_dec (fun h3 => bad _ B3 (by unfold worstE; rw [if_pos (.inr (by omega))])) fun h3 => ?_⟩
  have hp : planE p = 0 := Decidable.not_not.1 h1
  have hb := (chk_ok (plan_ok hp).1).1.2
  have hn : 0 ≤ n ∧ n ≤ 1073741824 := by omega
  refine callB B3 (rblocks_ret n p.base.block w3 hn hb) fun w5 b5 B5 => ⟨_, _, rfl, callB B5 (rdear_ret p a a2 c c2 w5 (h.to B5)) fun w6 b6 B6 => ⟨_, rfl, ?_, B6⟩⟩
  have hs := worst_small hp hn
  have hE : worstE p n = 0 := by unfold worstE; rw [if_neg (by omega)]
  unfold worstN
  rw [wr64 (by omega) (by omega), hE, if_pos rfl]
theorem rfit_ret (p : Pl) (a a2 : Option Addr) (c c2 : Nat) (cr want : Int) (w : World) (h : PlAt w p a a2) :
    Calls Try.prog 34 #[planV p a c a2 c2, .int .i64 cr, .int .i64 want] w (Ret (.tuple #[.int .i64 (fitU p cr want), .int .i64 (fitC p cr want), .int .i64 (fitE p cr want)]) w) := by
  refine ret_in (GTar.rfit_calls p.day p.frm p.til p.base.grp p.base.mode p.base.block a p.base.ts.length c p.other.grp p.other.mode p.other.block a2 p.other.ts.length c2 cr want w (fun u w' => u = .tuple #[.int .i64 (fitU p cr want), .int .i64 (fitC p cr want), .int .i64 (fitE p cr want)] ∧ Below w.heap.size w w') ?_)
  unfold GTar.rfit_vc
  have bad : ∀ w', Below w.heap.size w w' → fitE p cr want = 1 → Value.tuple #[.int .i64 0, .int .i64 0, .int .i64 1] = .tuple #[.int .i64 (fitU p cr want), .int .i64 (fitC p cr want), .int .i64 (fitE p cr want)] ∧ Below w.heap.size w w' := fun w' B hE => by
    unfold fitU fitC
    rw [hE]
    exact ⟨rfl, B⟩
  refine newB (Bs.refl w) fun g w2 g0 sg n2 z2 b2 B2 => callB B2 (r9cplan_ret p a a2 c c2 w2 (h.to B2)) fun w3 b3 B3 => ⟨_, rfl, br_dec (fun h1 => bad _ B3 (by unfold fitE; rw [if_pos (.inl h1)])) fun h1 => br_dec (fun h2 => bad _ B3 (by unfold fitE; rw [if_pos (.inr (by omega))])) fun h2 => br_dec (fun h3 => bad _ B3 (by unfold fitE; rw [if_pos (.inr (by omega))])) fun h3 => br_dec (fun h4 => bad _ B3 (by unfold fitE; rw [if_pos (.inr (by omega))])) fun h4 => ?_⟩
  have hp : planE p = 0 := Decidable.not_not.1 h1
  have hb := (chk_ok (plan_ok hp).1).1.2
  have hE : fitE p cr want = 0 := by unfold fitE; rw [if_neg (by omega)]
  have hU : fitU p cr want = fitN p.base.block (dear p) cr want := by unfold fitU; rw [if_pos hE]
  have hC : fitC p cr want = blk (fitU p cr want) p.base.block * dear p := by unfold fitC; rw [if_pos hE]
  have hdr := dear_plan hp
  have hnn := fitN_nn p.base.block (dear p) cr want (by omega) (by omega) (by omega)
  rw [← hU] at hnn
  refine ⟨fun lo hi wx => 0 ≤ lo ∧ lo ≤ fitU p cr want ∧ fitU p cr want ≤ hi ∧ hi ≤ want ∧ Bs w wx, fun lo hi _ => (hi - lo).toNat, ⟨by omega, by omega, by omega, by omega, B3⟩, ?_⟩
  rintro lo hi wx ⟨k0, k1, k2, k3, B⟩
  refine br_dec (fun hlt => ⟨by decide, ?_⟩) fun hge => ?_
  · rw [wr64 (show -9223372036854775808 ≤ hi - lo by omega) (by omega), wr64 (show -9223372036854775808 ≤ hi - lo + 1 by omega) (by omega), Int.tdiv_eq_ediv_of_nonneg (show 0 ≤ hi - lo + 1 by omega)]
    have m0 : lo < lo + (hi - lo + 1) / 2 ∧ lo + (hi - lo + 1) / 2 ≤ hi ∧ (hi - lo + 1) / 2 ≤ hi := by omega
    rw [wr64 (show -9223372036854775808 ≤ (hi - lo + 1) / 2 by omega) (by omega), wr64 (show -9223372036854775808 ≤ lo + (hi - lo + 1) / 2 by omega) (by omega)]
    generalize lo + (hi - lo + 1) / 2 = mid at *
    rw [wr64 (show -9223372036854775808 ≤ mid - 1 by omega) (by omega)]
    have hw : worstE p mid = 0 := by unfold worstE; rw [if_neg (by omega)]
    have hN : worstN p mid = blk mid p.base.block * dear p := by unfold worstN; rw [if_pos hw]
    have hle := fitN_le p.base.block (dear p) cr want mid (by omega) hdr.1 (by omega) (by omega) (by omega)
    rw [← hU] at hle
    refine callB B (rworst_ret p a a2 c c2 mid wx (h.to B)) fun w5 b5 B5 => ⟨_, _, rfl, br_dec (fun hc => ?_) fun hc => ?_⟩
    · rw [hN] at hc
      have := hle.1 hc
      exact ⟨⟨by omega, by omega, k2, k3, B5⟩, by dsimp only; omega⟩
    · rw [hN] at hc
      have : ¬ mid ≤ fitU p cr want := fun q => hc (hle.2 q)
      exact ⟨⟨k0, k1, by omega, by omega, B5⟩, by dsimp only; omega⟩
  · obtain rfl : lo = fitU p cr want := by omega
    refine callB B (rworst_ret p a a2 c c2 _ wx (h.to B)) fun w5 b5 B5 => ⟨_, _, rfl, ?_, B5⟩
    have hw : worstE p (fitU p cr want) = 0 := by unfold worstE; rw [if_neg (by omega)]
    unfold worstN
    rw [if_pos hw, hE, hC]
set_option maxRecDepth 10000 in
theorem rrate_new (p : Pl) (a a2 : Option Addr) (c c2 : Nat) (now pos n : Int) (w : World) (h : PlAt w p a a2) :
    Calls Try.prog 31 #[planV p a c a2 c2, .int .i64 now, .int .i64 pos, .int .i64 n] w fun e w' => (∃ a' c', e = .returned (.tuple #[rtdV (rateR p now pos n) a' c', .int .i64 (rateE p now pos n)]) ∧ LsAt w.heap.size w' a' (rateR p now pos n).ls) ∧ Below w.heap.size w w' := by
  refine (GTar.rrate_calls p.day p.frm p.til p.base.grp p.base.mode p.base.block a p.base.ts.length c p.other.grp p.other.mode p.other.block a2 p.other.ts.length c2 now pos n w (fun u w' => (∃ a' c', u = .tuple #[rtdV (rateR p now pos n) a' c', .int .i64 (rateE p now pos n)] ∧ LsAt w.heap.size w' a' (rateR p now pos n).ls) ∧ Below w.heap.size w w') ?_).mono (by rintro e w' ⟨v, rfl, ⟨a', c', rfl, h⟩, h2⟩; exact ⟨⟨a', c', rfl, h⟩, h2⟩)
  unfold GTar.rrate_vc
  have bad : ∀ w', Below w.heap.size w w' → rateE p now pos n = 1 → (∃ a' c', Value.tuple #[.agg #[.slice none 0 0, .int .i64 0, .int .i64 0, .int .i64 0], .int .i64 1] = .tuple #[rtdV (rateR p now pos n) a' c', .int .i64 (rateE p now pos n)] ∧ LsAt w.heap.size w' a' (rateR p now pos n).ls) ∧ Below w.heap.size w w' := fun w' B hE => by
    have hR : rateR p now pos n = ⟨[], 0, 0, 0⟩ := by unfold rateR; rw [if_neg (by rw [hE]; decide)]
    rw [hR, hE]
    exact ⟨⟨none, 0, rfl, Rws.nil⟩, B⟩
  refine newB (Bs.refl w) fun g w2 g0 sg n2 z2 b2 B2 => newB B2 fun g' w3 g0' sg' n3 z3 b3 B3 => callB B3 (r9cplan_ret p a a2 c c2 w3 (h.to B3)) fun w4 b4 B4 => ⟨_, rfl, br_dec (fun h1 => boxB B4 g0' fun w5 h5 B5 _ => bad _ B5 (by unfold rateE; rw [if_pos (.inl h1)])) fun h1 => ?_⟩
  refine br_dec (fun h2 => boxB B4 g0' fun w5 h5 B5 _ => bad _ B5 (by unfold rateE; rw [if_pos (.inr (.inl h2))])) fun h2 => br_dec (fun h3 => boxB B4 g0' fun w5 h5 B5 _ => bad _ B5 (by unfold rateE; rw [if_pos (.inr (.inr (.inl (by omega))))])) fun h3 => br_dec (fun h3 => boxB B4 g0' fun w5 h5 B5 _ => bad _ B5 (by unfold rateE; rw [if_pos (.inr (.inr (.inl (by omega))))])) fun h4 => ?_
  have hp : planE p = 0 := Decidable.not_not.1 h1
  obtain ⟨hat, hbl, _⟩ := at_ok hp now
  have hb := (chk_ok (plan_ok hp).1).1.2
  have hn : 0 ≤ n ∧ n ≤ 1073741824 := by omega
  have hRR : rateE p now pos n = 0 → rateR p now pos n = ⟨splitL (atT p now) pos (blk n p.base.block), blk n p.base.block, costOf (splitL (atT p now) pos (blk n p.base.block)), pos + blk n p.base.block⟩ := fun hE => by unfold rateR; rw [if_pos hE]
  have hbn := blk_nn n p.base.block (by omega) hn.1
  have hbs := blk_self n p.base.block (by omega) hn.1
  have hbb : 0 ≤ blk n p.base.block ∧ blk n p.base.block ≤ 1073741824 := ⟨hbn, Int.le_trans hbs hn.2⟩
  have hbk := fun wy => rblocks_ret n p.base.block wy hn hb
  have hso : posOk pos → ∀ tt : Tar, splitO tt pos (blk n p.base.block) = splitL tt pos (blk n p.base.block) := fun hpos tt => by unfold splitO; rw [if_pos hpos]
  have hE1 : posOk pos → rateE p now pos n = 0 := fun hpos => by
    have hno : ¬ (planE p ≠ 0 ∨ now < 0 ∨ ¬ (0 ≤ n ∧ n ≤ 1073741824) ∨ ¬ posOk pos) := fun k => k.elim (fun k => k hp) fun k => k.elim h2 fun k => k.elim (fun k => k hn) fun k => k hpos
    unfold rateE
    rw [if_neg hno]
  have hE0 : ¬ posOk pos → rateE p now pos n = 1 := fun k => by unfold rateE; rw [if_pos (.inr (.inr (.inr k)))]
  rw [← hbl] at hbk hbb hRR hso
  have b4s := b4.size
  refine newB B4 fun g3 w9 g0'' sg'' n9 z9 b9 B9 => boxB B9 g0'' fun w10 h10 B10 z10 => callB B10 (ris_ret p a a2 c c2 now w10) fun w11 b11 B11 => ⟨_, rfl, ?_⟩
  have b11s := b11.size
  have rest : ∀ (tt : Tar) (at' : Option Addr) (ct : Nat), tt = atT p now → (∀ wy, Bs w wy → TsAt 0 wy at' tt.ts) → ∀ wy, Bs w wy → w11.heap.size ≤ wy.heap.size → Calls Try.prog 68 #[.int .i64 n, .int .i64 tt.block] wy fun e_3 w_13 => KeepG [g3, g', g] wy w_13 ∧
            ∃ (x44_0 : Int) (b44_1 : Bool),
            e_3 = .returned (.tuple #[.int .i64 x44_0, .bool b44_1]) ∧
            Calls Try.prog 69 #[tarV tt at' ct, .int .i64 pos, .int .i64 x44_0] w_13 fun e_4 w_14 => KeepG [g3, g', g] w_13 w_14 ∧
            ∃ (a51_0 : Option Addr) (n51_0 : Nat) (c51_0 : Nat) (x51_1 : Int),
            e_4 = .returned (.tuple #[.slice a51_0 n51_0 c51_0, .int .i64 x51_1]) ∧
            br (decide (x51_1 ≠ 0)) (
              ∀ w_15 : World, BoxSt g' w_14 w_15 →
              (∃ a' c', Value.tuple #[.agg #[.slice none 0 0, .int .i64 0, .int .i64 0, .int .i64 0], .int .i64 1] = .tuple #[rtdV (rateR p now pos n) a' c', .int .i64 (rateE p now pos n)] ∧ LsAt w.heap.size w_15 a' (rateR p now pos n).ls) ∧ Below w.heap.size w w_15
            ) (
              Calls Try.prog 37 #[.slice a51_0 n51_0 c51_0] w_14 fun e_5 w_16 => KeepG [g3, g', g] w_14 w_16 ∧
              ∃ (x59_0 : Int) (b59_1 : Bool),
              e_5 = .returned (.tuple #[.int .i64 x59_0, .bool b59_1]) ∧
              ∀ w_17 : World, BoxSt g' w_16 w_17 →
              (∃ a' c', Value.tuple #[.agg #[.slice a51_0 n51_0 c51_0, .int .i64 x44_0, .int .i64 x59_0, .int .i64 (IntKind.i64.wrap (pos + x44_0))], .int .i64 0] = .tuple #[rtdV (rateR p now pos n) a' c', .int .i64 (rateE p now pos n)] ∧ LsAt w.heap.size w_17 a' (rateR p now pos n).ls) ∧ Below w.heap.size w w_17
            ) := by
    intro tt at' ct htt hts wy By hsz
    rw [← htt] at hbk hbb hRR hso hat
    generalize blk n tt.block = m at *
    refine callB By (hbk wy) fun w13 b13 B13 => ⟨_, _, rfl, callQ B13 (r10split_new tt at' ct pos m w13 (hts w13 B13) hat hbb) ?_⟩
    rintro e w14 ⟨a14, c14, rfl, h14⟩ b14 B14
    have b13s := b13.size
    refine ⟨_, _, _, _, rfl, br_dec (fun h5 => boxB B14 g0' fun w15 h15 B15 _ => bad _ B15 (hE0 fun k => h5 (by rw [if_pos k]))) fun h5 => ?_⟩
    have hpos : posOk pos := Decidable.byContradiction fun k => h5 (by rw [if_neg k]; decide)
    have hls := splitO_ok hat pos (n := m) hbb
    rw [hso hpos] at h14 hls ⊢
    rw [hRR (hE1 hpos), hE1 hpos]
    refine callB B14 (r10cost_ret a14 c14 _ w14 (h14.low (Nat.zero_le _)) hls) fun w16 b16 B16 => ⟨_, _, rfl, boxB B16 g0' fun w18 h18 B18 z18 => ⟨⟨a14, c14, ?_, ?_⟩, B18⟩⟩
    · rw [wr64 (by have := hpos.1; omega) (by have := hpos.2; omega)]
      rfl
    · exact ((h14.below b16).box h18 (by omega)).low (by omega)
  refine br_dec (fun ho => boxB B11 g0'' fun w12 h12 B12 z12 => ?_) fun ho => ?_
  · exact rest p.other a2 c2 (by unfold atT; rw [if_pos ho]) (fun wy By => h.other.below By) w12 B12 (by omega)
  · exact rest p.base a c (by unfold atT; rw [if_neg ho]) (fun wy By => h.base.below By) w11 B11 (by omega)
end Go.Proofs.Ytecmpjccdhmeeaa
end
section
/- The laws of rating: the plan that comes in, tamed; what is tried of the program once; RateTells, RateBounded, RateFits; walked. -/
namespace Go.Proofs.Ytecmpjccdhmeeaa
open Go.RowKit
def tameT (t : Tar) : Tar := { t with ts := t.ts.take 9 }
def tameP (p : Pl) : Pl := { p with base := tameT p.base, other := tameT p.other }
theorem min9 (ts : List Tr) : (min ((ts.length : Nat) : Int) 9).toNat = (ts.take 9).length := by rw [List.length_take]; omega
theorem take9 (ts : List Tr) : (ts.take 9).length ≤ 9 := by rw [List.length_take]; omega
def DayIn (p : Pl) : Prop := -9223372036854775808 ≤ p.day ∧ p.day ≤ 9223372036854775807
theorem PlAt.box {w w1 : World} {p : Pl} {a a2 : Option Addr} {n g : Nat} (h1 : TsAt n w a p.base.ts) (h2 : TsAt n w a2 p.other.ts) (l1 : p.base.ts.length ≤ 1000) (l2 : p.other.ts.length ≤ 1000) (hb : BoxSt g w w1) (hg : g < n) : PlAt w1 p a a2 :=
  ⟨(h1.box hb hg).low (Nat.zero_le _), (h2.box hb hg).low (Nat.zero_le _), l1, l2⟩
set_option maxRecDepth 10000 in
theorem tame_new (p : Pl) (a a2 : Option Addr) (c c2 : Nat) (w : World) (h1 : TsAt 0 w a p.base.ts) (h2 : TsAt 0 w a2 p.other.ts) (l1 : p.base.ts.length ≤ c) (l2 : p.other.ts.length ≤ c2) :
    Calls Try.prog 29 #[planV p a c a2 c2] w fun e w' => (∃ a' c' b' d', e = .returned (planV (tameP p) a' c' b' d') ∧ TsAt w.heap.size w' a' (tameP p).base.ts ∧ TsAt w.heap.size w' b' (tameP p).other.ts) ∧ Below w.heap.size w w' := by
  refine (GRateL.tame_calls p.day p.frm p.til p.base.grp p.base.mode p.base.block a p.base.ts.length c p.other.grp p.other.mode p.other.block a2 p.other.ts.length c2 w (fun u w' => (∃ a' c' b' d', u = planV (tameP p) a' c' b' d' ∧ TsAt w.heap.size w' a' (tameP p).base.ts ∧ TsAt w.heap.size w' b' (tameP p).other.ts) ∧ Below w.heap.size w w') ?_).mono (by rintro e w' ⟨v, rfl, ⟨a', c', b', d', rfl, h⟩, h2⟩; exact ⟨⟨a', c', b', d', rfl, h⟩, h2⟩)
  unfold GRateL.tame_vc
  have t1 := take9 p.base.ts
  have t2 := take9 p.other.ts
  refine newB (Bs.refl w) fun g w2 g0 sg n2 z2 b2 B2 => newB B2 fun g' w3 g0' sg' n3 z3 b3 B3 => newB B3 fun g4 w4 g04 sg4 n4 z4 b4 B4 => ⟨by omega, by omega, ?_⟩
  have o4 : Own w4 w3.heap.size 120 2 (.slice (some ⟨g4, 0, none⟩) 0 0) 0 [] := (own_empty 2 n4).base_le fun k hk => by simp [Value.ownBlock] at hk; omega
  have s4 := ((h1.below B4).take 9).src (c := c) Try.underlying22 (by decide) tr_len tr_one
  rw [min9]
  refine appB B4 o4 B3.size (by omega) s4 (by unfold maxLen; omega) (by omega) (fun x hx e => ?_) fun a5 c5 w5 o5 g5 B5 z5 => boxB B5 g0 fun w6 h6 B6 z6 => ?_
  · have := (o4.lt _ e).1
    simp at hx
    omega
  have f5 : TsAt w3.heap.size w5 a5 (p.base.ts.take 9) := Rws.ofOwn (by decide) tr_len (by rw [List.nil_append] at o5; exact o5)
  have f6 := f5.box h6 (by omega)
  refine newB B6 fun g7 w7 g07 sg7 n7 z7 b7 B7 => ⟨by omega, by omega, ?_⟩
  have o7 : Own w7 w6.heap.size 120 2 (.slice (some ⟨g7, 0, none⟩) 0 0) 0 [] := (own_empty 2 n7).base_le fun k hk => by simp [Value.ownBlock] at hk; omega
  have s7 := ((h2.below B7).take 9).src (c := c2) Try.underlying22 (by decide) tr_len tr_one
  rw [min9]
  refine appB B7 o7 B6.size (by omega) s7 (by unfold maxLen; omega) (by omega) (fun x hx e => ?_) fun a8 c8 w8 o8 g8 B8 z8 => boxB B8 g0 fun w9 h9 B9 z9 => boxB B9 g0' fun w10 h10 B10 z10 => ?_
  · have := (o7.lt _ e).1
    simp at hx
    omega
  have f8 : TsAt w3.heap.size w8 a5 (p.base.ts.take 9) := f6.keep fun b _ hb => (g8.block b (by omega) (by simp [Value.ownBlock]; omega)).trans (b7.block b hb)
  have e8 : TsAt w3.heap.size w8 a8 (p.other.ts.take 9) := Rws.low (Rws.ofOwn (by decide) tr_len (by rw [List.nil_append] at o8; exact o8)) (by omega)
  rw [Nat.zero_add, Nat.zero_add]
  exact ⟨⟨a5, c5, a8, c8, rfl, ((f8.box h9 (by omega)).box h10 (by omega)).low (by omega), ((e8.box h9 (by omega)).box h10 (by omega)).low (by omega)⟩, B10⟩
theorem to_ret (p : Pl) (a a2 : Option Addr) (c c2 : Nat) (w : World) : Calls Try.prog 30 #[planV p a c a2 c2] w (Ret (planV p a c a2 c2) w) := by
  refine ret_in (GRateL.lto_calls p.day p.frm p.til p.base.grp p.base.mode p.base.block a p.base.ts.length c p.other.grp p.other.mode p.other.block a2 p.other.ts.length c2 w (fun u w' => u = planV p a c a2 c2 ∧ Below w.heap.size w w') ?_)
  unfold GRateL.lto_vc
  exact newB (Bs.refl w) fun g w2 g0 sg n2 z2 b2 B2 => newB B2 fun g' w3 g0' sg' n3 z3 b3 B3 => boxB B3 g0' fun w4 h4 B4 z4 => ⟨rfl, B4⟩
def plan0 : Pl := ⟨0, 0, 0, ⟨1, 1, 10, [⟨0, 3⟩]⟩, ⟨0, 0, 0, []⟩⟩
theorem plan0_rate : rateE plan0 0 0 11 = 0 ∧ (rateR plan0 0 0 11).blocks = 2 ∧ (rateR plan0 0 0 11).cost = 6 ∧ (rateR plan0 0 0 11).pos = 2 ∧ fitE plan0 7 100 = 0 ∧ fitU plan0 7 100 = 20 ∧ fitC plan0 7 100 = 6 := by decide +kernel
theorem rates_ret (w : World) : Calls Try.prog 35 #[] w (Ret (.bool true) w) := by
  refine ret_in (GRateL.rates_calls w (fun u w' => u = .bool true ∧ Below w.heap.size w w') ?_)
  unfold GRateL.rates_vc
  obtain ⟨q1, q2, q3, q4, q5, q6, q7⟩ := plan0_rate
  refine newB (Bs.refl w) fun g w2 g0 sg n2 z2 b2 B2 => ?_
  have hp : PlAt w2 plan0 (some ⟨g, 0, none⟩) none := ⟨Rws.one (x := (⟨0, 3⟩ : Tr)) n2 (Nat.zero_le _), Rws.nil, by decide, by decide⟩
  refine newB (Bs.refl w2) fun g' w3 g0' sg' n3 z3 b3 B3 => boxB B3 g0' fun w4 h4 B4 z4 => callQ B4 (rate_new plan0 (some ⟨g, 0, none⟩) none 1 0 0 0 11 w4 (hp.to B4) (by decide)) ?_
  rintro e w5 ⟨a5, c5, rfl, l5⟩ b5 B5
  refine ⟨_, _, _, _, _, _, _, rfl, newB B5 fun g6 w6 g06 sg6 n6 z6 b6 B6 => boxB B6 g06 fun w7 h7 B7 z7 => callB B7 (fit_ret plan0 (some ⟨g, 0, none⟩) none 1 0 7 100 w7 (hp.to B7) (by decide) (by decide)) fun w8 b8 B8 => ⟨_, _, _, rfl, ?_⟩⟩
  rw [q1, q2, q3, q4, q5, q6, q7]
  exact br_y rfl (br_y rfl (br_y rfl (br_y rfl (br_y rfl (br_y rfl ⟨rfl, B2.to B8⟩)))))
theorem dearT_at {p : Pl} (now : Int) : dearT (atT p now).ts ≤ dear p := by
  unfold atT dear
  split <;> omega
theorem tells_walk (p : Pl) (a a2 : Option Addr) (c c2 : Nat) (now pos n cr : Int) (w : World) (h1 : TsAt 0 w a p.base.ts) (h2 : TsAt 0 w a2 p.other.ts) (l1 : p.base.ts.length ≤ c) (l2 : p.other.ts.length ≤ c2) (hd : DayIn p) (hc : cr ≤ 9223372036854775807) :
    Calls Try.prog 6 #[planV p a c a2 c2, .agg #[.int .i64 now, .int .i64 pos, .int .i64 n, .int .i64 cr]] w (Ret (.bool true) w) := by
  refine ret_in (GRateL.tells_calls p.day p.frm p.til p.base.grp p.base.mode p.base.block a p.base.ts.length c p.other.grp p.other.mode p.other.block a2 p.other.ts.length c2 now pos n cr w (fun u w' => u = .bool true ∧ Below w.heap.size w w') ?_)
  unfold GRateL.tells_vc
  refine newB (Bs.refl w) fun g w2 g0 sg n2 z2 b2 B2 => newB B2 fun g' w3 g0' sg' n3 z3 b3 B3 => callQ B3 (tame_new p a a2 c c2 w3 (h1.below B3) (h2.below B3) l1 l2) ?_
  rintro e w4 ⟨a', c', b', d', rfl, h3, h4⟩ b4 B4
  refine ⟨_, _, _, _, _, _, _, _, _, _, _, _, _, _, _, rfl, boxB B4 g0 fun w5 h5 B5 z5 => ?_⟩
  have hP : PlAt w5 (tameP p) a' b' := PlAt.box h3 h4 (Nat.le_trans (take9 _) (by decide)) (Nat.le_trans (take9 _) (by decide)) h5 (by omega)
  have hd' : DayIn (tameP p) := hd
  generalize tameP p = q at *
  refine callB (Bs.refl w5) (to_ret q a' b' c' d' w5) fun w6 b6 C6 => ⟨_, _, _, _, _, _, _, _, _, _, _, _, _, _, _, rfl, newB C6 fun g7 w7 g07 sg7 n7 z7 b7 C7 => boxB C7 g07 fun w8 h8 C8 z8 => callQ C8 (rate_new q a' b' c' d' now pos n w8 (hP.to C8) hd') ?_⟩
  rintro e w9 ⟨a9, c9, rfl, l9⟩ b9 C9
  refine ⟨_, _, _, _, _, _, _, rfl, newB (Bs.refl w9) fun g10 w10 g010 sg10 n10 z10 b10 D10 => boxB D10 g010 fun w11 h11 D11 z11 => callQ D11 (rrate_new q a' b' c' d' now pos n w11 (hP.to (C9.to D11))) ?_⟩
  rintro e w12 ⟨a12, c12, rfl, l12⟩ b12 D12
  refine ⟨_, _, _, _, _, _, _, rfl, newB (Bs.refl w12) fun g13 w13 g013 sg13 n13 z13 b13 E13 => boxB E13 g013 fun w14 h14 E14 z14 => ?_⟩
  have C12 := C9.to D12
  refine callB E14 (worst_ret q a' b' c' d' n w14 (hP.to (C12.to E14)) hd') fun w15 b15 E15 => ⟨_, _, rfl, callB E15 (rworst_ret q a' b' c' d' n w15 (hP.to (C12.to E15))) fun w16 b16 E16 => ⟨_, _, rfl, ?_⟩⟩
  refine callB E16 (fit_ret q a' b' c' d' cr n w16 (hP.to (C12.to E16)) hd' hc) fun w17 b17 E17 => ⟨_, _, _, rfl, callB E17 (rfit_ret q a' b' c' d' cr n w17 (hP.to (C12.to E17))) fun w18 b18 E18 => ⟨_, _, _, rfl, ?_⟩⟩
  refine callB E18 (rates_ret w18) fun w19 b19 E19 => ⟨_, rfl, br_t rfl (br_y rfl (callB E19 (lsame_ret a9 a12 c9 c12 _ w19 ((l9.below (D12.to E19)).low (Nat.zero_le _)) ((l12.below E19).low (Nat.zero_le _)) ?_) fun w20 b20 E20 => ⟨_, rfl, ?_⟩))⟩
  · by_cases hE : rateE q now pos n = 0
    · obtain ⟨k1, k2, k3, k4⟩ := rateE_ok hE
      have hat := at_ok k1 now
      have hb := (chk_ok (plan_ok k1).1).1.2
      have := (splitL_ok hat.1 k4.1 (blk_nn n q.base.block (by omega) k3.1)).2.2
      unfold rateR
      rw [if_pos hE]
      exact Nat.le_trans this (by decide)
    · unfold rateR
      rw [if_neg hE]
      exact Nat.zero_le _
  · exact br_t rfl (br_y rfl (br_y rfl (br_y rfl (br_y rfl (br_y rfl (br_y rfl (br_y rfl ⟨by simp, B5.to (C12.to E20)⟩)))))))
end Go.Proofs.Ytecmpjccdhmeeaa
end
section
/- The laws of rating: RateBounded, RateFits; walked. -/
namespace Go.Proofs.Ytecmpjccdhmeeaa
open Go.RowKit
theorem rateR_len (q : Pl) (now pos n : Int) : (rateR q now pos n).ls.length ≤ 1000 := by
  by_cases hE : rateE q now pos n = 0
  · obtain ⟨k1, k2, k3, k4⟩ := rateE_ok hE
    have hat := at_ok k1 now
    have hb := (chk_ok (plan_ok k1).1).1.2
    have := (splitL_ok hat.1 k4.1 (blk_nn n q.base.block (by omega) k3.1)).2.2
    unfold rateR
    rw [if_pos hE]
    exact Nat.le_trans this (by decide)
  · unfold rateR
    rw [if_neg hE]
    exact Nat.zero_le _
theorem rateR_yes {q : Pl} {now pos n : Int} (hE : rateE q now pos n = 0) : rateR q now pos n = ⟨splitL (atT q now) pos (blk n q.base.block), blk n q.base.block, costOf (splitL (atT q now) pos (blk n q.base.block)), pos + blk n q.base.block⟩ := by unfold rateR; rw [if_pos hE]
theorem rate_facts {q : Pl} {now pos n : Int} (hE : rateE q now pos n = 0) :
    LsOk (rateR q now pos n).ls ∧ (rateR q now pos n).cost = costOf (rateR q now pos n).ls ∧ 0 ≤ (rateR q now pos n).cost ∧ (rateR q now pos n).cost ≤ worstN q n ∧ (rateR q now pos n).pos = pos + (rateR q now pos n).blocks ∧ 0 ≤ (rateR q now pos n).blocks ∧ (rateR q now pos n).blocks ≤ 1073741824 ∧ worstE q n = 0 ∧ posOk pos := by
  obtain ⟨k1, k2, k3, k4⟩ := rateE_ok hE
  have hat := at_ok k1 now
  have hb := (chk_ok (plan_ok k1).1).1.2
  have hbn := blk_nn n q.base.block (by omega) k3.1
  have hbs := blk_self n q.base.block (by omega) k3.1
  have hc := splitL_cost hat.1 k4.1 hbn
  have hso : LsOk (splitL (atT q now) pos (blk n q.base.block)) := by
    have := splitO_ok hat.1 pos (n := blk n q.base.block) (by omega)
    unfold splitO at this
    rwa [if_pos k4] at this
  have hw : worstE q n = 0 := by unfold worstE; rw [if_neg (by omega)]
  have hd := Int.mul_le_mul_of_nonneg_left (dearT_at (p := q) now) hbn
  rw [rateR_yes hE]
  unfold worstN
  rw [if_pos hw]
  exact ⟨hso, rfl, hc.1, Int.le_trans hc.2 hd, rfl, hbn, by dsimp only; omega, hw, k4⟩
set_option maxRecDepth 10000 in
theorem bounded_walk (p : Pl) (a a2 : Option Addr) (c c2 : Nat) (now pos n cr : Int) (w : World) (h1 : TsAt 0 w a p.base.ts) (h2 : TsAt 0 w a2 p.other.ts) (l1 : p.base.ts.length ≤ c) (l2 : p.other.ts.length ≤ c2) (hd : DayIn p) :
    Calls Try.prog 7 #[planV p a c a2 c2, .agg #[.int .i64 now, .int .i64 pos, .int .i64 n, .int .i64 cr]] w (Ret (.bool true) w) := by
  refine ret_in (GRateL.bounded_calls p.day p.frm p.til p.base.grp p.base.mode p.base.block a p.base.ts.length c p.other.grp p.other.mode p.other.block a2 p.other.ts.length c2 now pos n cr w (fun u w' => u = .bool true ∧ Below w.heap.size w w') ?_)
  unfold GRateL.bounded_vc
  refine newB (Bs.refl w) fun g w2 g0 sg n2 z2 b2 B2 => newB B2 fun g' w3 g0' sg' n3 z3 b3 B3 => callQ B3 (tame_new p a a2 c c2 w3 (h1.below B3) (h2.below B3) l1 l2) ?_
  rintro e w4 ⟨a', c', b', d', rfl, h3, h4⟩ b4 B4
  refine ⟨_, _, _, _, _, _, _, _, _, _, _, _, _, _, _, rfl, boxB B4 g0 fun w5 h5 B5 z5 => ?_⟩
  have hP : PlAt w5 (tameP p) a' b' := PlAt.box h3 h4 (Nat.le_trans (take9 _) (by decide)) (Nat.le_trans (take9 _) (by decide)) h5 (by omega)
  have hd' : DayIn (tameP p) := hd
  generalize tameP p = q at *
  have fin : ∀ (wy : World) (gx : Nat) (ax : Option Addr) (cx : Nat), Bs w5 wy → LsAt 0 wy ax (rateR q now pos n).ls → GRateL.bounded_k1 (fun u w' => u = .bool true ∧ Below w.heap.size w w') pos n g g' q.day q.frm q.til q.base.grp q.base.mode q.base.block a' q.base.ts.length c' q.other.grp q.other.mode q.other.block b' q.other.ts.length d' (rateE q now pos n) gx ax (rateR q now pos n).ls.length cx (rateR q now pos n).blocks (rateR q now pos n).cost (rateR q now pos n).pos wy := by
    intro wy gx ax cx By hl
    unfold GRateL.bounded_k1
    refine drewB (Bs.refl wy) fun w12 b12 C12 _ => callB C12 (to_ret q a' b' c' d' w12) fun w13 b13 C13 => ⟨_, _, _, _, _, _, _, _, _, _, _, _, _, _, _, rfl, callB C13 (worst_ret q a' b' c' d' n w13 (hP.to (By.to C13)) hd') fun w14 b14 C14 => ⟨_, _, rfl, callB C14 (rates_ret w14) fun w15 b15 C15 => ⟨_, rfl, br_f rfl (br_dec (fun hE => ?_) fun hE => ?_)⟩⟩⟩
    · exact callB C15 (rates_ret w15) fun w16 b16 C16 => ⟨_, rfl, rfl, B5.to (By.to C16)⟩
    · obtain ⟨f1, f2, f3, f4, f5, f6, f7, f8, f9⟩ := rate_facts (Decidable.not_not.1 hE)
      refine callB C15 (r10cost_ret ax cx _ w15 (hl.below C15) f1) fun w18 b18 C18 => ⟨_, _, rfl, br_y f8 (br_y f3 (br_y f4 (br_t rfl (br_y f2.symm ⟨?_, B5.to (By.to C18)⟩))))⟩
      rw [wr64 (by have := f9.1; omega) (by have := f9.2; omega), f5]
      simp
  refine drewB (Bs.refl w5) fun w6 b6 C6 _ => ⟨callB C6 (to_ret q a' b' c' d' w6) fun w7 b7 C7 => ⟨_, _, _, _, _, _, _, _, _, _, _, _, _, _, _, rfl, ⟨callQ C7 (rate_new q a' b' c' d' now pos n w7 (hP.to C7) hd') ?_, newB C7 fun g8 w8 g08 sg8 n8 z8 b8 C8 => callQ C8 (rate_new q a' b' c' d' now pos n w8 (hP.to C8) hd') ?_⟩⟩, newB C6 fun g8 w8 g08 sg8 n8 z8 b8 C8 => callB C8 (to_ret q a' b' c' d' w8) fun w9 b9 C9 => ⟨_, _, _, _, _, _, _, _, _, _, _, _, _, _, _, rfl, callQ C9 (rate_new q a' b' c' d' now pos n w9 (hP.to C9) hd') ?_⟩⟩
  · rintro e w9 ⟨a9, c9, rfl, l9⟩ b9 C9
    exact ⟨_, _, _, _, _, _, _, rfl, newB C9 fun g10 w10 g010 sg10 n10 z10 b10 C10 => boxB C10 g010 fun w11 h11 C11 z11 => fin w11 _ _ _ C11 ((l9.newbox b10 sg10 h11).low (Nat.zero_le _))⟩
  · rintro e w9 ⟨a9, c9, rfl, l9⟩ b9 C9
    exact ⟨_, _, _, _, _, _, _, rfl, boxB C9 g08 fun w11 h11 C11 z11 => fin w11 _ _ _ C11 ((l9.box h11 (by omega)).low (Nat.zero_le _))⟩
  · rintro e w10 ⟨a9, c9, rfl, l9⟩ b10 C10
    have b9s := b9.size
    exact ⟨_, _, _, _, _, _, _, rfl, boxB C10 g08 fun w11 h11 C11 z11 => fin w11 _ _ _ C11 ((l9.box h11 (by omega)).low (Nat.zero_le _))⟩
set_option maxRecDepth 10000 in
theorem fits_walk (p : Pl) (a a2 : Option Addr) (c c2 : Nat) (cr want : Int) (w : World) (h1 : TsAt 0 w a p.base.ts) (h2 : TsAt 0 w a2 p.other.ts) (l1 : p.base.ts.length ≤ c) (l2 : p.other.ts.length ≤ c2) (hd : DayIn p) (hc : cr ≤ 9223372036854775807) :
    Calls Try.prog 8 #[planV p a c a2 c2, .int .i64 cr, .int .i64 want] w (Ret (.bool true) w) := by
  refine ret_in (GRateL.fits_calls p.day p.frm p.til p.base.grp p.base.mode p.base.block a p.base.ts.length c p.other.grp p.other.mode p.other.block a2 p.other.ts.length c2 cr want w (fun u w' => u = .bool true ∧ Below w.heap.size w w') ?_)
  unfold GRateL.fits_vc
  refine newB (Bs.refl w) fun g w2 g0 sg n2 z2 b2 B2 => callQ B2 (tame_new p a a2 c c2 w2 (h1.below B2) (h2.below B2) l1 l2) ?_
  rintro e w4 ⟨a', c', b', d', rfl, h3, h4⟩ b4 B4
  refine ⟨_, _, _, _, _, _, _, _, _, _, _, _, _, _, _, rfl, boxB B4 g0 fun w5 h5 B5 z5 => ?_⟩
  have hP : PlAt w5 (tameP p) a' b' := PlAt.box h3 h4 (Nat.le_trans (take9 _) (by decide)) (Nat.le_trans (take9 _) (by decide)) h5 (by omega)
  have hd' : DayIn (tameP p) := hd
  generalize tameP p = q at *
  refine callB (Bs.refl w5) (to_ret q a' b' c' d' w5) fun w6 b6 C6 => ⟨_, _, _, _, _, _, _, _, _, _, _, _, _, _, _, rfl, callB C6 (fit_ret q a' b' c' d' cr want w6 (hP.to C6) hd' hc) fun w7 b7 C7 => ⟨_, _, _, rfl, callB C7 (rates_ret w7) fun w8 b8 C8 => ⟨_, rfl, br_f rfl (br_dec (fun hE => ?_) fun hE => ?_)⟩⟩⟩
  · have hU : fitU q cr want = 0 := by unfold fitU; rw [if_neg hE]
    have hC : fitC q cr want = 0 := by unfold fitC; rw [if_neg hE]
    rw [hU, hC]
    exact callB C8 (rates_ret w8) fun w9 b9 C9 => ⟨_, rfl, br_t rfl (br_y rfl ⟨rfl, B5.to C9⟩)⟩
  have hE := Decidable.not_not.1 hE
  have hU : fitU q cr want = fitN q.base.block (dear q) cr want := by unfold fitU; rw [if_pos hE]
  have hC : fitC q cr want = blk (fitU q cr want) q.base.block * dear q := by unfold fitC; rw [if_pos hE]
  obtain ⟨k1, k2, k3⟩ : planE q = 0 ∧ (0 ≤ want ∧ want ≤ 1073741824) ∧ 0 ≤ cr := by
    unfold fitE at hE
    split at hE
    · cases hE
    · omega
  have hb := (chk_ok (plan_ok k1).1).1.2
  have hdr := dear_plan k1
  have hnn := fitN_nn q.base.block (dear q) cr want (by omega) k3 k2.1
  rw [← hU] at hnn
  have hle := fun n hn hw => fitN_le q.base.block (dear q) cr want n (by omega) hdr.1 k3 hn hw
  rw [← hU] at hle
  have hw : ∀ n, 0 ≤ n → n ≤ want → worstE q n = 0 := fun n h1 h2 => by unfold worstE; rw [if_neg (by omega)]
  have hN : ∀ n, 0 ≤ n → n ≤ want → worstN q n = blk n q.base.block * dear q := fun n h1 h2 => by unfold worstN; rw [if_pos (hw n h1 h2)]
  refine callB C8 (to_ret q a' b' c' d' w8) fun w10 b10 C10 => ⟨_, _, _, _, _, _, _, _, _, _, _, _, _, _, _, rfl, callB C10 (worst_ret q a' b' c' d' _ w10 (hP.to C10) hd') fun w11 b11 C11 => ⟨_, _, rfl, ?_⟩⟩
  have hcr := (hle _ hnn.1 hnn.2).2 (Int.le_refl _)
  rw [hw _ hnn.1 hnn.2, hN _ hnn.1 hnn.2, hC]
  refine br_n (by omega) (br_n (by omega) (br_n (by omega) (br_n (by omega) (br_n (by omega) (br_dec (fun he => ⟨rfl, B5.to C11⟩) fun he => ?_)))))
  rw [wr64 (by omega) (by omega)]
  refine callB C11 (to_ret q a' b' c' d' w11) fun w12 b12 C12 => ⟨_, _, _, _, _, _, _, _, _, _, _, _, _, _, _, rfl, callB C12 (worst_ret q a' b' c' d' _ w12 (hP.to C12) hd') fun w13 b13 C13 => ⟨_, _, rfl, ?_⟩⟩
  rw [hw _ (by omega) (by omega), hN _ (by omega) (by omega)]
  have hno : ¬ blk (fitU q cr want + 1) q.base.block * dear q ≤ cr := fun k => by have := (hle _ (by omega) (by omega)).1 k; omega
  exact br_y rfl ⟨by rw [decide_eq_true (by omega)], B5.to C13⟩
end Go.Proofs.Ytecmpjccdhmeeaa
end
section
/- The laws of rating: RateApart, RateSteady; walked. -/
namespace Go.Proofs.Ytecmpjccdhmeeaa
open Go.RowKit
theorem tdiv_pos_eq {a b : Int} (ha : 0 ≤ a) : Int.tdiv a b = a / b := Int.tdiv_eq_ediv_of_nonneg ha
/-- A rate of whole blocks. -/
theorem rate_whole {q : Pl} {now pos k : Int} (hp : planE q = 0) (hn : 0 ≤ now) (ho : posOk pos) (hk : 0 ≤ k) (hkb : k * q.base.block ≤ 1073741824) :
    rateE q now pos (k * q.base.block) = 0 ∧ rateR q now pos (k * q.base.block) = ⟨splitL (atT q now) pos k, k, costOf (splitL (atT q now) pos k), pos + k⟩ := by
  have hb := (chk_ok (plan_ok hp).1).1.2
  have h0 : 0 ≤ k * q.base.block := Int.mul_nonneg hk (by omega)
  have hE : rateE q now pos (k * q.base.block) = 0 := by
    unfold rateE
    rw [if_neg]
    intro h
    rcases h with h | h | h | h
    · exact h hp
    · omega
    · exact h ⟨h0, hkb⟩
    · exact h ho
  refine ⟨hE, ?_⟩
  rw [rateR_yes hE, blk_whole k _ (by omega)]
theorem split_sum {t : Tar} (h : chkE t = 0) (hm : t.mode = 1) (pos k1 k2 : Int) (h1 : 0 ≤ k1) (h2 : 0 ≤ k2) : costOf (splitL t pos k1) + costOf (splitL t (pos + k1) k2) = costOf (splitL t pos (k1 + k2)) := by
  have e : ∀ p n, splitL t p n = splitG 0 0 t.ts p (p + n) := fun p n => by unfold splitL; rw [if_neg (fun k => by omega)]
  rw [e, e, e, splitG_apart t.ts 0 0 0 0 pos (pos + k1) (pos + k1 + k2) (chk_ok h).2.2.2 (by omega) (by omega), Int.add_assoc]
set_option maxRecDepth 10000 in
theorem apart_walk (p : Pl) (a a2 : Option Addr) (c c2 : Nat) (now0 pos0 n0 cr more : Int) (w : World) (h1 : TsAt 0 w a p.base.ts) (h2 : TsAt 0 w a2 p.other.ts) (l1 : p.base.ts.length ≤ c) (l2 : p.other.ts.length ≤ c2) (hd : DayIn p) :
    Calls Try.prog 9 #[planV p a c a2 c2, .agg #[.int .i64 now0, .int .i64 pos0, .int .i64 n0, .int .i64 cr], .int .i64 more] w (Ret (.bool true) w) := by
  refine ret_in (GRateL.apart_calls p.day p.frm p.til p.base.grp p.base.mode p.base.block a p.base.ts.length c p.other.grp p.other.mode p.other.block a2 p.other.ts.length c2 now0 pos0 n0 cr more w (fun u w' => u = .bool true ∧ Below w.heap.size w w') ?_)
  unfold GRateL.apart_vc
  refine newB (Bs.refl w) fun g w2 g0 sg n2 z2 b2 B2 => newB B2 fun g' w3 g0' sg' n3 z3 b3 B3 => callQ B3 (tame_new p a a2 c c2 w3 (h1.below B3) (h2.below B3) l1 l2) ?_
  rintro e w4 ⟨a', c', b', d', rfl, h3, h4⟩ b4 B4
  refine ⟨_, _, _, _, _, _, _, _, _, _, _, _, _, _, _, rfl, boxB B4 g0 fun w5 h5 B5 z5 => ?_⟩
  have hP : PlAt w5 (tameP p) a' b' := PlAt.box h3 h4 (Nat.le_trans (take9 _) (by decide)) (Nat.le_trans (take9 _) (by decide)) h5 (by omega)
  have hd' : DayIn (tameP p) := hd
  generalize tameP p = q at *
  refine ⟨fun b wx => (b = false → planE q = 0 ∧ q.base.mode = 1 ∧ (q.day = 0 ∨ q.other.mode = 1)) ∧ Bs w5 wx, callB (Bs.refl w5) (rates_ret w5) fun w6 b6 C6 => ⟨_, rfl, br_f rfl (callB C6 (r9cplan_ret q a' b' c' d' w6 (hP.to C6)) fun w7 b7 C7 => ⟨_, rfl, br_dec (fun k1 => ⟨(fun k => by cases k), C7⟩) fun k1 => br_dec (fun k2 => ⟨(fun k => by cases k), C7⟩) fun k2 => br_dec (fun k3 => ⟨fun k => ?_, C7⟩) fun k3 => ⟨fun k => ?_, C7⟩⟩)⟩, ?_⟩
  · exact ⟨Decidable.not_not.1 k1, by omega, .inr (by have := of_decide_eq_false k; omega)⟩
  · exact ⟨Decidable.not_not.1 k1, by omega, .inl (by omega)⟩
  rintro b w8 ⟨hb, C8⟩
  cases b with
  | true => exact br_t rfl (callB C8 (rates_ret w8) fun w9 b9 C9 => ⟨_, rfl, rfl, B5.to C9⟩)
  | false =>
    obtain ⟨hp, hm1, hm2⟩ := hb rfl
    have hblk := (chk_ok (plan_ok hp).1).1.2
    have hgen : ∀ B : Int, 1 ≤ B → B ≤ 1073741824 → ∃ m : Nat, IntKind.u64.wrap (IntKind.i64.wrap (IntKind.i64.wrap (Int.tdiv 536870912 B) + 1)) = (m : Int) ∧ 0 < m ∧ ((m : Int) - 1) * B ≤ 536870912 := by
      intro B k1 k2
      have q0 : 0 ≤ 536870912 / B := Int.ediv_nonneg (by omega) (by omega)
      have q1 : 536870912 / B ≤ 536870912 := Int.ediv_le_self _ (by omega)
      rw [tdiv_pos_eq (by omega), wr64 (show -9223372036854775808 ≤ 536870912 / B by omega) (by omega), wr64 (by omega) (by omega), wru64 (by omega) (by omega)]
      refine ⟨(536870912 / B + 1).toNat, by omega, by omega, ?_⟩
      rw [show (((536870912 / B + 1).toNat : Nat) : Int) - 1 = 536870912 / B by omega]
      exact Int.ediv_mul_le _ (by omega)
    obtain ⟨m, em, hm0, hmb⟩ := hgen q.base.block hblk.1 hblk.2
    have hun : ∀ z : Int, ∃ k : Int, IntKind.i64.wrap (IntKind.i64.wrap (Int.tmod (IntKind.u64.wrap z) (m : Int)) * q.base.block) = k * q.base.block ∧ 0 ≤ k ∧ k ≤ 536870912 ∧ k * q.base.block ≤ 536870912 := by
      intro z
      obtain ⟨k, hk, ek⟩ := u64_mod z m hm0
      have hk2 : (k : Int) * q.base.block ≤ 536870912 := Int.le_trans (Int.mul_le_mul_of_nonneg_right (by omega) (by omega)) hmb
      have hk3 : (k : Int) ≤ k * q.base.block := by
        have := Int.mul_le_mul_of_nonneg_left (show 1 ≤ q.base.block by omega) (show (0 : Int) ≤ k by omega)
        omega
      have hk0 : 0 ≤ (k : Int) := by omega
      refine ⟨k, ?_, hk0, by omega, hk2⟩
      rw [ek, wr64 (show -9223372036854775808 ≤ (k : Int) by omega) (by omega), wr64 (by omega) (by omega)]
    obtain ⟨k1, e1, p10, p11, p12⟩ := hun n0
    obtain ⟨k2, e2, p20, p21, p22⟩ := hun more
    obtain ⟨ps, hps, eps⟩ := u64_mod pos0 274877906944 (by decide)
    have eps' : IntKind.i64.wrap (Int.tmod (IntKind.u64.wrap pos0) 274877906944) = (ps : Int) := by
      rw [show Int.tmod (IntKind.u64.wrap pos0) 274877906944 = (ps : Int) from eps, wr64 (by omega) (by omega)]
    obtain ⟨nw, hnw, enw⟩ : ∃ nw : Int, 0 ≤ nw ∧ IntKind.i64.wrap (Int.fdiv (IntKind.u64.wrap now0) (2 ^ (min (1 : Int).toNat (IntKind.bits .u64)))) = nw := by
      have h0 : 0 ≤ IntKind.u64.wrap now0 ∧ IntKind.u64.wrap now0 ≤ 18446744073709551615 := by rw [IntKind.wrap_u64]; omega
      have hpw : (2 : Int) ^ (min (1 : Int).toNat (IntKind.bits .u64)) = 2 := by decide
      rw [hpw, Int.fdiv_eq_ediv_of_nonneg _ (by omega)]
      refine ⟨IntKind.u64.wrap now0 / 2, by omega, wr64 (by omega) (by omega)⟩
    have hpo : posOk (ps : Int) := ⟨by omega, by omega⟩
    have hpo2 : posOk ((ps : Int) + k1) := ⟨by omega, by omega⟩
    have hsum : k1 * q.base.block + k2 * q.base.block = (k1 + k2) * q.base.block := (Int.add_mul _ _ _).symm
    obtain ⟨E1, R1⟩ := rate_whole hp hnw hpo p10 (by omega)
    obtain ⟨E2, R2⟩ := rate_whole hp hnw hpo2 p20 (by omega)
    obtain ⟨E3, R3⟩ := rate_whole (k := k1 + k2) hp hnw hpo (by omega) (by omega)
    have hat := at_ok hp nw
    have hmode : (atT q nw).mode = 1 := by
      unfold atT
      split
      · rename_i ho
        rcases hm2 with h | h
        · exact absurd h ho.1
        · exact h
      · exact hm1
    have hcost := split_sum hat.1 hmode ps k1 k2 p10 p20
    have hc3 := splitL_cost hat.1 (pos := (ps : Int)) (n := k1 + k2) (by omega) (by omega)
    have hds := (dear_small hat.1).2
    have hc4 : (k1 + k2) * dearT (atT q nw).ts ≤ 1073741824 * 1048576 := mul_le_mul_i (by omega) hds (dear_small hat.1).1 (by omega)
    have fin : ∀ (wy : World) (g3 g4 : Nat), Bs w5 wy → GRateL.apart_k1 (fun u w' => u = .bool true ∧ Below w.heap.size w w') now0 pos0 n0 more g g' q.day q.frm q.til q.base.grp q.base.mode q.base.block a' q.base.ts.length c' q.other.grp q.other.mode q.other.block b' q.other.ts.length d' k1 (costOf (splitL (atT q nw) ps k1)) 0 g3 0 g4 k2 (costOf (splitL (atT q nw) (ps + k1) k2)) (ps + k1 + k2) wy := by
      intro wy g3 g4 By
      unfold GRateL.apart_k1
      rw [em, e1, e2, eps', enw, wr64 (show -9223372036854775808 ≤ k1 * q.base.block + k2 * q.base.block by have := Int.mul_nonneg p10 (show 0 ≤ q.base.block by omega); have := Int.mul_nonneg p20 (show 0 ≤ q.base.block by omega); omega) (by omega), hsum]
      refine callB By (to_ret q a' b' c' d' wy) fun w22 b22 C22 => ⟨_, _, _, _, _, _, _, _, _, _, _, _, _, _, _, rfl, callQ C22 (rate_new q a' b' c' d' nw ps _ w22 (hP.to C22) hd') ?_⟩
      rintro e w23 ⟨a23, c23, rfl, l23⟩ b23 C23
      rw [E3, R3]
      refine ⟨_, _, _, _, _, _, _, rfl, newB C23 fun g24 w24 g024 sg24 n24 z24 b24 C24 => boxB C24 g024 fun w25 h25 C25 z25 => br_y rfl (br_y rfl (br_y rfl (br_y ?_ (br_y (by dsimp only; omega) ⟨?_, B5.to C25⟩))))⟩
      · rw [hcost, wr64 (by omega) (by omega)]
      · rw [wr64 (by omega) (by omega)]; simp
    refine br_f rfl (drewB C8 fun w10 b10 C10 _ => ?_)
    rw [em, e1, e2, eps', enw]
    refine ⟨by omega, by omega, by omega, by omega, drewB C10 fun w11 b11 C11 _ => ⟨by decide, by decide, callB C11 (to_ret q a' b' c' d' w11) fun w12 b12 C12 => ⟨_, _, _, _, _, _, _, _, _, _, _, _, _, _, _, rfl, callQ C12 (rate_new q a' b' c' d' nw ps _ w12 (hP.to C12) hd') ?_⟩⟩⟩
    rintro e w13 ⟨a13, c13, rfl, l13⟩ b13 C13
    rw [E1, R1]
    refine ⟨_, _, _, _, _, _, _, rfl, newB C13 fun g14 w14 g014 sg14 n14 z14 b14 C14 => boxB C14 g014 fun w15 h15 C15 z15 => drewB C15 fun w16 b16 C16 _ => ?_⟩
    have r2 := fun wy (h : Bs w5 wy) => rate_new q a' b' c' d' nw (ps + k1) (k2 * q.base.block) wy (hP.to h) hd'
    rw [E2, R2] at r2
    refine ⟨callB C16 (to_ret q a' b' c' d' w16) fun w17 b17 C17 => ⟨_, _, _, _, _, _, _, _, _, _, _, _, _, _, _, rfl, ⟨callQ C17 (r2 w17 C17) ?_, newB C17 fun g8 w18 g08 sg8 n8 z8 b8 C18 => callQ C18 (r2 w18 C18) ?_⟩⟩, newB C16 fun g8 w18 g08 sg8 n8 z8 b8 C18 => callB C18 (to_ret q a' b' c' d' w18) fun w19 b19 C19 => ⟨_, _, _, _, _, _, _, _, _, _, _, _, _, _, _, rfl, callQ C19 (r2 w19 C19) ?_⟩⟩
    · rintro e w9 ⟨a9, c9, rfl, l9⟩ b9 C9
      exact ⟨_, _, _, _, _, _, _, rfl, newB C9 fun g10 w10 g010 sg10 n10 z10 b10 C10 => boxB C10 g010 fun w11 h11 C11 z11 => fin w11 _ _ C11⟩
    · rintro e w9 ⟨a9, c9, rfl, l9⟩ b9 C9
      exact ⟨_, _, _, _, _, _, _, rfl, boxB C9 g08 fun w11 h11 C11 z11 => fin w11 _ _ C11⟩
    · rintro e w9 ⟨a9, c9, rfl, l9⟩ b9 C9
      exact ⟨_, _, _, _, _, _, _, rfl, boxB C9 g08 fun w11 h11 C11 z11 => fin w11 _ _ C11⟩
set_option maxRecDepth 10000 in
theorem steady_walk (p : Pl) (a a2 : Option Addr) (c c2 : Nat) (now pos n cr later : Int) (w : World) (h1 : TsAt 0 w a p.base.ts) (h2 : TsAt 0 w a2 p.other.ts) (l1 : p.base.ts.length ≤ c) (l2 : p.other.ts.length ≤ c2) (hd : DayIn p) :
    Calls Try.prog 10 #[planV p a c a2 c2, .agg #[.int .i64 now, .int .i64 pos, .int .i64 n, .int .i64 cr], .int .i64 later] w (Ret (.bool true) w) := by
  refine ret_in (GRateL.steady_calls p.day p.frm p.til p.base.grp p.base.mode p.base.block a p.base.ts.length c p.other.grp p.other.mode p.other.block a2 p.other.ts.length c2 now pos n cr later w (fun u w' => u = .bool true ∧ Below w.heap.size w w') ?_)
  unfold GRateL.steady_vc
  refine newB (Bs.refl w) fun g w2 g0 sg n2 z2 b2 B2 => newB B2 fun g' w3 g0' sg' n3 z3 b3 B3 => callQ B3 (tame_new p a a2 c c2 w3 (h1.below B3) (h2.below B3) l1 l2) ?_
  rintro e w4 ⟨a', c', b', d', rfl, h3, h4⟩ b4 B4
  refine ⟨_, _, _, _, _, _, _, _, _, _, _, _, _, _, _, rfl, boxB B4 g0 fun w5 h5 B5 z5 => ?_⟩
  have hP : PlAt w5 (tameP p) a' b' := PlAt.box h3 h4 (Nat.le_trans (take9 _) (by decide)) (Nat.le_trans (take9 _) (by decide)) h5 (by omega)
  have hd' : DayIn (tameP p) := hd
  generalize tameP p = q at *
  refine ⟨fun b wx => (b = false → 0 ≤ now ∧ 0 ≤ later ∧ (isOther q now ↔ isOther q later)) ∧ Bs w5 wx, drewB (Bs.refl w5) fun w6 b6 C6 _ => callB C6 (rates_ret w6) fun w7 b7 C7 => ⟨_, rfl, br_f rfl (callB C7 (r9cplan_ret q a' b' c' d' w7 (hP.to C7)) fun w8 b8 C8 => ⟨_, rfl, br_dec (fun k1 => ⟨(fun k => by cases k), C8⟩) fun k1 => br_dec (fun k2 => ⟨(fun k => by cases k), C8⟩) fun k2 => br_dec (fun k3 => ⟨(fun k => by cases k), C8⟩) fun k3 => ?_⟩)⟩, ?_⟩
  · refine callB C8 (ris_ret q a' b' c' d' now w8) fun w9 b9 C9 => ⟨_, rfl, callB C9 (ris_ret q a' b' c' d' later w9) fun w10 b10 C10 => ⟨_, rfl, fun k => ⟨by omega, by omega, ?_⟩, C10⟩⟩
    have := Decidable.not_not.1 (of_decide_eq_false k)
    exact decide_eq_decide.1 this
  rintro b w8 ⟨hb, C8⟩
  cases b with
  | true => exact br_t rfl (callB C8 (rates_ret w8) fun w9 b9 C9 => ⟨_, rfl, rfl, B5.to C9⟩)
  | false =>
    obtain ⟨hn1, hn2, hio⟩ := hb rfl
    have hat : atT q later = atT q now := by
      unfold atT
      by_cases h : isOther q now
      · rw [if_pos h, if_pos (hio.1 h)]
      · rw [if_neg h, if_neg fun k => h (hio.2 k)]
    have hE : rateE q later pos n = rateE q now pos n := by
      have e : (later < 0) = (now < 0) := propext ⟨fun k => by omega, fun k => by omega⟩
      unfold rateE
      simp only [e]
    have hR : (rateR q later pos n).ls = (rateR q now pos n).ls ∧ (rateR q later pos n).blocks = (rateR q now pos n).blocks ∧ (rateR q later pos n).cost = (rateR q now pos n).cost := by
      unfold rateR
      rw [hE, hat]
      exact ⟨rfl, rfl, rfl⟩
    obtain ⟨hR1, hR2, hR3⟩ := hR
    have hlen := rateR_len q now pos n
    have r2 := fun wy (h : Bs w5 wy) => rate_new q a' b' c' d' later pos n wy (hP.to h) hd'
    unfold rtdV at r2
    rw [hE, hR1, hR2, hR3] at r2
    have fin2 : ∀ (wy : World) (g3 g4 : Nat) (ax ay : Option Addr) (cx cy : Nat), Bs w5 wy → LsAt 0 wy ax (rateR q now pos n).ls → LsAt 0 wy ay (rateR q now pos n).ls → GRateL.steady_k1 (fun u w' => u = .bool true ∧ Below w.heap.size w w') g g' (rateE q now pos n) g3 ax (rateR q now pos n).ls.length cx (rateR q now pos n).blocks (rateR q now pos n).cost (rateE q now pos n) g4 ay (rateR q now pos n).ls.length cy (rateR q now pos n).blocks (rateR q now pos n).cost wy := by
      intro wy g3 g4 ax ay cx cy By hx hy
      unfold GRateL.steady_k1
      exact br_y rfl (br_y rfl (br_y rfl (callB By (lsame_ret ax ay cx cy _ wy hx hy hlen) fun w26 b26 C26 => ⟨_, rfl, rfl, B5.to C26⟩)))
    have fin : ∀ (wy : World) (g3 : Nat) (ax : Option Addr) (cx : Nat), Bs w5 wy → LsAt 0 wy ax (rateR q now pos n).ls → GRateL.steady_k2 (fun u w' => u = .bool true ∧ Below w.heap.size w w') pos n later g g' q.day q.frm q.til q.base.grp q.base.mode q.base.block a' q.base.ts.length c' q.other.grp q.other.mode q.other.block b' q.other.ts.length d' (rateE q now pos n) g3 ax (rateR q now pos n).ls.length cx (rateR q now pos n).blocks (rateR q now pos n).cost wy := by
      intro wy g3 ax cx By hx
      unfold GRateL.steady_k2
      refine drewB (Bs.refl wy) fun w20 b20 D20 _ => ?_
      refine ⟨callB D20 (to_ret q a' b' c' d' w20) fun w17 b17 D17 => ⟨_, _, _, _, _, _, _, _, _, _, _, _, _, _, _, rfl, ⟨callQ D17 (r2 w17 (By.to D17)) ?_, newB D17 fun g8 w18 g08 sg8 n8 z8 b8 D18 => callQ D18 (r2 w18 (By.to D18)) ?_⟩⟩, newB D20 fun g8 w18 g08 sg8 n8 z8 b8 D18 => callB D18 (to_ret q a' b' c' d' w18) fun w19 b19 D19 => ⟨_, _, _, _, _, _, _, _, _, _, _, _, _, _, _, rfl, callQ D19 (r2 w19 (By.to D19)) ?_⟩⟩
      · rintro e w9 ⟨a9, c9, rfl, l9⟩ b9 D9
        exact ⟨_, _, _, _, _, _, _, rfl, newB D9 fun g10 w10 g010 sg10 n10 z10 b10 D10 => boxB D10 g010 fun w11 h11 D11 z11 => fin2 w11 _ _ _ _ _ _ (By.to D11) (hx.below D11) ((l9.newbox b10 sg10 h11).low (Nat.zero_le _))⟩
      · rintro e w9 ⟨a9, c9, rfl, l9⟩ b9 D9
        exact ⟨_, _, _, _, _, _, _, rfl, boxB D9 g08 fun w11 h11 D11 z11 => fin2 w11 _ _ _ _ _ _ (By.to D11) (hx.below D11) ((l9.box h11 (by omega)).low (Nat.zero_le _))⟩
      · rintro e w10 ⟨a9, c9, rfl, l9⟩ b10 D10
        have b19s := b19.size
        exact ⟨_, _, _, _, _, _, _, rfl, boxB D10 g08 fun w11 h11 D11 z11 => fin2 w11 _ _ _ _ _ _ (By.to D11) (hx.below D11) ((l9.box h11 (by omega)).low (Nat.zero_le _))⟩
    refine br_f rfl (drewB C8 fun w10 b10 C10 _ => ?_)
    refine ⟨callB C10 (to_ret q a' b' c' d' w10) fun w17 b17 C17 => ⟨_, _, _, _, _, _, _, _, _, _, _, _, _, _, _, rfl, ⟨callQ C17 (rate_new q a' b' c' d' now pos n w17 (hP.to C17) hd') ?_, newB C17 fun g8 w18 g08 sg8 n8 z8 b8 C18 => callQ C18 (rate_new q a' b' c' d' now pos n w18 (hP.to C18) hd') ?_⟩⟩, newB C10 fun g8 w18 g08 sg8 n8 z8 b8 C18 => callB C18 (to_ret q a' b' c' d' w18) fun w19 b19 C19 => ⟨_, _, _, _, _, _, _, _, _, _, _, _, _, _, _, rfl, callQ C19 (rate_new q a' b' c' d' now pos n w19 (hP.to C19) hd') ?_⟩⟩
    · rintro e w9 ⟨a9, c9, rfl, l9⟩ b9 C9
      exact ⟨_, _, _, _, _, _, _, rfl, newB C9 fun g10 w10 g010 sg10 n10 z10 b10 C10 => boxB C10 g010 fun w11 h11 C11 z11 => fin w11 _ _ _ C11 ((l9.newbox b10 sg10 h11).low (Nat.zero_le _))⟩
    · rintro e w9 ⟨a9, c9, rfl, l9⟩ b9 C9
      exact ⟨_, _, _, _, _, _, _, rfl, boxB C9 g08 fun w11 h11 C11 z11 => fin w11 _ _ _ C11 ((l9.box h11 (by omega)).low (Nat.zero_le _))⟩
    · rintro e w9 ⟨a9, c9, rfl, l9⟩ b9 C9
      have b19s := b19.size
      exact ⟨_, _, _, _, _, _, _, rfl, boxB C9 g08 fun w11 h11 C11 z11 => fin w11 _ _ _ C11 ((l9.box h11 (by omega)).low (Nat.zero_le _))⟩
end Go.Proofs.Ytecmpjccdhmeeaa
end
section
/- Arrays and structs that came in as values: their numbers. -/
namespace Go.Proofs.Ytecmpjccdhmeeaa
open Go.RowKit Go.WideShapes Go.ChangeShapes
theorem okWide_arr {P : Program} {W : World} {r : Reach} {base : Nat} {t : TypeId} {v : Value} {n : Nat} {e : Sh} {k : Nat} (hf : fitsB P (.arr n e k) t = true) (hv : Value.okWide P W r base t v) : ∃ cs, v = .agg cs ∧ cs.size = P.cellsOf t := by
  unfold fitsB at hf
  split at hf
  · rename_i l et hu
    unfold Value.okWide at hv
    rw [hu] at hv
    obtain ⟨cs, h1, h2, _⟩ := hv
    exact ⟨cs, h1, h2⟩
  · cases hf
theorem open_arrI {H : Type} {enc : TypeId × Value → H} {P : Program} {W : World} {r : Reach} {base : Nat} {t : TypeId} {v : Value} {d : DataW H} {p : List MemPlace} (n : Nat) (hf : fitsB P (.arr n (.int .i64) 1) t = true) (hc : P.cellsOf t = n) (hv : Value.okWide P W r base t v)
    (h : DataW.Trod enc P W 0 (fun _ => true) true t v d p) : ∃ zs : List Int, zs.length = n ∧ v = .agg (zs.map (Value.int .i64)).toArray ∧ ∀ z ∈ zs, -9223372036854775808 ≤ z ∧ z ≤ 9223372036854775807 := by
  obtain ⟨cs, rfl, hs⟩ := okWide_arr hf hv
  have hh := open_sh hf h
  obtain ⟨zs, hz, hp⟩ := exists_list (p := fun i z => cs.toList[i]? = some (Value.int .i64 z) ∧ (Lit.int .i64 z).wf = true) n (fun i hi => by
    obtain ⟨z, h1, h2⟩ := hh i hi
    refine ⟨z, ?_, h2⟩
    have := congrArg (·[0]?) h1
    simpa [Value.cells] using this)
  refine ⟨zs, hz, ?_, fun z hm => ?_⟩
  · congr 1
    apply Array.ext'
    apply List.ext_getElem?
    intro i
    rw [List.getElem?_map]
    by_cases hi : i < n
    · rw [List.getElem?_eq_getElem (show i < zs.length by omega)]
      exact (hp i _ (List.getElem?_eq_getElem (by omega))).1
    · rw [List.getElem?_eq_none (by simp; omega), List.getElem?_eq_none (by omega)]
      rfl
  · obtain ⟨i, hi⟩ := List.getElem?_of_mem hm
    exact i64_range (hp i z hi).2
theorem open_arr2 {H : Type} {enc : TypeId × Value → H} {P : Program} {W : World} {r : Reach} {base : Nat} {t : TypeId} {v : Value} {d : DataW H} {p : List MemPlace} (hf : fitsB P (.arr 2 (.int .i64) 1) t = true) (hc : P.cellsOf t = 2) (hv : Value.okWide P W r base t v)
    (h : DataW.Trod enc P W 0 (fun _ => true) true t v d p) : ∃ x y : Int, v = .agg #[.int .i64 x, .int .i64 y] ∧ (-9223372036854775808 ≤ x ∧ x ≤ 9223372036854775807) ∧ -9223372036854775808 ≤ y ∧ y ≤ 9223372036854775807 := by
  obtain ⟨zs, hz, rfl, hr⟩ := open_arrI 2 hf hc hv h
  match zs, hz with
  | [x, y], _ => exact ⟨x, y, rfl, hr x (by simp), hr y (by simp)⟩
theorem open_arr4 {H : Type} {enc : TypeId × Value → H} {P : Program} {W : World} {r : Reach} {base : Nat} {t : TypeId} {v : Value} {d : DataW H} {p : List MemPlace} (hf : fitsB P (.arr 4 (.int .i64) 1) t = true) (hc : P.cellsOf t = 4) (hv : Value.okWide P W r base t v)
    (h : DataW.Trod enc P W 0 (fun _ => true) true t v d p) : ∃ x y z u : Int, v = .agg #[.int .i64 x, .int .i64 y, .int .i64 z, .int .i64 u] ∧ (-9223372036854775808 ≤ x ∧ x ≤ 9223372036854775807) ∧ (-9223372036854775808 ≤ y ∧ y ≤ 9223372036854775807) ∧ (-9223372036854775808 ≤ z ∧ z ≤ 9223372036854775807) ∧ -9223372036854775808 ≤ u ∧ u ≤ 9223372036854775807 := by
  obtain ⟨zs, hz, rfl, hr⟩ := open_arrI 4 hf hc hv h
  match zs, hz with
  | [x, y, z, u], _ => exact ⟨x, y, z, u, rfl, hr x (by simp), hr y (by simp), hr z (by simp), hr u (by simp)⟩
end Go.Proofs.Ytecmpjccdhmeeaa
end
section
/- Structs that came in as values. No program in sight. -/
namespace Go.Proofs.Ytecmpjccdhmeeaa
open Go.RowKit Go.WideShapes Go.ChangeShapes
theorem okWide_str {P : Program} {W : World} {r : Reach} {base : Nat} {t : TypeId} {v : Value} {fs : Sh} (hf : fitsB P (.agg fs) t = true) (hv : Value.okWide P W r base t v) : ∃ cs, v = .agg cs ∧ cs.size = P.cellsOf t := by
  unfold fitsB at hf
  split at hf
  · rename_i fl hu
    unfold Value.okWide at hv
    rw [hu] at hv
    obtain ⟨cs, h1, h2, _⟩ := hv
    exact ⟨cs, h1, h2⟩
  · cases hf
/-- Structs of ints alone. -/
def intsF : Nat → Nat → Sh
  | _, 0 => .fnil
  | i, n + 1 => .fcons i 1 (.int .i64) (intsF (i + 1) n)
theorem has_intsF {w : World} : ∀ (n i : Nat) (cs : List Value), (intsF i n).Has w cs → i + n = cs.length → ∃ zs : List Int, zs.length = n ∧ cs.drop i = zs.map (Value.int .i64) ∧ ∀ z ∈ zs, -9223372036854775808 ≤ z ∧ z ≤ 9223372036854775807
  | 0, i, cs, _, hl => ⟨[], rfl, by rw [List.drop_eq_nil_iff.2 (by omega)]; rfl, fun z hz => by cases hz⟩
  | n + 1, i, cs, h, hl => by
    obtain ⟨⟨z, hz, hw⟩, hr⟩ := h
    obtain ⟨zs, h1, h2, h3⟩ := has_intsF n (i + 1) cs hr (by omega)
    refine ⟨z :: zs, by simp [h1], ?_, fun y hy => ?_⟩
    · have hi : i < cs.length := by omega
      have h0 : cs[i]? = some (.int .i64 z) := by
        have := congrArg (·[0]?) hz
        simpa [List.getElem?_take, List.getElem?_drop] using this
      rw [List.getElem?_eq_getElem hi] at h0
      injection h0 with h0
      rw [List.drop_eq_getElem_cons hi, h0, h2]; rfl
    · rcases List.mem_cons.1 hy with rfl | hy
      · exact i64_range hw
      · exact h3 y hy
theorem open_strI {H : Type} {enc : TypeId × Value → H} {P : Program} {W : World} {r : Reach} {base : Nat} {t : TypeId} {v : Value} {d : DataW H} {p : List MemPlace} (n : Nat) (hf : fitsB P (.agg (intsF 0 n)) t = true) (hc : P.cellsOf t = n) (hv : Value.okWide P W r base t v)
    (h : DataW.Trod enc P W 0 (fun _ => true) true t v d p) : ∃ zs : List Int, zs.length = n ∧ v = .agg (zs.map (Value.int .i64)).toArray ∧ ∀ z ∈ zs, -9223372036854775808 ≤ z ∧ z ≤ 9223372036854775807 := by
  obtain ⟨cs, rfl, hs⟩ := okWide_str hf hv
  have hh := open_sh hf h
  obtain ⟨zs, h1, h2, h3⟩ := has_intsF n 0 cs.toList (by simpa [Value.cells, Sh.Has] using hh) (by simp; omega)
  refine ⟨zs, h1, ?_, h3⟩
  congr 1
  apply Array.ext'
  rw [← h2]
  simp
theorem open_str4 {H : Type} {enc : TypeId × Value → H} {P : Program} {W : World} {r : Reach} {base : Nat} {t : TypeId} {v : Value} {d : DataW H} {p : List MemPlace} (hf : fitsB P (.agg (intsF 0 4)) t = true) (hc : P.cellsOf t = 4) (hv : Value.okWide P W r base t v)
    (h : DataW.Trod enc P W 0 (fun _ => true) true t v d p) : ∃ x y z u : Int, v = .agg #[.int .i64 x, .int .i64 y, .int .i64 z, .int .i64 u] ∧ (-9223372036854775808 ≤ x ∧ x ≤ 9223372036854775807) ∧ (-9223372036854775808 ≤ y ∧ y ≤ 9223372036854775807) ∧ (-9223372036854775808 ≤ z ∧ z ≤ 9223372036854775807) ∧ -9223372036854775808 ≤ u ∧ u ≤ 9223372036854775807 := by
  obtain ⟨zs, hz, rfl, hr⟩ := open_strI 4 hf hc hv h
  match zs, hz with
  | [x, y, z, u], _ => exact ⟨x, y, z, u, rfl, hr x (by simp), hr y (by simp), hr z (by simp), hr u (by simp)⟩
end Go.Proofs.Ytecmpjccdhmeeaa
end
section
/- Tariffs and plans that came in. No program in sight. -/
namespace Go.Proofs.Ytecmpjccdhmeeaa
open Go.RowKit Go.WideShapes Go.ChangeShapes
def shTier : Sh := .agg (intsF 0 2)
def shTar : Sh := .agg (.fcons 0 1 (.int .i64) (.fcons 1 1 (.int .i64) (.fcons 2 1 (.int .i64) (.fcons 3 1 (.slice shTier 2) .fnil))))
def shPlan : Sh := .agg (.fcons 0 1 (.int .i64) (.fcons 1 1 (.int .i64) (.fcons 2 1 (.int .i64) (.fcons 3 4 shTar (.fcons 7 4 shTar .fnil)))))
theorem tier_elem {w : World} (cs' : List Value) (b off : Nat) (hl : cs'.length = 2) (hc : cellsAt w b off cs') (h : shTier.Has w cs') : ∃ t : Tr, cellsAt w b off (trCells t) := by
  obtain ⟨zs, h1, h2, _⟩ := has_intsF 2 0 cs' h (by omega)
  rw [List.drop_zero] at h2
  subst h2
  match zs, h1 with
  | [x, y], _ => exact ⟨⟨x, y⟩, hc⟩
/-- Tiers that came in: no more than there can be. -/
structure TsIn (w : World) (a : Option Addr) (c : Nat) (ts : List Tr) : Prop where
  at' : TsAt 0 w a ts
  cap : ts.length ≤ c
theorem has_tar {w : World} {cs : List Value} (hl : cs.length = 4) (h : shTar.Has w cs) : ∃ (t : Tar) (a : Option Addr) (c : Nat), cs = [.int .i64 t.grp, .int .i64 t.mode, .int .i64 t.block, .slice a t.ts.length c] ∧ TsIn w a c t.ts := by
  obtain ⟨⟨x, hx, _⟩, ⟨y, hy, _⟩, ⟨z, hz, _⟩, hs, _⟩ := h
  obtain ⟨ts, a, c, k1, k2, _, k3⟩ := has_rows (R := fun w b off x => cellsAt w b off (trCells x)) (by decide) tier_elem hs
  match cs, hl with
  | [v0, v1, v2, v3], _ =>
    simp at hx hy hz k1
    subst hx; subst hy; subst hz; subst k1
    exact ⟨⟨x, y, z, ts⟩, a, c, rfl, Rws.ofRows k3, k2⟩
theorem has_plan {w : World} {cs : List Value} (hl : cs.length = 11) (h : shPlan.Has w cs) :
    ∃ (p : Pl) (a a2 : Option Addr) (c c2 : Nat), Value.agg cs.toArray = planV p a c a2 c2 ∧ TsIn w a c p.base.ts ∧ TsIn w a2 c2 p.other.ts ∧ -9223372036854775808 ≤ p.day ∧ p.day ≤ 9223372036854775807 := by
  obtain ⟨⟨x, hx, wx⟩, ⟨y, hy, _⟩, ⟨z, hz, _⟩, h1, h2, _⟩ := h
  match cs, hl with
  | [v0, v1, v2, v3, v4, v5, v6, v7, v8, v9, v10], _ =>
    obtain ⟨t1, a, c, e1, k1⟩ := has_tar (by simp) h1
    obtain ⟨t2, a2, c2, e2, k2⟩ := has_tar (by simp) h2
    simp at hx hy hz e1 e2
    obtain ⟨rfl, rfl, rfl, rfl⟩ := e1
    obtain ⟨rfl, rfl, rfl, rfl⟩ := e2
    subst hx; subst hy; subst hz
    exact ⟨⟨x, y, z, t1, t2⟩, a, a2, c, c2, rfl, k1, k2, i64_range wx⟩
theorem open_plan {H : Type} {enc : TypeId × Value → H} {P : Program} {W : World} {r : Reach} {base : Nat} {t : TypeId} {v : Value} {d : DataW H} {p : List MemPlace} (hf : fitsB P shPlan t = true) (hc : P.cellsOf t = 11) (hv : Value.okWide P W r base t v) (h : DataW.Trod enc P W 0 (fun _ => true) true t v d p) :
    ∃ (q : Pl) (a a2 : Option Addr) (c c2 : Nat), v = planV q a c a2 c2 ∧ TsIn W a c q.base.ts ∧ TsIn W a2 c2 q.other.ts ∧ -9223372036854775808 ≤ q.day ∧ q.day ≤ 9223372036854775807 := by
  obtain ⟨cs, rfl, hs⟩ := okWide_str hf hv
  have hh := open_sh hf h
  obtain ⟨q, a, a2, c, c2, e, k⟩ := has_plan (cs := cs.toList) (by simp; omega) (by simpa [Value.cells] using hh)
  exact ⟨q, a, a2, c, c2, by simpa using e, k⟩
theorem open_tar {H : Type} {enc : TypeId × Value → H} {P : Program} {W : World} {r : Reach} {base : Nat} {t : TypeId} {v : Value} {d : DataW H} {p : List MemPlace} (hf : fitsB P shTar t = true) (hc : P.cellsOf t = 4) (hv : Value.okWide P W r base t v) (h : DataW.Trod enc P W 0 (fun _ => true) true t v d p) :
    ∃ (q : Tar) (a : Option Addr) (c : Nat), v = tarV q a c ∧ TsIn W a c q.ts := by
  obtain ⟨cs, rfl, hs⟩ := okWide_str hf hv
  have hh := open_sh hf h
  obtain ⟨q, a, c, e, k⟩ := has_tar (cs := cs.toList) (by simp; omega) (by simpa [Value.cells] using hh)
  refine ⟨q, a, c, ?_, k⟩
  unfold tarV
  congr 1
  apply Array.ext'
  rw [e]
end Go.Proofs.Ytecmpjccdhmeeaa
end
section
/- What the rows of rating need, together. -/
namespace Go.Proofs.Ytecmpjccdhmeeaa
end Go.Proofs.Ytecmpjccdhmeeaa
end
