import Derived.Test.YtecmpjccdhmeeaaMPRt4
import Derived.Test.YtecmpjccdhmeeaaMPRt1
import Derived.Test.YtecmpjccdhmeeaaRows
import Derived.Deep.DeepCutAuto
import Derived.Deep.CutBlock
import Derived.OwnWalk
import Derived.ScopeJumps
import Derived.WalkMore
import Derived.Laws.BitsAllLaws
import Derived.Test.YtecmpjccdhmeeaaMPRt3
import Derived.Test.YtecmpjccdhmeeaaMPRt2
set_option linter.unusedVariables false
section
/- What lines cost, by the document; the document's rate, worst and fit; walked. -/
namespace Go.Proofs.Ytecmpjccdhmeeaa
open Go.RowKit
def bigA (x0 x1 x2 x3 x4 x5 x6 x7 x8 x9 : Int) (b : Bool) : Value := .agg #[.int .u64 x0, .int .u64 x1, .int .u64 x2, .int .u64 x3, .int .u64 x4, .int .u64 x5, .int .u64 x6, .int .u64 x7, .int .u64 x8, .int .u64 x9, .bool b]
theorem small_lim {z : Int} (h : 0 ≤ z ∧ z ≤ 1152921504606846976) : z.natAbs < lim ∧ 2 * z.natAbs < lim ∧ z.natAbs < 2 ^ (32 * 5) := by
  have h1 : 2 * z.natAbs < 2 ^ 62 := by show _ < 4611686018427387904; omega
  refine ⟨lim_big (by decide) (Nat.lt_of_le_of_lt (by omega) h1), lim_big (by decide) h1, Nat.lt_of_lt_of_le (Nat.lt_of_le_of_lt (by omega) h1) (Nat.pow_le_pow_right (by omega) (by omega))⟩
set_option maxRecDepth 10000 in
theorem r10cost_ret (a : Option Addr) (c : Nat) (ls : List Ln) (w : World) (h : LsAt 0 w a ls) (ho : LsOk ls) : Calls Try.prog 37 #[.slice a ls.length c] w (Ret (.tuple #[.int .i64 (costOf ls), .bool true]) w) := by
  refine ret_in (GTar.rcost_calls a ls.length c w (fun u w' => u = .tuple #[.int .i64 (costOf ls), .bool true] ∧ Below w.heap.size w w') ?_)
  unfold GTar.rcost_vc
  have hl := ho.2
  refine callB (Bs.refl w) (rOf_any 0 w (by omega) (by omega)) fun w2 b2 B2 => ⟨_, _, _, _, _, _, _, _, _, _, _, rfl, newB B2 fun g w3 g0 sg n3 z3 b3 B3 => boxB B3 g0 fun w4 h4 B4 z4 => ?_⟩
  refine ⟨fun x x0 x1 x2 x3 x4 x5 x6 x7 x8 x9 b wx => ∃ i : Nat, x = i ∧ i ≤ ls.length ∧ bigA x0 x1 x2 x3 x4 x5 x6 x7 x8 x9 b = bigOf (costOf (ls.take i)) ∧ Bs w wx, fun x _ _ _ _ _ _ _ _ _ _ _ _ => ls.length - x.toNat, ⟨0, rfl, by omega, rfl, B4⟩, ?_⟩
  rintro x x0 x1 x2 x3 x4 x5 x6 x7 x8 x9 b wx ⟨i, rfl, hi, he, B⟩
  refine br_dec (fun hlt => ?_) fun hge => ?_
  · have hil : i < ls.length := by omega
    have hmem := List.getElem_mem hil
    have hp := ho.1 _ hmem
    have hf := prod_fits hp
    have htk : costOf (ls.take (i + 1)) = costOf (ls.take i) + ls[i].blocks * ls[i].price := by
      rw [List.take_add_one, List.getElem?_eq_getElem hil, costOf_app]
      simp [costOf]
    have hcf := cost_fits (ls := ls.take i) ⟨fun l hl => ho.1 l (List.mem_of_mem_take hl), by rw [List.length_take]; omega⟩
    rw [List.length_take] at hcf
    have hcs : 0 ≤ costOf (ls.take i) ∧ costOf (ls.take i) ≤ 1152921504606846976 := by omega
    have s1 := small_lim (z := ls[i].blocks * ls[i].price) (by omega)
    have s2 := small_lim hcs
    have sb := small_lim (z := ls[i].blocks) (by omega)
    have sp := small_lim (z := ls[i].price) (by omega)
    rw [wr64 (show -9223372036854775808 ≤ ((i : Nat) : Int) + 1 by omega) (by omega)]
    have fin : ∀ wy, Bs w wy → ∀ gs : List Nat, ∀ y0 y1 y2 y3 y4 y5 y6 y7 y8 y9 : Int, ∀ yb : Bool, bigA y0 y1 y2 y3 y4 y5 y6 y7 y8 y9 yb = bigOf (ls[i].blocks * ls[i].price) → Calls Try.prog 74 #[bigA y0 y1 y2 y3 y4 y5 y6 y7 y8 y9 yb] wy fun e w12 => KeepG gs wy w12 ∧ ∃ (x31 : Int) (b31 : Bool), e = .returned (.tuple #[.int .i64 x31, .bool b31]) ∧
        br (!b31) (Value.tuple #[.int .i64 0, .bool false] = .tuple #[.int .i64 (costOf ls), .bool true] ∧ Below w.heap.size w w12) (
          Calls Try.prog 75 #[bigA x0 x1 x2 x3 x4 x5 x6 x7 x8 x9 b, bigA y0 y1 y2 y3 y4 y5 y6 y7 y8 y9 yb] w12 fun e w13 => KeepG gs w12 w13 ∧ ∃ (z0 : Int) (z1 : Int) (z2 : Int) (z3 : Int) (z4 : Int) (z5 : Int) (z6 : Int) (z7 : Int) (z8 : Int) (z9 : Int) (zb : Bool), e = .returned (bigA z0 z1 z2 z3 z4 z5 z6 z7 z8 z9 zb) ∧
          ∀ w14, BoxSt g w13 w14 → (∃ j : Nat, ((i : Nat) : Int) + 1 = j ∧ j ≤ ls.length ∧ bigA z0 z1 z2 z3 z4 z5 z6 z7 z8 z9 zb = bigOf (costOf (ls.take j)) ∧ Bs w w14) ∧ ls.length - (((i : Nat) : Int) + 1).toNat < ls.length - ((i : Nat) : Int).toNat) := by
      intro wy By gs y0 y1 y2 y3 y4 y5 y6 y7 y8 y9 yb hy
      rw [hy, he]
      refine callB By (rIntZ_any _ s1.1 wy) fun w12 b12 B12 => ⟨_, _, congrArg Ending.returned (fitV_yes (by omega) (by omega)), br_f rfl (callB B12 (rPlus_any _ _ s2.2.1 s1.2.1 w12) fun w13 b13 B13 => ⟨_, _, _, _, _, _, _, _, _, _, _, rfl, boxB B13 g0 fun w14 h14 B14 z14 => ⟨⟨i + 1, by omega, by omega, ?_, B14⟩, by omega⟩⟩)⟩
      rw [htk]; rfl
    have hgOf1 : ∀ wy, Calls Try.prog 72 #[.int .i64 ls[i].blocks] wy (Ret (bigOf ls[i].blocks) wy) := fun wy => rOf_any _ wy (by omega) (by omega)
    have hgOf2 : ∀ wy, Calls Try.prog 72 #[.int .i64 ls[i].price] wy (Ret (bigOf ls[i].price) wy) := fun wy => rOf_any _ wy (by omega) (by omega)
    have hgT : ∀ wy, Calls Try.prog 73 #[bigOf ls[i].blocks, bigOf ls[i].price] wy (Ret (bigOf (ls[i].blocks * ls[i].price)) wy) := fun wy => rTimes_any _ _ sb.2.2 sp.2.2 wy
    clear s1 s2 sb sp hcs hcf hf
    refine drewB B fun w6 b6 B6 _ => ?_
    obtain ⟨b', off, rfl, hc⟩ := (h.below B6).get hil
    have c1 : ∀ {wy : World}, Below w6.heap.size w6 wy → wy.cell? ⟨b', off + ((i : Nat) : Int).toNat * 3 + 1, none⟩ = some (.int .i64 ls[i].blocks) := fun hb => by
      have k := cellsAt_get hc 1 _ rfl
      rw [Int.toNat_natCast, Nat.add_assoc]
      rw [Nat.add_assoc] at k
      rw [cell_keep (hb.block b' (block_lt_of_cell k))]
      exact k
    have c2 : ∀ {wy : World}, Below w6.heap.size w6 wy → wy.cell? ⟨b', off + ((i : Nat) : Int).toNat * 3 + 2, none⟩ = some (.int .i64 ls[i].price) := fun hb => by
      have k := cellsAt_get hc 2 _ rfl
      rw [Int.toNat_natCast, Nat.add_assoc]
      rw [Nat.add_assoc] at k
      rw [cell_keep (hb.block b' (block_lt_of_cell k))]
      exact k
    refine ⟨by omega, by omega, _, c1 (Below.refl _ _), by omega, by omega, _, c2 (Below.refl _ _), ⟨?_, ?_⟩⟩
    · refine callB B6 (hgOf1 w6) fun w7 b7 B7 => ⟨_, _, _, _, _, _, _, _, _, _, _, rfl, c2 b7, ⟨?_, ?_⟩⟩
      · refine callB B7 (hgOf2 w7) fun w8 b8 B8 => ⟨_, _, _, _, _, _, _, _, _, _, _, rfl, ⟨?_, ?_⟩⟩
        · exact callB B8 (hgT w8) fun w9 b9 B9 => ⟨_, _, _, _, _, _, _, _, _, _, _, rfl, newB B9 fun g' w10 g0' sg' n10 z10 b10 B10 => boxB B10 g0' fun w11 h11 B11 z11 => fin w11 B11 _ _ _ _ _ _ _ _ _ _ _ _ rfl⟩
        · exact newB B8 fun g' w10 g0' sg' n10 z10 b10 B10 => callB B10 (hgT w10) fun w9 b9 B9 => ⟨_, _, _, _, _, _, _, _, _, _, _, rfl, boxB B9 g0' fun w11 h11 B11 z11 => fin w11 B11 _ _ _ _ _ _ _ _ _ _ _ _ rfl⟩
      · exact newB B7 fun g' w10 g0' sg' n10 z10 b10 B10 => ⟨c2 (b7.trans (b10.mono b7.size)), callB B10 (hgOf2 w10) fun w8 b8 B8 => ⟨_, _, _, _, _, _, _, _, _, _, _, rfl, callB B8 (hgT w8) fun w9 b9 B9 => ⟨_, _, _, _, _, _, _, _, _, _, _, rfl, boxB B9 g0' fun w11 h11 B11 z11 => fin w11 B11 _ _ _ _ _ _ _ _ _ _ _ _ rfl⟩⟩⟩
    · exact newB B6 fun g' w10 g0' sg' n10 z10 b10 B10 => ⟨c1 b10, c2 b10, callB B10 (hgOf1 w10) fun w7 b7 B7 => ⟨_, _, _, _, _, _, _, _, _, _, _, rfl, c2 (b10.trans (b7.mono b10.size)), callB B7 (hgOf2 w7) fun w8 b8 B8 => ⟨_, _, _, _, _, _, _, _, _, _, _, rfl, callB B8 (hgT w8) fun w9 b9 B9 => ⟨_, _, _, _, _, _, _, _, _, _, _, rfl, boxB B9 g0' fun w11 h11 B11 z11 => fin w11 B11 _ _ _ _ _ _ _ _ _ _ _ _ rfl⟩⟩⟩⟩
  · obtain rfl : i = ls.length := by omega
    rw [List.take_length] at he
    have hcf := cost_fits ho
    have s2 := small_lim (z := costOf ls) (by omega)
    have hI := rIntZ_any (costOf ls) s2.1 wx
    rw [← he] at hI
    exact callB B hI fun w12 b12 B12 => ⟨_, _, congrArg Ending.returned (fitV_yes (by omega) (by omega)), rfl, B12⟩
theorem lsame_ret (a a2 : Option Addr) (c c2 : Nat) (ls : List Ln) (w : World) (h : LsAt 0 w a ls) (h2 : LsAt 0 w a2 ls) (hl : ls.length ≤ 1000) : Calls Try.prog 36 #[.slice a ls.length c, .slice a2 ls.length c2] w (Ret (.bool true) w) := by
  refine ret_in (GTar.rlsame_calls a ls.length c a2 ls.length c2 w (fun u w' => u = .bool true ∧ Below w.heap.size w w') ?_)
  unfold GTar.rlsame_vc
  refine br_n (by omega) ⟨fun x wx => ∃ i : Nat, x = i ∧ i ≤ ls.length ∧ Bs w wx, fun x _ => ls.length - x.toNat, ⟨0, rfl, by omega, Bs.refl _⟩, ?_⟩
  rintro x wx ⟨i, rfl, hi, B⟩
  refine br_dec (fun hlt => drewB B fun w3 b3 B3 _ => ?_) fun hge => ⟨rfl, B⟩
  have hil : i < ls.length := by omega
  obtain ⟨b, off, rfl, hc⟩ := (h.below B3).get hil
  obtain ⟨b', off', rfl, hc'⟩ := (h2.below B3).get hil
  refine ⟨by omega, by omega, ls[i].tier, ls[i].blocks, ls[i].price, by rw [Int.toNat_natCast]; exact hc, by omega, by omega, ls[i].tier, ls[i].blocks, ls[i].price, by rw [Int.toNat_natCast]; exact hc', br_f (by simp) ?_⟩
  rw [wr64 (by omega) (by omega)]
  exact ⟨⟨i + 1, by omega, by omega, B3⟩, by dsimp only; omega⟩
theorem dearT_app : ∀ (xs ys : List Tr), dearT (xs ++ ys) = max (dearT xs) (dearT ys)
  | [], ys => by have := dearT_nn ys; simp only [List.nil_append, dearT]; omega
  | x :: r, ys => by simp only [List.cons_append, dearT, dearT_app r ys]; omega
theorem rdear_ret (p : Pl) (a a2 : Option Addr) (c c2 : Nat) (w : World) (h : PlAt w p a a2) : Calls Try.prog 70 #[planV p a c a2 c2] w (Ret (.int .i64 (dear p)) w) := by
  refine ret_in (GTar.rdear_calls p.day p.frm p.til p.base.grp p.base.mode p.base.block a p.base.ts.length c p.other.grp p.other.mode p.other.block a2 p.other.ts.length c2 w (fun u w' => u = .int .i64 (dear p) ∧ Below w.heap.size w w') ?_)
  unfold GTar.rdear_vc
  have h1 := h.lb
  have h2 := h.lo
  refine newB (Bs.refl w) fun g w2 g0 sg n2 z2 b2 B2 => drewB B2 fun w3 b3 B3 _ => newB B3 fun g' w4 g0' sg' n4 z4 b4 B4 => ?_
  have b3s := b3.size
  have o4 : Own w4 w3.heap.size 120 2 (.slice (some ⟨g', 0, none⟩) 0 0) 0 [] := (own_empty 2 n4).base_le fun k hk => by simp [Value.ownBlock] at hk; omega
  refine appB B4 o4 B3.size (by omega) ((h.base.below B4).src (c := c) Try.underlying22 (by decide) tr_len tr_one) (by unfold maxLen; omega) (by omega) (fun x hx e => ?_) fun a5 c5 w5 o5 g5 B5 z5 => ?_
  · rw [List.mem_singleton] at hx; subst hx
    have := (o4.lt _ e).1
    omega
  refine appB B5 o5 B3.size (by omega) ((h.other.below B5).src (c := c2) Try.underlying22 (by decide) tr_len tr_one) (by unfold maxLen; omega) (by omega) (fun x hx e => ?_) fun a6 c6 w6 o6 g6 B6 z6 => ?_
  · rw [List.mem_singleton] at hx; subst hx
    have := (o5.lt _ e).1
    omega
  have hall : TsAt w3.heap.size w6 a6 (p.base.ts ++ p.other.ts) := Rws.ofOwn (by decide) tr_len (by rw [List.flatMap_append]; rw [List.nil_append] at o6; exact o6)
  have hlen : 0 + p.base.ts.length + p.other.ts.length = (p.base.ts ++ p.other.ts).length := by simp
  rw [hlen]
  have hdr : dear p = dearT (p.base.ts ++ p.other.ts) := by rw [dearT_app]; rfl
  rw [hdr]
  have hl : (p.base.ts ++ p.other.ts).length ≤ 2000 := by simp; omega
  generalize p.base.ts ++ p.other.ts = ts at *
  have nn := dearT_nn ts
  refine ⟨fun x y wx => ∃ i : Nat, y = i ∧ i ≤ ts.length ∧ dearT ts = max x (dearT (ts.drop i)) ∧ 0 ≤ x ∧ w6 = wx, fun _ y _ => ts.length - y.toNat, ⟨0, rfl, by omega, by simp; omega, by omega, rfl⟩, ?_⟩
  rintro x y wx ⟨i, rfl, hi, he, hx, rfl⟩
  refine br_dec (fun hlt => ?_) fun hge => ?_
  · have hil : i < ts.length := by omega
    obtain ⟨b, off, rfl, hc⟩ := hall.get hil
    rw [List.drop_eq_getElem_cons hil, dearT] at he
    refine ⟨by omega, by omega, ts[i].price, by rw [Int.toNat_natCast, Nat.add_assoc]; exact cellsAt_get hc 1 _ rfl, ?_⟩
    rw [wr64 (by omega) (by omega)]
    exact ⟨⟨i + 1, by omega, by omega, by omega, by omega, rfl⟩, by dsimp only; omega⟩
  · obtain rfl : i = ts.length := by omega
    refine ⟨?_, B6⟩
    rw [List.drop_length] at he
    congr 1
    simp only [dearT] at he
    omega
theorem rblocks_ret (n b : Int) (w : World) (hn : 0 ≤ n ∧ n ≤ 1073741824) (hb : 1 ≤ b ∧ b ≤ 1073741824) : Calls Try.prog 68 #[.int .i64 n, .int .i64 b] w (Ret (.tuple #[.int .i64 (blk n b), .bool true]) w) :=
  ret_same (rBlocks_any n b (by omega) (by omega) (by omega) (by omega) w _ (blkT_yes hn.1 hb.1).symm)
theorem rworst_ret (p : Pl) (a a2 : Option Addr) (c c2 : Nat) (n : Int) (w : World) (h : PlAt w p a a2) :
    Calls Try.prog 32 #[planV p a c a2 c2, .int .i64 n] w (Ret (.tuple #[.int .i64 (worstN p n), .int .i64 (worstE p n)]) w) := by
  refine ret_in (GTar.rworst_calls p.day p.frm p.til p.base.grp p.base.mode p.base.block a p.base.ts.length c p.other.grp p.other.mode p.other.block a2 p.other.ts.length c2 n w (fun u w' => u = .tuple #[.int .i64 (worstN p n), .int .i64 (worstE p n)] ∧ Below w.heap.size w w') ?_)
  unfold GTar.rworst_vc
  have bad : ∀ w', Below w.heap.size w w' → worstE p n = 1 → Value.tuple #[.int .i64 0, .int .i64 1] = .tuple #[.int .i64 (worstN p n), .int .i64 (worstE p n)] ∧ Below w.heap.size w w' := fun w' B hE => by
    unfold worstN
    rw [hE]
    exact ⟨rfl, B⟩
  refine newB (Bs.refl w) fun g w2 g0 sg n2 z2 b2 B2 => callB B2 (r9cplan_ret p a a2 c c2 w2 (h.to B2)) fun w3 b3 B3 => ⟨_, rfl, br_dec (fun h1 => bad _ B3 (by unfold worstE; rw [if_pos (.inl h1)])) fun h1 => br_dec (fun h2 => bad _ B3 (by unfold worstE; rw [if_pos (.inr (by omega))])) fun h2 => br_dec (fun h3 => bad _ B3 (by unfold worstE; rw [if_pos (.inr (by omega))])) fun h3 => ?_⟩
  have hp : planE p = 0 := Decidable.not_not.1 h1
  have hb := (chk_ok (plan_ok hp).1).1.2
  have hn : 0 ≤ n ∧ n ≤ 1073741824 := by omega
  refine callB B3 (rblocks_ret n p.base.block w3 hn hb) fun w5 b5 B5 => ⟨_, _, rfl, callB B5 (rdear_ret p a a2 c c2 w5 (h.to B5)) fun w6 b6 B6 => ⟨_, rfl, ?_, B6⟩⟩
  have hs := worst_small hp hn
  have hE : worstE p n = 0 := by unfold worstE; rw [if_neg (by omega)]
  unfold worstN
  rw [wr64 (by omega) (by omega), hE, if_pos rfl]
theorem rfit_ret (p : Pl) (a a2 : Option Addr) (c c2 : Nat) (cr want : Int) (w : World) (h : PlAt w p a a2) :
    Calls Try.prog 34 #[planV p a c a2 c2, .int .i64 cr, .int .i64 want] w (Ret (.tuple #[.int .i64 (fitU p cr want), .int .i64 (fitC p cr want), .int .i64 (fitE p cr want)]) w) := by
  refine ret_in (GTar.rfit_calls p.day p.frm p.til p.base.grp p.base.mode p.base.block a p.base.ts.length c p.other.grp p.other.mode p.other.block a2 p.other.ts.length c2 cr want w (fun u w' => u = .tuple #[.int .i64 (fitU p cr want), .int .i64 (fitC p cr want), .int .i64 (fitE p cr want)] ∧ Below w.heap.size w w') ?_)
  unfold GTar.rfit_vc
  have bad : ∀ w', Below w.heap.size w w' → fitE p cr want = 1 → Value.tuple #[.int .i64 0, .int .i64 0, .int .i64 1] = .tuple #[.int .i64 (fitU p cr want), .int .i64 (fitC p cr want), .int .i64 (fitE p cr want)] ∧ Below w.heap.size w w' := fun w' B hE => by
    unfold fitU fitC
    rw [hE]
    exact ⟨rfl, B⟩
  refine newB (Bs.refl w) fun g w2 g0 sg n2 z2 b2 B2 => callB B2 (r9cplan_ret p a a2 c c2 w2 (h.to B2)) fun w3 b3 B3 => ⟨_, rfl, br_dec (fun h1 => bad _ B3 (by unfold fitE; rw [if_pos (.inl h1)])) fun h1 => br_dec (fun h2 => bad _ B3 (by unfold fitE; rw [if_pos (.inr (by omega))])) fun h2 => br_dec (fun h3 => bad _ B3 (by unfold fitE; rw [if_pos (.inr (by omega))])) fun h3 => br_dec (fun h4 => bad _ B3 (by unfold fitE; rw [if_pos (.inr (by omega))])) fun h4 => ?_⟩
  have hp : planE p = 0 := Decidable.not_not.1 h1
  have hb := (chk_ok (plan_ok hp).1).1.2
  have hE : fitE p cr want = 0 := by unfold fitE; rw [if_neg (by omega)]
  have hU : fitU p cr want = fitN p.base.block (dear p) cr want := by unfold fitU; rw [if_pos hE]
  have hC : fitC p cr want = blk (fitU p cr want) p.base.block * dear p := by unfold fitC; rw [if_pos hE]
  have hdr := dear_plan hp
  have hnn := fitN_nn p.base.block (dear p) cr want (by omega) (by omega) (by omega)
  rw [← hU] at hnn
  refine ⟨fun lo hi wx => 0 ≤ lo ∧ lo ≤ fitU p cr want ∧ fitU p cr want ≤ hi ∧ hi ≤ want ∧ Bs w wx, fun lo hi _ => (hi - lo).toNat, ⟨by omega, by omega, by omega, by omega, B3⟩, ?_⟩
  rintro lo hi wx ⟨k0, k1, k2, k3, B⟩
  refine br_dec (fun hlt => ⟨by decide, ?_⟩) fun hge => ?_
  · rw [wr64 (show -9223372036854775808 ≤ hi - lo by omega) (by omega), wr64 (show -9223372036854775808 ≤ hi - lo + 1 by omega) (by omega), Int.tdiv_eq_ediv_of_nonneg (show 0 ≤ hi - lo + 1 by omega)]
    have m0 : lo < lo + (hi - lo + 1) / 2 ∧ lo + (hi - lo + 1) / 2 ≤ hi ∧ (hi - lo + 1) / 2 ≤ hi := by omega
    rw [wr64 (show -9223372036854775808 ≤ (hi - lo + 1) / 2 by omega) (by omega), wr64 (show -9223372036854775808 ≤ lo + (hi - lo + 1) / 2 by omega) (by omega)]
    generalize lo + (hi - lo + 1) / 2 = mid at *
    rw [wr64 (show -9223372036854775808 ≤ mid - 1 by omega) (by omega)]
    have hw : worstE p mid = 0 := by unfold worstE; rw [if_neg (by omega)]
    have hN : worstN p mid = blk mid p.base.block * dear p := by unfold worstN; rw [if_pos hw]
    have hle := fitN_le p.base.block (dear p) cr want mid (by omega) hdr.1 (by omega) (by omega) (by omega)
    rw [← hU] at hle
    refine callB B (rworst_ret p a a2 c c2 mid wx (h.to B)) fun w5 b5 B5 => ⟨_, _, rfl, br_dec (fun hc => ?_) fun hc => ?_⟩
    · rw [hN] at hc
      have := hle.1 hc
      exact ⟨⟨by omega, by omega, k2, k3, B5⟩, by dsimp only; omega⟩
    · rw [hN] at hc
      have : ¬ mid ≤ fitU p cr want := fun q => hc (hle.2 q)
      exact ⟨⟨k0, k1, by omega, by omega, B5⟩, by dsimp only; omega⟩
  · obtain rfl : lo = fitU p cr want := by omega
    refine callB B (rworst_ret p a a2 c c2 _ wx (h.to B)) fun w5 b5 B5 => ⟨_, _, rfl, ?_, B5⟩
    have hw : worstE p (fitU p cr want) = 0 := by unfold worstE; rw [if_neg (by omega)]
    unfold worstN
    rw [if_pos hw, hE, hC]
set_option maxRecDepth 10000 in
theorem rrate_new (p : Pl) (a a2 : Option Addr) (c c2 : Nat) (now pos n : Int) (w : World) (h : PlAt w p a a2) :
    Calls Try.prog 31 #[planV p a c a2 c2, .int .i64 now, .int .i64 pos, .int .i64 n] w fun e w' => (∃ a' c', e = .returned (.tuple #[rtdV (rateR p now pos n) a' c', .int .i64 (rateE p now pos n)]) ∧ LsAt w.heap.size w' a' (rateR p now pos n).ls) ∧ Below w.heap.size w w' := by
  refine (GTar.rrate_calls p.day p.frm p.til p.base.grp p.base.mode p.base.block a p.base.ts.length c p.other.grp p.other.mode p.other.block a2 p.other.ts.length c2 now pos n w (fun u w' => (∃ a' c', u = .tuple #[rtdV (rateR p now pos n) a' c', .int .i64 (rateE p now pos n)] ∧ LsAt w.heap.size w' a' (rateR p now pos n).ls) ∧ Below w.heap.size w w') ?_).mono (by rintro e w' ⟨v, rfl, ⟨a', c', rfl, h⟩, h2⟩; exact ⟨⟨a', c', rfl, h⟩, h2⟩)
  unfold GTar.rrate_vc
  have bad : ∀ w', Below w.heap.size w w' → rateE p now pos n = 1 → (∃ a' c', Value.tuple #[.agg #[.slice none 0 0, .int .i64 0, .int .i64 0, .int .i64 0], .int .i64 1] = .tuple #[rtdV (rateR p now pos n) a' c', .int .i64 (rateE p now pos n)] ∧ LsAt w.heap.size w' a' (rateR p now pos n).ls) ∧ Below w.heap.size w w' := fun w' B hE => by
    have hR : rateR p now pos n = ⟨[], 0, 0, 0⟩ := by unfold rateR; rw [if_neg (by rw [hE]; decide)]
    rw [hR, hE]
    exact ⟨⟨none, 0, rfl, Rws.nil⟩, B⟩
  refine newB (Bs.refl w) fun g w2 g0 sg n2 z2 b2 B2 => newB B2 fun g' w3 g0' sg' n3 z3 b3 B3 => callB B3 (r9cplan_ret p a a2 c c2 w3 (h.to B3)) fun w4 b4 B4 => ⟨_, rfl, br_dec (fun h1 => boxB B4 g0' fun w5 h5 B5 _ => bad _ B5 (by unfold rateE; rw [if_pos (.inl h1)])) fun h1 => ?_⟩
  refine br_dec (fun h2 => boxB B4 g0' fun w5 h5 B5 _ => bad _ B5 (by unfold rateE; rw [if_pos (.inr (.inl h2))])) fun h2 => br_dec (fun h3 => boxB B4 g0' fun w5 h5 B5 _ => bad _ B5 (by unfold rateE; rw [if_pos (.inr (.inr (.inl (by omega))))])) fun h3 => br_dec (fun h3 => boxB B4 g0' fun w5 h5 B5 _ => bad _ B5 (by unfold rateE; rw [if_pos (.inr (.inr (.inl (by omega))))])) fun h4 => ?_
  have hp : planE p = 0 := Decidable.not_not.1 h1
  obtain ⟨hat, hbl, _⟩ := at_ok hp now
  have hb := (chk_ok (plan_ok hp).1).1.2
  have hn : 0 ≤ n ∧ n ≤ 1073741824 := by omega
  have hRR : rateE p now pos n = 0 → rateR p now pos n = ⟨splitL (atT p now) pos (blk n p.base.block), blk n p.base.block, costOf (splitL (atT p now) pos (blk n p.base.block)), pos + blk n p.base.block⟩ := fun hE => by unfold rateR; rw [if_pos hE]
  have hbn := blk_nn n p.base.block (by omega) hn.1
  have hbs := blk_self n p.base.block (by omega) hn.1
  have hbb : 0 ≤ blk n p.base.block ∧ blk n p.base.block ≤ 1073741824 := ⟨hbn, Int.le_trans hbs hn.2⟩
  have hbk := fun wy => rblocks_ret n p.base.block wy hn hb
  have hso : posOk pos → ∀ tt : Tar, splitO tt pos (blk n p.base.block) = splitL tt pos (blk n p.base.block) := fun hpos tt => by unfold splitO; rw [if_pos hpos]
  have hE1 : posOk pos → rateE p now pos n = 0 := fun hpos => by
    have hno : ¬ (planE p ≠ 0 ∨ now < 0 ∨ ¬ (0 ≤ n ∧ n ≤ 1073741824) ∨ ¬ posOk pos) := fun k => k.elim (fun k => k hp) fun k => k.elim h2 fun k => k.elim (fun k => k hn) fun k => k hpos
    unfold rateE
    rw [if_neg hno]
  have hE0 : ¬ posOk pos → rateE p now pos n = 1 := fun k => by unfold rateE; rw [if_pos (.inr (.inr (.inr k)))]
  rw [← hbl] at hbk hbb hRR hso
  have b4s := b4.size
  refine newB B4 fun g3 w9 g0'' sg'' n9 z9 b9 B9 => boxB B9 g0'' fun w10 h10 B10 z10 => callB B10 (ris_ret p a a2 c c2 now w10) fun w11 b11 B11 => ⟨_, rfl, ?_⟩
  have b11s := b11.size
  have rest : ∀ (tt : Tar) (at' : Option Addr) (ct : Nat), tt = atT p now → (∀ wy, Bs w wy → TsAt 0 wy at' tt.ts) → ∀ wy, Bs w wy → w11.heap.size ≤ wy.heap.size → Calls Try.prog 68 #[.int .i64 n, .int .i64 tt.block] wy fun e_3 w_13 => KeepG [g3, g', g] wy w_13 ∧
            ∃ (x44_0 : Int) (b44_1 : Bool),
            e_3 = .returned (.tuple #[.int .i64 x44_0, .bool b44_1]) ∧
            Calls Try.prog 69 #[tarV tt at' ct, .int .i64 pos, .int .i64 x44_0] w_13 fun e_4 w_14 => KeepG [g3, g', g] w_13 w_14 ∧
            ∃ (a51_0 : Option Addr) (n51_0 : Nat) (c51_0 : Nat) (x51_1 : Int),
            e_4 = .returned (.tuple #[.slice a51_0 n51_0 c51_0, .int .i64 x51_1]) ∧
            br (decide (x51_1 ≠ 0)) (
              ∀ w_15 : World, BoxSt g' w_14 w_15 →
              (∃ a' c', Value.tuple #[.agg #[.slice none 0 0, .int .i64 0, .int .i64 0, .int .i64 0], .int .i64 1] = .tuple #[rtdV (rateR p now pos n) a' c', .int .i64 (rateE p now pos n)] ∧ LsAt w.heap.size w_15 a' (rateR p now pos n).ls) ∧ Below w.heap.size w w_15
            ) (
              Calls Try.prog 37 #[.slice a51_0 n51_0 c51_0] w_14 fun e_5 w_16 => KeepG [g3, g', g] w_14 w_16 ∧
              ∃ (x59_0 : Int) (b59_1 : Bool),
              e_5 = .returned (.tuple #[.int .i64 x59_0, .bool b59_1]) ∧
              ∀ w_17 : World, BoxSt g' w_16 w_17 →
              (∃ a' c', Value.tuple #[.agg #[.slice a51_0 n51_0 c51_0, .int .i64 x44_0, .int .i64 x59_0, .int .i64 (IntKind.i64.wrap (pos + x44_0))], .int .i64 0] = .tuple #[rtdV (rateR p now pos n) a' c', .int .i64 (rateE p now pos n)] ∧ LsAt w.heap.size w_17 a' (rateR p now pos n).ls) ∧ Below w.heap.size w w_17
            ) := by
    intro tt at' ct htt hts wy By hsz
    rw [← htt] at hbk hbb hRR hso hat
    generalize blk n tt.block = m at *
    refine callB By (hbk wy) fun w13 b13 B13 => ⟨_, _, rfl, callQ B13 (r10split_new tt at' ct pos m w13 (hts w13 B13) hat hbb) ?_⟩
    rintro e w14 ⟨a14, c14, rfl, h14⟩ b14 B14
    have b13s := b13.size
    refine ⟨_, _, _, _, rfl, br_dec (fun h5 => boxB B14 g0' fun w15 h15 B15 _ => bad _ B15 (hE0 fun k => h5 (by rw [if_pos k]))) fun h5 => ?_⟩
    have hpos : posOk pos := Decidable.byContradiction fun k => h5 (by rw [if_neg k]; decide)
    have hls := splitO_ok hat pos (n := m) hbb
    rw [hso hpos] at h14 hls ⊢
    rw [hRR (hE1 hpos), hE1 hpos]
    refine callB B14 (r10cost_ret a14 c14 _ w14 (h14.low (Nat.zero_le _)) hls) fun w16 b16 B16 => ⟨_, _, rfl, boxB B16 g0' fun w18 h18 B18 z18 => ⟨⟨a14, c14, ?_, ?_⟩, B18⟩⟩
    · rw [wr64 (by have := hpos.1; omega) (by have := hpos.2; omega)]
      rfl
    · exact ((h14.below b16).box h18 (by omega)).low (by omega)
  refine br_dec (fun ho => boxB B11 g0'' fun w12 h12 B12 z12 => ?_) fun ho => ?_
  · exact rest p.other a2 c2 (by unfold atT; rw [if_pos ho]) (fun wy By => h.other.below By) w12 B12 (by omega)
  · exact rest p.base a c (by unfold atT; rw [if_neg ho]) (fun wy By => h.base.below By) w11 B11 (by omega)
end Go.Proofs.Ytecmpjccdhmeeaa
end
section
/- Plans, tamed; what a rate comes to. -/
namespace Go.Proofs.Ytecmpjccdhmeeaa
open Go.RowKit
def tameT (t : Tar) : Tar := { t with ts := t.ts.take 9 }
def tameP (p : Pl) : Pl := { p with base := tameT p.base, other := tameT p.other }
theorem min9 (ts : List Tr) : (min ((ts.length : Nat) : Int) 9).toNat = (ts.take 9).length := by rw [List.length_take]; omega
theorem take9 (ts : List Tr) : (ts.take 9).length ≤ 9 := by rw [List.length_take]; omega
def DayIn (p : Pl) : Prop := -9223372036854775808 ≤ p.day ∧ p.day ≤ 9223372036854775807
theorem PlAt.box {w w1 : World} {p : Pl} {a a2 : Option Addr} {n g : Nat} (h1 : TsAt n w a p.base.ts) (h2 : TsAt n w a2 p.other.ts) (l1 : p.base.ts.length ≤ 1000) (l2 : p.other.ts.length ≤ 1000) (hb : BoxSt g w w1) (hg : g < n) : PlAt w1 p a a2 :=
  ⟨(h1.box hb hg).low (Nat.zero_le _), (h2.box hb hg).low (Nat.zero_le _), l1, l2⟩
def plan0 : Pl := ⟨0, 0, 0, ⟨1, 1, 10, [⟨0, 3⟩]⟩, ⟨0, 0, 0, []⟩⟩
theorem plan0_rate : rateE plan0 0 0 11 = 0 ∧ (rateR plan0 0 0 11).blocks = 2 ∧ (rateR plan0 0 0 11).cost = 6 ∧ (rateR plan0 0 0 11).pos = 2 ∧ fitE plan0 7 100 = 0 ∧ fitU plan0 7 100 = 20 ∧ fitC plan0 7 100 = 6 := by decide +kernel
theorem dearT_at {p : Pl} (now : Int) : dearT (atT p now).ts ≤ dear p := by
  unfold atT dear
  split <;> omega
theorem rateR_len (q : Pl) (now pos n : Int) : (rateR q now pos n).ls.length ≤ 1000 := by
  by_cases hE : rateE q now pos n = 0
  · obtain ⟨k1, k2, k3, k4⟩ := rateE_ok hE
    have hat := at_ok k1 now
    have hb := (chk_ok (plan_ok k1).1).1.2
    have := (splitL_ok hat.1 k4.1 (blk_nn n q.base.block (by omega) k3.1)).2.2
    unfold rateR
    rw [if_pos hE]
    exact Nat.le_trans this (by decide)
  · unfold rateR
    rw [if_neg hE]
    exact Nat.zero_le _
theorem rateR_yes {q : Pl} {now pos n : Int} (hE : rateE q now pos n = 0) : rateR q now pos n = ⟨splitL (atT q now) pos (blk n q.base.block), blk n q.base.block, costOf (splitL (atT q now) pos (blk n q.base.block)), pos + blk n q.base.block⟩ := by unfold rateR; rw [if_pos hE]
theorem rate_facts {q : Pl} {now pos n : Int} (hE : rateE q now pos n = 0) :
    LsOk (rateR q now pos n).ls ∧ (rateR q now pos n).cost = costOf (rateR q now pos n).ls ∧ 0 ≤ (rateR q now pos n).cost ∧ (rateR q now pos n).cost ≤ worstN q n ∧ (rateR q now pos n).pos = pos + (rateR q now pos n).blocks ∧ 0 ≤ (rateR q now pos n).blocks ∧ (rateR q now pos n).blocks ≤ 1073741824 ∧ worstE q n = 0 ∧ posOk pos := by
  obtain ⟨k1, k2, k3, k4⟩ := rateE_ok hE
  have hat := at_ok k1 now
  have hb := (chk_ok (plan_ok k1).1).1.2
  have hbn := blk_nn n q.base.block (by omega) k3.1
  have hbs := blk_self n q.base.block (by omega) k3.1
  have hc := splitL_cost hat.1 k4.1 hbn
  have hso : LsOk (splitL (atT q now) pos (blk n q.base.block)) := by
    have := splitO_ok hat.1 pos (n := blk n q.base.block) (by omega)
    unfold splitO at this
    rwa [if_pos k4] at this
  have hw : worstE q n = 0 := by unfold worstE; rw [if_neg (by omega)]
  have hd := Int.mul_le_mul_of_nonneg_left (dearT_at (p := q) now) hbn
  rw [rateR_yes hE]
  unfold worstN
  rw [if_pos hw]
  exact ⟨hso, rfl, hc.1, Int.le_trans hc.2 hd, rfl, hbn, by dsimp only; omega, hw, k4⟩
end Go.Proofs.Ytecmpjccdhmeeaa
end
section
/- The bytes of numbers: the plain law. No program in sight. -/
namespace Go.Proofs.Ytecmpjccdhmeeaa
open Go.RowKit
/-- The groups of a number without a sign. -/
def grp (u : Nat) : List UInt8 := if u < 128 then [UInt8.ofNat u] else UInt8.ofNat (u % 128 + 128) :: grp (u / 128)
termination_by u
decreasing_by omega
theorem grp_lt {u : Nat} (h : u < 128) : grp u = [UInt8.ofNat u] := by rw [grp, if_pos h]
theorem grp_ge {u : Nat} (h : 128 ≤ u) : grp u = UInt8.ofNat (u % 128 + 128) :: grp (u / 128) := by rw [grp, if_neg (by omega)]
theorem grp_len (n : Nat) : ∀ u, u < 128 ^ (n + 1) → (grp u).length ≤ n + 1 := by
  induction n with
  | zero => intro u h; rw [grp_lt (by simpa using h)]; simp
  | succ n ih =>
    intro u h
    by_cases h1 : u < 128
    · rw [grp_lt h1]; simp
    · rw [grp_ge (by omega), List.length_cons]
      have := ih (u / 128) (by rw [Nat.div_lt_iff_lt_mul (by omega), ← Nat.pow_succ]; exact h)
      omega
theorem grp_len64 {u : Nat} (h : u < 18446744073709551616) : (grp u).length ≤ 10 := grp_len 9 u (by omega)
theorem grp_pos (u : Nat) : 0 < (grp u).length := by
  by_cases h : u < 128
  · rw [grp_lt h]; simp
  · rw [grp_ge (by omega)]; simp
/-- An int as a number without a sign: zigzag. -/
def zig (z : Int) : Nat := if 0 ≤ z then (2 * z).toNat else (2 * (-z) - 1).toNat
theorem zig_lt {z : Int} (h1 : -9223372036854775808 ≤ z) (h2 : z ≤ 9223372036854775807) : zig z < 18446744073709551616 := by unfold zig; split <;> omega
def uintB (z : Int) : List UInt8 := if z < 0 then [] else grp z.toNat
def intB (z : Int) : List UInt8 := grp (zig z)
def flagB (b : Bool) : List UInt8 := [if b then 1 else 0]
def textB (bs : List UInt8) : List UInt8 := grp bs.length ++ bs
end Go.Proofs.Ytecmpjccdhmeeaa
end
section
/- The writer of the codec, walked. -/
namespace Go.Proofs.Ytecmpjccdhmeeaa
open Go.RowKit
theorem Try.infoB : (Try.prog.info? 5).map (fun i => (i.zero, i.size, i.bytes)) = some (some (.int .u8 0), 1, 1) := by kernel_rfl
theorem wpList_appb {ops : Array Oper} {rest : List Oper} {o : Oper} {a : Act} {w : World} {Q : Exit → Act → World → Prop} (hgd : o.guard = none) (s xo : Operand)
    (hop : o.op = Op.call { callee := Callee.builtin Builtin.append, args := #[s, xo], argTypes := #[28, 28] })
    {base n : Nat} {v : Value} {xs : List Value} (hv : a.eval s = v) (ho : Own w base 5 1 v n xs) (x : Value) (hx : a.eval xo = x) (m : Nat) (news : List Value) (hs : Src Try.prog 1 28 x m news w)
    (hb : n + m ≤ 140737488355328) (hbase : base ≤ w.heap.size)
    (hK : ∀ v' w', Own w' base 5 1 v' (n + m) (xs ++ news) → w.grownBy w' v.ownBlock → (v'.ownBlock = v.ownBlock ∨ ∃ g, v'.ownBlock = some g ∧ w.heap.size ≤ g) → wpList Try.prog ops Q rest (a.put o.dst v') w') :
    wpList Try.prog ops Q (o :: rest) a w := by
  obtain ⟨i0, hi, hz0, hz1, hz2⟩ := info_parts Try.infoB
  exact wpList_app hgd s xo 28 28 hop i0 _ 1 Try.underlying28 hi hz0 hz1 hz2 rfl hv ho x hx m news hs (by unfold maxLen; omega) (by omega) hbase hK
theorem Src.builtB {W : World} (b : UInt8) : Src Try.prog 1 28 (.slice (some ⟨W.heap.size, 0, none⟩) 1 1) 1 [bV b] (W.alloc (.cells #[bV b] 5)) :=
  Src.ofRow Try.underlying28 (some ⟨W.heap.size, 0, none⟩) 1 [bV b] (RowAt.ofWhole (vs := [bV b]) (al_new rfl)) (by intro u hu; rw [List.mem_singleton] at hu; subst hu; rfl)
/-- A writer. -/
structure WAt (w : World) (L : List Nat) (g : Nat) (bs : List UInt8) (bad : Bool) : Prop where
  ex : ∃ v, Bk w g #[v, .bool bad] 83 ∧ Own w 0 5 1 v bs.length (bs.map bV) ∧ ∀ k, v.ownBlock = some k → k ∈ L
  mem : g ∈ L
  under : Under L w.heap.size
theorem WAt.keep {w w' : World} {L : List Nat} {g : Nat} {bs : List UInt8} {bad : Bool} (h : WAt w L g bs bad) (hk : ∀ k ∈ L, w'.heap[k]? = w.heap[k]?) (hs : w.heap.size ≤ w'.heap.size) : WAt w' L g bs bad := by
  obtain ⟨⟨v, h1, h2, h3⟩, h4, h5⟩ := h
  exact ⟨⟨v, h1.keep (hk g h4), h2.keep fun k hv => hk k (h3 k hv), h3⟩, h4, h5.mono hs⟩
theorem WAt.fr {w w' : World} {L M : List Nat} {g : Nat} {bs : List UInt8} {bad : Bool} (h : WAt w L g bs bad) (hf : Fr M w w') (ha : Apart L M) : WAt w' L g bs bad := h.keep (hf.keep ha h.under) hf.size
theorem WAt.make {w : World} {g : Nat} {v : Value} {bs : List UInt8} {bad : Bool} (h1 : Bk w g #[v, .bool bad] 83) (h2 : Own w 0 5 1 v bs.length (bs.map bV)) : WAt w (g :: v.ownBlock.toList) g bs bad :=
  ⟨⟨v, h1, h2, fun k hk => by simp [hk]⟩, by simp, fun k hk => by
    rcases List.mem_cons.1 hk with rfl | hk
    · exact h1.lt
    · exact (h2.lt k (by simpa using hk)).2⟩
theorem own_far {w : World} {g : Nat} {v : Value} {cs : Array Value} {n : Nat} {xs : List Value} {t : TypeId} (h1 : Bk w g cs t) (h2 : Own w 0 5 1 v n xs) (hne : t ≠ 5) : v.ownBlock ≠ some g := by
  intro h
  rcases h2.2 with ⟨rfl, _⟩ | ⟨g', off, cap, cur, rfl, hb, hg, _⟩
  · cases h
  · simp [Value.ownBlock] at h
    subst h
    unfold Bk at h1
    rw [h1] at hg
    injection hg with hg
    injection hg with h3 h4 h5
    exact hne h4
theorem u8_of (u : Nat) : IntKind.u8.wrap (u : Int) = ((u % 256 : Nat) : Int) := by rw [IntKind.wrap_u8]; omega
theorem bV_nat (n : Nat) (h : n < 256) : bV (UInt8.ofNat n) = .int .u8 (n : Int) := by
  unfold bV
  rw [show (UInt8.ofNat n).toNat = n % 256 from rfl, Nat.mod_eq_of_lt h]
theorem or128B : ((List.range 256).all fun x => bits BinOp.or IntKind.u8 (x : Int) 128 == ((x % 128 + 128 : Nat) : Int)) = true := by kernel_rfl
theorem or128 (x : Nat) : bits BinOp.or IntKind.u8 ((x : Int) % 256) 128 = ((x % 128 + 128 : Nat) : Int) := by
  have h := List.all_eq_true.1 or128B (x % 256) (List.mem_range.2 (by omega))
  have h2 := eq_of_beq h
  rw [show ((x % 256 : Nat) : Int) = (x : Int) % 256 by omega, show x % 256 % 128 = x % 128 by omega] at h2
  exact h2
/-- One append to a writer, and the store of the slice. -/
theorem w_step {wa w1 : World} {g n m : Nat} {v v1 : Value} {bad : Bool} {xs zs : List Value} (hB : Bk wa g #[v, .bool bad] 83) (hO : Own wa 0 5 1 v n xs) (hg : wa.grownBy w1 v.ownBlock) (ho1 : Own w1 0 5 1 v1 m zs) :
    Bk w1 g #[v, .bool bad] 83 ∧ Bk (w1.setCell ⟨g, 0, none⟩ v1) g #[v1, .bool bad] 83 ∧ Own (w1.setCell ⟨g, 0, none⟩ v1) 0 5 1 v1 m zs := by
  have hne : v.ownBlock ≠ some g := own_far hB hO (by decide)
  have b1 : Bk w1 g #[v, .bool bad] 83 := hB.keep (hg.block g hB.lt (fun e => hne e.symm))
  refine ⟨b1, b1.setCell 0 v1, ho1.keep fun k hk => Below.heap_setCell _ _ _ _ fun e => ?_⟩
  have e2 : k = g := e
  subst e2
  exact own_far b1 ho1 (by decide) hk
theorem own_gr {L : List Nat} {v v1 : Value} {n m : Nat} (hK : ∀ k, v.ownBlock = some k → k ∈ L ∨ n ≤ k) (hn1 : v1.ownBlock = v.ownBlock ∨ ∃ g, v1.ownBlock = some g ∧ m ≤ g) (hnm : n ≤ m) : ∀ k, v1.ownBlock = some k → k ∈ L ∨ n ≤ k := by
  intro k hk
  rcases hn1 with h | ⟨g, h, hg⟩
  · exact hK k (h ▸ hk)
  · rw [h] at hk; injection hk with hk; omega
theorem gr_make {L : List Nat} {v : Value} {n g : Nat} (hg : g ∈ L) (hK : ∀ k, v.ownBlock = some k → k ∈ L ∨ n ≤ k) : Gr L (g :: v.ownBlock.toList) n := by
  intro k hk
  rcases List.mem_cons.1 hk with rfl | hk
  · exact .inl hg
  · exact hK k (by simpa using hk)
set_option maxRecDepth 100000 in
set_option maxHeartbeats 2000000 in
theorem wput_any (g u : Nat) (hu : u < 18446744073709551616) (bs : List UInt8) (bad : Bool) (L : List Nat) (w : World) (h : WAt w L g bs bad) (hl : bs.length ≤ 100000000) :
    Calls Try.prog 76 #[.pointer (some ⟨g, 0, none⟩), .int .u64 u] w fun e w' => e = .returned (.tuple #[]) ∧ ∃ L', WAt w' L' g (bs ++ grp u) bad ∧ Fr L w w' ∧ Gr L L' w.heap.size := by
  obtain ⟨⟨v, h1, h2, h3⟩, h4, h5⟩ := h
  have H1 := Bx.mk h1; have H2 := Bx.mk h2; have H3 := Bx.mk h3; have H4 := Bx.mk h4; have HL := Bx.mk hl; have HU := Bx.mk hu
  have H10 := Bx.mk (grp_len64 hu)
  clear h1 h2 h3 h4 h5 hl hu
  go_enter Try.func76, Try.ntmps76
  go_wp2_with fail
  go_loopw [1,4,5,6,7,8,9,10,11,12,13,14,15,16,17,18,19] (fun t1 _ _ _ _ _ _ _ _ _ _ _ _ _ _ _ _ wr => ∃ (x : Nat) (v : Value) (ys : List UInt8), t1 = .int .u64 x ∧ x ≤ u ∧ Bx (ys ++ grp x = bs ++ grp u) ∧ Bk wr g #[v, .bool bad] 83 ∧ Own wr 0 5 1 v ys.length (ys.map bV) ∧ Bx (∀ k, v.ownBlock = some k → k ∈ L ∨ w.heap.size ≤ k) ∧ Fr L w wr) (fun t1 _ _ _ _ _ _ _ _ _ _ _ _ _ _ _ _ _ => (intOf t1).toNat)
  case atStart => exact ⟨u, v, bs, rfl, Nat.le_refl _, ⟨rfl⟩, H1.out, H2.out, ⟨fun k hk => .inl (H3.out k hk)⟩, Fr.refl _ _⟩
  case round =>
    obtain ⟨x, v, ys, rfl, hxu, hE, hB, hO, hK, hF⟩ := hrel
    have HB := Bx.mk hB; have HO := Bx.mk hO; have HF := Bx.mk hF
    have hlen : ys.length ≤ 100000010 := by
      have := congrArg List.length hE.out; rw [List.length_append, List.length_append] at this; have := HL.out; have := H10.out; omega
    have HLen := Bx.mk hlen
    have hXU := Bx.mk hxu
    have c0 : wr.cell? ⟨g, 0, none⟩ = some v := by rw [hB.cell]; rfl
    clear hB hO hF hlen hxu
    by_cases hge : (128 : Int) ≤ (x : Int)
    · have hG := grp_ge (u := x) (by omega)
      obtain ⟨y, hy⟩ : ∃ y, y = x % 128 + 128 := ⟨_, rfl⟩
      have f2 : bits BinOp.or IntKind.u8 ((x : Int) % 256) 128 = (y : Int) := by rw [or128, hy]
      have f3 : (x : Int) / 128 = ((x / 128 : Nat) : Int) := by omega
      have f4 : IntKind.u64.wrap ((x / 128 : Nat) : Int) = ((x / 128 : Nat) : Int) := by rw [IntKind.wrap_u64]; have := hXU.out; have := HU.out; omega
      rw [← hy] at hG
      have hyb := bV_nat y (by omega)
      have HY := Bx.mk hyb; have HG := Bx.mk hG
      have hdec : x / 128 < x := by omega
      have hdec2 : x / 128 ≤ u := by have := hXU.out; omega
      have HD := Bx.mk hdec; have HD2 := Bx.mk hdec2
      clear hy hyb hG hdec hdec2
      generalize x / 128 = x2 at *
      go_wp2_with (refine wpList_appb rfl (.tmp 10) (.tmp 14) rfl rfl (HO.out.alloc _) _ rfl 1 [bV (UInt8.ofNat y)] (by rw [← HY.out]; exact Src.builtB (UInt8.ofNat y)) (by have := HLen.out; omega) (by omega) ?_)
      intro v1 w1 ho1 hg1 hn1
      obtain ⟨a1, cp1, rfl⟩ := ho1.isSlice
      obtain ⟨b1, b2, b3⟩ := w_step (HB.out.alloc _) (HO.out.alloc _) hg1 ho1
      have hK2 := own_gr hK.out hn1 (show w.heap.size ≤ wr.heap.size + 1 by have := HF.out.size; omega)
      have hF2 := ((HF.out.alloc (.cells #[.int .u8 (y : Int)] 5)).grown hg1 hK.out).setCell (p := ⟨g, 0, none⟩) (.inl H4.out) (.slice a1 (ys.length + 1) cp1)
      have c1 : w1.frozen? ⟨g, 0, none⟩ = false := b1.frozen 0
      have c2 : w1.cell? ⟨g, 0, none⟩ = some v := by rw [b1.cell]; rfl
      have B2 := Bx.mk b2; have B3 := Bx.mk b3; have K2 := Bx.mk hK2; have F2 := Bx.mk hF2
      clear b1 b2 b3 hK2 hF2 ho1 hg1 hn1
      go_wp2
      go_roundw
      case rel => exact ⟨x2, _, ys ++ [UInt8.ofNat y], rfl, HD2.out, ⟨by rw [← hE.out, HG.out, List.append_assoc]; rfl⟩, B2.out, by rw [List.length_append, List.map_append]; exact B3.out, K2, F2.out⟩
      case measure => have := HD.out; simp [intOf]; omega
    · have hG := grp_lt (u := x) (by omega)
      have hyb := bV_nat x (by omega)
      have HY := Bx.mk hyb; have HG := Bx.mk hG
      have f1 : (x : Int) % 256 = (x : Int) := by omega
      clear hyb hG
      go_wp2_with (refine wpList_appb rfl (.tmp 24) (.tmp 27) rfl rfl (HO.out.alloc _) _ rfl 1 [bV (UInt8.ofNat x)] (by rw [← HY.out]; exact Src.builtB (UInt8.ofNat x)) (by have := HLen.out; omega) (by omega) ?_)
      intro v1 w1 ho1 hg1 hn1
      obtain ⟨a1, cp1, rfl⟩ := ho1.isSlice
      obtain ⟨b1, b2, b3⟩ := w_step (HB.out.alloc _) (HO.out.alloc _) hg1 ho1
      have hK2 := own_gr hK.out hn1 (show w.heap.size ≤ wr.heap.size + 1 by have := HF.out.size; omega)
      have hF2 := ((HF.out.alloc (.cells #[.int .u8 (x : Int)] 5)).grown hg1 hK.out).setCell (p := ⟨g, 0, none⟩) (.inl H4.out) (.slice a1 (ys.length + 1) cp1)
      have c1 : w1.frozen? ⟨g, 0, none⟩ = false := b1.frozen 0
      have c2 : w1.cell? ⟨g, 0, none⟩ = some v := by rw [b1.cell]; rfl
      have B2 := Bx.mk b2; have B3 := Bx.mk b3; have K2 := Bx.mk hK2; have F2 := Bx.mk hF2
      clear b1 b2 b3 hK2 hF2 ho1 hg1 hn1
      go_wp2
      go_end0
      refine ⟨rfl, _, ?_, F2.out, gr_make H4.out K2.out⟩
      rw [← hE.out, HG.out]
      exact WAt.make B2.out (by rw [List.length_append, List.map_append]; exact B3.out)
end Go.Proofs.Ytecmpjccdhmeeaa
end
section
/- The rest of the codec's writer, walked. -/
namespace Go.Proofs.Ytecmpjccdhmeeaa
open Go.RowKit
def W1 (w : World) (L : List Nat) (g : Nat) (bs : List UInt8) (bad : Bool) (e : Ending) (w' : World) : Prop :=
  e = .returned (.tuple #[]) ∧ ∃ L', WAt w' L' g bs bad ∧ Fr L w w' ∧ Gr L L' w.heap.size
theorem WAt.setBad {w : World} {L : List Nat} {g : Nat} {bs : List UInt8} {bad : Bool} (h : WAt w L g bs bad) : WAt (w.setCell ⟨g, 1, none⟩ (.bool true)) L g bs true := by
  obtain ⟨⟨v, h1, h2, h3⟩, h4, h5⟩ := h
  refine ⟨⟨v, h1.setCell 1 (.bool true), h2.keep fun k hk => Below.heap_setCell _ _ _ _ fun e => ?_, h3⟩, h4, by simpa [Under] using h5⟩
  have e2 : k = g := e
  subst e2
  exact own_far h1 h2 (by decide) hk
set_option maxRecDepth 100000 in
set_option maxHeartbeats 2000000 in
theorem wUint_neg (g : Nat) (z : Int) (hz : z < 0) (bs : List UInt8) (bad : Bool) (L : List Nat) (w : World) (h : WAt w L g bs bad) :
    Calls Try.prog 40 #[.pointer (some ⟨g, 0, none⟩), .int .i64 z] w (W1 w L g bs true) := by
  have HW := Bx.mk h
  obtain ⟨⟨v, h1, h2, h3⟩, h4, h5⟩ := h
  have H4 := Bx.mk h4
  have c1 : w.frozen? ⟨g, 1, none⟩ = false := h1.frozen 1
  have c2 : w.cell? ⟨g, 1, none⟩ = some (.bool bad) := by rw [h1.cell]; rfl
  clear h1 h2 h3 h4 h5
  go_enter Try.func40, Try.ntmps40
  go_wp2
  go_end0
  exact ⟨rfl, L, HW.out.setBad, (Fr.refl _ _).setCell (p := ⟨g, 1, none⟩) (.inl H4.out) _, Gr.refl _ _⟩
set_option maxRecDepth 100000 in
set_option maxHeartbeats 2000000 in
theorem wUint_pos (g n : Nat) (hn : n < 9223372036854775808) (bs : List UInt8) (bad : Bool) (L : List Nat) (w : World) (h : WAt w L g bs bad) (hl : bs.length ≤ 100000000) :
    Calls Try.prog 40 #[.pointer (some ⟨g, 0, none⟩), .int .i64 n] w (W1 w L g (bs ++ grp n) bad) := by
  have HC := fun w h => Bx.mk (wput_any g n (by omega) bs bad L w h hl)
  have HW := Bx.mk h
  have f1 : IntKind.u64.wrap (n : Int) = (n : Int) := by rw [IntKind.wrap_u64]; omega
  have f2 : ¬ (n : Int) < 0 := by omega
  clear h hl hn
  go_enter Try.func40, Try.ntmps40
  go_wp2_with fail
  refine (HC _ HW.out).out.mono ?_
  rintro e w' ⟨rfl, hw'⟩
  go_wp2
  go_end0
  exact ⟨rfl, hw'⟩
theorem wUint_nil (z : Int) (w : World) : Calls Try.prog 40 #[.pointer none, .int .i64 z] w fun e w' => e = .returned (.tuple #[]) ∧ w' = w := by
  go_enter Try.func40, Try.ntmps40
  go_wp2
  go_end0
  exact ⟨rfl, rfl⟩
theorem wUint_any (g : Nat) (z : Int) (hz : z ≤ 9223372036854775807) (bs : List UInt8) (bad : Bool) (L : List Nat) (w : World) (h : WAt w L g bs bad) (hl : bs.length ≤ 100000000) :
    Calls Try.prog 40 #[.pointer (some ⟨g, 0, none⟩), .int .i64 z] w (W1 w L g (bs ++ uintB z) (bad || decide (z < 0))) := by
  by_cases h0 : z < 0
  · rw [show uintB z = [] by unfold uintB; rw [if_pos h0], List.append_nil, decide_eq_true h0, Bool.or_true]
    exact wUint_neg g z h0 bs bad L w h
  · obtain ⟨n, rfl⟩ := Int.eq_ofNat_of_zero_le (show 0 ≤ z by omega)
    rw [show uintB (n : Int) = grp n by unfold uintB; rw [if_neg h0]; rfl, decide_eq_false h0, Bool.or_false]
    exact wUint_pos g n (by omega) bs bad L w h hl
theorem zig_xor_pos (n : Nat) (h : n < 9223372036854775808) : zig (n : Int) = 2 * n := by unfold zig; rw [if_pos (by omega)]; omega
theorem xor_zero (a : Nat) (h : a < 18446744073709551616) : bits BinOp.xor IntKind.u64 (a : Int) 0 = (a : Int) := by
  have := bits_xor_u64_nat a 0 h (by omega)
  simpa using this
theorem nat_xor_ones (a : Nat) (h : a < 2 ^ 64) : a ^^^ (2 ^ 64 - 1) = 2 ^ 64 - 1 - a := by
  apply Nat.eq_of_testBit_eq
  intro i
  rw [Nat.testBit_xor, Nat.testBit_two_pow_sub_one, show 2 ^ 64 - 1 - a = 2 ^ 64 - (a + 1) by omega, Nat.testBit_two_pow_sub_succ h]
  by_cases hi : i < 64
  · simp [hi]
  · simp [hi]
    exact Nat.testBit_lt_two_pow (Nat.lt_of_lt_of_le h (Nat.pow_le_pow_right (by omega) (by omega)))
theorem xor_ones (a : Nat) (h : a < 18446744073709551616) : bits BinOp.xor IntKind.u64 (a : Int) 18446744073709551615 = ((18446744073709551615 - a : Nat) : Int) := by
  have h1 := bits_xor_u64_nat a 18446744073709551615 h (by omega)
  have h2 := nat_xor_ones a h
  rw [show (2 : Nat) ^ 64 - 1 = 18446744073709551615 from rfl] at h2
  rw [h2] at h1
  exact h1
/-- The bytes of a slice, in blocks of M. -/
def In (w : World) (M : List Nat) (a : Option Addr) (bs : List UInt8) : Prop := RowAt w a (bs.map bV) ∧ ∀ ad, a = some ad → bs ≠ [] → ad.block ∈ M
theorem In.keep {w w' : World} {M : List Nat} {a : Option Addr} {bs : List UInt8} (h : In w M a bs) (hk : ∀ k ∈ M, w'.heap[k]? = w.heap[k]?) : In w' M a bs := by
  refine ⟨?_, h.2⟩
  rcases h.1 with h1 | ⟨b, off, rfl, h1⟩
  · exact .inl h1
  · by_cases hb : bs = []
    · exact .inl (by rw [hb]; rfl)
    · refine .inr ⟨b, off, rfl, fun i v hv => ?_⟩
      rw [← h1 i v hv]
      exact World.cell?_of_block (a := ⟨b, off + i, none⟩) (hk b (h.2 _ rfl hb))
theorem In.nil (w : World) (M : List Nat) : In w M none [] := ⟨.inl rfl, fun _ h => by cases h⟩
theorem In.src {w : World} {M : List Nat} {a : Option Addr} {bs : List UInt8} (h : In w M a bs) (c : Nat) : Src Try.prog 1 28 (.slice a bs.length c) bs.length (bs.map bV) w := by
  have := Src.ofRow (P := Try.prog) (tx := 28) (w := w) Try.underlying28 a c (bs.map bV) h.1 one_bV
  rwa [List.length_map] at this
theorem In.ofOwn {w : World} {b : Nat} {a : Option Addr} {c : Nat} {xs : List UInt8} (h : Own w b 5 1 (.slice a xs.length c) xs.length (xs.map bV)) : In w (Value.ownBlock (.slice a xs.length c)).toList a xs := by
  refine ⟨h.row, fun ad had hne => ?_⟩
  rcases h.2 with ⟨he, h0⟩ | ⟨g, off, cap, cur, he, _⟩
  · exact absurd (List.eq_nil_of_length_eq_zero h0) hne
  · injection he with h1 h2 h3
    subst h1
    injection had with had
    subst had
    simp [Value.ownBlock]
end Go.Proofs.Ytecmpjccdhmeeaa
end
section
/- bytes.Clone, Bytes; the reference's bytes of numbers, walked. -/
namespace Go.Proofs.Ytecmpjccdhmeeaa
open Go.RowKit
set_option maxRecDepth 100000 in
set_option maxHeartbeats 2000000 in
theorem bClone_any (a : Option Addr) (c : Nat) (bs : List UInt8) (w : World) (h : RowAt w a (bs.map bV)) (hl : bs.length ≤ 100000000) :
    Calls Try.prog 77 #[.slice a bs.length c] w fun e w' => ∃ v, e = .returned v ∧ Own w' w.heap.size 5 1 v bs.length (bs.map bV) ∧ Below w.heap.size w w' := by
  have H := Bx.mk h; have HL := Bx.mk hl
  clear h hl
  cases a with
  | none =>
    have hb : bs = [] := by
      rcases H.out with h | ⟨b, off, h, _⟩
      · simpa using h
      · cases h
    subst hb
    have hnil := fun w => Lib.run_eql_slice_nil (P := Try.prog) w 28 5 none 0 c 0 0 Try.underlying28
    show Calls Try.prog 77 #[.slice none 0 c] w _
    go_enter Try.func77, Try.ntmps77
    go_wp2
    go_ret
    exact ⟨_, rfl, Own.nil _ _ _ _, Below.refl _ _⟩
  | some ad =>
    have hnil := fun w => Lib.run_eql_slice_nil (P := Try.prog) w 28 5 (some ad) bs.length c 0 0 Try.underlying28
    have hnn : (some ad).isNone = false := rfl
    go_enter Try.func77, Try.ntmps77
    go_wp2_with (refine wpList_appb rfl (.tmp 5) (.tmp 6) rfl rfl (Own.fresh0 (w := w) (Nat.le_refl _)) _ rfl bs.length (bs.map bV) ?hs ?hb ?hbase ?_)
    case hs =>
      have := Src.ofRow (P := Try.prog) (tx := 28) Try.underlying28 (some ad) c (bs.map bV) (H.out.alloc (.cells #[] 5)) one_bV
      rwa [List.length_map] at this
    case hb => have := HL.out; omega
    case hbase => simp
    intro v1 w1 ho1 hg1 hn1
    obtain ⟨a1, cp1, rfl⟩ := ho1.isSlice
    have hb := (Below_one (w := w) (.cells #[] 5)).grown hg1 (by simp) (fun g hg => by have h3 : w.heap.size = g := Option.some.inj hg; omega)
    have HB := Bx.mk hb; have HO := Bx.mk ho1
    clear hb ho1 hg1 hn1
    go_wp2
    go_ret
    exact ⟨_, rfl, HO.out, HB.out⟩
/-- What 'Bytes' tells of a writer. -/
def wErr (bad : Bool) : Int := if bad then 1 else 0
set_option maxRecDepth 100000 in
set_option maxHeartbeats 2000000 in
theorem wBytes_any (g : Nat) (bs : List UInt8) (bad : Bool) (L : List Nat) (w : World) (h : WAt w L g bs bad) (hl : bs.length ≤ 100000000) :
    Calls Try.prog 42 #[.pointer (some ⟨g, 0, none⟩)] w fun e w' => ∃ v, e = .returned (.tuple #[v, .int .i64 (wErr bad)]) ∧ Own w' w.heap.size 5 1 v bs.length (bs.map bV) ∧ Below w.heap.size w w' := by
  obtain ⟨⟨v, h1, h2, h3⟩, h4, h5⟩ := h
  obtain ⟨a, c, rfl⟩ := h2.isSlice
  have HR := Bx.mk h2.row
  have c0 : w.cell? ⟨g, 0, none⟩ = some (.slice a bs.length c) := by rw [h1.cell]; rfl
  have c1 : w.cell? ⟨g, 1, none⟩ = some (.bool bad) := by rw [h1.cell]; rfl
  have HL := Bx.mk hl
  clear h1 h2 h3 h4 h5 hl
  cases bad with
  | true =>
    go_enter Try.func42, Try.ntmps42
    go_wp2_with fail
    refine (bClone_any a c bs w HR.out HL.out).mono ?_
    rintro e w' ⟨v, rfl, ho, hb⟩
    have HO := Bx.mk ho; have HB := Bx.mk hb
    clear ho hb
    go_wp2
    go_ret2
    exact ⟨_, rfl, HO.out, HB.out⟩
  | false =>
    go_enter Try.func42, Try.ntmps42
    go_wp2_with fail
    refine (bClone_any a c bs w HR.out HL.out).mono ?_
    rintro e w' ⟨v, rfl, ho, hb⟩
    have HO := Bx.mk ho; have HB := Bx.mk hb
    clear ho hb
    go_wp2
    go_ret2
    exact ⟨_, rfl, HO.out, HB.out⟩
theorem wBytes_nil (w : World) : Calls Try.prog 42 #[.pointer none] w fun e w' => e = .returned (.tuple #[.slice none 0 0, .int .i64 1]) ∧ w' = w := by
  go_enter Try.func42, Try.ntmps42
  go_wp2
  go_ret2
  exact ⟨rfl, rfl⟩
theorem strOf_app (a b : List UInt8) : strOf a ++ strOf b = strOf (a ++ b) := by
  apply ByteArray.ext
  rw [ByteArray.data_append]
  simp [strOf]
theorem add_str {P : Program} (W : World) (xs ys : List UInt8) (h : xs.length + ys.length ≤ 9000000000000000000) : (Op.stringOp .add (strOf xs) (strOf ys)).run P W = .ok (.string (strOf (xs ++ ys))) W := by
  rw [run_string_add_sum W _ _ (by rw [strOf_size, strOf_size]; omega), strOf_app]
set_option maxRecDepth 100000 in
set_option maxHeartbeats 2000000 in
theorem fOne_any (n : Nat) (h : n < 256) (w : World) : Calls Try.prog 97 #[.int .i64 n] w fun e w' => e = .returned (.string (strOf [UInt8.ofNat n])) ∧ Below w.heap.size w w' := by
  have hb := bV_nat n h
  have hc : ∀ w : World, (convert 28 9 (.slice (some ⟨w.heap.size, 0, none⟩) 1 1)).run Try.prog (w.alloc (.cells #[.int .u8 (n : Int)] 5)) = .ok (.string (strOf [UInt8.ofNat n])) (w.alloc (.cells #[.int .u8 (n : Int)] 5)) := fun w => by
    rw [← hb]
    exact conv_str 28 9 Try.underlying28 Try.underlying5 Try.underlying9 _ (some ⟨w.heap.size, 0, none⟩) 1 [UInt8.ofNat n] (RowAt.ofWhole (vs := [bV (UInt8.ofNat n)]) (al_new rfl))
  clear hb
  go_enter Try.func97, Try.ntmps97
  go_wp2
  go_ret
  exact ⟨rfl, Below_one _⟩
set_option maxRecDepth 100000 in
set_option maxHeartbeats 2000000 in
theorem fgroups_any (u : Nat) (hu : u < 18446744073709551616) (w : World) : Calls Try.prog 82 #[.int .u64 u] w fun e w' => e = .returned (.string (strOf (grp u))) ∧ Below w.heap.size w w' := by
  have HU := Bx.mk hu
  have H10 := Bx.mk (grp_len64 hu)
  clear hu
  go_enter Try.func82, Try.ntmps82
  go_wp2_with fail
  go_loopw [0,3,4,5,6,7,8,9,10,11,12,13,14] (fun t0 t3 _ _ _ _ _ _ _ _ _ _ _ wr => ∃ (x : Nat) (ys : List UInt8), t0 = .int .u64 x ∧ t3 = .string (strOf ys) ∧ x ≤ u ∧ Bx (ys ++ grp x = grp u) ∧ Bx (Below w.heap.size w wr)) (fun t0 _ _ _ _ _ _ _ _ _ _ _ _ _ => (intOf t0).toNat)
  case atStart => exact ⟨u, [], rfl, rfl, Nat.le_refl _, ⟨rfl⟩, ⟨Below.refl _ _⟩⟩
  case round =>
    obtain ⟨x, ys, rfl, rfl, hxu, hE, hB⟩ := hrel
    have hXU := Bx.mk hxu
    have hlen : ys.length ≤ 10 := by
      have := congrArg List.length hE.out; rw [List.length_append] at this; have := H10.out; omega
    have HLen := Bx.mk hlen
    clear hlen hxu
    by_cases hge : (127 : Int) < (x : Int)
    · have hG := grp_ge (u := x) (by omega)
      obtain ⟨y, hy⟩ : ∃ y, y = x % 128 + 128 := ⟨_, rfl⟩
      have f1 : (x : Int) % 128 + 128 = (y : Int) := by omega
      have f3 : (x : Int) / 128 = ((x / 128 : Nat) : Int) := by omega
      rw [← hy] at hG
      have HC := fun w => Bx.mk (fOne_any y (by omega) w)
      have HG := Bx.mk hG
      have hdec : x / 128 < x := by omega
      have hdec2 : x / 128 ≤ u := by have := hXU.out; omega
      have HD := Bx.mk hdec; have HD2 := Bx.mk hdec2
      clear hy hG hdec hdec2
      generalize x / 128 = x2 at *
      have f5 : wrap64 ((x : Int) % 128) = (x : Int) % 128 := by unfold wrap64; omega
      have f6 : IntKind.u64.wrap (x2 : Int) = (x2 : Int) := by rw [IntKind.wrap_u64]; have := HD2.out; have := HU.out; omega
      go_wp2_with fail
      refine (HC _).out.mono ?_
      rintro e w' ⟨rfl, hb⟩
      have HB2 := Bx.mk (hB.out.trans (hb.mono hB.out.size))
      clear hb
      have hap := fun W => add_str (P := Try.prog) W ys [UInt8.ofNat y] (by have := HLen.out; simp; omega)
      go_wp2
      go_roundw
      case rel => exact ⟨x2, ys ++ [UInt8.ofNat y], rfl, rfl, HD2.out, ⟨by rw [← hE.out, HG.out, List.append_assoc]; rfl⟩, HB2⟩
      case measure => have := HD.out; simp [intOf]; omega
    · have hG := grp_lt (u := x) (by omega)
      have HC := fun w => Bx.mk (fOne_any x (by omega) w)
      have HG := Bx.mk hG
      have f5 : wrap64 (x : Int) = (x : Int) := by unfold wrap64; omega
      clear hG
      go_wp2_with fail
      refine (HC _).out.mono ?_
      rintro e w' ⟨rfl, hb⟩
      have HB2 := Bx.mk (hB.out.trans (hb.mono hB.out.size))
      clear hb
      have hap := fun W => add_str (P := Try.prog) W ys [UInt8.ofNat x] (by have := HLen.out; simp; omega)
      go_wp2
      go_ret
      exact ⟨by rw [← hE.out, HG.out]; rfl, HB2.out⟩
theorem fUint_any (z : Int) (h2 : z ≤ 9223372036854775807) (w : World) : Calls Try.prog 51 #[.int .i64 z] w fun e w' => e = .returned (.string (strOf (uintB z))) ∧ Below w.heap.size w w' := by
  by_cases h0 : z < 0
  · rw [show uintB z = [] by unfold uintB; rw [if_pos h0]]
    clear h2
    go_enter Try.func51, Try.ntmps51
    go_wp2
    go_ret
    exact ⟨rfl, Below.refl _ _⟩
  · obtain ⟨n, rfl⟩ := Int.eq_ofNat_of_zero_le (show 0 ≤ z by omega)
    rw [show uintB (n : Int) = grp n by unfold uintB; rw [if_neg h0]; rfl]
    have f1 : IntKind.u64.wrap (n : Int) = (n : Int) := by rw [IntKind.wrap_u64]; omega
    have HC := fun w => Bx.mk (fgroups_any n (by omega) w)
    clear h2
    go_enter Try.func51, Try.ntmps51
    go_wp2_with fail
    refine (HC _).out.mono ?_
    rintro e w' ⟨rfl, hb⟩
    have HB := Bx.mk hb; clear hb
    go_wp2
    go_ret
    exact ⟨rfl, HB.out⟩
end Go.Proofs.Ytecmpjccdhmeeaa
end
section
/- Numbers read from bytes: the plain law. No program in sight. -/
namespace Go.Proofs.Ytecmpjccdhmeeaa
open Go.RowKit
/-- The next number: it, how many bytes it has, and what is wrong (3: it ends too soon; 2: not in form). -/
def tk (most : Nat) : Nat → Nat → List UInt8 → Nat × Nat × Int
  | _, _, [] => (0, 0, 3)
  | i, u, x :: r => if i = most ∨ (x.toNat = 0 ∧ 0 < i) ∨ (i = 9 ∧ 1 < x.toNat) then (0, 0, 2) else
    if 128 ≤ x.toNat then tk most (i + 1) (u + x.toNat % 128 * 128 ^ i) r else (u + x.toNat % 128 * 128 ^ i, i + 1, 0)
theorem tk_nil (most i u : Nat) : tk most i u [] = (0, 0, 3) := rfl
theorem tk_bad {most i u : Nat} {x : UInt8} {r : List UInt8} (h : i = most ∨ (x.toNat = 0 ∧ 0 < i) ∨ (i = 9 ∧ 1 < x.toNat)) : tk most i u (x :: r) = (0, 0, 2) := by unfold tk; rw [if_pos h]
theorem tk_more {most i u : Nat} {x : UInt8} {r : List UInt8} (h : ¬ (i = most ∨ (x.toNat = 0 ∧ 0 < i) ∨ (i = 9 ∧ 1 < x.toNat))) (h2 : 128 ≤ x.toNat) : tk most i u (x :: r) = tk most (i + 1) (u + x.toNat % 128 * 128 ^ i) r := by
  rw [tk, if_neg h, if_pos h2]
theorem tk_last {most i u : Nat} {x : UInt8} {r : List UInt8} (h : ¬ (i = most ∨ (x.toNat = 0 ∧ 0 < i) ∨ (i = 9 ∧ 1 < x.toNat))) (h2 : ¬ 128 ≤ x.toNat) : tk most i u (x :: r) = (u + x.toNat % 128 * 128 ^ i, i + 1, 0) := by
  rw [tk, if_neg h, if_neg h2]
theorem u8_eq {x : UInt8} {n : Nat} (h : x.toNat = n) (hn : n < 256) : UInt8.ofNat n = x := by
  subst h; simp
/-- What is read has just its bytes. -/
theorem tk_enc (most : Nat) : ∀ (bs : List UInt8) (i a u n : Nat), tk most i a bs = (u, n, 0) → ∃ v, u = a + v * 128 ^ i ∧ (0 < i → v ≠ 0) ∧ i < n ∧ n ≤ i + bs.length ∧ bs.take (n - i) = grp v := by
  intro bs
  induction bs with
  | nil => intro i a u n h; rw [tk_nil] at h; injection h with _ h; injection h with _ h; cases h
  | cons x r ih =>
    intro i a u n h
    by_cases hb : i = most ∨ (x.toNat = 0 ∧ 0 < i) ∨ (i = 9 ∧ 1 < x.toNat)
    · rw [tk_bad hb] at h; injection h with _ h; injection h with _ h; cases h
    · by_cases h2 : 128 ≤ x.toNat
      · rw [tk_more hb h2] at h
        obtain ⟨v, h3, h4, h5, h6, h7⟩ := ih _ _ _ _ h
        have hx := x.toNat_lt
        have hv := h4 (by omega)
        refine ⟨x.toNat % 128 + 128 * v, ?_, fun _ => by omega, by omega, by simp; omega, ?_⟩
        · rw [h3, Nat.pow_succ, Nat.add_mul, Nat.add_assoc, Nat.mul_comm (128 ^ i) 128, ← Nat.mul_assoc, Nat.mul_comm v 128]
        · rw [grp_ge (by omega), show n - i = (n - (i + 1)) + 1 by omega, List.take_succ_cons, h7]
          congr 1
          · exact (u8_eq (n := (x.toNat % 128 + 128 * v) % 128 + 128) (by omega) (by omega)).symm
          · congr 1; omega
      · rw [tk_last hb h2] at h
        injection h with h3 h
        injection h with h4 _
        have hx := x.toNat_lt
        refine ⟨x.toNat, by rw [← h3, Nat.mod_eq_of_lt (by omega)], fun h => by omega, by omega, by simp; omega, ?_⟩
        rw [grp_lt (by omega), show n - i = 1 by omega]
        simp
theorem tk_enc0 {most u n : Nat} {bs : List UInt8} (h : tk most 0 0 bs = (u, n, 0)) : 0 < n ∧ n ≤ bs.length ∧ bs.take n = grp u := by
  obtain ⟨v, h1, _, h3, h4, h5⟩ := tk_enc most bs 0 0 u n h
  simp at h1 h4 h5
  subst h1
  exact ⟨h3, h4, h5⟩
/-- What is written is read again. -/
theorem tk_dec (most : Nat) (rest : List UInt8) : ∀ (m v i a : Nat), v ≤ m → v * 128 ^ i < 18446744073709551616 → i ≤ 9 → i + (grp v).length ≤ most → (0 < i → v ≠ 0) →
    tk most i a (grp v ++ rest) = (a + v * 128 ^ i, i + (grp v).length, 0) := by
  intro m
  induction m with
  | zero =>
    intro v i a hv hb hi hm h0
    obtain rfl : v = 0 := by omega
    have hi0 : i = 0 := by
      rcases Nat.eq_zero_or_pos i with h | h
      · exact h
      · exact absurd rfl (h0 h)
    subst hi0
    rw [grp_lt (by omega)] at hm ⊢
    simp at hm
    show tk most 0 a (UInt8.ofNat 0 :: rest) = _
    rw [tk_last (by simp; omega) (by simp)]
    simp
  | succ m ih =>
    intro v i a hv hb hi hm h0
    have h9 : i = 9 → v ≤ 1 := by
      intro h; subst h; omega
    by_cases hlt : v < 128
    · rw [grp_lt hlt] at hm ⊢
      simp at hm
      show tk most i a (UInt8.ofNat v :: rest) = _
      have hx : (UInt8.ofNat v).toNat = v := by show v % 256 = v; omega
      rw [tk_last (by rw [hx]; omega) (by rw [hx]; omega), hx, Nat.mod_eq_of_lt hlt]
      rfl
    · rw [grp_ge (by omega)] at hm ⊢
      rw [List.length_cons] at hm ⊢
      show tk most i a (UInt8.ofNat (v % 128 + 128) :: (grp (v / 128) ++ rest)) = _
      have hx : (UInt8.ofNat (v % 128 + 128)).toNat = v % 128 + 128 := by show (v % 128 + 128) % 256 = _; omega
      have hp := grp_pos (v / 128)
      have hdiv : v / 128 * 128 ^ (i + 1) ≤ v * 128 ^ i := by
        rw [Nat.pow_succ, Nat.mul_comm (128 ^ i) 128, ← Nat.mul_assoc]
        exact Nat.mul_le_mul_right _ (by omega)
      rw [tk_more (by rw [hx]; omega) (by rw [hx]; omega), hx, ih (v / 128) (i + 1) _ (by omega) (by omega) (by omega) (by omega) (by omega)]
      have e : v = 128 * (v / 128) + v % 128 := by omega
      refine Prod.ext ?_ (Prod.ext (by simp; omega) rfl)
      show a + (v % 128 + 128) % 128 * 128 ^ i + v / 128 * 128 ^ (i + 1) = a + v * 128 ^ i
      rw [show (v % 128 + 128) % 128 = v % 128 by omega]
      conv => rhs; rw [e]
      rw [Nat.pow_succ, Nat.add_mul, Nat.mul_comm (128 ^ i) 128, ← Nat.mul_assoc, Nat.mul_comm (v / 128) 128]
      omega
theorem tk_dec0 {most v : Nat} (rest : List UInt8) (hv : v < 18446744073709551616) (hm : (grp v).length ≤ most) : tk most 0 0 (grp v ++ rest) = (v, (grp v).length, 0) := by
  have := tk_dec most rest v v 0 0 (Nat.le_refl _) (by simpa using hv) (by omega) (by omega) (by omega)
  simpa using this
/-- A number without a sign as an int: zigzag, back. -/
def zag (u : Nat) : Int := if u % 2 = 1 then -((u / 2 : Nat) : Int) - 1 else ((u / 2 : Nat) : Int)
theorem zig_zag (u : Nat) : zig (zag u) = u := by unfold zig zag; split <;> (split <;> omega)
theorem zag_zig (z : Int) : zag (zig z) = z := by unfold zag zig; split <;> (split <;> omega)
theorem zag_range {u : Nat} (h : u < 18446744073709551616) : -9223372036854775808 ≤ zag u ∧ zag u ≤ 9223372036854775807 := by unfold zag; split <;> omega
end Go.Proofs.Ytecmpjccdhmeeaa
end
section
/- The reader of the codec, walked. -/
namespace Go.Proofs.Ytecmpjccdhmeeaa
open Go.RowKit
/-- A reader. -/
structure RdAt (w : World) (L : List Nat) (g : Nat) (bs : List UInt8) (e : Int) : Prop where
  ex : ∃ a c, Bk w g #[.slice a bs.length c, .int .i64 e] 130 ∧ In w L a bs ∧ bs.length ≤ c
  mem : g ∈ L
  under : Under L w.heap.size
theorem RdAt.keep {w w' : World} {L : List Nat} {g : Nat} {bs : List UInt8} {e : Int} (h : RdAt w L g bs e) (hk : ∀ k ∈ L, w'.heap[k]? = w.heap[k]?) (hs : w.heap.size ≤ w'.heap.size) : RdAt w' L g bs e := by
  obtain ⟨⟨a, c, h1, h2, h3⟩, h4, h5⟩ := h
  exact ⟨⟨a, c, h1.keep (hk g h4), h2.keep hk, h3⟩, h4, h5.mono hs⟩
theorem RdAt.fr {w w' : World} {L M : List Nat} {g : Nat} {bs : List UInt8} {e : Int} (h : RdAt w L g bs e) (hf : Fr M w w') (ha : Apart L M) : RdAt w' L g bs e := h.keep (hf.keep ha h.under) hf.size
theorem RdAt.below {w w' : World} {L : List Nat} {g : Nat} {bs : List UInt8} {e : Int} (h : RdAt w L g bs e) (hb : Below w.heap.size w w') : RdAt w' L g bs e := h.keep (fun k hk => hb.block k (h.under k hk)) hb.size
/-- The bytes are not in the reader's own block. -/
theorem in_other {w : World} {L : List Nat} {a : Option Addr} {bs : List UInt8} {g i : Nat} {cs : Array Value} {v : Value} (hb : Bk w g cs 130) (h : In w L a bs) : In (w.setCell ⟨g, i, none⟩ v) L a bs ∨ ∃ (j : Nat) (x : UInt8), cs[j]? = some (bV x) := by
  rcases h.1 with h1 | ⟨b, off, rfl, h1⟩
  · left; exact ⟨.inl h1, h.2⟩
  · by_cases hg : b = g
    · subst hg
      cases bs with
      | nil => left; exact ⟨.inl rfl, h.2⟩
      | cons x r =>
        right
        have := h1 0 (bV x) rfl
        rw [hb.cell] at this
        exact ⟨_, _, this⟩
    · left
      refine ⟨.inr ⟨b, off, rfl, fun j u hj => ?_⟩, h.2⟩
      rw [← h1 j u hj]
      exact World.cell?_of_block (a := ⟨b, off + j, none⟩) (Below.heap_setCell _ _ _ _ hg)
theorem in_set {w : World} {L : List Nat} {a a0 : Option Addr} {bs : List UInt8} {n0 c0 g i : Nat} {e : Int} {v : Value} (hb : Bk w g #[.slice a0 n0 c0, .int .i64 e] 130) (h : In w L a bs) : In (w.setCell ⟨g, i, none⟩ v) L a bs := by
  rcases in_other (i := i) (v := v) hb h with h | ⟨j, x, hj⟩
  · exact h
  · match j with
    | 0 => cases hj
    | 1 => cases hj
    | j + 2 => simp at hj
theorem RdAt.setErr {w : World} {L : List Nat} {g : Nat} {bs : List UInt8} {e : Int} (h : RdAt w L g bs e) (e' : Int) : RdAt (w.setCell ⟨g, 1, none⟩ (.int .i64 e')) L g bs e' := by
  obtain ⟨⟨a, c, h1, h2, h3⟩, h4, h5⟩ := h
  exact ⟨⟨a, c, h1.setCell 1 (.int .i64 e'), in_set h1 h2, h3⟩, h4, by simpa [Under] using h5⟩
theorem RdAt.setBytes {w : World} {L : List Nat} {g : Nat} {bs bs2 : List UInt8} {e : Int} (h : RdAt w L g bs e) {a2 : Option Addr} {c2 : Nat} (h2 : In w L a2 bs2) (hc : bs2.length ≤ c2) : RdAt (w.setCell ⟨g, 0, none⟩ (.slice a2 bs2.length c2)) L g bs2 e := by
  obtain ⟨⟨a, c, h1, _, h3⟩, h4, h5⟩ := h
  exact ⟨⟨a2, c2, h1.setCell 0 (.slice a2 bs2.length c2), in_set h1 h2, hc⟩, h4, by simpa [Under] using h5⟩
/-- 'b[n:]'. -/
theorem slice_from {w : World} {L : List Nat} {a : Option Addr} {bs : List UInt8} {c n : Nat} (hn : n ≤ bs.length) (hc : bs.length ≤ c) (h : In w L a bs) :
    ∃ a' c', (∀ W : World, (Instr.slice 28 (.slice a bs.length c) (some (.int .i64 (n : Int))) none none).run Try.prog W = .ok (.slice a' (bs.drop n).length c') W) ∧ In w L a' (bs.drop n) ∧ (bs.drop n).length ≤ c' := by
  have hsz : ∀ W : World, (sizeOf 5).run Try.prog W = .ok 1 W := fun W => by kernel_rfl
  refine ⟨if c = n then a else a.map (·.add (n * 1)), c - n, fun W => ?_, ?_, by simp; omega⟩
  · have h1 : (0 : Int) ≤ (n : Int) ∧ (n : Int) ≤ (bs.length : Int) := by omega
    have h2 : ¬ bs.length < n := by omega
    simp [Instr.slice, run_underlying Try.underlying28, Instr.sliceBounds, Instr.sliceBound, asIntOf, h1, h2, hsz]
  · by_cases hcn : c = n
    · rw [if_pos hcn]
      have : bs.drop n = [] := List.drop_eq_nil_of_le (by omega)
      rw [this]
      exact ⟨.inl rfl, fun _ _ h => absurd rfl h⟩
    · rw [if_neg hcn]
      rcases h.1 with h1 | ⟨b, off, rfl, h1⟩
      · have h2 : bs = [] := by simpa using h1
        subst h2
        exact ⟨.inl (by simp), fun _ _ h => absurd (by simp) h⟩
      · refine ⟨?_, fun ad had hne => ?_⟩
        · have := RowAt.drop (w := w) (b := b) (off := off) (vs := bs.map bV) (.inr ⟨b, off, rfl, h1⟩) n
          rw [List.map_drop] 
          simpa [Addr.add_lit] using this
        · simp [Addr.add_lit] at had
          subst had
          exact h.2 ⟨b, off, none⟩ rfl (fun h0 => hne (by rw [h0]; simp))
set_option maxRecDepth 100000 in
set_option maxHeartbeats 2000000 in
theorem cRead_any (a : Option Addr) (c : Nat) (bs : List UInt8) (w : World) (h : RowAt w a (bs.map bV)) (hl : bs.length ≤ 100000000) :
    Calls Try.prog 47 #[.slice a bs.length c] w fun e w' => ∃ g L, e = .returned (.pointer (some ⟨g, 0, none⟩)) ∧ RdAt w' L g bs 0 ∧ From w.heap.size L ∧ Below w.heap.size w w' := by
  have HC := Bx.mk (bClone_any a c bs w h hl)
  clear h hl
  go_enter Try.func47, Try.ntmps47
  go_wp2_with fail
  refine HC.out.mono ?_
  rintro e w1 ⟨v, rfl, ho, hb⟩
  obtain ⟨a1, c1, rfl⟩ := ho.isSlice
  have HO := Bx.mk ho; have HB := Bx.mk hb
  clear ho hb
  go_wp2
  go_ret
  refine ⟨w1.heap.size, w1.heap.size :: (Value.ownBlock (.slice a1 bs.length c1)).toList, rfl, ⟨⟨a1, c1, Bk.new rfl, ?_, HO.out.cap.1⟩, by simp, ?_⟩, ?_, HB.out.alloc HB.out.size _⟩
  · have h1 := In.ofOwn (HO.out.alloc (.cells #[.slice a1 bs.length c1, .int .i64 0] 130))
    exact ⟨h1.1, fun ad had hne => by simp only [List.mem_cons]; exact .inr (h1.2 ad had hne)⟩
  · intro k hk
    rcases List.mem_cons.1 hk with rfl | hk
    · simp
    · have := (HO.out.lt k (by simpa using hk)).2; simp; omega
  · intro k hk
    rcases List.mem_cons.1 hk with rfl | hk
    · exact HB.out.size
    · exact (HO.out.lt k (by simpa using hk)).1
theorem rdead0 {w : World} {L : List Nat} {g : Nat} {bs : List UInt8} (h : RdAt w L g bs 0) : Calls Try.prog 80 #[.pointer (some ⟨g, 0, none⟩)] w fun e w' => e = .returned (.bool false) ∧ w' = w := by
  obtain ⟨⟨a, c, h1, _, _⟩, _, _⟩ := h
  have c1 : w.cell? ⟨g, 1, none⟩ = some (.int .i64 0) := by rw [h1.cell]; rfl
  clear h1
  go_enter Try.func80, Try.ntmps80
  go_wp2
  go_ret
  exact ⟨rfl, rfl⟩
theorem rdead1 {w : World} {L : List Nat} {g : Nat} {bs : List UInt8} {e : Int} (h : RdAt w L g bs e) (he : e ≠ 0) : Calls Try.prog 80 #[.pointer (some ⟨g, 0, none⟩)] w fun r w' => r = .returned (.bool true) ∧ w' = w := by
  obtain ⟨⟨a, c, h1, _, _⟩, _, _⟩ := h
  have c1 : w.cell? ⟨g, 1, none⟩ = some (.int .i64 e) := by rw [h1.cell]; rfl
  have he2 : (e != 0) = true := by simpa using he
  clear h1 he
  go_enter Try.func80, Try.ntmps80
  go_wp2
  go_ret
  exact ⟨rfl, rfl⟩
theorem and127B : ((List.range 256).all fun x => bits BinOp.andNot IntKind.u8 (x : Int) 128 == ((x % 128 : Nat) : Int)) = true := by kernel_rfl
theorem and127 (x : UInt8) : bits BinOp.andNot IntKind.u8 (x.toNat : Int) 128 = ((x.toNat % 128 : Nat) : Int) :=
  eq_of_beq (List.all_eq_true.1 and127B x.toNat (List.mem_range.2 x.toNat_lt))
theorem or_next {u y i : Nat} (hu : u < 128 ^ i) (hs : u + y * 128 ^ i < 18446744073709551616) : bits BinOp.or IntKind.u64 (u : Int) ((y * 128 ^ i : Nat) : Int) = ((u + y * 128 ^ i : Nat) : Int) := by
  have hy : y * 128 ^ i < 18446744073709551616 := by omega
  have e : (128 : Nat) ^ i = 2 ^ (7 * i) := by rw [Nat.pow_mul]
  rw [u64_or_nat _ _ (by omega) hy, Nat.or_comm, nat_join (7 * i) _ _ (by rw [e]; exact Nat.mul_mod_left _ _) (by rw [← e]; exact hu), Nat.add_comm]
set_option maxRecDepth 100000 in
set_option maxHeartbeats 4000000 in
theorem rtake_any (g : Nat) (most : Nat) (hm0 : 0 < most) (hm : most ≤ 10) (bs : List UInt8) (L : List Nat) (w : World) (h : RdAt w L g bs 0) (hl : bs.length ≤ 100000000) (u0 n0 : Nat) (e0 : Int) (hr : tk most 0 0 bs = (u0, n0, e0)) :
    Calls Try.prog 81 #[.pointer (some ⟨g, 0, none⟩), .int .i64 most] w fun e w' => (e0 = 0 ∧ e = .returned (.tuple #[.int .u64 u0, .int .i64 n0]) ∧ w' = w) ∨ (e0 ≠ 0 ∧ e = .returned (.tuple #[.int .u64 0, .int .i64 0]) ∧ w' = w.setCell ⟨g, 1, none⟩ (.int .i64 e0)) := by
  obtain ⟨⟨a, c, h1, h2, h3⟩, h4, h5⟩ := h
  have HI := Bx.mk h2; have HR := Bx.mk hr; have HM := Bx.mk hm; have HL := Bx.mk hl
  have c0 : w.cell? ⟨g, 0, none⟩ = some (.slice a bs.length c) := by rw [h1.cell]; rfl
  have c1 : w.cell? ⟨g, 1, none⟩ = some (.int .i64 0) := by rw [h1.cell]; rfl
  have c2 : w.frozen? ⟨g, 1, none⟩ = false := h1.frozen 1
  have M0 := Bx.mk hm0
  have hmb : ((0 : Int) == (most : Int)) = false := by simp; omega
  clear h1 h2 h3 h4 h5 hr hm hl hm0
  go_enter Try.func81, Try.ntmps81
  go_wp2
  refine wp_scope_jumps 0 (fun a' w' => w' = w ∧ ∃ (i u : Nat) (x8 x9 x10 x11 x12 x13 x14 x15 x16 x17 x18 x19 x20 x21 x22 x23 x24 x25 x26 x27 x28 x29 x30 x31 x32 x33 x34 x35 x36 x37 x38 x39 x40 x41 x42 x43 x44 x45 x46 x47 x48 x49 x50 x51 x52 x53 x54 x55 x56 x57 x58 x59 x60 x61 : Value), a' = { tmps := #[.pointer (some ⟨g, 0, none⟩), .int .i64 most, undef, undef, .int .u64 0, .int .i64 0, .int .u64 u, .int .i64 i, x8, x9, x10, x11, x12, x13, x14, x15, x16, x17, x18, x19, x20, x21, x22, x23, x24, x25, x26, x27, x28, x29, x30, x31, x32, x33, x34, x35, x36, x37, x38, x39, x40, x41, x42, x43, x44, x45, x46, x47, x48, x49, x50, x51, x52, x53, x54, x55, x56, x57, x58, x59, x60, x61], defers := [] } ∧ Bx (tk most i u (bs.drop i) = (u0, n0, e0) ∧ u < 128 ^ i ∧ i ≤ 9 ∧ i ≤ bs.length)) (fun a' _ => 10 - (intOf (a'.tmps.getD 7 undef)).toNat) rfl ?first ?pass
  case first =>
    go_wp2
    go_step3
    by_cases hb0 : bs.length = 0
    · have h0 : bs = [] := List.eq_nil_of_length_eq_zero hb0
      have HE := Bx.mk (show ((0, 0, 3) : Nat × Nat × Int) = (u0, n0, e0) by rw [← HR.out, h0]; rfl)
      have hl0 : ((0 : Int) == (bs.length : Int)) = true := by rw [hb0]; rfl
      clear HR HI h0 hb0
      go_wp2
      dsimp only [Exit.jump]
      go_ret2
      have h := HE.out
      injection h with h1 h2
      injection h2 with h2 h3
      subst h1; subst h2; subst h3
      exact .inr ⟨by decide, rfl, rfl⟩
    · obtain ⟨b, off, rfl, hc⟩ := RowAt.byte HI.out.1 (k := 0) (by omega)
      rw [Nat.add_zero] at hc
      have hd : bs = bs[0] :: bs.drop 1 := by rw [← List.drop_eq_getElem_cons (by omega)]; rfl
      have HD := Bx.mk hd
      have hn0 : ((0 : Int) == (bs.length : Int)) = false := by simp; omega
      have l0 : (0 : Int) < (bs.length : Int) := by omega
      have hx : bs[0].toNat < 256 := bs[0].toNat_lt
      obtain ⟨y, hy⟩ : ∃ y, y = bs[0].toNat % 128 := ⟨_, rfl⟩
      have ha := and127 bs[0]
      rw [← hy] at ha
      have hor : bits BinOp.or IntKind.u64 0 (y : Int) = (y : Int) := by
        have := u64_or_nat 0 y (by omega) (by omega)
        simpa using this
      have hyw : IntKind.u64.wrap (y : Int) = (y : Int) := by rw [IntKind.wrap_u64]; omega
      generalize bs[0] = x at *
      clear hd
      have HX := Bx.mk hx; have HY := Bx.mk hy; have HY2 := Bx.mk (show y < 128 by omega)
      by_cases h2 : (128 : Int) ≤ (x.toNat : Int)
      · have ht : tk most 1 y (bs.drop 1) = (u0, n0, e0) := by
          have h := HR.out
          rw [HD.out, tk_more (by have := M0.out; omega) (by omega), ← hy] at h
          simpa using h
        have HT := Bx.mk ht
        have HL1 := Bx.mk (show 1 ≤ bs.length by omega)
        have hxb : ((x.toNat : Int) == 0) = false := by simp; omega
        clear ht HR hy hx
        go_wp2
        go_step3
        refine ⟨rfl, rfl, ?_⟩
        refine ⟨1, y, ?_⟩
        repeat apply Exists.intro
        exact ⟨rfl, ⟨HT.out, by have := HY2.out; simpa using this, by omega, HL1.out⟩⟩
      · have ht : (y, 1, (0 : Int)) = (u0, n0, e0) := by
          have h := HR.out
          rw [HD.out, tk_last (by have := M0.out; omega) (by omega), ← hy] at h
          simpa using h
        injection ht with h1 h3
        injection h3 with h3 h4
        subst h1; subst h3; subst h4
        by_cases hx0 : x.toNat = 0
        · have hy0 : y = 0 := by omega
          subst hy0
          rw [hx0] at hc ha
          have ha0 : bits BinOp.andNot IntKind.u8 0 128 = 0 := ha
          have hor0 : bits BinOp.or IntKind.u64 0 0 = 0 := hor
          clear HR hy hx ha hor h2 hx0
          go_wp2
          dsimp only [Exit.jump]
          go_ret2
          exact .inl ⟨rfl, rfl, rfl⟩
        · have hxb : ((x.toNat : Int) == 0) = false := by simpa using hx0
          clear HR hy hx hx0
          go_wp2
          dsimp only [Exit.jump]
          go_ret2
          exact .inl ⟨rfl, rfl, rfl⟩
  case pass =>
    rintro a' w' ⟨hw, i, u, hx⟩
    subst hw
    obtain ⟨x8, hx⟩ := hx
    obtain ⟨x9, hx⟩ := hx
    obtain ⟨x10, hx⟩ := hx
    obtain ⟨x11, hx⟩ := hx
    obtain ⟨x12, hx⟩ := hx
    obtain ⟨x13, hx⟩ := hx
    obtain ⟨x14, hx⟩ := hx
    obtain ⟨x15, hx⟩ := hx
    obtain ⟨x16, hx⟩ := hx
    obtain ⟨x17, hx⟩ := hx
    obtain ⟨x18, hx⟩ := hx
    obtain ⟨x19, hx⟩ := hx
    obtain ⟨x20, hx⟩ := hx
    obtain ⟨x21, hx⟩ := hx
    obtain ⟨x22, hx⟩ := hx
    obtain ⟨x23, hx⟩ := hx
    obtain ⟨x24, hx⟩ := hx
    obtain ⟨x25, hx⟩ := hx
    obtain ⟨x26, hx⟩ := hx
    obtain ⟨x27, hx⟩ := hx
    obtain ⟨x28, hx⟩ := hx
    obtain ⟨x29, hx⟩ := hx
    obtain ⟨x30, hx⟩ := hx
    obtain ⟨x31, hx⟩ := hx
    obtain ⟨x32, hx⟩ := hx
    obtain ⟨x33, hx⟩ := hx
    obtain ⟨x34, hx⟩ := hx
    obtain ⟨x35, hx⟩ := hx
    obtain ⟨x36, hx⟩ := hx
    obtain ⟨x37, hx⟩ := hx
    obtain ⟨x38, hx⟩ := hx
    obtain ⟨x39, hx⟩ := hx
    obtain ⟨x40, hx⟩ := hx
    obtain ⟨x41, hx⟩ := hx
    obtain ⟨x42, hx⟩ := hx
    obtain ⟨x43, hx⟩ := hx
    obtain ⟨x44, hx⟩ := hx
    obtain ⟨x45, hx⟩ := hx
    obtain ⟨x46, hx⟩ := hx
    obtain ⟨x47, hx⟩ := hx
    obtain ⟨x48, hx⟩ := hx
    obtain ⟨x49, hx⟩ := hx
    obtain ⟨x50, hx⟩ := hx
    obtain ⟨x51, hx⟩ := hx
    obtain ⟨x52, hx⟩ := hx
    obtain ⟨x53, hx⟩ := hx
    obtain ⟨x54, hx⟩ := hx
    obtain ⟨x55, hx⟩ := hx
    obtain ⟨x56, hx⟩ := hx
    obtain ⟨x57, hx⟩ := hx
    obtain ⟨x58, hx⟩ := hx
    obtain ⟨x59, hx⟩ := hx
    obtain ⟨x60, hx⟩ := hx
    obtain ⟨x61, hx⟩ := hx
    obtain ⟨ha, hJ⟩ := hx
    subst ha
    obtain ⟨hr, hu, hi9, hil⟩ := hJ.out
    clear hJ HR hmb
    have HR := Bx.mk hr; have HU := Bx.mk hu
    clear hr hu
    by_cases hb0 : i = bs.length
    · have HE := Bx.mk (show ((0, 0, 3) : Nat × Nat × Int) = (u0, n0, e0) by rw [← HR.out, hb0, List.drop_length]; rfl)
      have hl0 : ((i : Int) == (bs.length : Int)) = true := by rw [hb0]; simp
      clear HR HI hb0
      go_wp2
      dsimp only [Exit.jump]
      go_ret2
      have h := HE.out
      injection h with h1 h2
      injection h2 with h2 h3
      subst h1; subst h2; subst h3
      exact .inr ⟨by decide, rfl, rfl⟩
    · have hlt : i < bs.length := by omega
      obtain ⟨b, off, rfl, hc⟩ := RowAt.byte HI.out.1 (k := i) hlt
      have HD := Bx.mk (List.drop_eq_getElem_cons hlt)
      have hn0 : ((i : Int) == (bs.length : Int)) = false := by simp; omega
      have l0 : (i : Int) < (bs.length : Int) := by omega
      have i0 : (0 : Int) ≤ (i : Int) := by omega
      have hx : bs[i].toNat < 256 := bs[i].toNat_lt
      have ha := and127 bs[i]
      generalize bs[i] = x at *
      obtain ⟨z, hz⟩ : ∃ z, z = x.toNat := ⟨_, rfl⟩
      rw [← hz] at hc ha hx
      have HZ := Bx.mk hz
      clear hz
      obtain ⟨bad, hbad⟩ : ∃ bad, bad = decide (i = most ∨ (z = 0 ∧ 0 < i) ∨ (i = 9 ∧ 1 < z)) := ⟨_, rfl⟩
      have HBD := Bx.mk hbad
      go_upto_region 7 with fail
      go_cut [44] (fun t44 wx => t44 = .bool bad ∧ w' = wx)
      case first =>
        clear HR HD HU ha
        by_cases h1 : i = most
        · have h1b : ((i : Int) == (most : Int)) = true := by simp; omega
          rw [decide_eq_true (.inl h1)] at hbad
          clear h1 HBD
          go_wp2
          go_meet
          case rel => exact ⟨by rw [hbad], rfl⟩
        · have h1b : ((i : Int) == (most : Int)) = false := by simp; omega
          by_cases h2 : z = 0
          · subst h2
            by_cases h3 : (0 : Int) < (i : Int)
            · rw [decide_eq_true (.inr (.inl ⟨rfl, by omega⟩))] at hbad
              clear h1 HBD
              go_wp2
              go_meet
              case rel => exact ⟨by rw [hbad], rfl⟩
            · rw [decide_eq_false (by omega)] at hbad
              obtain rfl : i = 0 := by omega
              clear h1 HBD h3 h1b
              have h1c : ((0 : Int) == (most : Int)) = false := by have := M0.out; simp; omega
              go_wp2
              go_meet
              case rel => exact ⟨by rw [hbad], rfl⟩
          · have h2b : ((z : Int) == 0) = false := by simp; omega
            by_cases h4 : i = 9
            · have h4b : ((i : Int) == 9) = true := by simp; omega
              by_cases h5 : (1 : Int) < (z : Int)
              · rw [decide_eq_true (.inr (.inr ⟨h4, by omega⟩))] at hbad
                clear h1 HBD h2 h4
                go_wp2
                go_meet
                case rel => exact ⟨by rw [hbad], rfl⟩
              · rw [decide_eq_false (by omega)] at hbad
                clear h1 HBD h2 h4
                go_wp2
                go_meet
                case rel => exact ⟨by rw [hbad], rfl⟩
            · have h4b : ((i : Int) == 9) = false := by simp; omega
              rw [decide_eq_false (by omega)] at hbad
              clear h1 HBD h2 h4
              go_wp2
              go_meet
              case rel => exact ⟨by rw [hbad], rfl⟩
      case rest =>
        obtain ⟨rfl, rfl⟩ := hcut
        clear hbad
        cases bad with
        | true =>
          have hb := of_decide_eq_true HBD.out.symm
          have hE : ((0, 0, 2) : Nat × Nat × Int) = (u0, n0, e0) := by rw [← HR.out, HD.out, tk_bad (by rw [← HZ.out]; exact hb)]
          injection hE with h1 h2
          injection h2 with h2 h3
          subst h1; subst h2; subst h3
          clear HR HD HU HI hb ha
          go_wp2
          dsimp only [Exit.jump]
          go_ret2
          exact .inr ⟨by decide, rfl, rfl⟩
        | false =>
          have hb := of_decide_eq_false HBD.out.symm
          obtain ⟨y, hy⟩ : ∃ y, y = z % 128 := ⟨_, rfl⟩
          rw [← hy] at ha
          obtain ⟨p, hp⟩ : ∃ p, p = y * 128 ^ i := ⟨_, rfl⟩
          have hpow : 128 ^ i ≤ 128 ^ 9 := Nat.pow_le_pow_right (by omega) hi9
          have hpb : u + p < 18446744073709551616 := by
            by_cases h9 : i = 9
            · subst h9
              have h1 : y ≤ 1 := by omega
              have h2 : y * 128 ^ 9 ≤ 1 * 128 ^ 9 := Nat.mul_le_mul_right _ h1
              have := HU.out
              omega
            · have h3 : 128 ^ i ≤ 128 ^ 8 := Nat.pow_le_pow_right (by omega) (by omega)
              have h2 : y * 128 ^ i ≤ 127 * 128 ^ i := Nat.mul_le_mul_right _ (by omega)
              have := HU.out
              omega
          have hpi : IntKind.u64.wrap (IntKind.u64.wrap (y : Int) * 2 ^ (7 * i)) = (p : Int) := by
            have e : ((y : Int) * 2 ^ (7 * i)) = (p : Int) := by
              have e2 : ((2 : Int) ^ (7 * i)) = ((128 ^ i : Nat) : Int) := by
                rw [show (128 : Nat) = 2 ^ 7 from rfl, ← Nat.pow_mul]; exact (Int.natCast_pow 2 (7 * i)).symm
              rw [hp, e2, ← Int.natCast_mul]
            rw [show IntKind.u64.wrap (y : Int) = (y : Int) by rw [IntKind.wrap_u64]; omega, e, IntKind.wrap_u64]; omega
          have hor : bits BinOp.or IntKind.u64 (u : Int) (p : Int) = ((u + p : Nat) : Int) := by
            rw [hp]; exact or_next HU.out (by rw [← hp]; exact hpb)
          obtain ⟨q, hq⟩ : ∃ q, q = u + p := ⟨_, rfl⟩
          rw [← hq] at hor
          have HB2 := Bx.mk hb; have HY := Bx.mk hy; have HP := Bx.mk hp; have HQ := Bx.mk hq
          have s0 : (0 : Int) ≤ 7 * (i : Int) := by omega
          clear hb hy hp hq hpow hpb
          by_cases hmore : (128 : Int) ≤ (z : Int)
          · have hne9 : i ≠ 9 := fun h => by have := HB2.out; omega
            have ht : tk most (i + 1) q (bs.drop (i + 1)) = (u0, n0, e0) := by
              have h := HR.out
              rw [HD.out, tk_more (by rw [← HZ.out]; exact HB2.out) (by rw [← HZ.out]; omega), ← HZ.out, ← HY.out, ← HP.out, ← HQ.out] at h
              exact h
            have hq2 : q < 128 ^ (i + 1) := by
              have h2 : y * 128 ^ i ≤ 127 * 128 ^ i := Nat.mul_le_mul_right _ (by have := HY.out; omega)
              have h3 := HU.out
              rw [HQ.out, HP.out, Nat.pow_succ]; omega
            have HT := Bx.mk ht; have HQ2 := Bx.mk hq2
            clear ht hq2
            go_wp2
            go_step3
            rw [show ((i : Int) + 1) = ((i + 1 : Nat) : Int) by omega]
            refine ⟨rfl, ⟨rfl, ?_⟩, by simp [intOf]; omega⟩
            refine ⟨i + 1, q, ?_⟩
            repeat apply Exists.intro
            exact ⟨rfl, ⟨HT.out, HQ2.out, by omega, by omega⟩⟩
          · have ht : (q, i + 1, (0 : Int)) = (u0, n0, e0) := by
              have h := HR.out
              rw [HD.out, tk_last (by rw [← HZ.out]; exact HB2.out) (by rw [← HZ.out]; omega), ← HZ.out, ← HY.out, ← HP.out, ← HQ.out] at h
              exact h
            injection ht with h1 h3
            injection h3 with h3 h4
            subst h1; subst h3; subst h4
            go_wp2
            dsimp only [Exit.jump]
            go_ret2
            exact .inl ⟨rfl, rfl, rfl⟩
end Go.Proofs.Ytecmpjccdhmeeaa
end
section
/- The reader's methods, walked. -/
namespace Go.Proofs.Ytecmpjccdhmeeaa
open Go.RowKit
theorem grp_bound (n : Nat) : ∀ u, (grp u).length ≤ n → u < 128 ^ n := by
  induction n with
  | zero => intro u h; have := grp_pos u; omega
  | succ n ih =>
    intro u h
    by_cases h1 : u < 128
    · have : 1 ≤ 128 ^ n := Nat.pow_pos (by omega)
      rw [Nat.pow_succ]; omega
    · rw [grp_ge (by omega), List.length_cons] at h
      have := ih (u / 128) (by omega)
      rw [Nat.pow_succ]; omega
theorem tk_n (most : Nat) : ∀ (bs : List UInt8) (i a u n : Nat), i ≤ most → tk most i a bs = (u, n, 0) → n ≤ most := by
  intro bs
  induction bs with
  | nil => intro i a u n _ h; rw [tk_nil] at h; injection h with _ h; injection h with _ h; cases h
  | cons x r ih =>
    intro i a u n hi h
    by_cases hb : i = most ∨ (x.toNat = 0 ∧ 0 < i) ∨ (i = 9 ∧ 1 < x.toNat)
    · rw [tk_bad hb] at h; injection h with _ h; injection h with _ h; cases h
    · by_cases h2 : 128 ≤ x.toNat
      · rw [tk_more hb h2] at h; exact ih _ _ _ _ (by omega) h
      · rw [tk_last hb h2] at h; injection h with _ h; injection h with h _; omega
theorem tk_lt (most : Nat) : ∀ (bs : List UInt8) (i a u n : Nat), i ≤ 9 → a < 128 ^ i → tk most i a bs = (u, n, 0) → u < 18446744073709551616 := by
  intro bs
  induction bs with
  | nil => intro i a u n _ _ h; rw [tk_nil] at h; injection h with _ h; injection h with _ h; cases h
  | cons x r ih =>
    intro i a u n hi ha h
    by_cases hb : i = most ∨ (x.toNat = 0 ∧ 0 < i) ∨ (i = 9 ∧ 1 < x.toNat)
    · rw [tk_bad hb] at h; injection h with _ h; injection h with _ h; cases h
    · by_cases h2 : 128 ≤ x.toNat
      · rw [tk_more hb h2] at h
        refine ih _ _ _ _ (by omega) ?_ h
        have h3 : x.toNat % 128 * 128 ^ i ≤ 127 * 128 ^ i := Nat.mul_le_mul_right _ (by omega)
        rw [Nat.pow_succ]; omega
      · rw [tk_last hb h2] at h
        injection h with h _
        by_cases h9 : i = 9
        · subst h9
          have h3 : x.toNat % 128 * 128 ^ 9 ≤ 1 * 128 ^ 9 := Nat.mul_le_mul_right _ (by omega)
          omega
        · have h4 : 128 ^ i ≤ 128 ^ 8 := Nat.pow_le_pow_right (by omega) (by omega)
          have h3 : x.toNat % 128 * 128 ^ i ≤ 127 * 128 ^ i := Nat.mul_le_mul_right _ (by omega)
          omega
theorem tk9_lt {bs : List UInt8} {u n : Nat} (h : tk 9 0 0 bs = (u, n, 0)) : u < 9223372036854775808 := by
  have h1 := tk_n 9 bs 0 0 u n (by omega) h
  obtain ⟨_, h2, h3⟩ := tk_enc0 h
  have h4 : (grp u).length ≤ 9 := by rw [← h3, List.length_take]; omega
  exact grp_bound 9 u h4
/-- What a reader answers. -/
def rdUint (most : Int) (bs : List UInt8) (e : Int) : Int × List UInt8 × Int :=
  if e ≠ 0 then (0, bs, e) else
  let r := tk 9 0 0 bs
  if r.2.2 ≠ 0 then (0, bs, r.2.2) else if most < 0 ∨ most < r.1 then (0, bs, 5) else (r.1, bs.drop r.2.1, 0)
def rdInt (bs : List UInt8) (e : Int) : Int × List UInt8 × Int :=
  if e ≠ 0 then (0, bs, e) else
  let r := tk 10 0 0 bs
  if r.2.2 ≠ 0 then (0, bs, r.2.2) else (zag r.1, bs.drop r.2.1, 0)
/-- The reader's block alone is written. -/
def R1 (w : World) (L : List Nat) (g : Nat) (v : Value) (bs : List UInt8) (e : Int) (r : Ending) (w' : World) : Prop :=
  r = .returned v ∧ RdAt w' L g bs e ∧ Fr L w w' ∧ Fr [g] w w'
theorem rtake_ok {g most : Nat} (hm0 : 0 < most) (hm : most ≤ 10) {bs : List UInt8} {L : List Nat} {w : World} (h : RdAt w L g bs 0) (hl : bs.length ≤ 100000000) {u n : Nat} (hr : tk most 0 0 bs = (u, n, 0)) :
    Calls Try.prog 81 #[.pointer (some ⟨g, 0, none⟩), .int .i64 most] w fun e w' => e = .returned (.tuple #[.int .u64 u, .int .i64 n]) ∧ w' = w :=
  (rtake_any g most hm0 hm bs L w h hl u n 0 hr).mono fun e w' h => by
    rcases h with ⟨_, h1, h2⟩ | ⟨h1, _⟩
    · exact ⟨h1, h2⟩
    · exact absurd rfl h1
theorem rtake_err {g most : Nat} (hm0 : 0 < most) (hm : most ≤ 10) {bs : List UInt8} {L : List Nat} {w : World} (h : RdAt w L g bs 0) (hl : bs.length ≤ 100000000) {u n : Nat} {e0 : Int} (he : e0 ≠ 0) (hr : tk most 0 0 bs = (u, n, e0)) :
    Calls Try.prog 81 #[.pointer (some ⟨g, 0, none⟩), .int .i64 most] w fun e w' => e = .returned (.tuple #[.int .u64 0, .int .i64 0]) ∧ w' = w.setCell ⟨g, 1, none⟩ (.int .i64 e0) :=
  (rtake_any g most hm0 hm bs L w h hl u n e0 hr).mono fun e w' h => by
    rcases h with ⟨h1, _⟩ | ⟨_, h1, h2⟩
    · exact absurd h1 he
    · exact ⟨h1, h2⟩
theorem rd_err {w : World} {L : List Nat} {g : Nat} {bs : List UInt8} {e : Int} (h : RdAt w L g bs e) (e' : Int) (v : Value) : R1 w L g v bs e' (.returned v) (w.setCell ⟨g, 1, none⟩ (.int .i64 e')) :=
  ⟨rfl, h.setErr e', (Fr.refl _ _).setCell (p := ⟨g, 1, none⟩) (.inl h.mem) _, (Fr.refl _ _).setCell (p := ⟨g, 1, none⟩) (.inl (by simp)) _⟩
theorem rd_bytes {w : World} {L : List Nat} {g : Nat} {bs bs2 : List UInt8} {e : Int} (h : RdAt w L g bs e) {a2 : Option Addr} {c2 : Nat} (h2 : In w L a2 bs2) (hc : bs2.length ≤ c2) (v : Value) :
    R1 w L g v bs2 e (.returned v) (w.setCell ⟨g, 0, none⟩ (.slice a2 bs2.length c2)) :=
  ⟨rfl, h.setBytes h2 hc, (Fr.refl _ _).setCell (p := ⟨g, 0, none⟩) (.inl h.mem) _, (Fr.refl _ _).setCell (p := ⟨g, 0, none⟩) (.inl (by simp)) _⟩
theorem rd_same {w : World} {L : List Nat} {g : Nat} {bs : List UInt8} {e : Int} (h : RdAt w L g bs e) (v : Value) : R1 w L g v bs e (.returned v) w := ⟨rfl, h, Fr.refl _ _, Fr.refl _ _⟩
set_option maxRecDepth 100000 in
set_option maxHeartbeats 4000000 in
theorem rUint_dead (g : Nat) (most : Int) (bs : List UInt8) (e : Int) (L : List Nat) (w : World) (h : RdAt w L g bs e) (he : e ≠ 0) :
    Calls Try.prog 48 #[.pointer (some ⟨g, 0, none⟩), .int .i64 most] w (R1 w L g (.int .i64 0) bs e) := by
  have HD := Bx.mk (rdead1 h he); have H := Bx.mk h
  clear h he
  go_enter Try.func48, Try.ntmps48
  go_wp2_with fail
  refine HD.out.mono ?_
  rintro r w1 ⟨rfl, rfl⟩
  go_wp2
  go_ret
  exact rd_same H.out _
set_option maxRecDepth 100000 in
set_option maxHeartbeats 4000000 in
theorem rUint_err (g : Nat) (most : Int) (bs : List UInt8) (L : List Nat) (w : World) (h : RdAt w L g bs 0) (hl : bs.length ≤ 100000000) (u n : Nat) (e0 : Int) (he : e0 ≠ 0) (hr : tk 9 0 0 bs = (u, n, e0)) :
    Calls Try.prog 48 #[.pointer (some ⟨g, 0, none⟩), .int .i64 most] w (R1 w L g (.int .i64 0) bs e0) := by
  have HD := Bx.mk (rdead0 h); have H := Bx.mk h
  have HC := Bx.mk (rtake_err (by omega) (by omega) h hl he hr)
  have he2 : (e0 != 0) = true := by simpa using he
  obtain ⟨⟨a, c, k1, _, _⟩, _, _⟩ := h
  have c1 : (w.setCell ⟨g, 1, none⟩ (.int .i64 e0)).cell? ⟨g, 1, none⟩ = some (.int .i64 e0) := by rw [(k1.setCell 1 (.int .i64 e0)).cell]; rfl
  clear k1 hl he hr
  go_enter Try.func48, Try.ntmps48
  go_wp2_with fail
  refine HD.out.mono ?_
  rintro r w1 ⟨rfl, rfl⟩
  go_wp2_with fail
  refine HC.out.mono ?_
  rintro r w2 ⟨rfl, hw⟩
  rw [← hw] at c1
  have HW := Bx.mk hw; clear hw
  go_wp2
  go_ret
  rw [HW.out]
  exact rd_err H.out _ _
set_option maxRecDepth 100000 in
set_option maxHeartbeats 4000000 in
theorem rUint_ok (g : Nat) (most : Int) (hm : most ≤ 9223372036854775807) (hm2 : -9223372036854775808 ≤ most) (bs : List UInt8) (L : List Nat) (w : World) (h : RdAt w L g bs 0) (hl : bs.length ≤ 100000000) (u n : Nat) (hr : tk 9 0 0 bs = (u, n, 0)) :
    Calls Try.prog 48 #[.pointer (some ⟨g, 0, none⟩), .int .i64 most] w fun r w' =>
      (most < 0 ∨ most < u → R1 w L g (.int .i64 0) bs 5 r w') ∧ (¬ (most < 0 ∨ most < u) → R1 w L g (.int .i64 u) (bs.drop n) 0 r w') := by
  have HD := Bx.mk (rdead0 h); have H := Bx.mk h
  have HC := Bx.mk (rtake_ok (by omega) (by omega) h hl hr)
  have hu := tk9_lt hr
  have hn := (tk_enc0 hr).2.1
  obtain ⟨⟨a, c, k1, k2, k3⟩, _, _⟩ := h
  have c0 : w.cell? ⟨g, 0, none⟩ = some (.slice a bs.length c) := by rw [k1.cell]; rfl
  have c1 : w.cell? ⟨g, 1, none⟩ = some (.int .i64 0) := by rw [k1.cell]; rfl
  have d0 : w.frozen? ⟨g, 0, none⟩ = false := k1.frozen 0
  have d1 : w.frozen? ⟨g, 1, none⟩ = false := k1.frozen 1
  obtain ⟨a2, c2, hsl, hI, hc2⟩ := slice_from (n := n) hn k3 k2
  have RB := fun v => Bx.mk (rd_bytes H.out hI hc2 v)
  have RE := fun v => Bx.mk (rd_err H.out 5 v)
  have f1 : wrap64 (u : Int) = (u : Int) := by unfold wrap64; omega
  have HU := Bx.mk (show (0 : Int) ≤ (u : Int) ∧ (u : Int) ≤ 9223372036854775807 by omega)
  have HM := Bx.mk (And.intro hm hm2)
  clear k1 k2 k3 hI hc2 hr hn hl hu hm hm2 H
  generalize (bs.drop n).length = m at *
  generalize (u : Int) = u at *
  by_cases hm0 : most < 0
  · go_enter Try.func48, Try.ntmps48
    go_wp2_with fail
    refine HD.out.mono ?_
    rintro r w1 ⟨rfl, rfl⟩
    go_wp2_with fail
    refine HC.out.mono ?_
    rintro r w2 ⟨rfl, rfl⟩
    go_wp2
    go_ret
    exact ⟨fun _ => (RE _).out, fun h => absurd (.inl hm0) h⟩
  · have f2 : IntKind.u64.wrap most = most := by rw [IntKind.wrap_u64]; have := HM.out; omega
    by_cases hmu : most < u
    · go_enter Try.func48, Try.ntmps48
      go_wp2_with fail
      refine HD.out.mono ?_
      rintro r w1 ⟨rfl, rfl⟩
      go_wp2_with fail
      refine HC.out.mono ?_
      rintro r w2 ⟨rfl, rfl⟩
      go_wp2
      go_ret
      exact ⟨fun _ => (RE _).out, fun h => absurd (.inr hmu) h⟩
    · go_enter Try.func48, Try.ntmps48
      go_wp2_with fail
      refine HD.out.mono ?_
      rintro r w1 ⟨rfl, rfl⟩
      go_wp2_with fail
      refine HC.out.mono ?_
      rintro r w2 ⟨rfl, rfl⟩
      go_wp2
      go_ret
      exact ⟨fun h => by omega, fun _ => by show R1 _ _ _ (.int .i64 u) _ 0 (.returned (.int .i64 (wrap64 u))) _; rw [f1]; exact (RB _).out⟩
theorem rUint_any (g : Nat) (most : Int) (hm : most ≤ 9223372036854775807) (hm2 : -9223372036854775808 ≤ most) (bs : List UInt8) (e : Int) (L : List Nat) (w : World) (h : RdAt w L g bs e) (hl : bs.length ≤ 100000000) :
    Calls Try.prog 48 #[.pointer (some ⟨g, 0, none⟩), .int .i64 most] w (R1 w L g (.int .i64 (rdUint most bs e).1) (rdUint most bs e).2.1 (rdUint most bs e).2.2) := by
  unfold rdUint
  by_cases he : e = 0
  · subst he
    rw [if_neg (by simp)]
    obtain ⟨u, n, e1, hr⟩ : ∃ u n e1, tk 9 0 0 bs = (u, n, e1) := ⟨_, _, _, rfl⟩
    rw [hr]
    dsimp only
    by_cases he1 : e1 = 0
    · subst he1
      rw [if_neg (by simp)]
      have hC := rUint_ok g most hm hm2 bs L w h hl u n hr
      by_cases hc : most < 0 ∨ most < (u : Int)
      · rw [if_pos hc]; exact hC.mono fun r w' h => h.1 hc
      · rw [if_neg hc]; exact hC.mono fun r w' h => h.2 hc
    · rw [if_pos he1]; exact rUint_err g most bs L w h hl u n e1 he1 hr
  · rw [if_pos he]; exact rUint_dead g most bs e L w h he
/-- What 'End' tells. -/
def rdEnd (bs : List UInt8) (e : Int) : Int := if e = 0 ∧ bs ≠ [] then 4 else e
theorem rEnd_any (g : Nat) (bs : List UInt8) (e : Int) (L : List Nat) (w : World) (h : RdAt w L g bs e) (hl : bs.length ≤ 100000000) :
    Calls Try.prog 50 #[.pointer (some ⟨g, 0, none⟩)] w fun r w' => r = .returned (.int .i64 (rdEnd bs e)) ∧ w' = w := by
  obtain ⟨⟨a, c, k1, k2, k3⟩, _, _⟩ := h
  have c0 : w.cell? ⟨g, 0, none⟩ = some (.slice a bs.length c) := by rw [k1.cell]; rfl
  have c1 : w.cell? ⟨g, 1, none⟩ = some (.int .i64 e) := by rw [k1.cell]; rfl
  clear k1 k2 k3
  unfold rdEnd
  by_cases he : e = 0
  · subst he
    by_cases hb : bs = []
    · subst hb
      rw [if_neg (by simp)]
      have c0' : w.cell? ⟨g, 0, none⟩ = some (.slice a 0 c) := c0
      clear c0 hl
      go_enter Try.func50, Try.ntmps50
      go_wp2
      go_ret
      exact ⟨rfl, rfl⟩
    · rw [if_pos ⟨rfl, hb⟩]
      have hlen : (0 : Int) < (bs.length : Int) := by have := List.length_pos_iff.2 hb; omega
      clear hb
      go_enter Try.func50, Try.ntmps50
      go_wp2
      go_ret
      exact ⟨rfl, rfl⟩
  · rw [if_neg (fun h => he h.1)]
    have heb : (e == 0) = false := by simpa using he
    clear he
    go_enter Try.func50, Try.ntmps50
    go_wp2
    go_ret
    exact ⟨rfl, rfl⟩
theorem rdInt_range (bs : List UInt8) (e : Int) : -9223372036854775808 ≤ (rdInt bs e).1 ∧ (rdInt bs e).1 ≤ 9223372036854775807 := by
  unfold rdInt
  split
  · simp
  · obtain ⟨u, n, e1, hr⟩ : ∃ u n e1, tk 10 0 0 bs = (u, n, e1) := ⟨_, _, _, rfl⟩
    rw [hr]
    dsimp only
    split
    · simp
    · rename_i h
      have h0 : e1 = 0 := Classical.not_not.1 h
      subst h0
      exact zag_range (tk_lt 10 bs 0 0 u n (by omega) (by omega) hr)
theorem rdUint_range (most : Int) (bs : List UInt8) (e : Int) : 0 ≤ (rdUint most bs e).1 ∧ (rdUint most bs e).1 ≤ 9223372036854775807 := by
  unfold rdUint
  split
  · simp
  · obtain ⟨u, n, e1, hr⟩ : ∃ u n e1, tk 9 0 0 bs = (u, n, e1) := ⟨_, _, _, rfl⟩
    rw [hr]
    dsimp only
    split
    · simp
    · rename_i h
      have h0 : e1 = 0 := Classical.not_not.1 h
      subst h0
      split
      · simp
      · have := tk9_lt hr
        show 0 ≤ (u : Int) ∧ (u : Int) ≤ _
        omega
theorem rdLen (bs : List UInt8) (e : Int) : (rdInt bs e).2.1.length ≤ bs.length := by
  unfold rdInt
  split
  · simp
  · dsimp only; split
    · simp
    · simp
theorem rdLenU (most : Int) (bs : List UInt8) (e : Int) : (rdUint most bs e).2.1.length ≤ bs.length := by
  unfold rdUint
  split
  · simp
  · dsimp only; split
    · simp
    · split
      · simp
      · simp
end Go.Proofs.Ytecmpjccdhmeeaa
end
section
/- The sum of 32 bits as plain numbers: bit steps, nibbles, bytes, texts; no program in sight. -/
namespace Go.Proofs.Ytecmpjccdhmeeaa
def st (n : Nat) : Nat := if n % 2 = 1 then (n / 2) ^^^ 3988292384 else n / 2
def iter (f : Nat → Nat) : Nat → Nat → Nat
  | 0, n => n
  | k + 1, n => f (iter f k n)
def tbl : List Nat := [0, 498536548, 997073096, 651767980, 1994146192, 1802195444, 1303535960, 1342533948, 3988292384, 4027552580, 3604390888, 3412177804, 2607071920, 2262029012, 2685067896, 3183342108]
theorem tbl_ok : ∀ k, k < 16 → iter st 4 k = tbl.getD k 0 := by decide
theorem tbl_lt : ∀ k, tbl.getD k 0 < 4294967296 := by
  intro k
  by_cases h : k < 16
  · exact (by decide : ∀ k, k < 16 → tbl.getD k 0 < 4294967296) k h
  · rw [List.getD_eq_getElem?_getD, List.getElem?_eq_none (by show 16 ≤ k; omega)]; decide
def nib (n : Nat) : Nat := (n / 16) ^^^ (tbl.getD (n % 16) 0)
def cb (n x : Nat) : Nat := nib (nib (n ^^^ x))
def crcL (n : Nat) (bs : List UInt8) : Nat := bs.foldl (fun n x => cb n x.toNat) n
def cpl (n : Nat) : Nat := 4294967295 ^^^ n
/-- 'More'. -/
def more (n : Nat) (bs : List UInt8) : Nat := cpl (crcL (cpl n) bs)
/-- 'Sum' of parts, from a sum on. -/
def crcP (n : Nat) (ps : List (List UInt8)) : Nat := ps.foldl more n

theorem xlt {a b : Nat} (ha : a < 4294967296) (hb : b < 4294967296) : a ^^^ b < 4294967296 := Nat.xor_lt_two_pow (n := 32) ha hb
theorem st_lt {n : Nat} (h : n < 4294967296) : st n < 4294967296 := by
  unfold st
  split
  · exact xlt (by omega) (by omega)
  · omega
theorem iter_lt {n : Nat} (k : Nat) (h : n < 4294967296) : iter st k n < 4294967296 := by
  induction k with
  | zero => exact h
  | succ k ih => exact st_lt ih
theorem nib_lt {n : Nat} (h : n < 4294967296) : nib n < 4294967296 := xlt (by omega) (tbl_lt _)
theorem cb_lt {n : Nat} (x : UInt8) (h : n < 4294967296) : cb n x.toNat < 4294967296 := nib_lt (nib_lt (xlt h (by have := x.toNat_lt; omega)))
theorem crcL_lt (bs : List UInt8) : ∀ {n : Nat}, n < 4294967296 → crcL n bs < 4294967296 := by
  induction bs with
  | nil => intro n h; exact h
  | cons x bs ih => intro n h; exact ih (cb_lt x h)
theorem xself (a b : Nat) : a ^^^ (a ^^^ b) = b := by rw [← Nat.xor_assoc, Nat.xor_self, Nat.zero_xor]
theorem cpl_def (n : Nat) : cpl n = 4294967295 ^^^ n := rfl
theorem cpl_lt {n : Nat} (h : n < 4294967296) : cpl n < 4294967296 := by
  unfold cpl
  exact xlt (by decide) h
theorem more_lt {n : Nat} (bs : List UInt8) (h : n < 4294967296) : more n bs < 4294967296 := cpl_lt (crcL_lt _ (cpl_lt h))
theorem cpl_cpl (n : Nat) : cpl (cpl n) = n := by rw [cpl_def, cpl_def, xself]
theorem crcP_lt (ps : List (List UInt8)) : ∀ {n : Nat}, n < 4294967296 → crcP n ps < 4294967296 := by
  induction ps with
  | nil => intro n h; exact h
  | cons x bs ih => intro n h; exact ih (more_lt _ h)
theorem crcL_append (n : Nat) (a b : List UInt8) : crcL n (a ++ b) = crcL (crcL n a) b := List.foldl_append
theorem more_append {n : Nat} (a b : List UInt8) : more n (a ++ b) = more (more n a) b := by
  unfold more
  rw [crcL_append, cpl_cpl]
theorem more_nil (n : Nat) : more n [] = n := cpl_cpl n
/-- Parts, one behind the other, are all at once. -/
theorem crcP_join (ps : List (List UInt8)) : ∀ n : Nat, crcP n ps = more n ps.flatten := by
  induction ps with
  | nil => intro n; exact (more_nil n).symm
  | cons x bs ih =>
    intro n
    show crcP (more n x) bs = more n (x ++ bs.flatten)
    rw [ih, more_append]

/-! A bit step is linear; four of them are a nibble. -/
theorem xlc (a b c : Nat) : a ^^^ (b ^^^ c) = b ^^^ (a ^^^ c) := by rw [← Nat.xor_assoc, Nat.xor_comm a b, Nat.xor_assoc]
theorem div_xor (a b : Nat) : (a ^^^ b) / 2 = a / 2 ^^^ b / 2 := by
  apply Nat.eq_of_testBit_eq; intro i; simp [Nat.testBit_div_two]
theorem st_xor (a b : Nat) : st (a ^^^ b) = st a ^^^ st b := by
  have h : (a ^^^ b) % 2 = (a % 2 + b % 2) % 2 := by
    have h1 := @Nat.xor_mod_two_eq_one a b
    rcases Nat.mod_two_eq_zero_or_one a with x | x <;> rcases Nat.mod_two_eq_zero_or_one b with y | y <;> rcases Nat.mod_two_eq_zero_or_one (a ^^^ b) with z | z <;> simp [x, y, z] at h1 ⊢
  unfold st
  rw [h, div_xor]
  rcases Nat.mod_two_eq_zero_or_one a with x | x <;> rcases Nat.mod_two_eq_zero_or_one b with y | y <;> simp [x, y]
  · rw [Nat.xor_assoc]
  · rw [Nat.xor_comm (a / 2 ^^^ 3988292384), xlc, Nat.xor_comm (b / 2), Nat.xor_assoc, Nat.xor_comm 3988292384]
  · rw [Nat.xor_assoc, Nat.xor_comm (b / 2), xself]
theorem iter_xor (k a b : Nat) : iter st k (a ^^^ b) = iter st k a ^^^ iter st k b := by
  induction k with
  | zero => rfl
  | succ k ih => show st (iter st k (a ^^^ b)) = _; rw [ih, st_xor]; rfl
theorem iter_add (j k a : Nat) : iter st (j + k) a = iter st j (iter st k a) := by
  induction j with
  | zero => rw [Nat.zero_add]; rfl
  | succ j ih => rw [Nat.succ_add]; show st (iter st (j + k) a) = st (iter st j (iter st k a)); rw [ih]
theorem st_even (a : Nat) : st (2 * a) = a := by unfold st; rw [if_neg (by omega)]; omega
theorem nib_iter (n : Nat) : nib n = iter st 4 n := by
  have e : n = (16 * (n / 16)) ^^^ (n % 16) := by
    apply Nat.eq_of_testBit_eq; intro i
    rw [Nat.testBit_xor, show 16 = 2 ^ 4 from rfl, Nat.testBit_two_pow_mul, Nat.testBit_mod_two_pow, Nat.testBit_div_two_pow]
    by_cases h : 4 ≤ i
    · simp [h, show ¬ i < 4 by omega, show i - 4 + 4 = i by omega]
    · simp [h, show i < 4 by omega]
  have h2 : iter st 4 (16 * (n / 16)) = n / 16 := by
    show st (st (st (st (16 * (n / 16))))) = _
    rw [show 16 * (n / 16) = 2 * (2 * (2 * (2 * (n / 16)))) by omega, st_even, st_even, st_even, st_even]
  conv => rhs; rw [e]
  rw [iter_xor, h2, tbl_ok _ (Nat.mod_lt _ (by omega))]; rfl
theorem cb_iter (n x : Nat) : cb n x = iter st 8 (n ^^^ x) := by
  unfold cb; rw [nib_iter, nib_iter, ← iter_add]

/-! The division of bits: each bit of the byte as it comes. -/
def rst (n x k : Nat) : Nat := if (n % 2 + x / 2 ^ k % 2) % 2 = 1 then (n / 2) ^^^ 3988292384 else n / 2
def rsteps (x : Nat) : Nat → Nat → Nat
  | 0, n => n
  | k + 1, n => rst (rsteps x k n) x k
theorem rst_lt {n : Nat} (x k : Nat) (h : n < 4294967296) : rst n x k < 4294967296 := by
  unfold rst
  split
  · exact xlt (by omega) (by omega)
  · omega
theorem rsteps_lt {n : Nat} (x k : Nat) (h : n < 4294967296) : rsteps x k n < 4294967296 := by
  induction k with
  | zero => exact h
  | succ k ih => exact rst_lt _ _ ih
theorem rsteps_iter (x n k : Nat) : iter st k (n ^^^ x) = rsteps x k n ^^^ (x / 2 ^ k) := by
  induction k with
  | zero => show n ^^^ x = n ^^^ x / 1; rw [Nat.div_one]
  | succ k ih =>
    show st (iter st k (n ^^^ x)) = rst (rsteps x k n) x k ^^^ (x / 2 ^ (k + 1))
    rw [ih, st_xor]
    generalize rsteps x k n = m
    have e : x / 2 ^ (k + 1) = x / 2 ^ k / 2 := by rw [Nat.pow_succ, Nat.div_div_eq_div_mul]
    rw [e]
    unfold rst
    generalize x / 2 ^ k = y
    unfold st
    rcases Nat.mod_two_eq_zero_or_one m with a | a <;> rcases Nat.mod_two_eq_zero_or_one y with b | b <;> simp [a, b]
    · rw [Nat.xor_assoc, Nat.xor_comm (y / 2)]
    · rw [Nat.xor_assoc, Nat.xor_comm (y / 2), xself]
theorem cb_rsteps (n : Nat) (x : UInt8) : cb n x.toNat = rsteps x.toNat 8 n := by
  rw [cb_iter, rsteps_iter, Nat.div_eq_of_lt (by have := x.toNat_lt; omega), Nat.xor_zero]

/-! Two texts whose difference lies within four bytes have unlike sums. -/
theorem st_zero {e : Nat} (h : e < 4294967296) (h0 : st e = 0) : e = 0 := by
  unfold st at h0
  split at h0
  · have h1 : e / 2 = 3988292384 := by
      have h2 := xself 3988292384 (e / 2)
      rw [Nat.xor_comm 3988292384 (e / 2), h0, Nat.xor_zero] at h2
      exact h2.symm
    omega
  · omega
theorem iter_zero (k : Nat) : ∀ {e : Nat}, e < 4294967296 → iter st k e = 0 → e = 0 := by
  induction k with
  | zero => intro e _ h; exact h
  | succ k ih => intro e he h; exact ih he (st_zero (iter_lt k he) h)
theorem cb_xor (n e x d : Nat) : cb (n ^^^ e) (x ^^^ d) = cb n x ^^^ iter st 8 (e ^^^ d) := by
  rw [cb_iter, cb_iter, ← iter_xor]
  congr 1
  rw [Nat.xor_assoc, Nat.xor_assoc, xlc e x d]
theorem crcL_xor (post : List UInt8) : ∀ (n e : Nat), crcL (n ^^^ e) post = crcL n post ^^^ iter st (8 * post.length) e := by
  induction post with
  | nil => intro n e; rfl
  | cons x r ih =>
    intro n e
    show crcL (cb (n ^^^ e) x.toNat) r = crcL (cb n x.toNat) r ^^^ iter st (8 * (r.length + 1)) e
    have h := cb_xor n e x.toNat 0
    rw [Nat.xor_zero, Nat.xor_zero] at h
    rw [h, ih, Nat.mul_add, iter_add]
theorem st_shift (k : Nat) : ∀ e, iter st k (2 ^ k * e) = e := by
  induction k with
  | zero => intro e; show 1 * e = e; rw [Nat.one_mul]
  | succ k ih =>
    intro e
    rw [iter_add k 1, show iter st 1 (2 ^ (k + 1) * e) = 2 ^ k * e from ?_]
    · exact ih e
    · show st (2 ^ (k + 1) * e) = _
      rw [Nat.pow_succ, Nat.mul_comm (2 ^ k) 2, Nat.mul_assoc, st_even]
theorem xeq {a b : Nat} (h : a ^^^ b = 0) : a = b := by rw [← xself a b, h, Nat.xor_zero]
theorem iter8_eq {u v : Nat} (hu : u < 4294967296) (hv : v < 16777216) (h : iter st 8 u = v) : u = 256 * v := by
  have h2 := st_shift 8 v
  have h3 : iter st 8 (u ^^^ 2 ^ 8 * v) = 0 := by rw [iter_xor, h, h2, Nat.xor_self]
  exact xeq (iter_zero 8 (xlt hu (by omega)) h3)
theorem xor_out {a b c : Nat} (h : a ^^^ b = c) : a = b ^^^ c := by rw [← h, Nat.xor_comm a b, xself]
theorem four_zero {d0 d1 d2 d3 : Nat} (h0 : d0 < 256) (h1 : d1 < 256) (h2 : d2 < 256) (h3 : d3 < 256)
    (h : iter st 8 (iter st 8 (iter st 8 (iter st 8 d0 ^^^ d1) ^^^ d2) ^^^ d3) = 0) : d0 = 0 ∧ d1 = 0 ∧ d2 = 0 ∧ d3 = 0 := by
  have l0 : iter st 8 d0 < 4294967296 := iter_lt 8 (by omega)
  have l1 : iter st 8 (iter st 8 d0 ^^^ d1) < 4294967296 := iter_lt 8 (xlt l0 (by omega))
  have l2 : iter st 8 (iter st 8 (iter st 8 d0 ^^^ d1) ^^^ d2) < 4294967296 := iter_lt 8 (xlt l1 (by omega))
  have a3 := iter_zero 8 (xlt l2 (show d3 < 4294967296 by omega)) h
  have a2 := xor_out (iter8_eq (xlt l1 (show d2 < 4294967296 by omega)) (show d3 < 16777216 by omega) (xeq a3))
  have m2 : d2 ^^^ 256 * d3 < 16777216 := Nat.xor_lt_two_pow (n := 24) (by omega) (by omega)
  have a1 := xor_out (iter8_eq (xlt l0 (show d1 < 4294967296 by omega)) m2 a2)
  have m2' : d2 ^^^ 256 * d3 < 65536 := Nat.xor_lt_two_pow (n := 16) (by omega) (by omega)
  generalize hz : d2 ^^^ 256 * d3 = z at *
  have m1 : d1 ^^^ 256 * z < 16777216 := Nat.xor_lt_two_pow (n := 24) (by omega) (by omega)
  have a0 := iter8_eq (show d0 < 4294967296 by omega) m1 a1
  generalize hy : d1 ^^^ 256 * z = y at *
  have y0 : y = 0 := by omega
  subst y0
  have := xeq hy
  have z0 : z = 0 := by omega
  subst z0
  have := xeq hz
  omega
theorem crc_differs (pre post : List UInt8) (x0 x1 x2 x3 y0 y1 y2 y3 : UInt8) (d0 d1 d2 d3 : Nat) (h0 : d0 < 256) (h1 : d1 < 256) (h2 : d2 < 256) (h3 : d3 < 256)
    (e0 : y0.toNat = x0.toNat ^^^ d0) (e1 : y1.toNat = x1.toNat ^^^ d1) (e2 : y2.toNat = x2.toNat ^^^ d2) (e3 : y3.toNat = x3.toNat ^^^ d3) (hd : ¬ (d0 = 0 ∧ d1 = 0 ∧ d2 = 0 ∧ d3 = 0)) :
    more 0 (pre ++ [x0, x1, x2, x3] ++ post) ≠ more 0 (pre ++ [y0, y1, y2, y3] ++ post) := by
  intro h
  unfold more at h
  have h' : crcL (cpl 0) (pre ++ [x0, x1, x2, x3] ++ post) = crcL (cpl 0) (pre ++ [y0, y1, y2, y3] ++ post) := by rw [← cpl_cpl (crcL (cpl 0) (pre ++ [x0, x1, x2, x3] ++ post)), h, cpl_cpl]
  rw [crcL_append, crcL_append, crcL_append, crcL_append] at h'
  generalize crcL (cpl 0) pre = s at h'
  have c0 : cb s y0.toNat = cb s x0.toNat ^^^ iter st 8 d0 := by have := cb_xor s 0 x0.toNat d0; rwa [Nat.xor_zero, Nat.zero_xor, ← e0] at this
  have c1 := cb_xor (cb s x0.toNat) (iter st 8 d0) x1.toNat d1
  have c2 := cb_xor (cb (cb s x0.toNat) x1.toNat) (iter st 8 (iter st 8 d0 ^^^ d1)) x2.toNat d2
  have c3 := cb_xor (cb (cb (cb s x0.toNat) x1.toNat) x2.toNat) (iter st 8 (iter st 8 (iter st 8 d0 ^^^ d1) ^^^ d2)) x3.toNat d3
  rw [← c0, ← e1] at c1
  rw [← c1, ← e2] at c2
  rw [← c2, ← e3] at c3
  rw [show crcL s [y0, y1, y2, y3] = cb (cb (cb (cb s y0.toNat) y1.toNat) y2.toNat) y3.toNat from rfl, c3, crcL_xor] at h'
  rw [show crcL s [x0, x1, x2, x3] = cb (cb (cb (cb s x0.toNat) x1.toNat) x2.toNat) x3.toNat from rfl] at h'
  generalize hE : iter st 8 (iter st 8 (iter st 8 (iter st 8 d0 ^^^ d1) ^^^ d2) ^^^ d3) = E at *
  have hz : iter st (8 * post.length) E = 0 := by
    generalize crcL (cb (cb (cb (cb s x0.toNat) x1.toNat) x2.toNat) x3.toNat) post = c at h'
    have h6 := xself c (iter st (8 * post.length) E)
    rw [← h', Nat.xor_self] at h6
    exact h6.symm
  have l3 : E < 4294967296 := by
    rw [← hE]
    exact iter_lt 8 (xlt (iter_lt 8 (xlt (iter_lt 8 (xlt (iter_lt 8 (by omega)) (by omega))) (by omega))) (by omega))
  have := iter_zero _ l3 hz
  exact hd (four_zero h0 h1 h2 h3 (hE.trans this))
end Go.Proofs.Ytecmpjccdhmeeaa
end
section
/- The table of nibbles, as the program makes it. -/
namespace Go.Proofs.Ytecmpjccdhmeeaa
open Go.RowKit
def V32 (n : Nat) : Value := .int .u32 n
def tabCells (k : Nat) : Array Value := ((tbl.take k ++ List.replicate (16 - k) 0).map V32).toArray
theorem tabCells_zero : tabCells 0 = #[Value.int IntKind.u32 0, Value.int IntKind.u32 0, Value.int IntKind.u32 0, Value.int IntKind.u32 0,
            Value.int IntKind.u32 0, Value.int IntKind.u32 0, Value.int IntKind.u32 0, Value.int IntKind.u32 0,
            Value.int IntKind.u32 0, Value.int IntKind.u32 0, Value.int IntKind.u32 0, Value.int IntKind.u32 0,
            Value.int IntKind.u32 0, Value.int IntKind.u32 0, Value.int IntKind.u32 0, Value.int IntKind.u32 0] := by rfl
theorem tabCells_16 : tabCells 16 = #[Value.int IntKind.u32 0, Value.int IntKind.u32 498536548, Value.int IntKind.u32 997073096, Value.int IntKind.u32 651767980, Value.int IntKind.u32 1994146192, Value.int IntKind.u32 1802195444, Value.int IntKind.u32 1303535960, Value.int IntKind.u32 1342533948, Value.int IntKind.u32 3988292384, Value.int IntKind.u32 4027552580, Value.int IntKind.u32 3604390888, Value.int IntKind.u32 3412177804, Value.int IntKind.u32 2607071920, Value.int IntKind.u32 2262029012, Value.int IntKind.u32 2685067896, Value.int IntKind.u32 3183342108] := by rfl
theorem tabCells_at (k : Nat) (h : k < 16) : (tabCells k)[k]? = some (.int .u32 0) := by
  have e : (tbl.take k ++ List.replicate (16 - k) 0)[k]? = some 0 := (by decide : ∀ k, k < 16 → (tbl.take k ++ List.replicate (16 - k) 0)[k]? = some 0) k h
  unfold tabCells
  rw [List.getElem?_toArray, List.getElem?_map, e]; rfl
theorem tabCells_step (k : Nat) (h : k < 16) : (tabCells k).setIfInBounds k (V32 (iter st 4 k)) = tabCells (k + 1) := by
  have e : (tbl.take k ++ List.replicate (16 - k) 0).set k (iter st 4 k) = tbl.take (k + 1) ++ List.replicate (16 - (k + 1)) 0 := (by decide : ∀ k, k < 16 → (tbl.take k ++ List.replicate (16 - k) 0).set k (iter st 4 k) = tbl.take (k + 1) ++ List.replicate (16 - (k + 1)) 0) k h
  unfold tabCells
  rw [← e, List.map_set]; simp
set_option maxHeartbeats 400000 in
theorem table_any (w : World) :
    Calls Try.prog 98 #[] w fun e w' => e = .returned (.agg (tabCells 16)) ∧ Below w.heap.size w w' := by
  go_enter Try.func98, Try.ntmps98
  go_wp2
  go_loopw [2,3,4,5,6,7,8] (fun t2 t3 t4 t5 t6 t7 t8 wr => ∃ k : Nat, k ≤ 16 ∧ t4 = .int .i64 k ∧ wr = (w.alloc (Obj.cells (tabCells 0) 146)).alloc (Obj.cells (tabCells k) 146)) (fun t2 t3 t4 t5 t6 t7 t8 wr => 16 - (intOf t4).toNat)
  case atStart => 
    exact ⟨0, by omega, rfl, by simp only [tabCells_zero]⟩
  case round =>
    obtain ⟨k, hk, rfl, rfl⟩ := hrel
    by_cases hlt : k < 16
    · have hcell := tabCells_at k hlt
      go_wp2
      go_loop [3,9,10,11,12,13,14,15,16,17,18,19] (fun t3 t9 t10 t11 t12 t13 t14 t15 t16 t17 t18 t19 => ∃ j : Nat, j ≤ 4 ∧ t9 = .int .i64 j ∧ t3 = V32 (iter st j k)) (fun t3 t9 t10 t11 t12 t13 t14 t15 t16 t17 t18 t19 => 4 - (intOf t9).toNat)
      case atStart => exact ⟨0, by omega, rfl, rfl⟩
      case round => 
        obtain ⟨j, hj, rfl, rfl⟩ := hrel
        have h0 : iter st j k < 4294967296 := iter_lt j (by omega)
        have h1 : iter st (j + 1) k = st (iter st j k) := rfl
        have H1 := hid h1; clear h1
        generalize hn : iter st j k = n at *
        have Hn := hid hn; clear hn
        unfold V32
        by_cases hltj : j < 4
        · have hb : bits BinOp.and IntKind.u32 (n : Int) 1 = ((n % 2 : Nat) : Int) := by rw [show (1 : Int) = ((1 : Nat) : Int) from rfl, u32_and_nat _ _ h0 (by omega), nat_mask1]
          have hx : bits BinOp.xor IntKind.u32 (n / 2) 3988292384 = ((n / 2 ^^^ 3988292384 : Nat) : Int) := by rw [show (3988292384 : Int) = ((3988292384 : Nat) : Int) from rfl, show (n : Int) / 2 = ((n / 2 : Nat) : Int) from rfl, u32_xor_nat _ _ (by omega) (by omega)]
          have HB := hid hb; clear hb
          have HX := hid hx; clear hx
          go_wp2
          · go_round
            case rel => 
              refine ⟨j + 1, by omega, by go_num, ?_⟩
              have hb1 : (bits BinOp.and IntKind.u32 (n : Int) 1 == 1) = true := by assumption
              rw [HB.out] at hb1
              rw [H1.out, HX.out]; unfold st; rw [if_pos (by simp at hb1; omega)]
            case measure => simp [intOf]; omega
          · go_round
            case rel => 
              refine ⟨j + 1, by omega, by go_num, ?_⟩
              have hb1 : (bits BinOp.and IntKind.u32 (n : Int) 1 == 1) = false := by assumption
              rw [HB.out] at hb1
              rw [H1.out]; unfold st; rw [if_neg (by simp at hb1; omega)]; rfl
            case measure => simp [intOf]; omega
        · go_wp2
          have hstep := tabCells_step k hlt
          rw [show (4 : Nat) = j by omega, Hn.out] at hstep
          go_roundw
          case rel => 
              refine ⟨k + 1, by omega, by go_num, ?_⟩
              rw [← hstep]; rfl
          case measure => simp [intOf]; omega
    · obtain rfl : k = 16 := by omega
      have hw1 := heap_alloc2_new w (Obj.cells (tabCells 0) 146) (Obj.cells (tabCells 16) 146)
      have hw0 := heap_alloc2_old w (Obj.cells (tabCells 0) 146) (Obj.cells (tabCells 16) 146)
      have hb : Below w.heap.size w ((w.alloc (Obj.cells (tabCells 0) 146)).alloc (Obj.cells (tabCells 16) 146)) := ((Below.refl _ _).alloc (Nat.le_refl _) _).alloc (by simp) _
      generalize (w.alloc (Obj.cells (tabCells 0) 146)).alloc (Obj.cells (tabCells 16) 146) = W at *
      have H1 := hid hw1
      have H0 := hid hw0
      clear hw1 hw0
      go_wp2_with (first | (refine wpList_load_row rfl 146 (.tmp 1) rfl (w.heap.size + 1) rfl 146 (tabCells 16) (0, 0) _ H1.out Try.underlying146 rfl (by kernel_rfl) ?_) | (refine wpList_store_row rfl 146 (.tmp 0) (.tmp 24) rfl w.heap.size (tabCells 16) rfl rfl 146 (tabCells 0) H0.out (by kernel_rfl) rfl (by kernel_rfl) ?_))
      refine bodyPost_ret (results_cell_row rfl _ _ w.heap.size 146 (tabCells 16) (0, 0) _ rfl (setRow_heap _ _ _ _ _ _ H0.out) Try.underlying146 rfl (by kernel_rfl)) rfl ⟨rfl, ?_⟩
      exact hb.trans ⟨rfl, rfl, rfl, by simp, fun k hk => by simp [World.setRow, Array.getElem?_modify]; omega⟩
end Go.Proofs.Ytecmpjccdhmeeaa
end
section
/- 'More' and 'Sum' of crc: what they come to. -/
namespace Go.Proofs.Ytecmpjccdhmeeaa
open Go.RowKit
theorem tabCells_get (k : Nat) (h : k < 16) : (tabCells 16)[k]? = some (V32 (tbl.getD k 0)) := by
  unfold tabCells
  rw [List.getElem?_toArray, List.getElem?_map, show (tbl.take 16 ++ List.replicate (16 - 16) 0) = tbl from rfl, List.getD_eq_getElem?_getD]
  rcases hq : tbl[k]? with _ | x
  · rw [List.getElem?_eq_none_iff] at hq
    have : tbl.length = 16 := rfl
    omega
  · rfl
theorem crcL_snoc (n : Nat) (bs : List UInt8) (k : Nat) (h : k < bs.length) : crcL n (bs.take (k + 1)) = cb (crcL n (bs.take k)) bs[k].toNat := by
  rw [List.take_succ_eq_append_getElem h, crcL_append]; rfl
theorem u32_xor_step (y t : Nat) (hy : y < 4294967296) (ht : t < 4294967296) : bits BinOp.xor IntKind.u32 ((y : Int) / 16) (t : Int) = (((y / 16) ^^^ t : Nat) : Int) := by
  rw [show (y : Int) / 16 = ((y / 16 : Nat) : Int) from rfl, u32_xor_nat _ _ (by omega) ht]
theorem u32_not (n : Nat) (h : n < 4294967296) : bits BinOp.xor IntKind.u32 IntKind.u32.max (n : Int) = ((cpl n : Nat) : Int) := by
  rw [show IntKind.u32.max = ((4294967295 : Nat) : Int) from rfl, u32_xor_nat _ _ (by omega) h]; rfl
set_option maxHeartbeats 400000 in
theorem more_any (n : Nat) (a : Option Addr) (cap : Nat) (bs : List UInt8) (w : World) (hn : n < 4294967296) (hl : bs.length ≤ maxLen) (hr : RowAt w a (bs.map bV)) :
    Calls Try.prog 84 #[.int .u32 n, .slice a bs.length cap] w fun e w' => e = .returned (.int .u32 (more n bs)) ∧ Below w.heap.size w w' := by
  unfold maxLen at hl
  have HR := hid hr; clear hr
  go_enter Try.func84, Try.ntmps84
  go_wp2_with (first | (go_at_call 98; refine (table_any _).mono ?_; rintro e W ⟨rfl, hb⟩) | (rw [← tabCells_zero]; refine wpList_store_row rfl 146 (.tmp 5) (.tmp 9) rfl _ (tabCells 16) rfl rfl 146 (tabCells 0) (heap_alloc_new _ _) (by kernel_rfl) rfl (by kernel_rfl) ?_))
  have hg : ((W.alloc (Obj.cells (tabCells 0) 146)).setRow W.heap.size (tabCells 16)).heap[W.heap.size]? = some (.cells (tabCells 16) 146 (0, 0)) := setRow_heap _ _ _ _ _ _ (heap_alloc_new _ _)
  have hw : Below w.heap.size w ((W.alloc (Obj.cells (tabCells 0) 146)).setRow W.heap.size (tabCells 16)) := Below_setRow (hb.alloc hb.size _) hb.size _
  generalize (W.alloc (Obj.cells (tabCells 0) 146)).setRow W.heap.size (tabCells 16) = W2 at *
  generalize W.heap.size = g at *
  have HG := hid hg; clear hg
  have HW := hid hw; clear hw hb
  have HR2 := hid (HR.out.below HW.out (Nat.le_refl _)); clear HR
  have hc := u32_not n hn
  rw [hc]; clear hc
  go_loop [6,8,15,16,17,18,19,20,21,22,23,24,25,26,27,28,29,30,31,32,33,34,35,14] (fun t6 _ _ _ _ _ _ _ _ _ _ _ _ _ _ _ _ _ _ _ _ _ _ t14 => ∃ k : Nat, k ≤ bs.length ∧ t14 = .int .i64 k ∧ t6 = V32 (crcL (cpl n) (bs.take k))) (fun t6 _ _ _ _ _ _ _ _ _ _ _ _ _ _ _ _ _ _ _ _ _ _ t14 => bs.length - (intOf t14).toNat)
  case atStart => exact ⟨0, by omega, rfl, rfl⟩
  case round =>
    obtain ⟨k, hk, rfl, rfl⟩ := hrel
    have h0 : crcL (cpl n) (bs.take k) < 4294967296 := crcL_lt _ (cpl_lt hn)
    by_cases hlt : k < bs.length
    · have hsn := hid (crcL_snoc (cpl n) bs k hlt)
      generalize hm : crcL (cpl n) (bs.take k) = m at *
      have Hm := hid hm; clear hm
      obtain ⟨b, off, rfl, hc⟩ := HR2.out.byte hlt
      have hx := (bs[k]).toNat_lt
      generalize hxx : (bs[k]).toNat = x at *
      have e1 := u32_xor_nat m x h0 (by omega)
      have l1 := xlt h0 (show x < 4294967296 by omega)
      generalize hy1 : m ^^^ x = y at *
      have c1 : W2.cell? ⟨g, y % 16, none⟩ = some (.int .u32 (tbl.getD (y % 16) 0 : Nat)) := (cell_of_row _ _ _ _ _ _ HG.out).trans (tabCells_get _ (Nat.mod_lt _ (by omega)))
      have e2 := u32_xor_step y (tbl.getD (y % 16) 0) l1 (tbl_lt _)
      have l2 := nib_lt l1
      have hy2 : nib y = (y / 16) ^^^ tbl.getD (y % 16) 0 := rfl
      rw [← hy2] at e2
      generalize hy3 : tbl.getD (y % 16) 0 = t1 at *
      generalize hy4 : nib y = z at *
      have c2 : W2.cell? ⟨g, z % 16, none⟩ = some (.int .u32 (tbl.getD (z % 16) 0 : Nat)) := (cell_of_row _ _ _ _ _ _ HG.out).trans (tabCells_get _ (Nat.mod_lt _ (by omega)))
      have e3 := u32_xor_step z (tbl.getD (z % 16) 0) l2 (tbl_lt _)
      have hy5 : nib z = (z / 16) ^^^ tbl.getD (z % 16) 0 := rfl
      rw [← hy5] at e3
      generalize hy6 : tbl.getD (z % 16) 0 = t2 at *
      have hfin : cb m x = nib z := by unfold cb; rw [hy1, hy4]
      rw [hfin] at hsn
      generalize nib z = z3 at *
      clear hxx hy1 hy2 hy3 hy4 hy5 hy6 hfin
      unfold V32
      go_wp2
      go_round
      case rel => exact ⟨k + 1, by omega, by go_num, by rw [hsn.out]⟩
      case measure => simp [intOf]; omega
    · obtain rfl : k = bs.length := by omega
      rw [List.take_length] at h0 ⊢
      have hfin : more n bs = cpl (crcL (cpl n) bs) := rfl
      generalize crcL (cpl n) bs = m at *
      have hc := u32_not m h0
      have Hf := hid hfin; clear hfin
      unfold V32
      go_wp2
      go_ret
      exact ⟨by rw [Hf.out]; rfl, HW.out⟩
theorem crcP_snoc (n : Nat) (ps : List (List UInt8)) (k : Nat) (h : k < ps.length) : crcP n (ps.take (k + 1)) = more (crcP n (ps.take k)) ps[k] := by
  rw [List.take_succ_eq_append_getElem h]; unfold crcP; rw [List.foldl_append]; rfl
set_option maxHeartbeats 400000 in
theorem csum_any (a : Option Addr) (cap : Nat) (ps : List (List UInt8)) (w : World) (hl : ps.length ≤ maxLen) (hr : PartsAt w a ps) :
    Calls Try.prog 57 #[.slice a ps.length cap] w fun e w' => e = .returned (.int .u32 (crcP 0 ps)) ∧ Below w.heap.size w w' := by
  unfold maxLen at hl
  have HR := hid hr; clear hr
  go_enter Try.func57, Try.ntmps57
  go_wp2
  go_loopw [3,5,9,10,11,12,13,14,15,8] (fun t3 _ _ _ _ _ _ _ _ t8 wr => ∃ k : Nat, k ≤ ps.length ∧ t8 = .int .i64 k ∧ t3 = V32 (crcP 0 (ps.take k)) ∧ Below w.heap.size w wr) (fun t3 _ _ _ _ _ _ _ _ t8 wr => ps.length - (intOf t8).toNat)
  case atStart => exact ⟨0, by omega, rfl, rfl, Below.refl _ _⟩
  case round =>
    obtain ⟨k, hk, rfl, rfl, hb⟩ := hrel
    have h0 : crcP 0 (ps.take k) < 4294967296 := crcP_lt _ (by omega)
    by_cases hlt : k < ps.length
    · obtain ⟨b, off, v, c, rfl, hc, hr, hvc, hm⟩ := (HR.out.below hb (Nat.le_refl _)).part hlt
      have hsn := hid (crcP_snoc 0 ps k hlt)
      generalize crcP 0 (ps.take k) = m at *
      generalize ps[k] = p at *
      have HP := hid hr; clear hr
      have HB := hid hb; clear hb
      unfold V32
      go_wp2_with (go_at_call 84; refine (more_any _ _ _ _ _ h0 hm HP.out).mono ?_; rintro e W ⟨rfl, hbW⟩)
      go_roundw
      case rel => exact ⟨k + 1, by omega, by go_num, by rw [hsn.out], HB.out.trans (hbW.mono HB.out.size)⟩
      case measure => simp [intOf]; omega
    · obtain rfl : k = ps.length := by omega
      rw [List.take_length] at h0 ⊢
      unfold V32
      go_wp2
      go_ret
      exact ⟨rfl, hb⟩
end Go.Proofs.Ytecmpjccdhmeeaa
end
section
/- The law through the layers 1 to 3, walked. -/
namespace Go.Proofs.Ytecmpjccdhmeeaa
open Go.RowKit
theorem one_differs (pre post : List UInt8) (x y : UInt8) (d : Nat) (h0 : d < 256) (e0 : y.toNat = x.toNat ^^^ d) (hd : d ≠ 0) : more 0 (pre ++ x :: post) ≠ more 0 (pre ++ y :: post) := by
  intro h
  unfold more at h
  have h' : crcL (cpl 0) (pre ++ x :: post) = crcL (cpl 0) (pre ++ y :: post) := by rw [← cpl_cpl (crcL (cpl 0) (pre ++ x :: post)), h, cpl_cpl]
  rw [crcL_append, crcL_append] at h'
  generalize crcL (cpl 0) pre = s at h'
  have c0 : cb s y.toNat = cb s x.toNat ^^^ iter st 8 d := by have := cb_xor s 0 x.toNat d; rwa [Nat.xor_zero, Nat.zero_xor, ← e0] at this
  rw [show crcL s (x :: post) = crcL (cb s x.toNat) post from rfl, show crcL s (y :: post) = crcL (cb s y.toNat) post from rfl, c0, crcL_xor] at h'
  have hz : iter st (8 * post.length) (iter st 8 d) = 0 := by
    have h6 := xself (crcL (cb s x.toNat) post) (iter st (8 * post.length) (iter st 8 d))
    rw [← h', Nat.xor_self] at h6
    exact h6.symm
  have := iter_zero _ (iter_lt 8 (by omega)) hz
  exact hd (iter_zero 8 (by omega) this)
theorem set_differs (bs : List UInt8) (k d : Nat) (hk : k < bs.length) (h0 : d < 256) (hd : d ≠ 0) : more 0 (bs.set k (UInt8.ofNat (bs[k].toNat ^^^ d))) ≠ more 0 bs := by
  have hx : bs[k].toNat ^^^ d < 2 ^ 8 := Nat.xor_lt_two_pow bs[k].toNat_lt (by omega)
  have e1 : bs.set k (UInt8.ofNat (bs[k].toNat ^^^ d)) = bs.take k ++ UInt8.ofNat (bs[k].toNat ^^^ d) :: bs.drop (k + 1) := by rw [List.set_eq_take_append_cons_drop, if_pos hk]
  have e2 : bs = bs.take k ++ bs[k] :: bs.drop (k + 1) := by rw [← List.drop_eq_getElem_cons hk, List.take_append_drop]
  rw [e1]
  conv => rhs; rw [e2]
  exact Ne.symm (one_differs _ _ _ _ d h0 (by show (bs[k].toNat ^^^ d) % 256 = _; exact Nat.mod_eq_of_lt hx) hd)
/-- The bytes of ints. -/
def intsB (zs : List Int) : List UInt8 := zs.flatMap intB
theorem intsB_len {zs : List Int} (h : ints zs) : (intsB zs).length ≤ 10 * zs.length := by
  unfold intsB
  induction zs with
  | nil => simp
  | cons z zs ih =>
    rw [List.flatMap_cons, List.length_append, List.length_cons]
    have h1 := h z (by simp)
    have h2 : (intB z).length ≤ 10 := grp_len64 (zig_lt h1.1 h1.2)
    have := ih fun x hx => h x (by simp [hx])
    omega
theorem intsB_take {zs : List Int} {i : Nat} (h : i < zs.length) : intsB (zs.take (i + 1)) = intsB (zs.take i) ++ intB zs[i] := by
  rw [List.take_succ_eq_append_getElem h]; unfold intsB; rw [List.flatMap_append]; simp
theorem bk_int {n : Int} (h0 : -9223372036854775808 ≤ n) (h1 : n ≤ 9223372036854775807) (rest : List UInt8) : rdInt (intB n ++ rest) 0 = (n, rest, 0) := by
  unfold rdInt intB
  rw [if_neg (by simp), tk_dec0 rest (zig_lt h0 h1) (grp_len64 (zig_lt h0 h1))]
  dsimp only
  rw [if_neg (by simp), List.drop_left, zag_zig]
theorem fresh_w (w : World) : WAt (w.alloc (.cells #[.slice none 0 0, .bool false] 83)) [w.heap.size] w.heap.size [] false :=
  ⟨⟨.slice none 0 0, Bk.new rfl, Own.nil _ _ _ _, fun k hk => by cases hk⟩, by simp, fun k hk => by simp at hk; subst hk; simp⟩
theorem wbelow {w w' : World} {L : List Nat} {g : Nat} {bs : List UInt8} {bad : Bool} (h : WAt w L g bs bad) (hb : Below w.heap.size w w') : WAt w' L g bs bad :=
  h.keep (fun k hk => hb.block k (h.under k hk)) hb.size
theorem known9 : crcP 0 [[49, 50, 51, 52, 53, 54, 55, 56, 57]] = 3421780262 := by decide +kernel
set_option maxRecDepth 100000 in
theorem stands_any (w : World) :
    Calls Try.prog 21 #[] w fun e w' => e = .returned (.bool true) ∧ Below w.heap.size w w' := by
  have kc := conv_const (P := Try.prog) 28 5 Try.underlying28 Try.underlying5
  go_enter Try.func21, Try.ntmps21
  go_wp2_with fail
  clear kc
  have hb := (Below_one (w := w) (.cells #[.int .u8 49, .int .u8 50, .int .u8 51, .int .u8 52, .int .u8 53, .int .u8 54, .int .u8 55, .int .u8 56, .int .u8 57] 5 (9, 10))).alloc (by simp) (.cells #[.slice (some ⟨w.heap.size, 0, none⟩) 9 9] 28)
  refine (csum_any _ _ [[49, 50, 51, 52, 53, 54, 55, 56, 57]] _ (by decide) (.ofWhole [(some ⟨w.heap.size, 0, none⟩, 9)] _ (al_new (by simp)) rfl
    (zip1 ⟨.ofWhole (al_old (al_new rfl)), Nat.le_refl _, by decide⟩))).mono ?_
  rintro e W ⟨rfl, hw⟩
  rw [known9]
  have HB := hid (hb.trans (hw.mono (by simp; omega))); clear hb hw
  go_wp2_with fail
  go_ret
  exact ⟨rfl, HB.out⟩
theorem below_app2 {W W1 w1 : World} {base : Nat} {e : TypeId} {size : Nat} {v : Value} {n : Nat} {xs : List Value} {o : Obj} (hb : Below base W W1) (ho : Own W1 base e size v n xs) (hs : base ≤ W1.heap.size) (hg : (W1.alloc o).grownBy w1 v.ownBlock) : Below base W w1 :=
  (hb.alloc hs o).grown hg (by simp; omega) (fun g h => (ho.lt g h).1)
theorem Try.infoI : (Try.prog.info? 3).map (fun i => (i.zero, i.size, i.bytes)) = some (some (.int .i64 0), 1, 8) := by kernel_rfl
theorem Src.builtI {W : World} (z : Int) : Src Try.prog 1 45 (.slice (some ⟨W.heap.size, 0, none⟩) 1 1) 1 [iV z] (W.alloc (.cells #[.int .i64 z] 3)) :=
  Src.ofRow Try.underlying45 (some ⟨W.heap.size, 0, none⟩) 1 [iV z] (RowAt.ofWhole (vs := [iV z]) (al_new rfl)) (by intro u hu; rw [List.mem_singleton] at hu; subst hu; rfl)
theorem u8_nat {z : Int} (h : (Lit.int .u8 z).wf = true) : ∃ n : Nat, z = (n : Int) ∧ n < 256 := by
  have hz : 0 ≤ z ∧ z < 256 := by
    have e1 : IntKind.u8.min = 0 := rfl
    have e2 : IntKind.u8.max = 255 := rfl
    simp [Lit.wf] at h
    omega
  exact ⟨z.toNat, by omega, by omega⟩
end Go.Proofs.Ytecmpjccdhmeeaa
end
section
/- The rhythm of usage, where its numbers are within their range; walked. -/
namespace Go.Proofs.Ytecmpjccdhmeeaa
open Go.RowKit
def qV (q0 q1 q2 q3 : Int) : Value := .agg #[.int .i64 q0, .int .i64 q1, .int .i64 q2, .int .i64 q3]
/-- Within the range. -/
def In50 (z : Int) : Prop := 0 ≤ z ∧ z ≤ 1125899906842624
theorem rright_ret (q0 q1 q2 q3 : Int) (w : World) (h0 : In50 q0) (h1 : In50 q1) (h2 : In50 q2) (h3 : In50 q3) : Calls Try.prog 67 #[qV q0 q1 q2 q3] w (Ret (.bool true) w) := by
  refine ret_in (GPRate.rright_calls q0 q1 q2 q3 w (fun u w' => u = .bool true ∧ Below w.heap.size w w') ?_)
  unfold GPRate.rright_vc
  refine newB (Bs.refl w) fun g w2 g0 sg n2 z2 b2 B2 => ⟨fun x wx => ∃ i : Nat, x = i ∧ i ≤ 4 ∧ Bs w wx, fun x _ => 4 - x.toNat, ⟨0, rfl, by omega, B2⟩, ?_⟩
  rintro x wx ⟨i, rfl, hi, B⟩
  refine br_dec (fun hlt => ?_) fun hge => ⟨rfl, B⟩
  have hz : ∃ z, ([.int .i64 q0, .int .i64 q1, .int .i64 q2, .int .i64 q3] : List Value)[i]? = some (.int .i64 z) ∧ In50 z := by
    have : i = 0 ∨ i = 1 ∨ i = 2 ∨ i = 3 := by omega
    rcases this with rfl | rfl | rfl | rfl
    · exact ⟨_, rfl, h0⟩
    · exact ⟨_, rfl, h1⟩
    · exact ⟨_, rfl, h2⟩
    · exact ⟨_, rfl, h3⟩
  obtain ⟨z, hz, k0, k1⟩ := hz
  refine ⟨by omega, by omega, z, by rw [Int.toNat_natCast]; exact hz, br_n (by omega) (br_n (by omega) ?_)⟩
  rw [wr64 (by omega) (by omega)]
  exact ⟨⟨i + 1, by omega, by omega, B⟩, by dsimp only; omega⟩
def addQ (k j : Nat) (n q : Int) : Int := if j = k then q + n else q
theorem radd_ok (q0 q1 q2 q3 n : Int) (k : Nat) (w : World) (h0 : In50 q0) (h1 : In50 q1) (h2 : In50 q2) (h3 : In50 q3) (hk : k < 4) (hn : 0 ≤ n) (hs : q0 + q1 + q2 + q3 + n ≤ 1125899906842624) :
    Calls Try.prog 27 #[qV q0 q1 q2 q3, .int .i64 (k : Int), .int .i64 n] w (Ret (.tuple #[qV (addQ k 0 n q0) (addQ k 1 n q1) (addQ k 2 n q2) (addQ k 3 n q3), .int .i64 0]) w) := by
  refine ret_in (GPRate.radd_calls q0 q1 q2 q3 k n w (fun u w' => u = .tuple #[qV (addQ k 0 n q0) (addQ k 1 n q1) (addQ k 2 n q2) (addQ k 3 n q3), .int .i64 0] ∧ Below w.heap.size w w') ?_)
  unfold GPRate.radd_vc
  refine newB (Bs.refl w) fun g w2 g0 sg n2 z2 b2 B2 => newB B2 fun g2 w3 g20 sg2 n3 z3 b3 B3 => ?_
  have hB : Bk w3 g #[.int .i64 q0, .int .i64 q1, .int .i64 q2, .int .i64 q3] 49 := Bk.keep (show Bk w2 g _ 49 from n2) (b3.block g (by omega))
  refine ⟨q0, q1, q2, q3, cellsAt_row hB (by simp), callB B3 (rright_ret q0 q1 q2 q3 w3 h0 h1 h2 h3) fun w4 b4 B4 => ⟨_, rfl, br_f rfl (br_n (by omega) (br_n (by omega) (br_n (by omega) ?_)))⟩⟩
  have hB4 := hB.keep (b4.block g (by omega))
  rw [show 0 + (k : Int).toNat * 1 = k by omega]
  have hz : ∃ z, (#[.int .i64 q0, .int .i64 q1, .int .i64 q2, .int .i64 q3] : Array Value)[k]? = some (.int .i64 z) ∧ In50 z ∧ z + n ≤ 1125899906842624 ∧ (#[.int .i64 q0, .int .i64 q1, .int .i64 q2, .int .i64 q3] : Array Value).setIfInBounds k (.int .i64 (z + n)) = #[.int .i64 (addQ k 0 n q0), .int .i64 (addQ k 1 n q1), .int .i64 (addQ k 2 n q2), .int .i64 (addQ k 3 n q3)] := by
    obtain ⟨a0, b0⟩ := h0
    obtain ⟨a1, b1⟩ := h1
    obtain ⟨a2, b2⟩ := h2
    obtain ⟨a3, b3⟩ := h3
    have : k = 0 ∨ k = 1 ∨ k = 2 ∨ k = 3 := by omega
    rcases this with rfl | rfl | rfl | rfl
    · exact ⟨_, rfl, ⟨a0, b0⟩, by omega, rfl⟩
    · exact ⟨_, rfl, ⟨a1, b1⟩, by omega, rfl⟩
    · exact ⟨_, rfl, ⟨a2, b2⟩, by omega, rfl⟩
    · exact ⟨_, rfl, ⟨a3, b3⟩, by omega, rfl⟩
  obtain ⟨z, hz, ⟨k0, k1⟩, k2, hset⟩ := hz
  have hc : w4.cell? ⟨g, k, none⟩ = some (.int .i64 z) := by rw [hB4.cell]; exact hz
  refine ⟨by omega, by omega, z, hc, ?_⟩
  rw [wr64 (by omega) (by omega)]
  refine br_n (by omega) ⟨by omega, by omega, z, hc, by omega, by omega, ?_⟩
  rw [wr64 (by omega) (by omega)]
  refine stO_bk hB4 (by simp; omega) (fun x hx => by rw [List.mem_singleton] at hx; omega) fun w10 B10 f10 z10 => ?_
  rw [hset] at B10
  have C10 : Bs w w10 := B4.trans (f10.below (fun k hk => by rw [List.mem_singleton] at hk; omega) B4.size)
  exact ⟨_, _, _, _, cellsAt_row B10 (by simp), boxB C10 g20 fun w11 h11 B11 _ => ⟨rfl, B11⟩⟩
theorem total4 (a b c d : Int) : total [a, b, c, d] = a + b + c + d := by
  rw [total_cons, total_cons, total_cons, total_cons]
  show a + (b + (c + (d + 0))) = _
  omega
theorem rtotal_ret (q0 q1 q2 q3 : Int) (w : World) (h0 : In50 q0) (h1 : In50 q1) (h2 : In50 q2) (h3 : In50 q3) : Calls Try.prog 28 #[qV q0 q1 q2 q3] w (Ret (.int .i64 (q0 + q1 + q2 + q3)) w) := by
  refine ret_in (GPRate.rtotal_calls q0 q1 q2 q3 w (fun u w' => u = .int .i64 (q0 + q1 + q2 + q3) ∧ Below w.heap.size w w') ?_)
  unfold GPRate.rtotal_vc
  refine newB (Bs.refl w) fun g w2 g0 sg n2 z2 b2 B2 => ⟨q0, q1, q2, q3, cellsAt_row n2 (by simp), callB B2 (rright_ret q0 q1 q2 q3 w2 h0 h1 h2 h3) fun w3 b3 B3 => ⟨_, rfl, br_f rfl ?_⟩⟩
  obtain ⟨a0, b0⟩ := h0
  obtain ⟨a1, b1⟩ := h1
  obtain ⟨a2, b2'⟩ := h2
  obtain ⟨a3, b3'⟩ := h3
  have hr : RowAt w3 (some ⟨g, 0, none⟩) ([q0, q1, q2, q3].map iV) := (RowAt.ofWhole (vs := [q0, q1, q2, q3].map iV) n2).below b3 (Nat.le_refl _)
  refine callB B3 (ret_same (aSum_any (some ⟨g, 0, none⟩) 4 [q0, q1, q2, q3] w3 (.tuple #[.int .i64 (q0 + q1 + q2 + q3), .bool true]) (by rw [total4, fitV_yes (by omega) (by omega)]) (fun y hy => ?_) (by simp) hr)) fun w4 b4 B4 => ⟨_, _, rfl, rfl, B4⟩
  simp only [List.mem_cons, List.not_mem_nil, or_false] at hy
  rcases hy with rfl | rfl | rfl | rfl <;> omega
theorem quarter_ret (i : Nat) (hi : i < 24) (w : World) : Calls Try.prog 26 #[.int .i64 (i : Int), .int .i64 24] w (Ret (.tuple #[.int .i64 ((i / 6 : Nat) : Int), .int .i64 0]) w) := by
  refine ret_in (GPRate.quarter_calls i 24 w (fun u w' => u = .tuple #[.int .i64 ((i / 6 : Nat) : Int), .int .i64 0] ∧ Below w.heap.size w w') ?_)
  unfold GPRate.quarter_vc
  refine br_n (by omega) (br_n (by omega) (br_n (by omega) ⟨by decide, by decide, ?_, Bs.refl _⟩))
  have : IntKind.i64.wrap (Int.tdiv (IntKind.i64.wrap ((Int.tmod (i : Int) 24) * 4)) 24) = ((i / 6 : Nat) : Int) := by
    rw [Int.tmod_eq_emod_of_nonneg (by omega), wr64 (z := (i : Int) % 24 * 4) (by omega) (by omega), Int.tdiv_eq_ediv_of_nonneg (by omega), wr64 (by omega) (by omega)]
    omega
  rw [this]
theorem rate_tot {q : Pl} {now pos n : Int} (hE : rateE q now pos n = 0) : blocksOf (rateR q now pos n).ls = (rateR q now pos n).blocks ∧ (rateR q now pos n).blocks ≤ n := by
  obtain ⟨k1, k2, k3, k4⟩ := rateE_ok hE
  have hat := at_ok k1 now
  have hb := (chk_ok (plan_ok k1).1).1.2
  have hbn := blk_nn n q.base.block (by omega) k3.1
  have hbs := blk_self n q.base.block (by omega) k3.1
  rw [rateR_yes hE]
  exact ⟨(splitL_ok hat.1 k4.1 hbn).2.1, hbs⟩
end Go.Proofs.Ytecmpjccdhmeeaa
end
section
/- The law through the layers 1 to 12; walked. -/
namespace Go.Proofs.Ytecmpjccdhmeeaa
open Go.RowKit
theorem min7 (ts : List Tr) : (min ((ts.length : Nat) : Int) 7).toNat = (ts.take 7).length := by rw [List.length_take]; omega
theorem take7 (ts : List Tr) : (ts.take 7).length ≤ 7 := by rw [List.length_take]; omega
def few7 (t : Tar) : Tar := { t with ts := t.ts.take 7 }
def dayP (t o : Tar) : Pl := ⟨24, 6, 18, few7 t, few7 o⟩
theorem stands_ret (w : World) : Calls Try.prog 21 #[] w (Ret (.bool true) w) := stands_any w
theorem addQ_in {k j : Nat} {n q : Int} (hq : 0 ≤ q) (hn : 0 ≤ n) : 0 ≤ addQ k j n q := by unfold addQ; split <;> omega
theorem addQ_sum {k : Nat} (hk : k < 4) (n q0 q1 q2 q3 : Int) : addQ k 0 n q0 + addQ k 1 n q1 + addQ k 2 n q2 + addQ k 3 n q3 = q0 + q1 + q2 + q3 + n := by
  have : k = 0 ∨ k = 1 ∨ k = 2 ∨ k = 3 := by omega
  rcases this with rfl | rfl | rfl | rfl <;> simp [addQ] <;> omega
theorem u64mod (z : Int) : ∃ u : Int, IntKind.i64.wrap (Int.tmod (IntKind.u64.wrap z) 1000) = u ∧ 0 ≤ u ∧ u ≤ 999 := by
  have h : 0 ≤ IntKind.u64.wrap z := by rw [IntKind.wrap_u64]; omega
  rw [Int.tmod_eq_emod_of_nonneg h]
  generalize IntKind.u64.wrap z = y at *
  rw [wr64 (z := y % 1000) (by omega) (by omega)]
  exact ⟨_, rfl, by omega, by omega⟩
/-- How far it is, behind i hours. -/
structure Far24 (i : Nat) (x8 x9 x10 x11 q0 q1 q2 q3 : Int) : Prop where
  le : i ≤ 24
  e : x8 = x10
  s : x10 = q0 + q1 + q2 + q3
  q : 0 ≤ q0 ∧ 0 ≤ q1 ∧ 0 ≤ q2 ∧ 0 ≤ q3
  b : x10 ≤ 1000 * i
  c : 0 ≤ x9 ∧ x9 ≤ x11
  d : x11 ≤ 1125899906842624 * i
set_option maxRecDepth 20000 in
theorem prates_walk (t o : Tar) (a b : Option Addr) (c d : Nat) (a2 : Option Addr) (c2 : Nat) (zs : List Int) (w : World) (h1 : TsAt 0 w a t.ts) (h2 : TsAt 0 w b o.ts) (l1 : t.ts.length ≤ c) (l2 : o.ts.length ≤ d) (hz : RowAt w a2 (zs.map iV)) :
    Calls Try.prog 5 #[tarV t a c, tarV o b d, .slice a2 zs.length c2] w (Ret (.bool true) w) := by
  refine ret_in (GPRate.prates_calls t.grp t.mode t.block a t.ts.length c o.grp o.mode o.block b o.ts.length d a2 zs.length c2 w (fun u w' => u = .bool true ∧ Below w.heap.size w w') ?_)
  unfold GPRate.prates_vc
  have t1 := take7 t.ts
  have t2 := take7 o.ts
  refine newB (Bs.refl w) fun g w2 g0 sg n2 z2 b2 B2 => newB B2 fun g2 w3 g20 sg2 n3 z3 b3 B3 => newB B3 fun g3 w4 g30 sg3 n4 z4 b4 B4 => boxB B4 g30 fun w5 h5 B5 z5 => newB B5 fun g4 w6 g40 sg4 n6 z6 b6 B6 => ⟨by omega, by omega, ?_⟩
  have o6 : Own w6 w5.heap.size 120 2 (.slice (some ⟨g4, 0, none⟩) 0 0) 0 [] := (own_empty 2 n6).base_le fun k hk => by simp [Value.ownBlock] at hk; omega
  have s6 := ((h1.below B6).take 7).src (c := c) Try.underlying22 (by decide) tr_len tr_one
  rw [min7]
  refine appB B6 o6 B5.size (by omega) s6 (by unfold maxLen; omega) (by omega) (fun x hx e => ?_) fun a7 c7 w7 o7 g7 B7 z7 => boxB B7 g30 fun w8 h8 B8 z8 => newB B8 fun g5 w9 g50 sg5 n9 z9 b9 B9 => ⟨by omega, by omega, ?_⟩
  · have := (o6.lt _ e).1
    simp at hx
    omega
  have f7 : TsAt w5.heap.size w7 a7 (t.ts.take 7) := Rws.ofOwn (by decide) tr_len (by rw [List.nil_append] at o7; exact o7)
  have f8 := f7.box h8 (by omega)
  have o9 : Own w9 w8.heap.size 120 2 (.slice (some ⟨g5, 0, none⟩) 0 0) 0 [] := (own_empty 2 n9).base_le fun k hk => by simp [Value.ownBlock] at hk; omega
  have s9 := ((h2.below B9).take 7).src (c := d) Try.underlying22 (by decide) tr_len tr_one
  rw [min7]
  refine appB B9 o9 B8.size (by omega) s9 (by unfold maxLen; omega) (by omega) (fun x hx e => ?_) fun a10 c10 w10 o10 g10 B10 z10 => boxB B10 g30 fun w11 h11 B11 z11 => ?_
  · have := (o9.lt _ e).1
    simp at hx
    omega
  have e10 : TsAt w5.heap.size w10 a10 (o.ts.take 7) := Rws.low (Rws.ofOwn (by decide) tr_len (by rw [List.nil_append] at o10; exact o10)) (by omega)
  have f10 : TsAt w5.heap.size w10 a7 (t.ts.take 7) := f8.keep fun b _ hb => (g10.block b (by omega) (by simp [Value.ownBlock]; omega)).trans (b9.block b hb)
  have hp11 : PlAt w11 (dayP t o) a7 a10 := ⟨(f10.box h11 (by omega)).low (Nat.zero_le _), (e10.box h11 (by omega)).low (Nat.zero_le _), by dsimp only [dayP, few7]; omega, by dsimp only [dayP, few7]; omega⟩
  rw [Nat.zero_add, Nat.zero_add]
  refine callB B11 (stands_ret w11) fun w12 b12 B12 => ⟨_, rfl, br_f rfl ?_⟩
  have hp12 := hp11.to b12
  have hd : -9223372036854775808 ≤ (dayP t o).day ∧ (dayP t o).day ≤ 9223372036854775807 := (show -9223372036854775808 ≤ (24 : Int) ∧ (24 : Int) ≤ 9223372036854775807 from ⟨by decide, by decide⟩)
  refine callB B12 (cplan_ret (dayP t o) a7 a10 c7 c10 w12 hp12 hd.1 hd.2) fun w14 b14 B14 => ⟨_, rfl, br_dec (fun hE => callB B14 (stands_ret w14) fun w15 b15 B15 => ⟨_, rfl, rfl, B15⟩) fun hE => ?_⟩
  have hP : PlAt w14 (dayP t o) a7 a10 := hp12.to b14
  have hE : planE (dayP t o) = 0 := Decidable.not_not.1 hE
  have wA : ∀ {u : Int}, 0 ≤ u → u ≤ 999 → worstE (dayP t o) u = 0 ∧ 0 ≤ worstN (dayP t o) u ∧ worstN (dayP t o) u ≤ 1125899906842624 := fun {u} k0 k1 => by
    have e : worstE (dayP t o) u = 0 := by unfold worstE; rw [if_neg (fun k => k.elim (fun k => k hE) fun k => by omega)]
    unfold worstN
    rw [if_pos e]
    exact ⟨e, worst_small hE (by omega)⟩
  refine newB B14 fun g6 w16 g60 sg6 n16 z16 b16 B16 => ⟨fun x8 x9 x10 x11 x13 q0 q1 q2 q3 wx => ∃ i : Nat, x13 = i ∧ i ≤ zs.length ∧ Far24 i x8 x9 x10 x11 q0 q1 q2 q3 ∧ Bs w14 wx, fun _ _ _ _ x13 _ _ _ _ _ => 24 - x13.toNat, ⟨0, rfl, by omega, ⟨by omega, rfl, rfl, by omega, by omega, by omega, by omega⟩, (Bs.refl w14).to b16⟩, ?_⟩
  rintro x8 x9 x10 x11 x13 q0 q1 q2 q3 wx ⟨i, rfl, hi, hF, C⟩
  obtain ⟨f1, rfl, f3, f4, f5, f6, f7'⟩ := hF
  have i0 : In50 q0 := ⟨by omega, by omega⟩
  have i1 : In50 q1 := ⟨by omega, by omega⟩
  have i2 : In50 q2 := ⟨by omega, by omega⟩
  have i3 : In50 q3 := ⟨by omega, by omega⟩
  refine br_dec (fun hlt => br_dec (fun h24 => ?_) fun _ => br_y rfl (callB C (rtotal_ret q0 q1 q2 q3 wx i0 i1 i2 i3) fun w29 b29 C29 => ⟨_, rfl, br_y f3.symm ⟨by rw [decide_eq_true f6.2], B14.to C29⟩⟩)) fun _ => br_y rfl (callB C (rtotal_ret q0 q1 q2 q3 wx i0 i1 i2 i3) fun w29 b29 C29 => ⟨_, rfl, br_y f3.symm ⟨by rw [decide_eq_true f6.2], B14.to C29⟩⟩)
  obtain ⟨bb, off, ha2, hc⟩ := (hz.below (B14.to C) (Nat.le_refl _)).int (k := i) (by omega)
  refine withP_mk bb off ha2 ⟨by omega, by omega, zs[i]'(by omega), by rw [Int.toNat_natCast, Nat.mul_one]; exact hc, by decide, ?_⟩
  obtain ⟨u, hu, u0, u1⟩ := u64mod (zs[i]'(by omega))
  rw [hu]
  have hR : rateE (dayP t o) i x8 u = 0 := by
    unfold rateE
    rw [if_neg (fun k => k.elim (fun k => k hE) fun k => k.elim (fun k => by omega) fun k => k.elim (fun k => by omega) fun k => k ⟨by omega, by omega⟩)]
  obtain ⟨r1, r2, r3, r4, r5, r6, r7, r8, r9⟩ := rate_facts hR
  obtain ⟨s1, s2⟩ := rate_tot hR
  obtain ⟨v1, v2, v3⟩ := wA u0 u1
  have hcall := rate_new (dayP t o) a7 a10 c7 c10 i x8 u wx (hP.to C) hd
  rw [hR] at hcall
  generalize rateR (dayP t o) i x8 u = R at *
  have hk6 : i / 6 < 4 := by omega
  have hsum := addQ_sum hk6 R.blocks q0 q1 q2 q3
  refine callQ C hcall ?_
  rintro e w18 ⟨a', c', rfl, hL⟩ b18 C18
  refine ⟨_, _, _, _, _, _, _, rfl, newB C18 fun g7 w19 g70 sg7 n19 z19 b19 C19 => boxB C19 g70 fun w20 h20 C20 z20 => callB C20 (worst_ret (dayP t o) a7 a10 c7 c10 u w20 (hP.to C20) hd) fun w21 b21 C21 => ⟨_, _, rfl, ?_⟩⟩
  have hL21 := (hL.newbox b19 sg7 h20).below b21
  refine callB C21 (tblocks_ret a' c' R.ls w21 (hL21.low (Nat.zero_le _)) r1) fun w22 b22 C22 => ⟨_, _, rfl, callB C22 (quarter_ret i (by omega) w22) fun w23 b23 C23 => ⟨_, _, rfl, callB C23 (radd_ok q0 q1 q2 q3 R.blocks (i / 6) w23 i0 i1 i2 i3 hk6 r6 (by omega)) fun w24 b24 C24 => ⟨_, _, _, _, _, rfl, newB C24 fun g8 w25 g80 sg8 n25 z25 b25 C25 => boxB C25 g80 fun w26 h26 C26 z26 => ?_⟩⟩⟩
  refine br_n (fun k => k rfl) (br_n (fun k => k v1) (br_f rfl (br_n (fun k => k s1) (br_n (fun k => k rfl) (br_n (fun k => k rfl) ⟨by decide, br_n (fun k => k ?_) (br_n (by omega) (drewB C26 fun w27 b27 C27 _ => boxB C27 (by omega) fun w28 h28 C28 _ => ?_))⟩)))))
  · rw [Int.tdiv_eq_ediv_of_nonneg (by omega), wr64 (by omega) (by omega)]; omega
  · rw [wr64 (by omega) (by omega), wr64 (by omega) (by omega), wr64 (by omega) (by omega), wr64 (by omega) (by omega)]
    exact ⟨⟨i + 1, by omega, by omega, ⟨by omega, by omega, by omega, ⟨addQ_in f4.1 r6, addQ_in f4.2.1 r6, addQ_in f4.2.2.1 r6, addQ_in f4.2.2.2 r6⟩, by omega, by omega, by omega⟩, C28⟩, by dsimp only; omega⟩
end Go.Proofs.Ytecmpjccdhmeeaa
end
section
/- Arrays and structs that came in as values: their numbers. -/
namespace Go.Proofs.Ytecmpjccdhmeeaa
open Go.RowKit Go.WideShapes Go.ChangeShapes
theorem okWide_arr {P : Program} {W : World} {r : Reach} {base : Nat} {t : TypeId} {v : Value} {n : Nat} {e : Sh} {k : Nat} (hf : fitsB P (.arr n e k) t = true) (hv : Value.okWide P W r base t v) : ∃ cs, v = .agg cs ∧ cs.size = P.cellsOf t := by
  unfold fitsB at hf
  split at hf
  · rename_i l et hu
    unfold Value.okWide at hv
    rw [hu] at hv
    obtain ⟨cs, h1, h2, _⟩ := hv
    exact ⟨cs, h1, h2⟩
  · cases hf
theorem open_arrI {H : Type} {enc : TypeId × Value → H} {P : Program} {W : World} {r : Reach} {base : Nat} {t : TypeId} {v : Value} {d : DataW H} {p : List MemPlace} (n : Nat) (hf : fitsB P (.arr n (.int .i64) 1) t = true) (hc : P.cellsOf t = n) (hv : Value.okWide P W r base t v)
    (h : DataW.Trod enc P W 0 (fun _ => true) true t v d p) : ∃ zs : List Int, zs.length = n ∧ v = .agg (zs.map (Value.int .i64)).toArray ∧ ∀ z ∈ zs, -9223372036854775808 ≤ z ∧ z ≤ 9223372036854775807 := by
  obtain ⟨cs, rfl, hs⟩ := okWide_arr hf hv
  have hh := open_sh hf h
  obtain ⟨zs, hz, hp⟩ := exists_list (p := fun i z => cs.toList[i]? = some (Value.int .i64 z) ∧ (Lit.int .i64 z).wf = true) n (fun i hi => by
    obtain ⟨z, h1, h2⟩ := hh i hi
    refine ⟨z, ?_, h2⟩
    have := congrArg (·[0]?) h1
    simpa [Value.cells] using this)
  refine ⟨zs, hz, ?_, fun z hm => ?_⟩
  · congr 1
    apply Array.ext'
    apply List.ext_getElem?
    intro i
    rw [List.getElem?_map]
    by_cases hi : i < n
    · rw [List.getElem?_eq_getElem (show i < zs.length by omega)]
      exact (hp i _ (List.getElem?_eq_getElem (by omega))).1
    · rw [List.getElem?_eq_none (by simp; omega), List.getElem?_eq_none (by omega)]
      rfl
  · obtain ⟨i, hi⟩ := List.getElem?_of_mem hm
    exact i64_range (hp i z hi).2
theorem open_arr2 {H : Type} {enc : TypeId × Value → H} {P : Program} {W : World} {r : Reach} {base : Nat} {t : TypeId} {v : Value} {d : DataW H} {p : List MemPlace} (hf : fitsB P (.arr 2 (.int .i64) 1) t = true) (hc : P.cellsOf t = 2) (hv : Value.okWide P W r base t v)
    (h : DataW.Trod enc P W 0 (fun _ => true) true t v d p) : ∃ x y : Int, v = .agg #[.int .i64 x, .int .i64 y] ∧ (-9223372036854775808 ≤ x ∧ x ≤ 9223372036854775807) ∧ -9223372036854775808 ≤ y ∧ y ≤ 9223372036854775807 := by
  obtain ⟨zs, hz, rfl, hr⟩ := open_arrI 2 hf hc hv h
  match zs, hz with
  | [x, y], _ => exact ⟨x, y, rfl, hr x (by simp), hr y (by simp)⟩
theorem open_arr4 {H : Type} {enc : TypeId × Value → H} {P : Program} {W : World} {r : Reach} {base : Nat} {t : TypeId} {v : Value} {d : DataW H} {p : List MemPlace} (hf : fitsB P (.arr 4 (.int .i64) 1) t = true) (hc : P.cellsOf t = 4) (hv : Value.okWide P W r base t v)
    (h : DataW.Trod enc P W 0 (fun _ => true) true t v d p) : ∃ x y z u : Int, v = .agg #[.int .i64 x, .int .i64 y, .int .i64 z, .int .i64 u] ∧ (-9223372036854775808 ≤ x ∧ x ≤ 9223372036854775807) ∧ (-9223372036854775808 ≤ y ∧ y ≤ 9223372036854775807) ∧ (-9223372036854775808 ≤ z ∧ z ≤ 9223372036854775807) ∧ -9223372036854775808 ≤ u ∧ u ≤ 9223372036854775807 := by
  obtain ⟨zs, hz, rfl, hr⟩ := open_arrI 4 hf hc hv h
  match zs, hz with
  | [x, y, z, u], _ => exact ⟨x, y, z, u, rfl, hr x (by simp), hr y (by simp), hr z (by simp), hr u (by simp)⟩
end Go.Proofs.Ytecmpjccdhmeeaa
end
section
/- Structs that came in as values. No program in sight. -/
namespace Go.Proofs.Ytecmpjccdhmeeaa
open Go.RowKit Go.WideShapes Go.ChangeShapes
theorem okWide_str {P : Program} {W : World} {r : Reach} {base : Nat} {t : TypeId} {v : Value} {fs : Sh} (hf : fitsB P (.agg fs) t = true) (hv : Value.okWide P W r base t v) : ∃ cs, v = .agg cs ∧ cs.size = P.cellsOf t := by
  unfold fitsB at hf
  split at hf
  · rename_i fl hu
    unfold Value.okWide at hv
    rw [hu] at hv
    obtain ⟨cs, h1, h2, _⟩ := hv
    exact ⟨cs, h1, h2⟩
  · cases hf
/-- Structs of ints alone. -/
def intsF : Nat → Nat → Sh
  | _, 0 => .fnil
  | i, n + 1 => .fcons i 1 (.int .i64) (intsF (i + 1) n)
theorem has_intsF {w : World} : ∀ (n i : Nat) (cs : List Value), (intsF i n).Has w cs → i + n = cs.length → ∃ zs : List Int, zs.length = n ∧ cs.drop i = zs.map (Value.int .i64) ∧ ∀ z ∈ zs, -9223372036854775808 ≤ z ∧ z ≤ 9223372036854775807
  | 0, i, cs, _, hl => ⟨[], rfl, by rw [List.drop_eq_nil_iff.2 (by omega)]; rfl, fun z hz => by cases hz⟩
  | n + 1, i, cs, h, hl => by
    obtain ⟨⟨z, hz, hw⟩, hr⟩ := h
    obtain ⟨zs, h1, h2, h3⟩ := has_intsF n (i + 1) cs hr (by omega)
    refine ⟨z :: zs, by simp [h1], ?_, fun y hy => ?_⟩
    · have hi : i < cs.length := by omega
      have h0 : cs[i]? = some (.int .i64 z) := by
        have := congrArg (·[0]?) hz
        simpa [List.getElem?_take, List.getElem?_drop] using this
      rw [List.getElem?_eq_getElem hi] at h0
      injection h0 with h0
      rw [List.drop_eq_getElem_cons hi, h0, h2]; rfl
    · rcases List.mem_cons.1 hy with rfl | hy
      · exact i64_range hw
      · exact h3 y hy
theorem open_strI {H : Type} {enc : TypeId × Value → H} {P : Program} {W : World} {r : Reach} {base : Nat} {t : TypeId} {v : Value} {d : DataW H} {p : List MemPlace} (n : Nat) (hf : fitsB P (.agg (intsF 0 n)) t = true) (hc : P.cellsOf t = n) (hv : Value.okWide P W r base t v)
    (h : DataW.Trod enc P W 0 (fun _ => true) true t v d p) : ∃ zs : List Int, zs.length = n ∧ v = .agg (zs.map (Value.int .i64)).toArray ∧ ∀ z ∈ zs, -9223372036854775808 ≤ z ∧ z ≤ 9223372036854775807 := by
  obtain ⟨cs, rfl, hs⟩ := okWide_str hf hv
  have hh := open_sh hf h
  obtain ⟨zs, h1, h2, h3⟩ := has_intsF n 0 cs.toList (by simpa [Value.cells, Sh.Has] using hh) (by simp; omega)
  refine ⟨zs, h1, ?_, h3⟩
  congr 1
  apply Array.ext'
  rw [← h2]
  simp
theorem open_str4 {H : Type} {enc : TypeId × Value → H} {P : Program} {W : World} {r : Reach} {base : Nat} {t : TypeId} {v : Value} {d : DataW H} {p : List MemPlace} (hf : fitsB P (.agg (intsF 0 4)) t = true) (hc : P.cellsOf t = 4) (hv : Value.okWide P W r base t v)
    (h : DataW.Trod enc P W 0 (fun _ => true) true t v d p) : ∃ x y z u : Int, v = .agg #[.int .i64 x, .int .i64 y, .int .i64 z, .int .i64 u] ∧ (-9223372036854775808 ≤ x ∧ x ≤ 9223372036854775807) ∧ (-9223372036854775808 ≤ y ∧ y ≤ 9223372036854775807) ∧ (-9223372036854775808 ≤ z ∧ z ≤ 9223372036854775807) ∧ -9223372036854775808 ≤ u ∧ u ≤ 9223372036854775807 := by
  obtain ⟨zs, hz, rfl, hr⟩ := open_strI 4 hf hc hv h
  match zs, hz with
  | [x, y, z, u], _ => exact ⟨x, y, z, u, rfl, hr x (by simp), hr y (by simp), hr z (by simp), hr u (by simp)⟩
end Go.Proofs.Ytecmpjccdhmeeaa
end
section
/- Tariffs and plans that came in. No program in sight. -/
namespace Go.Proofs.Ytecmpjccdhmeeaa
open Go.RowKit Go.WideShapes Go.ChangeShapes
def shTier : Sh := .agg (intsF 0 2)
def shTar : Sh := .agg (.fcons 0 1 (.int .i64) (.fcons 1 1 (.int .i64) (.fcons 2 1 (.int .i64) (.fcons 3 1 (.slice shTier 2) .fnil))))
def shPlan : Sh := .agg (.fcons 0 1 (.int .i64) (.fcons 1 1 (.int .i64) (.fcons 2 1 (.int .i64) (.fcons 3 4 shTar (.fcons 7 4 shTar .fnil)))))
theorem tier_elem {w : World} (cs' : List Value) (b off : Nat) (hl : cs'.length = 2) (hc : cellsAt w b off cs') (h : shTier.Has w cs') : ∃ t : Tr, cellsAt w b off (trCells t) := by
  obtain ⟨zs, h1, h2, _⟩ := has_intsF 2 0 cs' h (by omega)
  rw [List.drop_zero] at h2
  subst h2
  match zs, h1 with
  | [x, y], _ => exact ⟨⟨x, y⟩, hc⟩
/-- Tiers that came in: no more than there can be. -/
structure TsIn (w : World) (a : Option Addr) (c : Nat) (ts : List Tr) : Prop where
  at' : TsAt 0 w a ts
  cap : ts.length ≤ c
theorem has_tar {w : World} {cs : List Value} (hl : cs.length = 4) (h : shTar.Has w cs) : ∃ (t : Tar) (a : Option Addr) (c : Nat), cs = [.int .i64 t.grp, .int .i64 t.mode, .int .i64 t.block, .slice a t.ts.length c] ∧ TsIn w a c t.ts := by
  obtain ⟨⟨x, hx, _⟩, ⟨y, hy, _⟩, ⟨z, hz, _⟩, hs, _⟩ := h
  obtain ⟨ts, a, c, k1, k2, _, k3⟩ := has_rows (R := fun w b off x => cellsAt w b off (trCells x)) (by decide) tier_elem hs
  match cs, hl with
  | [v0, v1, v2, v3], _ =>
    simp at hx hy hz k1
    subst hx; subst hy; subst hz; subst k1
    exact ⟨⟨x, y, z, ts⟩, a, c, rfl, Rws.ofRows k3, k2⟩
theorem has_plan {w : World} {cs : List Value} (hl : cs.length = 11) (h : shPlan.Has w cs) :
    ∃ (p : Pl) (a a2 : Option Addr) (c c2 : Nat), Value.agg cs.toArray = planV p a c a2 c2 ∧ TsIn w a c p.base.ts ∧ TsIn w a2 c2 p.other.ts ∧ -9223372036854775808 ≤ p.day ∧ p.day ≤ 9223372036854775807 := by
  obtain ⟨⟨x, hx, wx⟩, ⟨y, hy, _⟩, ⟨z, hz, _⟩, h1, h2, _⟩ := h
  match cs, hl with
  | [v0, v1, v2, v3, v4, v5, v6, v7, v8, v9, v10], _ =>
    obtain ⟨t1, a, c, e1, k1⟩ := has_tar (by simp) h1
    obtain ⟨t2, a2, c2, e2, k2⟩ := has_tar (by simp) h2
    simp at hx hy hz e1 e2
    obtain ⟨rfl, rfl, rfl, rfl⟩ := e1
    obtain ⟨rfl, rfl, rfl, rfl⟩ := e2
    subst hx; subst hy; subst hz
    exact ⟨⟨x, y, z, t1, t2⟩, a, a2, c, c2, rfl, k1, k2, i64_range wx⟩
theorem open_plan {H : Type} {enc : TypeId × Value → H} {P : Program} {W : World} {r : Reach} {base : Nat} {t : TypeId} {v : Value} {d : DataW H} {p : List MemPlace} (hf : fitsB P shPlan t = true) (hc : P.cellsOf t = 11) (hv : Value.okWide P W r base t v) (h : DataW.Trod enc P W 0 (fun _ => true) true t v d p) :
    ∃ (q : Pl) (a a2 : Option Addr) (c c2 : Nat), v = planV q a c a2 c2 ∧ TsIn W a c q.base.ts ∧ TsIn W a2 c2 q.other.ts ∧ -9223372036854775808 ≤ q.day ∧ q.day ≤ 9223372036854775807 := by
  obtain ⟨cs, rfl, hs⟩ := okWide_str hf hv
  have hh := open_sh hf h
  obtain ⟨q, a, a2, c, c2, e, k⟩ := has_plan (cs := cs.toList) (by simp; omega) (by simpa [Value.cells] using hh)
  exact ⟨q, a, a2, c, c2, by simpa using e, k⟩
theorem open_tar {H : Type} {enc : TypeId × Value → H} {P : Program} {W : World} {r : Reach} {base : Nat} {t : TypeId} {v : Value} {d : DataW H} {p : List MemPlace} (hf : fitsB P shTar t = true) (hc : P.cellsOf t = 4) (hv : Value.okWide P W r base t v) (h : DataW.Trod enc P W 0 (fun _ => true) true t v d p) :
    ∃ (q : Tar) (a : Option Addr) (c : Nat), v = tarV q a c ∧ TsIn W a c q.ts := by
  obtain ⟨cs, rfl, hs⟩ := okWide_str hf hv
  have hh := open_sh hf h
  obtain ⟨q, a, c, e, k⟩ := has_tar (cs := cs.toList) (by simp; omega) (by simpa [Value.cells] using hh)
  refine ⟨q, a, c, ?_, k⟩
  unfold tarV
  congr 1
  apply Array.ext'
  rw [e]
end Go.Proofs.Ytecmpjccdhmeeaa
end
section
/- What the row of the top law of rates needs, together. -/
namespace Go.Proofs.Ytecmpjccdhmeeaa
end Go.Proofs.Ytecmpjccdhmeeaa
end
