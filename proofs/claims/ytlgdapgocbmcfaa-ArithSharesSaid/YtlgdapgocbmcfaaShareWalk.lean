/- 'total' and 'Share' of the code, walked. -/
import Derived.Test.YtlgdapgocbmcfaaSharePure
namespace Go.Proofs.Ytlgdapgocbmcfaa
open Go.RowKit
open Classical in
noncomputable def totV (ws : List Int) : Int := if (∀ w ∈ ws, 0 ≤ w) ∧ ws.sum ≤ 9223372036854775807 then ws.sum else 0
theorem totV_neg {ws : List Int} {w : Int} (h : w ∈ ws) (h0 : w < 0) : totV ws = 0 := by
  unfold totV; rw [if_neg]; intro ⟨h1, _⟩; have := h1 w h; omega
theorem totV_pos {ws : List Int} (h : ∀ w ∈ ws, 0 ≤ w) : fitV (total ws) = .tuple #[.int .i64 (totV ws), .bool (decide (ws.sum ≤ 9223372036854775807))] := by
  have h0 := sum_nonneg h
  rw [total_sum]
  unfold totV
  by_cases h1 : ws.sum ≤ 9223372036854775807
  · rw [if_pos ⟨h, h1⟩, decide_eq_true h1]; exact fitV_yes (by omega) h1
  · rw [if_neg (fun h2 => h1 h2.2), decide_eq_false h1]; exact fitV_no (by omega)
theorem totV_ok {a : Int} {ws : List Int} (h : shareOk a ws) : totV ws = ws.sum := by unfold totV; rw [if_pos ⟨h.2.1, h.2.2.2⟩]
theorem totV_no {a : Int} {ws : List Int} (h : ¬ shareOk a ws) : a < 0 ∨ totV ws < 1 := by
  by_cases h0 : a < 0
  · exact .inl h0
  · refine .inr ?_
    unfold totV
    split
    · rename_i h1
      refine Classical.byContradiction fun h2 => h ⟨by omega, h1.1, by omega, h1.2⟩
    · omega
theorem totV_range {ws : List Int} : 0 ≤ totV ws ∧ totV ws ≤ 9223372036854775807 := by
  unfold totV; split
  · rename_i h; exact ⟨sum_nonneg h.1, h.2⟩
  · omega
set_option maxRecDepth 100000 in
set_option maxHeartbeats 2000000 in
theorem atotal_any (a : Option Addr) (cap : Nat) (ws : List Int) (w : World) (hi : ints ws) (hl : ws.length ≤ 1000000) (hr : RowAt w a (ws.map iV)) :
    Calls Try.prog 73 #[.slice a ws.length cap] w fun e w' => e = .returned (.int .i64 (totV ws)) ∧ w' = w := by
  have HR := Box.mk hr; have HI := Box.mk hi; have HL := Box.mk hl
  clear hr hi
  go_enter Try.func73, Try.ntmps73
  go_wp2_with fail
  go_loop [4,9,10,11,12,13,14,15] (fun _ t9 _ _ _ _ _ _ => ∃ k : Nat, k ≤ ws.length ∧ t9 = .int .i64 k ∧ Box (∀ x ∈ ws.take k, 0 ≤ x)) (fun _ t9 _ _ _ _ _ _ => ws.length - (intOf t9).toNat)
  case atStart => exact ⟨0, by omega, rfl, ⟨by simp⟩⟩
  case round =>
    obtain ⟨k, hk, rfl, hp⟩ := hrel
    by_cases hlt : k < ws.length
    · obtain ⟨b, off, rfl, hc⟩ := HR.out.int hlt
      have hT := List.take_succ_eq_append_getElem hlt
      have hm := Box.mk (List.getElem_mem hlt)
      have HT := Box.mk hT; clear hT
      generalize ws[k] = x at *
      by_cases hx : x < 0
      · have HZ := Box.mk (totV_neg hm.out hx)
        go_wp2_with fail
        go_ret
        exact ⟨by rw [HZ.out]; rfl, rfl⟩
      · go_wp2_with fail
        go_round
        case rel =>
          refine ⟨k + 1, by omega, by go_num, ⟨fun y hy => ?_⟩⟩
          rw [HT.out, List.mem_append] at hy
          rcases hy with hy | hy
          · exact hp.out y hy
          · rw [List.mem_singleton] at hy; omega
        case measure => simp [intOf]; omega
    · obtain rfl : k = ws.length := by omega
      have HP := Box.mk (totV_pos (ws := ws) (by rw [List.take_length] at hp; exact hp.out))
      go_wp2_with fail
      refine (aSum_any a cap ws w _ HP.out.symm HI.out HL.out HR.out).mono ?_
      rintro e W ⟨rfl, rfl⟩
      go_wp2
      go_ret
      exact ⟨rfl, rfl⟩
theorem share_left {a : Int} {ws : List Int} (h : shareOk a ws) (k : Nat) : 0 ≤ a - ((shareP a ws).take k).sum ∧ a - ((shareP a ws).take k).sum ≤ a := by
  have hs := share_start h
  have h1 := hs.sum
  have h2 := hs.l0
  have h3 := sum_nonneg (ws := (shareP a ws).take k) fun x hx => hs.nn x (List.mem_of_mem_take hx)
  have h4 := sum_nonneg (ws := (shareP a ws).drop k) fun x hx => hs.nn x (List.mem_of_mem_drop hx)
  have h5 : (shareP a ws).sum = ((shareP a ws).take k).sum + ((shareP a ws).drop k).sum := by
    conv => lhs; rw [← List.take_append_drop k (shareP a ws)]
    rw [List.sum_append]
  omega
theorem share_take {a : Int} {ws : List Int} {k : Nat} (h : k < ws.length) : (shareP a ws).take (k + 1) = (shareP a ws).take k ++ [quot a ws.sum ws[k]] := by
  unfold shareP
  rw [List.take_succ_eq_append_getElem (by rw [List.length_map]; exact h), List.getElem_map]
theorem partT_ok {a : Int} {ws : List Int} (h : shareOk a ws) (ha : a ≤ 9223372036854775807) {x : Int} (hx : x ∈ ws) : ∃ r, partT a x ws.sum = .tuple #[.int .i64 (quot a ws.sum x), .int .i64 r, .bool true] := by
  obtain ⟨h0, h1, h2, h3⟩ := h
  have w0 := h1 x hx
  have hq := (quot_range ⟨h0, h1, h2, h3⟩ hx).2
  have : partB a x ws.sum = true := by unfold partB; exact decide_eq_true ⟨h0, w0, h2, by unfold quot at hq; omega⟩
  exact ⟨_, by unfold partT; rw [if_pos this]; rfl⟩
theorem Src.built {P : Program} {W : World} {tx e' e : TypeId} (hk : P.underlying tx = some (.slice e')) (x : Value) (h1 : x.oneCell' = true) :
    Src P 1 tx (.slice (some ⟨W.heap.size, 0, none⟩) 1 1) 1 [x] (W.alloc (.cells #[x] e)) :=
  Src.ofRow hk (some ⟨W.heap.size, 0, none⟩) 1 [x] (RowAt.ofWhole (vs := [x]) (al_new rfl)) (by simpa using h1)
theorem below_app {W W1 w1 : World} {base : Nat} {e : TypeId} {size : Nat} {v : Value} {n : Nat} {xs : List Value} {o : Obj} (hb : Below base W W1) (ho : Own W1 base e size v n xs) (hs : base ≤ W1.heap.size) (hg : (W1.alloc o).grownBy w1 v.ownBlock) : Below base W w1 :=
  (hb.alloc hs o).grown hg (by simp; omega) (fun g h => (ho.lt g h).1)
theorem bump_nn (l : Int) (ws xs : List Int) (h : ∀ x ∈ xs, 0 ≤ x) : ∀ x ∈ bump l ws xs, 0 ≤ x := by
  induction xs generalizing l ws with
  | nil => intro x hx; cases ws <;> cases hx
  | cons y xs ih =>
    have h0 := h y (by simp)
    have ih' := fun l ws => ih l ws fun x hx => h x (by simp [hx])
    cases ws with
    | nil => exact h
    | cons w ws =>
      simp only [bump]
      split
      · split
        · intro x hx
          rcases List.mem_cons.1 hx with rfl | hx
          · omega
          · exact ih' _ _ x hx
        · intro x hx
          rcases List.mem_cons.1 hx with rfl | hx
          · omega
          · exact ih' _ _ x hx
      · exact h
theorem share_ints {a : Int} {ws : List Int} (h : shareOk a ws) (ha : a ≤ 9223372036854775807) : ints (shareL a ws) := by
  have h1 : ∀ x ∈ shareL a ws, 0 ≤ x := bump_nn _ _ _ (share_start h).nn
  intro x hx
  have h2 := mem_le_sum h1 hx
  rw [share_sum h] at h2
  exact ⟨by have := h1 x hx; omega, by omega⟩
set_option maxRecDepth 100000 in
set_option maxHeartbeats 4000000 in
theorem aShare_no (a : Int) (ad : Option Addr) (cap : Nat) (ws : List Int) (w : World) (hi : ints ws) (hl : ws.length ≤ 1000000) (hr : RowAt w ad (ws.map iV)) (h : ¬ shareOk a ws) :
    Calls Try.prog 52 #[.int .i64 a, .slice ad ws.length cap] w fun e w' => e = .returned (.tuple #[.slice none 0 0, .bool false]) ∧ w' = w := by
  have HT := Box.mk (fun w => atotal_any ad cap ws w hi hl)
  have HR := Box.mk hr
  have hn := totV_no h
  clear hi hl hr h
  generalize totV ws = t at *
  go_enter Try.func52, Try.ntmps52
  go_wp2_with fail
  refine (HT.out _ HR.out).mono ?_
  rintro e W ⟨rfl, rfl⟩
  by_cases h0 : a < 0
  · clear hn
    go_wp2
    go_ret2
    exact ⟨rfl, rfl⟩
  · have h1 : t < 1 := by omega
    clear hn
    go_wp2
    go_ret2
    exact ⟨rfl, rfl⟩
set_option maxRecDepth 100000 in
set_option maxHeartbeats 4000000 in
theorem aShare_yes (a : Int) (ha : a ≤ 9223372036854775807) (ad : Option Addr) (cap : Nat) (ws : List Int) (w : World) (hi : ints ws) (hl : ws.length ≤ 1000000) (hr : RowAt w ad (ws.map iV)) (h : shareOk a ws) :
    Calls Try.prog 52 #[.int .i64 a, .slice ad ws.length cap] w fun e w' => ∃ v, e = .returned (.tuple #[v, .bool true]) ∧ Own w' w.heap.size 3 1 v ws.length ((shareL a ws).map iV) ∧ Below w.heap.size w w' := by
  have HT := Box.mk (fun w => atotal_any ad cap ws w hi hl)
  have HR := Box.mk hr
  have HTV := Box.mk (totV_ok h)
  have h0 : ¬ a < 0 := by have := h.1; omega
  have HA := Box.mk ha; have HOK := Box.mk h; have HI := Box.mk hi; have HL := Box.mk hl
  obtain ⟨s, hs⟩ : ∃ s, s = ws.sum := ⟨_, rfl⟩
  have hs1 : ¬ s < 1 := by have := h.2.2.1; omega
  have HSr := Box.mk h.2.2.2
  rw [← hs] at HTV HSr
  have HS := Box.mk hs
  obtain ⟨i0, hi0, hz0, hz1, hz2⟩ := info_parts Try.infoInt
  have Hi := Box.mk hi0; have Hz0 := Box.mk hz0; have Hz1 := Box.mk hz1; have Hz2 := Box.mk hz2
  clear hi0 hz0 hz1 hz2 hi hr h ha hs
  go_enter Try.func52, Try.ntmps52
  go_wp2_with fail
  refine (HT.out _ HR.out).mono ?_
  rintro e W ⟨rfl, rfl⟩
  rw [HTV.out]
  go_upto_block 0 with fail
  go_cut [7, 8] (fun t7 t8 wx => t8 = .int .i64 (a - (shareP a ws).sum) ∧ Own wx W.heap.size 3 1 t7 ws.length ((shareP a ws).map iV) ∧ Below W.heap.size W wx)
  case first =>
    go_wp2_with fail
    go_loopw [7,8,10,11,12,13,26,27,28,29,30,31,32,33,34,35,36,37,38,39,40,41,42,43,44,45,46,47] (fun t7 t8 _ _ _ _ t26 _ _ _ _ _ _ _ _ _ _ _ _ _ _ _ _ _ _ _ _ _ wr => ∃ k : Nat, k ≤ ws.length ∧ t26 = .int .i64 k ∧ t8 = .int .i64 (a - ((shareP a ws).take k).sum) ∧ Own wr W.heap.size 3 1 t7 k (((shareP a ws).take k).map iV) ∧ Below W.heap.size W wr) (fun _ _ _ _ _ _ t26 _ _ _ _ _ _ _ _ _ _ _ _ _ _ _ _ _ _ _ _ _ _ => ws.length - (intOf t26).toNat)
    case atStart => exact ⟨0, by omega, rfl, by simp, Own.nil _ _ _ _, Below.refl _ _⟩
    case round =>
      obtain ⟨k, hk, rfl, rfl, ho, hb⟩ := hrel
      have HO := Box.mk ho; have HB := Box.mk hb; clear ho hb
      by_cases hlt : k < ws.length
      · obtain ⟨b, off, rfl, hc⟩ := (HR.out.below HB.out (Nat.le_refl _)).int hlt
        have HK := Box.mk (share_take (a := a) hlt)
        have hm := Box.mk (List.getElem_mem hlt)
        have hsl := share_left HOK.out k
        have hsl2 := share_left HOK.out (k + 1)
        obtain ⟨r, hp⟩ := partT_ok HOK.out HA.out hm.out
        have HX := Box.mk (HI.out _ hm.out)
        have HQ := Box.mk (quot_range HOK.out hm.out)
        rw [HK.out, List.sum_append, List.sum_singleton] at hsl2
        rw [← HS.out] at hp HK HQ hsl2
        have HP := Box.mk hp
        clear hp
        generalize ws[k] = x at *
        generalize quot a s x = q at *
        obtain ⟨l, hl⟩ : ∃ l, l = ((shareP a ws).take k).sum := ⟨_, rfl⟩
        rw [← hl] at hsl hsl2
        have hLd := Box.mk hl
        obtain ⟨ys, hys⟩ : ∃ ys, ys = ((shareP a ws).take k).map iV := ⟨_, rfl⟩
        rw [← hys] at HO
        have HYS := Box.mk hys
        rw [← hl]
        have hw1 : wrap64 (a - l - q) = a - l - q := by have := HA.out; unfold wrap64; omega
        clear hl hys
        go_wp2_with fail
        refine (aPart_any a x s ⟨by omega, HA.out⟩ HX.out ⟨by omega, HSr.out⟩ _ _ HP.out.symm).mono ?_
        rintro e W1 ⟨rfl, hb1⟩
        have HO1 := Box.mk (HO.out.below hb1 (Nat.le_refl _))
        have HB1 := Box.mk (HB.out.trans (hb1.mono HB.out.size))
        clear hb1 HO HB hc
        go_wp2_with (refine wpList_app rfl (.tmp 40) (.tmp 42) 22 22 rfl i0 _ 8 Try.underlying22 Hi.out Hz0.out Hz1.out Hz2.out rfl rfl (HO1.out.alloc _) _ rfl 1 [iV q] (Src.built Try.underlying22 (iV q) rfl) (by have := HL.out; unfold maxLen; omega) (by have := HL.out; omega) (by have := HB1.out.size; simp; omega) ?_)
        intro v1 w1 ho1 hg1 hn1
        have HB2 := Box.mk (below_app HB1.out HO1.out HB1.out.size hg1)
        have HO2 := Box.mk ho1
        clear ho1 hg1 hn1
        go_wp2
        go_roundw
        case rel => exact ⟨k + 1, by omega, by go_num, by rw [HK.out, List.sum_append, List.sum_singleton, ← hLd.out]; congr 1; omega, by rw [HK.out, List.map_append, ← HYS.out]; exact HO2.out, HB2.out⟩
        case measure => simp [intOf]; omega
      · obtain rfl : k = ws.length := by omega
        have ht : (shareP a ws).take ws.length = shareP a ws := List.take_of_length_le (by simp [shareP])
        rw [ht] at HO
        rw [ht]
        clear ht
        go_wp2
        go_meet
        case rel => exact ⟨rfl, HO.out, HB.out⟩
  case rest =>
    obtain ⟨rfl, ho, hb⟩ := hcut
    have HO := Box.mk ho; have HB := Box.mk hb
    clear ho hb HTV h0 hs1 HSr
    obtain ⟨ad1, c1, rfl⟩ := HO.out.isSlice
    have hn0 : 0 < ws.length := by
      have := HOK.out.2.2.1
      cases ws with
      | nil => simp at this
      | cons x ws => simp
    obtain ⟨g, off1, rfl, hg1, hg2⟩ := HO.out.someAddr hn0
    have hcap := HO.out.cap
    have n1 : (0 : Int) < (ws.length : Int) := by omega
    have n2 : (ws.length : Int) ≤ (c1 : Int) := by omega
    have HG := Box.mk hg1
    clear hg1 hg2 hcap hn0
    go_wp2_with fail
    go_loopw [8,14,48,49,50,51,52,53,54,55,56,57,58,59,60,61,62,63,64] (fun t8 t14 _ _ _ _ _ _ _ _ _ _ _ _ _ _ _ _ _ wr => ∃ (i : Nat) (l : Int) (xs : List Int), t14 = .int .i64 i ∧ t8 = .int .i64 l ∧ BumpI a ws (shareL a ws) i l xs ∧ Own wr W.heap.size 3 1 (.slice (some ⟨g, off1, none⟩) ws.length c1) ws.length (xs.map iV) ∧ Below W.heap.size W wr) (fun _ t14 _ _ _ _ _ _ _ _ _ _ _ _ _ _ _ _ _ _ => ws.length - (intOf t14).toNat)
    case atStart => exact ⟨0, _, shareP a ws, rfl, rfl, share_start HOK.out, HO.out, HB.out⟩
    case round =>
      obtain ⟨i, l, xs, rfl, rfl, hI, ho, hb⟩ := hrel
      have HI2 := Box.mk hI; have HO2 := Box.mk ho; have HB2 := Box.mk hb
      clear hI ho hb
      by_cases hl0 : 0 < l
      · have hi := HI2.out.lt hl0
        have hi2 : i < xs.length := by rw [HI2.out.len]; exact hi
        obtain ⟨N1, N2⟩ := HI2.out.next hl0 hi hi2
        obtain ⟨b, off, rfl, hc⟩ := (HR.out.below HB2.out (Nat.le_refl _)).int hi
        have hx : wr.cell? ⟨g, off1 + i, none⟩ = some (.int .i64 xs[i]) := HO2.out.cells g off1 c1 rfl i _ (by rw [List.getElem?_map, List.getElem?_eq_getElem hi2]; rfl)
        have hfz : wr.frozen? ⟨g, off1 + i, none⟩ = false := HO2.out.notFrozen _
        have HN1 := Box.mk N1; have HN2 := Box.mk N2
        clear N1 N2
        have HS1 := fun u => Box.mk (HO2.out.setCell1 (i := i) u)
        have HX0 := Box.mk (HI2.out.l1)
        have HLa : l ≤ a := by
          have h1 := HI2.out.sum; have h2 := sum_nonneg HI2.out.nn; omega
        have i0 : (0 : Int) ≤ (i : Int) := by omega
        have i1 : (i : Int) < (ws.length : Int) := by omega
        by_cases hw : 0 < ws[i]
        · obtain ⟨N1, x0, x1⟩ := HN1.out hw
          have HN := Box.mk N1
          clear N1
          generalize ws[i] = x at *
          generalize xs[i] = y at *
          have y1 : y + 1 ≤ 9223372036854775807 := by have := HA.out; omega
          have l1 : l ≤ 9223372036854775807 := by have := HA.out; omega
          go_wp2
          go_roundw
          case rel => exact ⟨i + 1, l - 1, _, by go_num, rfl, HN.out, by rw [List.map_set]; exact (HS1 _).out, HB2.out.setCell (p := ⟨g, off1 + i, none⟩) HG.out _⟩
          case measure => simp [intOf]; omega
        · have HN := Box.mk (HN2.out hw)
          generalize ws[i] = x at *
          go_wp2
          go_roundw
          case rel => exact ⟨i + 1, l, xs, by go_num, rfl, HN.out, HO2.out, HB2.out⟩
          case measure => simp [intOf]; omega
      · have HD := Box.mk (HI2.out.done (by omega))
        go_wp2
        go_ret2
        exact ⟨_, rfl, by rw [← HD.out]; exact HO2.out, HB2.out⟩
set_option maxRecDepth 100000 in
set_option maxHeartbeats 4000000 in
theorem rShare_no (a : Int) (ad : Option Addr) (cap : Nat) (ws : List Int) (w : World) (hi : ints ws) (hl : ws.length ≤ 1000000) (hr : RowAt w ad (ws.map iV)) (h : ¬ shareOk a ws) :
    Calls Try.prog 53 #[.int .i64 a, .slice ad ws.length cap] w fun e w' => e = .returned (.tuple #[.slice none 0 0, .bool false]) ∧ Below w.heap.size w w' := by
  obtain ⟨s, o, hf, ho⟩ : ∃ s o, fitV (total ws) = .tuple #[.int .i64 s, .bool o] ∧ (o = true → s = ws.sum ∧ ws.sum ≤ 9223372036854775807) := by
    rw [total_sum]
    refine ⟨_, _, rfl, fun h => ?_⟩
    rw [if_pos h]
    unfold fitB at h
    exact ⟨rfl, (of_decide_eq_true h).2⟩
  have HF := Box.mk hf; have HOO := Box.mk ho; have HR := Box.mk hr; have HI := Box.mk hi; have HL := Box.mk hl; have HNO := Box.mk h
  clear hf ho hr hi h
  go_enter Try.func53, Try.ntmps53
  go_wp2_with fail
  refine (rSum_any ad cap ws _ _ HF.out.symm HI.out HL.out HR.out).mono ?_
  rintro e W ⟨rfl, hb⟩
  have HBW := Box.mk hb
  have HRW := Box.mk (HR.out.below hb (Nat.le_refl _))
  clear hb
  go_wp2_with fail
  go_loop [7,8,21,22,23,24,25,26,27,28,29,30,31,32,33,34] (fun t7 t8 _ _ _ _ _ _ _ _ _ _ _ _ _ _ => ∃ (k : Nat) (b : Bool), k ≤ ws.length ∧ t8 = .int .i64 k ∧ t7 = .bool b ∧ Box (b = true → o = true ∧ ∀ x ∈ ws.take k, 0 ≤ x)) (fun _ t8 _ _ _ _ _ _ _ _ _ _ _ _ _ _ => ws.length - (intOf t8).toNat)
  case atStart => exact ⟨0, o, by omega, rfl, rfl, ⟨fun h => ⟨h, by simp⟩⟩⟩
  case round =>
    obtain ⟨k, b, hk, rfl, rfl, hp⟩ := hrel
    by_cases hlt : k < ws.length
    · cases b with
      | false =>
        go_wp2
        go_round
        case rel => exact ⟨k + 1, false, by omega, by go_num, rfl, ⟨fun h => by cases h⟩⟩
        case measure => simp [intOf]; omega
      | true =>
        obtain ⟨bb, off, rfl, hc⟩ := HRW.out.int hlt
        have HT := Box.mk (List.take_succ_eq_append_getElem hlt)
        generalize ws[k] = x at *
        by_cases hx : 0 ≤ x
        · go_wp2
          go_round
          case rel =>
            refine ⟨k + 1, true, by omega, by go_num, rfl, ⟨fun h => ⟨(hp.out h).1, fun y hy => ?_⟩⟩⟩
            rw [HT.out, List.mem_append] at hy
            rcases hy with hy | hy
            · exact (hp.out h).2 y hy
            · rw [List.mem_singleton] at hy; omega
          case measure => simp [intOf]; omega
        · go_wp2
          go_round
          case rel => exact ⟨k + 1, false, by omega, by go_num, rfl, ⟨fun h => by cases h⟩⟩
          case measure => simp [intOf]; omega
    · obtain rfl : k = ws.length := by omega
      rw [List.take_length] at hp
      cases b with
      | false =>
        go_wp2
        go_ret2
        exact ⟨rfl, HBW.out⟩
      | true =>
        by_cases ha : a < 0
        · go_wp2
          go_ret2
          exact ⟨rfl, HBW.out⟩
        · obtain ⟨p1, p2⟩ := hp.out rfl
          obtain ⟨p3, p4⟩ := HOO.out p1
          have hs0 : s = 0 := by
            have h5 := sum_nonneg p2
            refine Classical.byContradiction fun h6 => HNO.out ⟨by omega, p2, by omega, p4⟩
          subst hs0
          clear p3 p4
          go_wp2
          go_ret2
          exact ⟨rfl, HBW.out⟩
set_option maxRecDepth 100000 in
set_option maxHeartbeats 4000000 in
theorem rShare_yes (a : Int) (ha : a ≤ 9223372036854775807) (ad : Option Addr) (cap : Nat) (ws : List Int) (w : World) (hi : ints ws) (hl : ws.length ≤ 1000000) (hr : RowAt w ad (ws.map iV)) (h : shareOk a ws) :
    Calls Try.prog 53 #[.int .i64 a, .slice ad ws.length cap] w fun e w' => ∃ v, e = .returned (.tuple #[v, .bool true]) ∧ Own w' w.heap.size 3 1 v ws.length ((shareL a ws).map iV) ∧ Below w.heap.size w w' := by
  have hf : fitV (total ws) = .tuple #[.int .i64 ws.sum, .bool true] := by rw [total_sum]; exact fitV_yes (by have := h.2.2.1; omega) h.2.2.2
  have HR0 := Box.mk hr
  have h0 : ¬ a < 0 := by have := h.1; omega
  have HA := Box.mk ha; have HOK := Box.mk h; have HI := Box.mk hi; have HL := Box.mk hl
  obtain ⟨s, hs⟩ : ∃ s, s = ws.sum := ⟨_, rfl⟩
  rw [← hs] at hf
  have HF := Box.mk hf
  have hs1 : 1 ≤ s := by have := h.2.2.1; omega
  have hs2 : (s == 0) = false := by simp; omega
  have HSr := Box.mk h.2.2.2
  rw [← hs] at HSr
  have HS := Box.mk hs
  obtain ⟨i0, hi0, hz0, hz1, hz2⟩ := info_parts Try.infoInt
  have Hi := Box.mk hi0; have Hz0 := Box.mk hz0; have Hz1 := Box.mk hz1; have Hz2 := Box.mk hz2
  clear hi0 hz0 hz1 hz2 hi hr h ha hs hf
  go_enter Try.func53, Try.ntmps53
  go_wp2_with fail
  refine (rSum_any ad cap ws _ _ HF.out.symm HI.out HL.out HR0.out).mono ?_
  rintro e W ⟨rfl, hb⟩
  have HBW := Box.mk hb
  have HRW := Box.mk (HR0.out.below hb (Nat.le_refl _))
  clear hb
  go_upto_block 0 with fail
  go_cut [7] (fun t7 wx => t7 = .bool true ∧ W = wx)
  case first =>
    go_wp2_with fail
    go_loop [7,8,21,22,23,24,25,26,27,28,29,30,31,32,33,34] (fun t7 t8 _ _ _ _ _ _ _ _ _ _ _ _ _ _ => ∃ (k : Nat), k ≤ ws.length ∧ t8 = .int .i64 k ∧ t7 = .bool true) (fun _ t8 _ _ _ _ _ _ _ _ _ _ _ _ _ _ => ws.length - (intOf t8).toNat)
    case atStart => exact ⟨0, by omega, rfl, rfl⟩
    case round =>
      obtain ⟨k, hk, rfl, rfl⟩ := hrel
      by_cases hlt : k < ws.length
      · obtain ⟨bb, off, rfl, hc⟩ := HRW.out.int hlt
        have hx := HOK.out.2.1 _ (List.getElem_mem hlt)
        generalize ws[k] = x at *
        go_wp2
        go_round
        case rel => exact ⟨k + 1, by omega, by go_num, rfl⟩
        case measure => simp [intOf]; omega
      · go_wp2
        go_meet
        case rel => exact ⟨rfl, rfl⟩
  case rest =>
  obtain ⟨rfl, rfl⟩ := hcut
  go_upto_block 2 with fail
  go_cut [9, 10] (fun t9 t10 wx => t10 = .int .i64 (a - (shareP a ws).sum) ∧ Own wx w.heap.size 3 1 t9 ws.length ((shareP a ws).map iV) ∧ Below w.heap.size w wx)
  case first =>
    go_wp2_with fail
    go_loopw [9,10,11,12,13,14,46,47,48,49,50,51,52,53,54,55,56,57,58,59,60,61,62,63,64,65,66,67,68,69] (fun t9 t10 t11 _ _ _ _ _ _ _ _ _ _ _ _ _ _ _ _ _ _ _ _ _ _ _ _ _ _ _ wr => ∃ k : Nat, k ≤ ws.length ∧ t11 = .int .i64 k ∧ t10 = .int .i64 (a - ((shareP a ws).take k).sum) ∧ Own wr w.heap.size 3 1 t9 k (((shareP a ws).take k).map iV) ∧ Below w.heap.size w wr) (fun _ _ t11 _ _ _ _ _ _ _ _ _ _ _ _ _ _ _ _ _ _ _ _ _ _ _ _ _ _ _ _ => ws.length - (intOf t11).toNat)
    case atStart => exact ⟨0, by omega, rfl, by simp, Own.nil _ _ _ _, HBW.out⟩
    case round =>
      obtain ⟨k, hk, rfl, rfl, ho, hb⟩ := hrel
      have HO := Box.mk ho; have HB := Box.mk hb; clear ho hb
      by_cases hlt : k < ws.length
      · obtain ⟨b, off, rfl, hc⟩ := (HR0.out.below HB.out (Nat.le_refl _)).int hlt
        have HK := Box.mk (share_take (a := a) hlt)
        have hm := Box.mk (List.getElem_mem hlt)
        have hsl := share_left HOK.out k
        have hsl2 := share_left HOK.out (k + 1)
        obtain ⟨r, hp⟩ := partT_ok HOK.out HA.out hm.out
        have HX := Box.mk (HI.out _ hm.out)
        have HQ := Box.mk (quot_range HOK.out hm.out)
        rw [HK.out, List.sum_append, List.sum_singleton] at hsl2
        rw [← HS.out] at hp HK HQ hsl2
        have HP := Box.mk hp
        clear hp
        generalize ws[k] = x at *
        generalize quot a s x = q at *
        obtain ⟨l, hl⟩ : ∃ l, l = ((shareP a ws).take k).sum := ⟨_, rfl⟩
        rw [← hl] at hsl hsl2
        have hLd := Box.mk hl
        obtain ⟨ys, hys⟩ : ∃ ys, ys = ((shareP a ws).take k).map iV := ⟨_, rfl⟩
        rw [← hys] at HO
        have HYS := Box.mk hys
        rw [← hl]
        have hw1 : wrap64 (a - l - q) = a - l - q := by have := HA.out; unfold wrap64; omega
        clear hl hys
        go_wp2_with fail
        refine (rPart_any a x s ⟨by omega, HA.out⟩ HX.out ⟨by omega, HSr.out⟩ _ _ HP.out.symm).mono ?_
        rintro e W1 ⟨rfl, hb1⟩
        have HO1 := Box.mk (HO.out.below hb1 (Nat.le_refl _))
        have HB1 := Box.mk (HB.out.trans (hb1.mono HB.out.size))
        clear hb1 HO HB hc
        go_wp2_with (refine wpList_app rfl (.tmp 63) (.tmp 65) 22 22 rfl i0 _ 8 Try.underlying22 Hi.out Hz0.out Hz1.out Hz2.out rfl rfl (HO1.out.alloc _) _ rfl 1 [iV q] (Src.built Try.underlying22 (iV q) rfl) (by have := HL.out; unfold maxLen; omega) (by have := HL.out; omega) (by have := HB1.out.size; simp; omega) ?_)
        intro v1 w1 ho1 hg1 hn1
        have HB2 := Box.mk (below_app HB1.out HO1.out HB1.out.size hg1)
        have HO2 := Box.mk ho1
        clear ho1 hg1 hn1
        go_wp2
        go_roundw
        case rel => exact ⟨k + 1, by omega, by go_num, by rw [HK.out, List.sum_append, List.sum_singleton, ← hLd.out]; congr 1; omega, by rw [HK.out, List.map_append, ← HYS.out]; exact HO2.out, HB2.out⟩
        case measure => simp [intOf]; omega
      · obtain rfl : k = ws.length := by omega
        have ht : (shareP a ws).take ws.length = shareP a ws := List.take_of_length_le (by simp [shareP])
        rw [ht] at HO
        rw [ht]
        clear ht
        go_wp2
        go_meet
        case rel => exact ⟨rfl, HO.out, HB.out⟩
  case rest =>
    obtain ⟨rfl, ho, hb⟩ := hcut
    have HO := Box.mk ho; have HB := Box.mk hb
    clear ho hb h0 hs1 HSr
    obtain ⟨ad1, c1, rfl⟩ := HO.out.isSlice
    have hn0 : 0 < ws.length := by
      have := HOK.out.2.2.1
      cases ws with
      | nil => simp at this
      | cons x ws => simp
    obtain ⟨g, off1, rfl, hg1, hg2⟩ := HO.out.someAddr hn0
    have hcap := HO.out.cap
    have n1 : (0 : Int) < (ws.length : Int) := by omega
    have n2 : (ws.length : Int) ≤ (c1 : Int) := by omega
    have HG := Box.mk hg1
    clear hg1 hg2 hcap hn0
    go_wp2_with fail
    go_loopw [10,15,70,71,72,73,74,75,76,77,78,79,80,81,82,83,84,85,86] (fun t10 t15 _ _ _ _ _ _ _ _ _ _ _ _ _ _ _ _ _ wr => ∃ (i : Nat) (l : Int) (xs : List Int), t15 = .int .i64 i ∧ t10 = .int .i64 l ∧ BumpI a ws (shareL a ws) i l xs ∧ Own wr w.heap.size 3 1 (.slice (some ⟨g, off1, none⟩) ws.length c1) ws.length (xs.map iV) ∧ Below w.heap.size w wr) (fun _ t15 _ _ _ _ _ _ _ _ _ _ _ _ _ _ _ _ _ _ => ws.length - (intOf t15).toNat)
    case atStart => exact ⟨0, _, shareP a ws, rfl, rfl, share_start HOK.out, HO.out, HB.out⟩
    case round =>
      obtain ⟨i, l, xs, rfl, rfl, hI, ho, hb⟩ := hrel
      have HI2 := Box.mk hI; have HO2 := Box.mk ho; have HB2 := Box.mk hb
      clear hI ho hb
      by_cases hl0 : 0 < l
      · have hi := HI2.out.lt hl0
        have hi2 : i < xs.length := by rw [HI2.out.len]; exact hi
        obtain ⟨N1, N2⟩ := HI2.out.next hl0 hi hi2
        obtain ⟨b, off, rfl, hc⟩ := (HR0.out.below HB2.out (Nat.le_refl _)).int hi
        have hx : wr.cell? ⟨g, off1 + i, none⟩ = some (.int .i64 xs[i]) := HO2.out.cells g off1 c1 rfl i _ (by rw [List.getElem?_map, List.getElem?_eq_getElem hi2]; rfl)
        have hfz : wr.frozen? ⟨g, off1 + i, none⟩ = false := HO2.out.notFrozen _
        have HN1 := Box.mk N1; have HN2 := Box.mk N2
        clear N1 N2
        have HS1 := fun u => Box.mk (HO2.out.setCell1 (i := i) u)
        have HX0 := Box.mk (HI2.out.l1)
        have HLa : l ≤ a := by
          have h1 := HI2.out.sum; have h2 := sum_nonneg HI2.out.nn; omega
        have i0 : (0 : Int) ≤ (i : Int) := by omega
        have i1 : (i : Int) < (ws.length : Int) := by omega
        by_cases hw : 0 < ws[i]
        · obtain ⟨N1, x0, x1⟩ := HN1.out hw
          have HN := Box.mk N1
          clear N1
          generalize ws[i] = x at *
          generalize xs[i] = y at *
          have y1 : y + 1 ≤ 9223372036854775807 := by have := HA.out; omega
          have l1 : l ≤ 9223372036854775807 := by have := HA.out; omega
          go_wp2
          go_roundw
          case rel => exact ⟨i + 1, l - 1, _, by go_num, rfl, HN.out, by rw [List.map_set]; exact (HS1 _).out, HB2.out.setCell (p := ⟨g, off1 + i, none⟩) HG.out _⟩
          case measure => simp [intOf]; omega
        · have HN := Box.mk (HN2.out hw)
          generalize ws[i] = x at *
          go_wp2
          go_roundw
          case rel => exact ⟨i + 1, l, xs, by go_num, rfl, HN.out, HO2.out, HB2.out⟩
          case measure => simp [intOf]; omega
      · have HD := Box.mk (HI2.out.done (by omega))
        go_wp2
        go_ret2
        exact ⟨_, rfl, by rw [← HD.out]; exact HO2.out, HB2.out⟩
end Go.Proofs.Ytlgdapgocbmcfaa
