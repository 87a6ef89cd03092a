/- New, Last, Len, Keep of a window, walked. -/
import Derived.Test.YtjjmhmbmjpedkaaWinPart
namespace Go.Proofs.Ytjjmhmbmjpedkaa
open Go.RowKit
/-- A window under way: what it owns lies in L, or is new. -/
structure WinRaw (w : World) (L : List Nat) (n0 p : Nat) (mo : Int) (st : Bool) (la : Int) (es : List Ent) (kv : Value) (xs : List Value) (M : List Nat) : Prop where
  bk : Bk w p #[.int .i64 mo, .bool st, .int .i64 la, kv] 93
  own : Own w 0 96 3 kv es.length xs
  ents : EntsOk w M es xs
  far : ∀ k ∈ M, (k ∈ L ∨ n0 ≤ k) ∧ k ≠ p ∧ kv.ownBlock ≠ some k
  mine : ∀ k, kv.ownBlock = some k → k ∈ L ∨ n0 ≤ k
  under : Under M w.heap.size
section
variable {w w' : World} {L M : List Nat} {n0 p : Nat} {mo la : Int} {st : Bool} {es : List Ent} {kv : Value} {xs : List Value}
theorem win_far {w : World} {p : Nat} {cs : Array Value} {kv : Value} {n : Nat} {xs : List Value} (h1 : Bk w p cs 93) (h2 : Own w 0 96 3 kv n xs) : kv.ownBlock ≠ some p := by
  intro h
  rcases h2.2 with ⟨rfl, _⟩ | ⟨g', off, cap, cur, rfl, hb, hg, _⟩
  · cases h
  · simp [Value.ownBlock] at h
    subst h
    unfold Bk at h1
    rw [h1] at hg
    injection hg with hg
    injection hg with h3 h4 h5
    exact absurd h4 (by decide)
theorem WinAt.raw {s : Win} (h : WinAt w L p s) (n0 : Nat) : ∃ kv xs M, WinRaw w L n0 p s.most s.strict s.last s.ents kv xs M := by
  obtain ⟨⟨kv, xs, M, h1, h2, h3, h4, h5⟩, hm, hu, ho⟩ := h
  exact ⟨kv, xs, M, h1, h2, h3, fun k hk => ⟨.inl (h4 k hk).1, (h4 k hk).2⟩, fun k hk => .inl (h5 k hk), fun k hk => hu k (h4 k hk).1⟩
theorem WinRaw.below (h : WinRaw w L n0 p mo st la es kv xs M) (hb : Below w.heap.size w w') : WinRaw w' L n0 p mo st la es kv xs M :=
  ⟨h.bk.keep (hb.block p h.bk.lt), h.own.below hb (Nat.le_refl _), h.ents.keep fun k hk => hb.block k (h.under k hk), h.far, h.mine, h.under.mono hb.size⟩
theorem WinRaw.alloc (h : WinRaw w L n0 p mo st la es kv xs M) (o : Obj) : WinRaw (w.alloc o) L n0 p mo st la es kv xs M := h.below (Below_one o)
/-- More bytes that a new entry may lie in. -/
theorem WinRaw.more (h : WinRaw w L n0 p mo st la es kv xs M) (B : List Nat) (hB : ∀ k ∈ B, n0 ≤ k ∧ k < w.heap.size ∧ k ≠ p ∧ kv.ownBlock ≠ some k) : WinRaw w L n0 p mo st la es kv xs (M ++ B) :=
  ⟨h.bk, h.own, h.ents.mono fun _ hk => List.mem_append_left _ hk, fun k hk => (List.mem_append.1 hk).elim (h.far k) fun hk => ⟨.inr (hB k hk).1, (hB k hk).2.2⟩, h.mine, fun k hk => (List.mem_append.1 hk).elim (h.under k) fun hk => (hB k hk).2.1⟩
/-- An entry is appended; the slice is stored. -/
theorem WinRaw.grow (h : WinRaw w L n0 p mo st la es kv xs M) {e : Ent} {a a' : Option Addr} {c c' : Nat} (h3 : In w M a e.req) (h4 : In w M a' e.ans) (h5 : e.req.length ≤ c) (h6 : e.ans.length ≤ c') (hn : n0 ≤ w.heap.size)
    {v1 : Value} (ho1 : Own w' 0 96 3 v1 (es.length + 1) (xs ++ cells3 e.num a e.req.length c a' e.ans.length c')) (hg : w.grownBy w' kv.ownBlock) (hn1 : v1.ownBlock = kv.ownBlock ∨ ∃ g, v1.ownBlock = some g ∧ w.heap.size ≤ g) :
    Bk w' p #[.int .i64 mo, .bool st, .int .i64 la, kv] 93 ∧ WinRaw (w'.setCell ⟨p, 3, none⟩ v1) L n0 p mo st la (es ++ [e]) v1 (xs ++ cells3 e.num a e.req.length c a' e.ans.length c') M := by
  have hne := win_far h.bk h.own
  have b1 := h.bk.keep (hg.block p h.bk.lt (fun e => hne e.symm))
  have hk1 : ∀ k, k ≠ p → (w'.setCell ⟨p, 3, none⟩ v1).heap[k]? = w'.heap[k]? := fun k hk => Below.heap_setCell _ _ _ _ hk
  have hfar : ∀ k ∈ M, v1.ownBlock ≠ some k := fun k hk e => by
    rcases hn1 with h1 | ⟨g, h1, hg1⟩
    · exact (h.far k hk).2.2 (h1 ▸ e)
    · rw [h1] at e; injection e with e; have := h.under k hk; omega
  refine ⟨b1, b1.setCell 3 v1, ?_, ?_, fun k hk => ⟨(h.far k hk).1, (h.far k hk).2.1, hfar k hk⟩, ?_, ?_⟩
  · rw [List.length_append]
    exact ho1.keep fun k hk => hk1 k fun e2 => win_far b1 ho1 (e2 ▸ hk)
  · have hM : ∀ k ∈ M, (w'.setCell ⟨p, 3, none⟩ v1).heap[k]? = w.heap[k]? := fun k hk => (hk1 k (h.far k hk).2.1).trans (hg.block k (h.under k hk) (fun e => (h.far k hk).2.2 e.symm))
    exact (h.ents.keep hM).app (h3.keep hM) (h4.keep hM) h5 h6
  · intro k hk
    rcases hn1 with h1 | ⟨g, h1, hg1⟩
    · exact h.mine k (h1 ▸ hk)
    · rw [h1] at hk; injection hk with hk; exact .inr (by omega)
  · exact (h.under.mono hg.size).mono (by simp)
/-- The first entry is cut off; the slice is stored. -/
theorem WinRaw.cut (h : WinRaw w L n0 p mo st la es kv xs M) (hne : 1 ≤ es.length) {v1 : Value} (ho1 : Own w 0 96 3 v1 (es.length - 1) (xs.drop 3)) (hv : v1.ownBlock = kv.ownBlock) :
    WinRaw (w.setCell ⟨p, 3, none⟩ v1) L n0 p mo st la (es.drop 1) v1 (xs.drop 3) M := by
  have hk1 : ∀ k, k ≠ p → (w.setCell ⟨p, 3, none⟩ v1).heap[k]? = w.heap[k]? := fun k hk => Below.heap_setCell _ _ _ _ hk
  refine ⟨h.bk.setCell 3 v1, ?_, (h.ents.drop1 hne).keep fun k hk => hk1 k (h.far k hk).2.1, by rw [hv]; exact h.far, by rw [hv]; exact h.mine, h.under.mono (by simp)⟩
  rw [List.length_drop]
  exact ho1.keep fun k hk => hk1 k fun e2 => win_far h.bk ho1 (e2 ▸ hk)
theorem WinRaw.setLast (h : WinRaw w L n0 p mo st la es kv xs M) (z : Int) : WinRaw (w.setCell ⟨p, 2, none⟩ (.int .i64 z)) L n0 p mo st z es kv xs M := by
  have hk1 : ∀ k, k ≠ p → (w.setCell ⟨p, 2, none⟩ (.int .i64 z)).heap[k]? = w.heap[k]? := fun k hk => Below.heap_setCell _ _ _ _ hk
  exact ⟨h.bk.setCell 2 (.int .i64 z), h.own.keep fun k hk => hk1 k fun e2 => win_far h.bk h.own (e2 ▸ hk), h.ents.keep fun k hk => hk1 k (h.far k hk).2.1, h.far, h.mine, h.under.mono (by simp)⟩
theorem WinRaw.at (h : WinRaw w L n0 p mo st la es kv xs M) (hp : p ∈ L) (ho : (Win.mk mo st la es).Ok) : ∃ L', WinAt w L' p ⟨mo, st, la, es⟩ ∧ Gr L L' n0 := by
  refine ⟨p :: (kv.ownBlock.toList ++ M), ⟨⟨kv, xs, M, h.bk, h.own, h.ents, fun k hk => ⟨by simp [hk], (h.far k hk).2⟩, fun k hk => by simp [hk]⟩, by simp, fun k hk => ?_, ho⟩, fun k hk => ?_⟩
  · rcases List.mem_cons.1 hk with rfl | hk
    · exact h.bk.lt
    · rcases List.mem_append.1 hk with hk | hk
      · exact (h.own.lt k (by simpa using hk)).2
      · exact h.under k hk
  · rcases List.mem_cons.1 hk with rfl | hk
    · exact .inl hp
    · rcases List.mem_append.1 hk with hk | hk
      · exact h.mine k (by simpa using hk)
      · exact (h.far k hk).1
end
/-- 'kept[1:]'. -/
theorem own_some {w : World} {b0 n c : Nat} {a : Option Addr} {xs : List Value} (hn : 1 ≤ n) (h : Own w b0 96 3 (.slice a n c) n xs) : ∃ g off, a = some ⟨g, off, none⟩ := by
  rcases h.2 with ⟨_, h0⟩ | ⟨g, off, cap, cur, hv, _⟩
  · omega
  injection hv with e1 e2 e3
  exact ⟨g, off, e1⟩
theorem own_cut {w : World} {b0 n c g off : Nat} {xs : List Value} (h : Own w b0 96 3 (.slice (some ⟨g, off, none⟩) (n + 1) c) (n + 1) xs) :
    (c = 1 → Own w b0 96 3 (.slice (some ⟨g, off, none⟩) n (c - 1)) n (xs.drop 3)) ∧ (c ≠ 1 → Own w b0 96 3 (.slice (some ⟨g, off + 3, none⟩) n (c - 1)) n (xs.drop 3)) := by
  rcases h.2 with ⟨_, h0⟩ | ⟨g, off, cap, cur, hv, hb, hg, h1, h2, h3, h4⟩
  · omega
  injection hv with e1 e2 e3
  injection e1 with e1
  injection e1 with e1 e4
  subst e1; subst e3; subst e4
  have hl : (xs.drop 3).length = n * 3 := by rw [List.length_drop, h.1]; omega
  have hx : ((cur.toList.drop (off + 3)).take (n * 3)) = xs.drop 3 := by
    rw [← h4, List.drop_take, List.drop_drop]
    congr 1; omega
  refine ⟨fun hc => ⟨hl, .inr ⟨_, off, c - 1, cur, rfl, hb, hg, by omega, by omega, by omega, ?_⟩⟩, fun hc => ⟨hl, .inr ⟨_, off + 3, c - 1, cur, rfl, hb, hg, by omega, by omega, by omega, hx⟩⟩⟩
  rw [← hx, show n * 3 = 0 by omega]
  simp
set_option maxRecDepth 100000 in
set_option maxHeartbeats 2000000 in
theorem wNew_bad (m : Int) (st : Bool) (w : World) (h : m < 1 ∨ 64 < m) :
    Calls Try.prog 13 #[.int .i64 m, .bool st] w fun e w' => e = .returned (.tuple #[.pointer none, .int .i64 1]) ∧ w' = w := by
  by_cases h1 : m < 1
  · go_enter Try.func13, Try.ntmps13
    go_wp2
    go_ret2
    exact ⟨rfl, rfl⟩
  · have h2 : 64 < m := by omega
    go_enter Try.func13, Try.ntmps13
    go_wp2
    go_ret2
    exact ⟨rfl, rfl⟩
set_option maxRecDepth 100000 in
set_option maxHeartbeats 2000000 in
theorem wNew_any (m : Int) (st : Bool) (w : World) (h1 : 1 ≤ m) (h2 : m ≤ 64) :
    Calls Try.prog 13 #[.int .i64 m, .bool st] w fun e w' => e = .returned (.tuple #[.pointer (some ⟨w.heap.size, 0, none⟩), .int .i64 0]) ∧ WinAt w' [w.heap.size] w.heap.size ⟨m, st, -1, []⟩ ∧ Below w.heap.size w w' := by
  go_enter Try.func13, Try.ntmps13
  go_wp2
  go_ret2
  refine ⟨rfl, ⟨⟨.slice none 0 0, [], [], Bk.new rfl, Own.nil _ _ _ _, EntsOk.nil _ _, (fun k hk => by cases hk), fun k hk => by cases hk⟩, by simp, fun k hk => ?_, ⟨h1, h2, show (-1 : Int) ≤ -1 by decide, show (-1 : Int) ≤ 4611686018427387904 by decide, by simp; omega, fun e he => by cases he⟩⟩, Below_one _⟩
  rw [List.mem_singleton] at hk
  subst hk
  simp
theorem wLast_any (p : Nat) (s : Win) (L : List Nat) (w : World) (h : WinAt w L p s) :
    Calls Try.prog 17 #[.pointer (some ⟨p, 0, none⟩)] w fun e w' => e = .returned (.int .i64 s.last) ∧ w' = w := by
  obtain ⟨⟨kv, xs, M, h1, _⟩, _, _, _⟩ := h
  have c2 : w.cell? ⟨p, 2, none⟩ = some (.int .i64 s.last) := by rw [h1.cell]; rfl
  clear h1
  go_enter Try.func17, Try.ntmps17
  go_wp2
  go_ret
  exact ⟨rfl, rfl⟩
theorem wLen_any (p : Nat) (s : Win) (L : List Nat) (w : World) (h : WinAt w L p s) :
    Calls Try.prog 31 #[.pointer (some ⟨p, 0, none⟩)] w fun e w' => e = .returned (.int .i64 (s.ents.length : Int)) ∧ w' = w := by
  obtain ⟨⟨kv, xs, M, h1, h2, _⟩, _, _, _⟩ := h
  obtain ⟨a, c, rfl⟩ := h2.isSlice
  have c2 : w.cell? ⟨p, 3, none⟩ = some (.slice a s.ents.length c) := by rw [h1.cell]; rfl
  clear h1 h2
  go_enter Try.func31, Try.ntmps31
  go_wp2
  go_ret
  exact ⟨rfl, rfl⟩
theorem own_cap {w : World} {b n c size : Nat} {e : TypeId} {a : Option Addr} {xs : List Value} (h : Own w b e size (.slice a n c) n xs) : n ≤ c := by
  rcases h.2 with ⟨_, h0⟩ | ⟨g, off, cap, cur, hv, hb, hg, h1, _⟩
  · omega
  · injection hv with h2 h3 h4
    omega
theorem In.alloc {w : World} {M : List Nat} {a : Option Addr} {bs : List UInt8} (h : In w M a bs) (o : Obj) : In (w.alloc o) M a bs := ⟨h.1.alloc o, h.2⟩
theorem Try.infoOne : (Try.prog.info? 96).map (fun i => (i.zero, i.size, i.bytes)) = some (some (.agg #[.int .i64 0, .slice none 0 0, .slice none 0 0]), 3, 56) := by kernel_rfl
theorem Src.cells3 {W : World} {tx e' : TypeId} {t : TypeId} (hk : Try.prog.underlying tx = some (.slice e')) (n : Int) (a : Option Addr) (m c : Nat) (a' : Option Addr) (m' c' : Nat) :
    Src Try.prog 3 tx (.slice (some ⟨W.heap.size, 0, none⟩) 1 1) 1 (cells3 n a m c a' m' c') (W.alloc (.cells #[.int .i64 n, .slice a m c, .slice a' m' c'] t)) :=
  Src.ofSlice _ hk _ 1 1 _ rfl (fun j u hj => by
    rw [Addr.add_lit, Nat.zero_add]
    have h := cell_of_row (W.alloc (.cells #[.int .i64 n, .slice a m c, .slice a' m' c'] t)) W.heap.size j _ _ _ (al_new rfl)
    rw [h, ← hj, ← Array.getElem?_toList]
    rfl) (fun u hu => by
    simp only [_root_.Go.Proofs.Ytjjmhmbmjpedkaa.cells3, List.mem_cons, List.not_mem_nil, or_false] at hu
    rcases hu with rfl | rfl | rfl <;> rfl)
set_option maxRecDepth 100000 in
set_option maxHeartbeats 8000000 in
theorem wKeep_any (p : Nat) (s : Win) (L : List Nat) (n : Int) (a : Option Addr) (c : Nat) (q : List UInt8) (a2 : Option Addr) (c2 : Nat) (r : List UInt8) (w : World) (hw : WinAt w L p s) (hq : RowAt w a (q.map bV)) (hr : RowAt w a2 (r.map bV)) :
    Calls Try.prog 15 #[.pointer (some ⟨p, 0, none⟩), .int .i64 n, .slice a q.length c, .slice a2 r.length c2] w fun e w' => e = .returned (.int .i64 (s.keep n q r).1) ∧ ∃ L', WinAt w' L' p (s.keep n q r).2 ∧ Fr L w w' ∧ Gr L L' w.heap.size := by
  have HL := Bx.mk (wLook_any p s L n a c q w hw hq)
  have HW := Bx.mk hw; have HQ := Bx.mk hq; have HR := Bx.mk hr
  obtain ⟨i0, hi0, hz0, hz1, hz2⟩ := info_parts Try.infoOne
  have Hi := Bx.mk hi0; have Hz0 := Bx.mk hz0; have Hz1 := Bx.mk hz1; have Hz2 := Bx.mk hz2
  clear hi0 hz0 hz1 hz2
  have HSame : ∀ (wx : World) (m : Int), Below w.heap.size w wx → s.keep n q r = (m, s) → Ending.returned (.int .i64 m) = .returned (.int .i64 (s.keep n q r).1) ∧ ∃ L', WinAt wx L' p (s.keep n q r).2 ∧ Fr L w wx ∧ Gr L L' w.heap.size := fun wx m hb he => by
    rw [he]
    exact ⟨rfl, L, HW.out.below hb, Fr.ofBelow hb, Gr.refl _ _⟩
  clear hw hq hr
  go_enter Try.func15, Try.ntmps15
  go_wp2_with fail
  refine HL.out.mono ?_
  rintro e w1 ⟨v, rfl, _, hb1⟩
  have B1 := Bx.mk hb1
  clear hb1 HL
  by_cases h0 : (s.look n q).2 = 0
  · have E := Bx.mk (show s.keep n q r = (8, s) by unfold Win.keep; dsimp only; rw [if_pos h0])
    rw [h0]
    clear h0
    go_wp2
    go_ret
    exact HSame _ 8 B1.out E.out
  · by_cases h7 : (s.look n q).2 = 7
    · by_cases hbig : 65536 < q.length ∨ 65536 < r.length
      · have E := Bx.mk (show s.keep n q r = (5, s) by unfold Win.keep; dsimp only; rw [if_neg h0, if_neg (by rw [h7]; decide), if_pos hbig])
        rw [h7]
        clear h0 h7
        by_cases hbq : 65536 < q.length
        · go_wp2
          go_ret
          exact HSame _ 5 B1.out E.out
        · have hbr : 65536 < r.length := by omega
          go_wp2
          go_ret
          exact HSame _ 5 B1.out E.out
      · have E := Bx.mk (show s.keep n q r = (0, s.push n q r) by unfold Win.keep; dsimp only; rw [if_neg h0, if_neg (by rw [h7]; decide), if_neg hbig])
        have H7 := Bx.mk h7
        rw [h7]
        clear h0 h7
        have lq : ¬ 65536 < q.length := fun h => hbig (.inl h)
        have lr : ¬ 65536 < r.length := fun h => hbig (.inr h)
        have HOk := Bx.mk (Win.push_ok HW.out.ok (Win.look7 H7.out).1 (Win.look7 H7.out).2 (q := q) (a := r) (by omega) (by omega))
        have hle := HW.out.ok.le
        have hm2 := HW.out.ok.m2
        have hm1 := HW.out.ok.m1
        obtain ⟨kv, xs, M, hraw⟩ := (HW.out.below B1.out).raw w.heap.size
        obtain ⟨ka, kc, rfl⟩ := hraw.own.isSlice
        have R1 := Bx.mk (hraw.below (w' := w1.drew) ((Below.refl _ _).drew))
        clear hraw
        go_wp2_with fail
        refine wp_region_early [0, 1, 2, 3, 4, 5, 6, 8] [7, 9, 10, 11, 12] [13, 14, 15] (fun wx => wx.cell? ⟨p, 3, none⟩ = some (.slice ka s.ents.length kc)) (by kernel_rfl) (by kernel_rfl) (by kernel_rfl) (by rfl) (by rw [R1.out.bk.cell]; rfl) ?_
        apply Exists.intro
        refine ⟨fun wx hx => ?_, ?_⟩
        · repeat (refine seI_step rfl (fun K hK => ?_); go_simp; refine hK _ ?_; clear hK K)
          exact seI_nil rfl
        refine wpTA_cons rfl ?_
        have B2 := Bx.mk (B1.out.drew)
        go_wp2_with fail
        refine (bClone_any a c q w1.drew (HQ.out.below B2.out (Nat.le_refl _)) (by omega)).mono ?_
        rintro e w2 ⟨v1, rfl, ho1, hb1⟩
        have H12 := Bx.mk hb1.size
        have O1 := Bx.mk ho1; have R2 := Bx.mk (R1.out.below hb1); have B3 := Bx.mk (B2.out.trans (hb1.mono B2.out.size))
        obtain ⟨va, vc, rfl⟩ := ho1.isSlice
        clear ho1 hb1
        go_wp2
        refine ⟨by rw [R2.out.bk.cell]; rfl, wpTA_cons rfl ?_⟩
        go_wp2_with fail
        refine (bClone_any a2 c2 r w2 (HR.out.below B3.out (Nat.le_refl _)) (by omega)).mono ?_
        rintro e w3 ⟨v2, rfl, ho2, hb2⟩
        have O1 := Bx.mk (O1.out.below hb2 (Nat.le_refl _)); have O2 := Bx.mk ho2; have R3 := Bx.mk (R2.out.below hb2); have B4 := Bx.mk (B3.out.trans (hb2.mono B3.out.size))
        obtain ⟨vb, vd, rfl⟩ := ho2.isSlice
        clear ho2 hb2
        go_wp2
        refine ⟨by rw [R3.out.bk.cell]; rfl, wpTA_cons rfl ?_⟩
        go_wp2
        refine ⟨by rw [R3.out.bk.cell]; rfl, wpTA_cons rfl ?_⟩
        go_wp2
        refine ⟨by rw [(R3.out.bk.alloc _).cell]; rfl, wpTA_cons rfl ?_⟩
        refine wpList_app rfl (.tmp 38) (.tmp 45) 91 91 rfl i0 _ 56 Try.underlying91 Hi.out Hz0.out Hz1.out Hz2.out rfl rfl (R3.out.own.alloc _) _ rfl 1 (cells3 n va q.length vc vb r.length vd) (Src.cells3 Try.underlying91 n va q.length vc vb r.length vd) (by unfold maxLen; omega) (by omega) (Nat.zero_le _) ?_
        intro v5 w5 ho5 hg5 hn5
        obtain ⟨a5, c5, rfl⟩ := ho5.isSlice
        have hM : ∀ k ∈ (Value.slice va q.length vc).ownBlock.toList ++ (Value.slice vb r.length vd).ownBlock.toList, w.heap.size ≤ k ∧ k < w3.heap.size ∧ k ≠ p ∧ (Value.slice ka s.ents.length kc).ownBlock ≠ some k := fun k hk => by
          have h1 : w1.drew.heap.size ≤ k ∧ k < w3.heap.size := by
            rcases List.mem_append.1 hk with hk | hk
            · exact O1.out.lt k (by simpa using hk)
            · have := O2.out.lt k (by simpa using hk)
              exact ⟨Nat.le_trans (show w1.drew.heap.size ≤ w2.heap.size from H12.out) this.1, this.2⟩
          have h2 := B2.out.size
          have h3 := HW.out.under p HW.out.mem
          refine ⟨by omega, h1.2, by omega, fun e => ?_⟩
          have := (R1.out.own.lt k e).2
          omega
        have R4 := (R3.out.more _ hM).alloc (.cells #[.int .i64 n, .slice va q.length vc, .slice vb r.length vd] 96)
        obtain ⟨b5, R5⟩ := R4.grow (e := ⟨n, q, r⟩) (c := vc) (c' := vd) (((In.ofOwn O1.out).alloc _).mono (by simp +contextual)) (((In.ofOwn O2.out).alloc _).mono (by simp +contextual)) (own_cap O1.out) (own_cap O2.out) (by have := B4.out.size; simp; omega) ho5 hg5 hn5
        have K5 := Bx.mk (show w5.cell? ⟨p, 3, none⟩ = some (.slice ka s.ents.length kc) by rw [b5.cell]; rfl)
        have K6 := Bx.mk (show w5.frozen? ⟨p, 3, none⟩ = false from b5.frozen 3)
        have R5 := Bx.mk R5
        have F5 := Bx.mk ((((Fr.ofBelow (L := L) B4.out).alloc (.cells #[.int .i64 n, .slice va q.length vc, .slice vb r.length vd] 96)).grown hg5 R1.out.mine).setCell (p := ⟨p, 3, none⟩) (.inl HW.out.mem) (.slice a5 (s.ents.length + 1) c5))
        clear ho5 hg5 hn5 hM R4 b5 R1 R2 R3 O1 O2 B2 B3 B4 H12
        go_wp2
        refine ⟨K5.out, wpTA_nil (.cons rfl (.cons rfl (.cons rfl .nil))) ?_⟩
        have k5 := K5.out
        have k6 := K6.out
        go_wp2
        refine NoPanic.normal ?_
        clear k5 k6 K5 K6
        generalize w5.setCell ⟨p, 3, none⟩ (.slice a5 (s.ents.length + 1) c5) = w6 at *
        have R6 := Bx.mk (R5.out.below (w' := w6.drew) ((Below.refl _ _).drew))
        have F6 := Bx.mk (F5.out.drew)
        have e3 : w6.cell? ⟨p, 3, none⟩ = some (.slice a5 (s.ents.length + 1) c5) := by rw [R5.out.bk.cell]; rfl
        have e0 : w6.cell? ⟨p, 0, none⟩ = some (.int .i64 s.most) := by rw [R5.out.bk.cell]; rfl
        go_wp2_with fail
        refine wp_region_early [0, 1, 2, 3, 4, 5, 6, 7, 8, 9] [] [] (fun wx => wx.cell? ⟨p, 3, none⟩ = some (.slice a5 (s.ents.length + 1) c5) ∧ wx.cell? ⟨p, 0, none⟩ = some (.int .i64 s.most)) (by kernel_rfl) (by kernel_rfl) (by kernel_rfl) (by rfl) ⟨e3, e0⟩ ?_
        apply Exists.intro
        refine ⟨fun wx hx => ?_, ?_⟩
        · obtain ⟨x1, x2⟩ := hx
          repeat (refine seI_step rfl (fun K hK => ?_); go_simp; refine hK _ ?_; clear hK K)
          exact seI_nil rfl
        refine wpTA_nil .nil ?_
        clear e3 e0
        generalize w6.drew = w7 at *
        have f2 : w7.frozen? ⟨p, 2, none⟩ = false := R6.out.bk.frozen 2
        have g2 : w7.cell? ⟨p, 2, none⟩ = some (.int .i64 s.last) := by rw [R6.out.bk.cell]; rfl
        by_cases hful : s.most < (s.ents.length : Int) + 1
        · have e3 : w7.cell? ⟨p, 3, none⟩ = some (.slice a5 (s.ents.length + 1) c5) := by rw [R6.out.bk.cell]; rfl
          have f3 : w7.frozen? ⟨p, 3, none⟩ = false := R6.out.bk.frozen 3
          obtain ⟨g5, o5, rfl⟩ := own_some (n := s.ents.length + 1) (by omega) (by have := R6.out.own; rwa [List.length_append] at this)
          have HC := Bx.mk (own_cut (by have := R6.out.own; rwa [List.length_append] at this))
          have E2 := Bx.mk (show s.push n q r = ⟨s.most, s.strict, n, (s.ents ++ [Ent.mk n q r]).drop 1⟩ by unfold Win.push; rw [if_pos (by rw [List.length_append]; exact hful)])
          by_cases hc5 : c5 = 1
          · subst hc5
            have R7 := Bx.mk ((R6.out.cut (v1 := .slice (some ⟨g5, o5, none⟩) s.ents.length 0) (by simp) (by rw [List.length_append]; exact HC.out.1 rfl) rfl).setLast n)
            go_wp2
            refine NoPanic.normal ?_
            go_wp2
            go_ret
            rw [E.out, E2.out]
            obtain ⟨L', hL, hG⟩ := R7.out.at HW.out.mem (E2.out ▸ HOk.out)
            refine ⟨rfl, L', ?_, (F6.out.setCell (p := ⟨p, 3, none⟩) (.inl HW.out.mem) _).setCell (p := ⟨p, 2, none⟩) (.inl HW.out.mem) _, hG⟩
            exact hL
          · have R7 := Bx.mk ((R6.out.cut (v1 := .slice (some ⟨g5, o5 + 3, none⟩) s.ents.length (c5 - 1)) (by simp) (by rw [List.length_append]; exact HC.out.2 hc5) rfl).setLast n)
            go_wp2
            refine NoPanic.normal ?_
            go_wp2
            go_ret
            rw [E.out, E2.out]
            obtain ⟨L', hL, hG⟩ := R7.out.at HW.out.mem (E2.out ▸ HOk.out)
            refine ⟨rfl, L', ?_, (F6.out.setCell (p := ⟨p, 3, none⟩) (.inl HW.out.mem) _).setCell (p := ⟨p, 2, none⟩) (.inl HW.out.mem) _, hG⟩
            exact hL
        · have E2 := Bx.mk (show s.push n q r = ⟨s.most, s.strict, n, s.ents ++ [Ent.mk n q r]⟩ by unfold Win.push; rw [if_neg (by rw [List.length_append]; exact hful)])
          have R7 := Bx.mk (R6.out.setLast n)
          go_wp2
          refine NoPanic.normal ?_
          go_wp2
          go_ret
          rw [E.out, E2.out]
          obtain ⟨L', hL, hG⟩ := R7.out.at HW.out.mem (E2.out ▸ HOk.out)
          exact ⟨rfl, L', hL, F6.out.setCell (p := ⟨p, 2, none⟩) (.inl HW.out.mem) _, hG⟩
    · have E := Bx.mk (show s.keep n q r = ((s.look n q).2, s) by unfold Win.keep; dsimp only; rw [if_neg h0, if_pos h7])
      obtain ⟨m, hm⟩ : ∃ m, m = (s.look n q).2 := ⟨_, rfl⟩
      rw [← hm] at E h0 h7 ⊢
      clear hm
      have k0 : (m == 0) = false := by rw [beq_eq_false_iff_ne]; exact h0
      have k7 : (m == 7) = false := by rw [beq_eq_false_iff_ne]; exact h7
      go_wp2
      go_ret
      exact HSame _ m B1.out E.out
end Go.Proofs.Ytjjmhmbmjpedkaa
