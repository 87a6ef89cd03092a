import Derived.Test.YtbolfgafiejkaaaMDisk3
import Derived.Test.YtbolfgafiejkaaaMDisk1
set_option linter.unusedVariables false
section
/- The program's disk: what it holds, what reads it; walked. -/
namespace Go.Proofs.Ytbolfgafiejkaaa
open Go.RowKit
structure DkAt (w : World) (g gl mb : Nat) (S : DS) : Prop where
  blk : Bk w g #[.slice (some ⟨gl, 0, none⟩) S.n S.n, .map (some mb), .int .i64 S.left, .bool S.off] 61
  lst : Bk w gl (sArr S.n 64 fun i => (S.last i).map bV) 64
  map : ∃ m, MapAt w mb m ∧ ∀ k, lkM m k = cD S k
theorem allOne_b : ∀ bs : List UInt8, allOne (bs.map bV) = true
  | [] => rfl
  | b :: r => by
    rw [List.map_cons, allOne, allOne_b r]
    rfl
theorem condB {bs : List UInt8} (h : bs.length = 64) {A : Prop} (hA : A) : cond (Nat.beq (bs.map bV).length 64) (cond (allOne (bs.map bV)) A False) False := by
  rw [List.length_map, h, allOne_b]
  exact hA
theorem zero_sec : Value.agg (List.replicate 64 (.int .u8 0)).toArray = secV zero64 := by
  unfold secV zero64
  rw [List.map_replicate]
  rfl
section
variable {w w1 : World} {g gl mb : Nat} {S : DS}
theorem DkAt.c0 (h : DkAt w g gl mb S) : w.cell? ⟨g, 0, none⟩ = some (.slice (some ⟨gl, 0, none⟩) S.n S.n) := by rw [h.blk.cell]; rfl
theorem DkAt.c1 (h : DkAt w g gl mb S) : w.cell? ⟨g, 0 + 1, none⟩ = some (.map (some mb)) := by rw [h.blk.cell]; rfl
theorem DkAt.c2 (h : DkAt w g gl mb S) : w.cell? ⟨g, 0 + 2, none⟩ = some (.int .i64 S.left) := by rw [h.blk.cell]; rfl
theorem DkAt.c3 (h : DkAt w g gl mb S) : w.cell? ⟨g, 0 + 3, none⟩ = some (.bool S.off) := by rw [h.blk.cell]; rfl
theorem DkAt.lt (h : DkAt w g gl mb S) : g < w.heap.size ∧ gl < w.heap.size ∧ mb < w.heap.size := by
  obtain ⟨m, hm, _⟩ := h.map
  exact ⟨h.blk.lt, h.lst.lt, hm.lt⟩
theorem DkAt.ne (h : DkAt w g gl mb S) : g ≠ gl ∧ g ≠ mb ∧ gl ≠ mb := by
  obtain ⟨m, hm, _⟩ := h.map
  exact ⟨h.blk.ne h.lst (by decide), hm.ne_cells h.blk, hm.ne_cells h.lst⟩
theorem DkAt.keep (h : DkAt w g gl mb S) (h1 : w1.heap[g]? = w.heap[g]?) (h2 : w1.heap[gl]? = w.heap[gl]?) (h3 : w1.heap[mb]? = w.heap[mb]?) : DkAt w1 g gl mb S := by
  obtain ⟨m, hm, hl⟩ := h.map
  exact ⟨h.blk.keep h1, h.lst.keep h2, m, hm.keep h3, hl⟩
theorem DkAt.below (h : DkAt w g gl mb S) (b : Below w.heap.size w w1) : DkAt w1 g gl mb S := h.keep (b.block g h.lt.1) (b.block gl h.lt.2.1) (b.block mb h.lt.2.2)
theorem DkAt.fr {L : List Nat} (h : DkAt w g gl mb S) (b : Fr L w w1) (h1 : g ∉ L) (h2 : gl ∉ L) (h3 : mb ∉ L) : DkAt w1 g gl mb S := h.keep (b.block g h.lt.1 h1) (b.block gl h.lt.2.1 h2) (b.block mb h.lt.2.2 h3)
theorem DkAt.hit (h : DkAt w g gl mb S) {k : Nat} {s : List UInt8} (hk : S.cch k = some s) : ∃ r, MLk w (some mb) (k : Int) r ∧ r.getD (.agg (List.replicate 64 (.int .u8 0)).toArray) = .agg (s.map bV).toArray ∧ r.isSome = true := by
  obtain ⟨m, hm, hl⟩ := h.map
  exact ⟨_, ⟨m, hm, rfl⟩, by rw [hl, cD_nat, hk]; rfl, by rw [hl, cD_nat, hk]; rfl⟩
theorem DkAt.miss (h : DkAt w g gl mb S) {k : Nat} (hk : S.cch k = none) : ∃ r, MLk w (some mb) (k : Int) r ∧ r.getD (.agg (List.replicate 64 (.int .u8 0)).toArray) = .agg (zero64.map bV).toArray ∧ r.isSome = false := by
  obtain ⟨m, hm, hl⟩ := h.map
  exact ⟨_, ⟨m, hm, rfl⟩, by rw [hl, cD_nat, hk]; exact zero_sec, by rw [hl, cD_nat, hk]; rfl⟩
theorem DkAt.secs (h : DkAt w g gl mb S) (hW : DWf S) {i : Nat} (hi : i < S.n) : cellsAt w gl (0 + i * 64) ((S.last i).map bV) := by
  rw [Nat.zero_add]
  exact sArr_cells h.lst hi (by rw [List.length_map, hW.last])
/-! What changes it. -/
theorem DkAt.setLeft (h : DkAt w g gl mb S) (l : Int) {gs : List Nat} (hg : ∀ x ∈ gs, x ≠ g) {K : World → Prop} (k : ∀ w1, DkAt w1 g gl mb ⟨S.n, S.last, S.cch, l, S.off⟩ → Fr [g] w w1 → w1.heap.size = w.heap.size → K w1) : stO gs w g (0 + 2) [.int .i64 l] K := by
  obtain ⟨n1, n2, n3⟩ := h.ne
  obtain ⟨m, hm, hl⟩ := h.map
  exact stO_bk h.blk (by simp) hg fun w1 h1 f1 z1 => k w1 ⟨h1, h.lst.fr1 f1 (fun e => n1 e.symm), m, hm.fr f1 (by rw [List.mem_singleton]; exact fun e => n2 e.symm), hl⟩ f1 z1
theorem DkAt.setOff (h : DkAt w g gl mb S) (b : Bool) {gs : List Nat} (hg : ∀ x ∈ gs, x ≠ g) {K : World → Prop} (k : ∀ w1, DkAt w1 g gl mb ⟨S.n, S.last, S.cch, S.left, b⟩ → Fr [g] w w1 → w1.heap.size = w.heap.size → K w1) : stO gs w g (0 + 3) [.bool b] K := by
  obtain ⟨n1, n2, n3⟩ := h.ne
  obtain ⟨m, hm, hl⟩ := h.map
  exact stO_bk h.blk (by simp) hg fun w1 h1 f1 z1 => k w1 ⟨h1, h.lst.fr1 f1 (fun e => n1 e.symm), m, hm.fr f1 (by rw [List.mem_singleton]; exact fun e => n2 e.symm), hl⟩ f1 z1
theorem DkAt.setSec (h : DkAt w g gl mb S) (hW : DWf S) {i : Nat} (hi : i < S.n) {s : List UInt8} (hs : s.length = 64) {gs : List Nat} (hg : ∀ x ∈ gs, x ≠ gl) {K : World → Prop}
    (k : ∀ w1, DkAt w1 g gl mb ⟨S.n, fun j => if j = i then s else S.last j, S.cch, S.left, S.off⟩ → Fr [gl] w w1 → w1.heap.size = w.heap.size → K w1) : stO gs w gl (0 + i * 64) (s.map bV) K := by
  obtain ⟨n1, n2, n3⟩ := h.ne
  obtain ⟨m, hm, hl⟩ := h.map
  rw [Nat.zero_add]
  have hle : (i + 1) * 64 ≤ S.n * 64 := Nat.mul_le_mul_right 64 hi
  refine stO_part h.lst (by rw [sArr_size, List.length_map, hs]; omega) hg fun w1 h1 f1 z1 => k w1 ⟨h.blk.fr1 f1 n1, ?_, m, hm.fr f1 (by rw [List.mem_singleton]; exact fun e => n3 e.symm), hl⟩ f1 z1
  rw [sArr_setL (n := S.n) (k := 64) hi (by rw [List.length_map, hs]) (fun j _ => by rw [List.length_map, hW.last])] at h1
  rw [sArr_congr (enc' := fun j => (if j = i then s else S.last j).map bV) fun j _ => by split <;> rfl] at h1
  exact h1
theorem DkAt.putM (h : DkAt w g gl mb S) (i : Nat) (s : List UInt8) {K : World → Prop} (k : ∀ w1, DkAt w1 g gl mb ⟨S.n, S.last, fun j => if j = i then some s else S.cch j, S.left, S.off⟩ → Fr [mb] w w1 → w1.heap.size = w.heap.size → K w1) :
    mapO w (some mb) (fun m => putM m (i : Int) (.agg (s.map bV).toArray)) K := by
  obtain ⟨n1, n2, n3⟩ := h.ne
  obtain ⟨m, hm, hl⟩ := h.map
  refine ⟨mb, m, rfl, hm, fun w1 m1 f1 z1 => k w1 ⟨h.blk.fr1 f1 n2, h.lst.fr1 f1 n3, _, m1, fun j => ?_⟩ f1 z1⟩
  rw [lkM_put, hl]
  unfold cD
  by_cases e : (i : Int) = j
  · subst e
    rw [if_pos rfl, if_neg (by omega), Int.toNat_natCast]
    dsimp only
    rw [if_pos rfl]
    rfl
  · rw [if_neg e]
    by_cases hj : j < 0
    · rw [if_pos hj, if_pos hj]
    · rw [if_neg hj, if_neg hj]
      dsimp only
      rw [if_neg (by omega)]
theorem DkAt.clear (h : DkAt w g gl mb S) {K : World → Prop} (k : ∀ w1, DkAt w1 g gl mb ⟨S.n, S.last, fun _ => none, S.left, S.off⟩ → Fr [mb] w w1 → w1.heap.size = w.heap.size → K w1) : mapO w (some mb) (fun _ => []) K := by
  obtain ⟨n1, n2, n3⟩ := h.ne
  obtain ⟨m, hm, hl⟩ := h.map
  refine ⟨mb, m, rfl, hm, fun w1 m1 f1 z1 => k w1 ⟨h.blk.fr1 f1 n2, h.lst.fr1 f1 n3, _, m1, fun j => ?_⟩ f1 z1⟩
  unfold cD
  split <;> rfl
end
theorem dmay_ret {w : World} {g gl mb : Nat} {S : DS} (h : DkAt w g gl mb S) (hW : DWf S) (first n : Int) : Calls Try.prog 25 #[.pointer (some ⟨g, 0, none⟩), .int .i64 first, .int .i64 n] w (Ret (.int .i64 (mayE S first n)) w) := by
  refine ret_in (GDk.dmay_calls (some ⟨g, 0, none⟩) first n w (fun u w' => u = .int .i64 (mayE S first n) ∧ Below w.heap.size w w') ?_)
  unfold GDk.dmay_vc mayE
  have h1 := hW.n2
  refine br_f rfl ⟨S.off, h.c3, ?_⟩
  cases ho : S.off
  · rw [if_neg (by decide)]
    refine br_f rfl (br_dec (fun q => ⟨by rw [if_neg (by omega)], Bs.refl _⟩) fun q1 => br_dec (fun q => ⟨by rw [if_neg (by omega)], Bs.refl _⟩) fun q2 => ⟨some ⟨gl, 0, none⟩, S.n, S.n, h.c0, br_dec (fun q => ⟨by rw [if_neg (by omega)], Bs.refl _⟩) fun q3 => ⟨some ⟨gl, 0, none⟩, S.n, S.n, h.c0, ?_⟩⟩)
    rw [wr64 (by omega) (by omega)]
    exact br_dec (fun q => ⟨by rw [if_neg (by omega)], Bs.refl _⟩) fun q4 => ⟨by rw [if_pos ⟨by omega, by omega, by omega, by omega⟩], Bs.refl _⟩
  · rw [if_pos rfl]
    exact br_t rfl ⟨rfl, Bs.refl _⟩
theorem dmay_nil (first n : Int) (w : World) : Calls Try.prog 25 #[.pointer none, .int .i64 first, .int .i64 n] w (Ret (.int .i64 1) w) := by
  refine ret_in (GDk.dmay_calls none first n w (fun u w' => u = .int .i64 1 ∧ Below w.heap.size w w') ?_)
  unfold GDk.dmay_vc
  exact br_t rfl ⟨rfl, Bs.refl _⟩
theorem dsize_ret {w : World} {g gl mb : Nat} {S : DS} (h : DkAt w g gl mb S) : Calls Try.prog 24 #[.pointer (some ⟨g, 0, none⟩)] w (Ret (.int .i64 S.n) w) := by
  refine ret_in (GDk.dsize_calls (some ⟨g, 0, none⟩) w (fun u w' => u = .int .i64 S.n ∧ Below w.heap.size w w') ?_)
  unfold GDk.dsize_vc
  exact br_f rfl ⟨some ⟨gl, 0, none⟩, S.n, S.n, h.c0, rfl, Bs.refl _⟩
theorem dsize_nil (w : World) : Calls Try.prog 24 #[.pointer none] w (Ret (.int .i64 0) w) := by
  refine ret_in (GDk.dsize_calls none w (fun u w' => u = .int .i64 0 ∧ Below w.heap.size w w') ?_)
  unfold GDk.dsize_vc
  exact br_t rfl ⟨rfl, Bs.refl _⟩
theorem doff_ret {w : World} {g gl mb : Nat} {S : DS} (h : DkAt w g gl mb S) : Calls Try.prog 19 #[.pointer (some ⟨g, 0, none⟩)] w (Ret (.bool S.off) w) := by
  refine ret_in (GDk.doff_calls (some ⟨g, 0, none⟩) w (fun u w' => u = .bool S.off ∧ Below w.heap.size w w') ?_)
  unfold GDk.doff_vc
  exact br_f rfl ⟨S.off, h.c3, rfl, Bs.refl _⟩
theorem doff_nil (w : World) : Calls Try.prog 19 #[.pointer none] w (Ret (.bool true) w) := by
  refine ret_in (GDk.doff_calls none w (fun u w' => u = .bool true ∧ Below w.heap.size w w') ?_)
  unfold GDk.doff_vc
  exact br_t rfl ⟨rfl, Bs.refl _⟩
/-- New bytes. -/
def NewBs (w : World) (bs : List UInt8) (a : Option Addr) (n c : Nat) (w' : World) : Prop := n = bs.length ∧ Own w' w.heap.size 5 1 (.slice a n c) n (bs.map bV) ∧ Below w.heap.size w w'
theorem dread_new {w : World} {g gl mb : Nat} {S : DS} (h : DkAt w g gl mb S) (hW : DWf S) (first n : Int) :
    Calls Try.prog 9 #[.pointer (some ⟨g, 0, none⟩), .int .i64 first, .int .i64 n] w fun e w' => ∃ a m c, e = .returned (.tuple #[.slice a m c, .int .i64 (mayE S first n)]) ∧ NewBs w (readL S first n) a m c w' := by
  refine (GDk.dread_calls (some ⟨g, 0, none⟩) first n w (fun u w' => ∃ a m c, u = .tuple #[.slice a m c, .int .i64 (mayE S first n)] ∧ NewBs w (readL S first n) a m c w') ?_).mono (by rintro e w' ⟨v, rfl, a, m, c, rfl, h⟩; exact ⟨a, m, c, rfl, h⟩)
  unfold GDk.dread_vc readL
  refine callB (Bs.refl w) (dmay_ret h hW first n) fun w2 b2 B2 => ⟨_, rfl, br_dec (fun q => ⟨none, 0, 0, rfl, by rw [if_neg q]; rfl, by rw [if_neg q]; exact Own.nil _ _ _ _, B2⟩) fun q => ?_⟩
  have q : mayE S first n = 0 := Decidable.byContradiction q
  rw [if_pos q, q]
  obtain ⟨ho, h0, h1, h3, h4⟩ := mayE_zero q
  have hn2 := hW.n2
  obtain ⟨f, rfl⟩ := Int.eq_ofNat_of_zero_le h0
  obtain ⟨k, rfl⟩ := Int.eq_ofNat_of_zero_le h1
  rw [Int.toNat_natCast, Int.toNat_natCast]
  refine ⟨fun a m c x wy => ∃ i : Nat, x = i ∧ i ≤ k ∧ m = (readS S f i).length ∧ Own wy w.heap.size 5 1 (.slice a m c) m ((readS S f i).map bV) ∧ Bs w wy, fun _ _ _ x _ => k - x.toNat, ⟨0, rfl, by omega, rfl, Own.nil _ _ _ _, B2⟩, ?_⟩
  rintro a m c x wy ⟨i, rfl, hi, rfl, hO, By⟩
  refine br_dec (fun hlt => ?_) fun hge => ?_
  · have hik : i < k := by omega
    have hy := h.below By
    have hl := readS_len hW f i
    rw [wr64 (z := (f : Int) + i) (by omega) (by omega), wr64 (z := (i : Int) + 1) (by omega) (by omega), show (f : Int) + i = ((f + i : Nat) : Int) by omega]
    -- the piece that is put behind, whichever it is
    have fin : ∀ {wz : World} {g1 : Nat} {s : List UInt8}, s = nowS S (f + i) → Bk wz g1 (s.map bV).toArray 64 → Below wy.heap.size wy wz → Bs w wz →
        appO Try.prog [] wz 5 1 1 34 a (readS S f i).length c (.slice (some ⟨g1, 0, none⟩) 64 64) fun m48 a48 c48 w10 =>
          (∃ j : Nat, (i : Int) + 1 = j ∧ j ≤ k ∧ (readS S f i).length + m48 = (readS S f j).length ∧ Own w10 w.heap.size 5 1 (.slice a48 ((readS S f i).length + m48) c48) ((readS S f i).length + m48) ((readS S f j).map bV) ∧ Bs w w10) ∧ k - ((i : Int) + 1).toNat < k - (i : Int).toNat := fun {wz g1 s} hs hb by' Bz => by
      have h64 : s.length = 64 := by rw [hs]; exact hW.now _
      refine appB Bz (hO.below by' (Nat.le_refl _)) (Nat.le_refl _) Bz.size (src_block (n := 64) (size := 1) (cs := s.map bV) Try.underlying34 hb (by rw [List.length_map, h64]) (allOne_b s)) (by unfold maxLen; omega) (by omega) (fun q hq => by cases hq) fun a' c' w11 o11 gr11 B11 z11 => ⟨⟨i + 1, by omega, by omega, ?_, ?_, B11⟩, by omega⟩
      · rw [readS_len hW, readS_len hW]; omega
      · rw [readS_succ, List.map_append, ← hs]; exact o11
    cases hc : S.cch (f + i) with
    | some s =>
      have h64 := (hW.cch _ _ hc).2
      refine ⟨some mb, hy.c1, s, h64, true, hy.hit hc, newB By fun g1 w3 g10 sg1 n3 z3 b3 B3 => condB h64 (stB B3 g10 n3 (by rw [List.length_map, h64]; rfl) (fun q hq => by cases hq) fun w4 n4 f4 B4 z4 => br_f rfl ?_)⟩
      exact fin (by unfold nowS; rw [hc]; rfl) n4 (Bs.fr1 (show Bs wy w3 from b3) f4 (by omega)) B4
    | none =>
      refine ⟨some mb, hy.c1, zero64, rfl, false, hy.miss hc, newB By fun g1 w3 g10 sg1 n3 z3 b3 B3 => condB rfl (stB B3 g10 n3 (by rfl) (fun q hq => by cases hq) fun w4 n4 f4 B4 z4 => br_t rfl ?_)⟩
      have bx : Bs wy w4 := Bs.fr1 (show Bs wy w3 from b3) f4 (by omega)
      have h4' := hy.below bx
      refine ⟨some ⟨gl, 0, none⟩, S.n, S.n, h4'.c0, by omega, by omega, S.last (f + i), hW.last _, by rw [Int.toNat_natCast]; exact h4'.secs hW (by omega), condB (hW.last _) (stB B4 g10 n4 (by rw [List.length_map, hW.last]; rfl) (fun q hq => by cases hq) fun w5 n5 f5 B5 z5 => ?_)⟩
      exact fin (by unfold nowS; rw [hc]; rfl) n5 (Bs.fr1 bx f5 (by omega)) B5
  · obtain rfl : i = k := by omega
    exact ⟨a, _, c, rfl, rfl, hO, By⟩
theorem dread_nil (first n : Int) (w : World) : Calls Try.prog 9 #[.pointer none, .int .i64 first, .int .i64 n] w (Ret (.tuple #[.slice none 0 0, .int .i64 1]) w) := by
  refine ret_in (GDk.dread_calls none first n w (fun u w' => u = .tuple #[.slice none 0 0, .int .i64 1] ∧ Below w.heap.size w w') ?_)
  unfold GDk.dread_vc
  exact callB (Bs.refl w) (dmay_nil first n w) fun w2 b2 B2 => ⟨_, rfl, br_y (by decide) ⟨rfl, B2⟩⟩
end Go.Proofs.Ytbolfgafiejkaaa
end
section
/- Loops over maps: how far they are. No program in sight. -/
namespace Go.Proofs.Ytbolfgafiejkaaa
open Go.RowKit Go.MapKept
def iterLen (w : World) (g : Nat) : Nat := match w.heap[g]? with
  | some (.mapIter _ _ sb _) => sb.size
  | _ => 0
theorem IterAt.len {w : World} {g b : Nat} {m : List (Int × Value)} {seen : List Int} (h : IterAt w g b m seen) : iterLen w g = seen.length := by
  obtain ⟨es, clock, sb, hb, hs, hm, hi, L, hL, hsb, hsk⟩ := h
  unfold iterLen
  rw [hi]
  have h1 := congrArg List.length hsb
  have h2 := congrArg List.length hsk
  simp at h1 h2
  show sb.size = _
  omega
theorem nodup_sub : ∀ {l l' : List Int}, l.Nodup → (∀ x ∈ l, x ∈ l') → l.length ≤ l'.length
  | [], _, _, _ => Nat.zero_le _
  | x :: r, l', hn, h => by
    rw [List.nodup_cons] at hn
    have hx := h x (List.mem_cons_self ..)
    have h1 := List.length_erase_of_mem hx
    have h2 := nodup_sub (l := r) (l' := l'.erase x) hn.2 fun y hy => by
      have hne : y ≠ x := fun e => hn.1 (e ▸ hy)
      exact (List.mem_erase_of_ne hne).2 (h y (List.mem_cons_of_mem _ hy))
    have := List.length_pos_of_mem hx
    simp only [List.length_cons]
    omega
/-- What a loop over a map knows. -/
structure Loop (w : World) (g b : Nat) (m : List (Int × Value)) (seen : List Int) : Prop where
  at' : IterAt w g b m seen
  nodup : seen.Nodup
  sub : ∀ k ∈ seen, k ∈ m.map (·.1)
section
variable {w w1 : World} {g b : Nat} {m : List (Int × Value)} {seen : List Int}
theorem Loop.start (h : IterAt w g b m []) : Loop w g b m [] := ⟨h, List.nodup_nil, fun _ h => by cases h⟩
theorem Loop.step (h : Loop w g b m seen) {k : Int} {v : Value} (hm : (k, v) ∈ m) (hk : k ∉ seen) (h1 : IterAt w1 g b m (seen ++ [k])) : Loop w1 g b m (seen ++ [k]) :=
  ⟨h1, List.nodup_append.2 ⟨h.nodup, by simp, fun a ha b hb => by rw [List.mem_singleton] at hb; subst hb; exact fun e => hk (e ▸ ha)⟩, fun x hx => by
    rcases List.mem_append.1 hx with hx | hx
    · exact h.sub x hx
    · rw [List.mem_singleton] at hx; subst hx; exact List.mem_map.2 ⟨_, hm, rfl⟩⟩
theorem Loop.le (h : Loop w g b m seen) : seen.length ≤ m.length := by have := nodup_sub h.nodup h.sub; simpa using this
theorem Loop.more (h : Loop w g b m seen) {k : Int} {v : Value} (hm : (k, v) ∈ m) (hk : k ∉ seen) : seen.length < m.length := by
  have := nodup_sub (l := k :: seen) (l' := m.map (·.1)) (List.nodup_cons.2 ⟨hk, h.nodup⟩) fun x hx => by
    rcases List.mem_cons.1 hx with rfl | hx
    · exact List.mem_map.2 ⟨_, hm, rfl⟩
    · exact h.sub x hx
  simp at this
  omega
theorem Loop.keep (h : Loop w g b m seen) (hb : w1.heap[b]? = w.heap[b]?) (hg : w1.heap[g]? = w.heap[g]?) : Loop w1 g b m seen := ⟨h.at'.keep hb hg, h.nodup, h.sub⟩
theorem Loop.below (h : Loop w g b m seen) (hb : Below w.heap.size w w1) : Loop w1 g b m seen := h.keep (hb.block b h.at'.lt.2) (hb.block g h.at'.lt.1)
theorem Loop.box {x : Nat} {cs : Array Value} {t : TypeId} {fr : Nat × Nat} (h : Loop w g b m seen) (hx : w.heap[x]? = some (.cells cs t fr)) (hf : Fr [x] w w1) : Loop w1 g b m seen := by
  have h1 : b ≠ x := fun e => by
    obtain ⟨es, clock, sb, hb, _⟩ := h.at'
    rw [e, hx] at hb; cases hb
  have h2 : g ≠ x := fun e => by
    obtain ⟨es, clock, sb, hb, _, _, hi, _⟩ := h.at'
    rw [e, hx] at hi; cases hi
  exact h.keep (hf.block b h.at'.lt.2 (by rw [List.mem_singleton]; exact h1)) (hf.block g h.at'.lt.1 (by rw [List.mem_singleton]; exact h2))
end
end Go.Proofs.Ytbolfgafiejkaaa
end
section
/- The program's disk: what writes it; walked. -/
namespace Go.Proofs.Ytbolfgafiejkaaa
open Go.RowKit Go.Shelf
section
variable {w w1 w2 : World} {L : List Nat} {k : Nat}
theorem Fr.b (f : Fr L w w1) (b : Below w1.heap.size w1 w2) : Fr L w w2 := f.trans (Fr.ofBelow (L := L) b) (Gr.refl _ _)
theorem Fr.g (f : Fr L w w1) (f2 : Fr [k] w1 w2) (h : k ∈ L ∨ w.heap.size ≤ k) : Fr L w w2 := f.trans f2 fun j hj => by rw [List.mem_singleton] at hj; rw [hj]; exact h
theorem RowAt.frL {a : Option Addr} {vs : List Value} (h : RowAt w a vs) (f : Fr L w w1) (hn : ∀ q, a = some q → q.block ∉ L) : RowAt w1 a vs := by
  rcases h with h | ⟨b, off, ha, h⟩
  · exact .inl h
  · refine .inr ⟨b, off, ha, fun i v hv => ?_⟩
    have hc := h i v hv
    have hlt := block_lt_of_cell hc
    have hb := f.block b hlt (hn _ ha)
    unfold World.cell? at hc ⊢
    simp only [hb]
    exact hc
end
/-- A call's word: what it tells, the disk behind it, and that it wrote there alone. -/
def DDo (w : World) (g gl mb : Nat) (u : Value) (S' : DS) : Ending → World → Prop := fun e w' => e = .returned u ∧ DkAt w' g gl mb S' ∧ Fr [g, gl, mb] w w'
def DDoV (w : World) (g gl mb : Nat) (u : Value) (S' : DS) : Value → World → Prop := fun v w' => v = u ∧ DkAt w' g gl mb S' ∧ Fr [g, gl, mb] w w'
theorem ddo_in {P : Program} {f : FuncId} {av : Array Value} {w : World} {g gl mb : Nat} {u : Value} {S' : DS} (h : Calls P f av w fun e w' => ∃ v, e = .returned v ∧ DDoV w g gl mb u S' v w') : Calls P f av w (DDo w g gl mb u S') :=
  h.mono (by rintro e w' ⟨v, rfl, rfl, hh⟩; exact ⟨rfl, hh⟩)
theorem ddo_no {w wx : World} {g gl mb : Nat} {S S' : DS} {u v : Value} (h : DkAt w g gl mb S) (B : Bs w wx) (hv : v = u) (hd : S' = S) : DDoV w g gl mb u S' v wx := by
  subst hv; subst hd
  exact ⟨rfl, h.below B, Fr.ofBelow B⟩
theorem made_secs (n : Nat) : madeCells (List.replicate 64 (Value.int .u8 0)).toArray (n * 64) = sArr n 64 fun _ => zero64.map bV := by
  have hz : zero64.map bV = List.replicate 64 (Value.int .u8 0) := by unfold zero64; rw [List.map_replicate]; rfl
  refine sArr_of (fun i _ => by rw [hz, List.length_replicate]) (by simp [madeCells]) fun i c hi hc => ?_
  have hle : (i + 1) * 64 ≤ n * 64 := Nat.mul_le_mul_right 64 hi
  rw [hz, List.getElem?_replicate, if_pos hc]
  have hm : (i * 64 + c) % 64 < 64 := Nat.mod_lt _ (by decide)
  unfold madeCells
  rw [Array.getElem?_map, Array.getElem?_range, if_pos (by omega)]
  simp only [Option.map_some, List.size_toArray, List.length_replicate]
  congr 1
  rw [getElem!_pos _ _ (by rw [List.size_toArray, List.length_replicate]; exact hm), List.getElem_toArray]
  exact List.getElem_replicate _
theorem dnew_new (n : Nat) (h1 : 1 ≤ n) (h2 : n ≤ 8192) (w : World) : Calls Try.prog 6 #[.int .i64 n] w fun e w' => ∃ g gl mb, e = .returned (.tuple #[.pointer (some ⟨g, 0, none⟩), .int .i64 0]) ∧ DkAt w' g gl mb (newS n) ∧ w.heap.size ≤ g ∧ w.heap.size ≤ gl ∧ w.heap.size ≤ mb ∧ Below w.heap.size w w' := by
  refine (GDk.dnew_calls n w (fun u w' => ∃ g gl mb, u = .tuple #[.pointer (some ⟨g, 0, none⟩), .int .i64 0] ∧ DkAt w' g gl mb (newS n) ∧ w.heap.size ≤ g ∧ w.heap.size ≤ gl ∧ w.heap.size ≤ mb ∧ Below w.heap.size w w') ?_).mono (by rintro e w' ⟨v, rfl, g, gl, mb, rfl, h⟩; exact ⟨g, gl, mb, rfl, h⟩)
  unfold GDk.dnew_vc
  refine br_n (by omega) (br_n (by omega) ⟨by omega, by omega, by omega, by omega, newB (Bs.refl w) fun gl w2 gl0 sgl n2 z2 b2 B2 => newB B2 fun mb w3 mb0 smb n3 z3 b3 B3 => newB B3 fun g w4 g0 sg n4 z4 b4 B4 => ⟨g, gl, mb, rfl, ⟨?_, ?_, [], MapAt.below ⟨#[], 0, n3, MapKept.stamped_empty 0, rfl⟩ b4, fun k => ?_⟩, g0, gl0, mb0, B4⟩⟩)
  · rw [Int.toNat_natCast] at n4
    exact n4
  · rw [Int.toNat_natCast] at n2
    have n2' : Bk w2 gl (madeCells (List.replicate 64 (Value.int .u8 0)).toArray (n * 64)) 64 := n2
    rw [made_secs] at n2'
    exact (n2'.below b3).below b4
  · unfold cD
    split <;> rfl
theorem dnew_no (n : Int) (h : n < 1 ∨ n > 8192) (w : World) : Calls Try.prog 6 #[.int .i64 n] w (Ret (.tuple #[.pointer none, .int .i64 1]) w) := by
  refine ret_in (GDk.dnew_calls n w (fun u w' => u = .tuple #[.pointer none, .int .i64 1] ∧ Below w.heap.size w w') ?_)
  unfold GDk.dnew_vc
  exact br_dec (fun _ => ⟨rfl, Bs.refl _⟩) fun q => br_y (by omega) ⟨rfl, Bs.refl _⟩
theorem dput_any {w : World} {g gl mb : Nat} {S : DS} (h : DkAt w g gl mb S) (hW : DWf S) {k : Nat} {s : List UInt8} {gp op c : Nat} (hs : s.length = 64) (hc : cellsAt w gp op (s.map bV)) :
    Calls Try.prog 29 #[.pointer (some ⟨g, 0, none⟩), .int .i64 (k : Int), .slice (some ⟨gp, op, none⟩) 64 c] w (DDo w g gl mb (.bool (!(putK S k s).off)) (putK S k s)) := by
  refine ddo_in (GDk.dput_calls (some ⟨g, 0, none⟩) (k : Int) (some ⟨gp, op, none⟩) 64 c w (DDoV w g gl mb (.bool (!(putK S k s).off)) (putK S k s)) ?_)
  unfold GDk.dput_vc
  have hl0 := hW.left0
  have hlM := hW.leftM
  refine drewB (Bs.refl w) fun w2 b2 B2 e2 => ⟨some mb, (h.below b2).c1, Nat.le_refl _, s, hs, cellsAt_below hc b2 (Nat.le_refl _), (h.below b2).putM k s fun w3 h3 f3 z3 => ⟨S.left, h3.c2, ?_⟩⟩
  have F3 : Fr [g, gl, mb] w w3 := (Fr.ofBelow b2).trans f3 fun j hj => .inl (by simp at hj; simp [hj])
  refine br_dec (fun hl => ⟨S.left, h3.c2, ?_⟩) fun hl => ⟨S.off, h3.c3, ?_⟩
  · rw [wr64 (by omega) (by omega)]
    refine h3.setLeft (S.left - 1) (fun q hq => by cases hq) fun w4 h4 f4 z4 => ⟨S.left - 1, h4.c2, h4.setOff (decide (S.left - 1 = 0)) (fun q hq => by cases hq) fun w5 h5 f5 z5 => ⟨decide (S.left - 1 = 0), h5.c3, ?_, ?_, ?_⟩⟩
    · unfold putK
      dsimp only
      rw [if_pos hl]
    · unfold putK
      rw [if_pos hl, if_pos hl]
      exact h5
    · exact (F3.g f4 (.inl (by simp))).g f5 (.inl (by simp))
  · refine ⟨?_, ?_, F3⟩
    · unfold putK
      dsimp only
      rw [if_neg hl]
    · unfold putK
      rw [if_neg hl, if_neg hl]
      exact h3
/-- 'slices.Collect(slices.Chunk(b, 64))', as one step. -/
theorem chunksB_new {w : World} {a : Option Addr} {c m gb off : Nat} (ha : 0 < m → a = some ⟨gb, off, none⟩) (hm : m ≤ 1000000) (hcap : m * 64 ≤ c) {gs : List Nat} {K : Option Addr → Nat → Nat → World → Prop}
    (k : ∀ a' c' w2, Own w2 w.heap.size 34 1 (.slice a' m c') m ((List.range m).map (pieceV gb off)) → Below w.heap.size w w2 → K a' m c' w2) :
    Calls Try.prog 28 #[.slice a (m * 64) c, .int .i64 64] w fun e w1 => KeepG gs w w1 ∧ ∃ v : Value, e = .returned v ∧ Calls Try.prog 27 #[v] w1 fun e w2 => KeepG gs w1 w2 ∧ ∃ (a : Option Addr) (n c : Nat), e = .returned (.slice a n c) ∧ K a n c w2 := by
  refine ((callsIn_wide (n := 5)).1 (chunk_in Fence.wide 5 trivial rfl a (m * 64) c w)).mono ?_
  rintro e w1 ⟨rfl, rfl⟩
  have b1 : Below w.heap.size w (w.alloc (.cells #[.slice a (m * 64) c] 34)) := Below_one _
  have b2 : Below w.heap.size w ((w.alloc (.cells #[.slice a (m * 64) c] 34)).alloc (.cells #[.int .i64 64] 3)) := b1.alloc b1.size _
  refine ⟨keepG_below b2, _, rfl, ?_⟩
  have h0 : ((w.alloc (.cells #[.slice a (m * 64) c] 34)).alloc (.cells #[.int .i64 64] 3)).cell? ⟨w.heap.size, 0, none⟩ = some (.slice a (m * 64) c) := by
    rw [cell_of_row _ _ _ _ _ _ ((Below.heap_alloc _ _ _ (by simp)).trans (al_new rfl))]; rfl
  have h1 : ((w.alloc (.cells #[.slice a (m * 64) c] 34)).alloc (.cells #[.int .i64 64] 3)).cell? ⟨w.heap.size + 1, 0, none⟩ = some (.int .i64 64) := by
    rw [cell_of_row _ _ _ _ _ _ (al_new (by simp))]; rfl
  refine ((callsIn_wide (n := 5)).1 (collectB_in Fence.wide 5 trivial trivial trivial rfl (by omega) w.heap.size (w.heap.size + 1) gb off c m a ha hm hcap _ (by rw [World.size_alloc, World.size_alloc]; omega) (by rw [World.size_alloc, World.size_alloc]; omega) h0 h1)).mono ?_
  rintro e w2 ⟨v, rfl, hr, hn, hb⟩
  have ho := Own.ofRow hr
  obtain ⟨a', c', rfl⟩ := ho.isSlice
  have hb' : Below w.heap.size w w2 := b2.trans (hb.mono b2.size)
  exact ⟨keepG_below hb, a', m, c', rfl, k a' c' w2 (ho.base_le fun j hj => Nat.le_trans b2.size (ho.lt j hj).1) hb'⟩
theorem tdiv64 (n : Nat) : Int.tdiv (n : Int) 64 = ((n / 64 : Nat) : Int) := by rw [Int.tdiv_eq_ediv_of_nonneg (by omega)]; omega
theorem tmod64 (n : Nat) : Int.tmod (n : Int) 64 = ((n % 64 : Nat) : Int) := by rw [Int.tmod_eq_emod_of_nonneg (by omega)]; omega
theorem dwrite_any {w : World} {g gl mb : Nat} {S : DS} (h : DkAt w g gl mb S) (hW : DWf S) {a : Option Addr} {c : Nat} {bs : List UInt8} (hr : RowAt w a (bs.map bV)) (hl : bs.length ≤ 60000000) (hcap : bs.length ≤ c) (ha : ∀ q, a = some q → q.block ∉ [g, gl, mb]) (first : Int) :
    Calls Try.prog 12 #[.pointer (some ⟨g, 0, none⟩), .int .i64 first, .slice a bs.length c] w (DDo w g gl mb (.int .i64 (writeE S first bs)) (writeD S first bs)) := by
  refine ddo_in (GDk.dwrite_calls (some ⟨g, 0, none⟩) first a bs.length c w (DDoV w g gl mb (.int .i64 (writeE S first bs)) (writeD S first bs)) ?_)
  unfold GDk.dwrite_vc
  rw [tdiv64, tmod64, wr64 (z := ((bs.length / 64 : Nat) : Int)) (by omega) (by omega)]
  refine ⟨by decide, callB (Bs.refl w) (dmay_ret h hW first _) fun w2 b2 B2 => ⟨_, rfl, br_dec (fun q => ddo_no h B2 (by unfold writeE; rw [if_pos q]) (by unfold writeD; rw [if_neg fun r => q r.1])) fun q => ⟨by decide, br_dec (fun q2 => ddo_no h B2 (by unfold writeE; rw [if_neg q, if_pos (by omega)]) (by unfold writeD; rw [if_neg fun r => by have := r.2; omega])) fun q2 => ?_⟩⟩⟩
  have q : mayE S first ((bs.length / 64 : Nat) : Int) = 0 := Decidable.byContradiction q
  obtain ⟨ho, h0, h1, h3, h4⟩ := mayE_zero q
  have hn2 := hW.n2
  obtain ⟨f, rfl⟩ := Int.eq_ofNat_of_zero_le h0
  obtain ⟨m, hm⟩ : ∃ m, bs.length = m * 64 := ⟨bs.length / 64, by omega⟩
  have hmd : bs.length / 64 = m := by omega
  have hE : writeE S (f : Int) bs = if (wrS S f (pieceB bs) m).off = true then 12 else 0 := by
    unfold writeE
    rw [if_neg (fun r => r q), if_neg (by omega), hmd, Int.toNat_natCast]
  have hD : writeD S (f : Int) bs = wrS S f (pieceB bs) m := by
    unfold writeD
    rw [if_pos ⟨q, by omega⟩, hmd, Int.toNat_natCast]
  rw [hE, hD]
  obtain ⟨gb, off, hgo⟩ : ∃ gb off, 0 < m → a = some ⟨gb, off, none⟩ := by
    rcases hr with e | ⟨b, o, e, _⟩
    · refine ⟨0, 0, fun hp => ?_⟩
      rw [List.map_eq_nil_iff] at e
      rw [e] at hm
      simp at hm
      omega
    · exact ⟨b, o, fun _ => e⟩
  rw [hm]
  refine chunksB_new (m := m) (c := c) hgo (by omega) (by omega) fun a' c' w4 hO b4 => ?_
  have B4 := B2.to b4
  have h4' := h.below B4
  obtain ⟨l1, l2, l3⟩ := h.lt
  have hs2 := B2.size
  refine ⟨fun x wx => ∃ i : Nat, x = i ∧ i ≤ m ∧ (wrS S f (pieceB bs) i).off = false ∧ DkAt wx g gl mb (wrS S f (pieceB bs) i) ∧ Fr [g, gl, mb] w wx ∧ Fr [g, gl, mb] w4 wx, fun x _ => m - x.toNat, ⟨0, rfl, by omega, ho, h4', Fr.ofBelow B4, Fr.refl _ _⟩, ?_⟩
  rintro x wx ⟨i, rfl, hi, hoff, hx, fx, fx4⟩
  have hWi : DWf (wrS S f (pieceB bs) i) := hW.wr (first := f) (f := pieceB bs) (m := i) (fun k hk => pieceB_len hm (by omega)) (by omega)
  refine br_dec (fun hlt => ?_) fun hge => ?_
  · have him : i < m := by omega
    have hOx : Own wx w2.heap.size 34 1 (.slice a' m c') m ((List.range m).map (pieceV gb off)) := hO.keep fun k hk => by
      obtain ⟨k1, k2⟩ := hO.lt k hk
      exact fx4.block k k2 (by simp; omega)
    have hpl := pieceB_len hm him
    rcases hOx.row with e | ⟨pb, po, rfl, hc⟩
    · have := congrArg List.length e
      simp at this
      omega
    have hci := hc i (pieceV gb off i) (by simp [him])
    have ea := hgo (by omega)
    have hrx : RowAt wx a (bs.map bV) := hr.frL fx ha
    have hpc : cellsAt wx gb (off + i * 64) ((pieceB bs i).map bV) := by
      refine cellsAt_of fun j v hv => ?_
      rcases hrx with e | ⟨b, o, e, hcb⟩
      · rw [List.map_eq_nil_iff] at e
        rw [e] at hm
        simp at hm
        omega
      · rw [ea] at e
        injection e with e
        injection e with e1 e2 _
        subst e1; subst e2
        have hj : j < 64 := by
          have := (List.getElem?_eq_some_iff.1 hv).1
          rw [List.length_map, hpl] at this
          exact this
        have := hcb (i * 64 + j) v (by
          rw [List.getElem?_map] at hv ⊢
          unfold pieceB at hv
          rw [List.getElem?_take_of_lt hj, List.getElem?_drop] at hv
          exact hv)
        rwa [← Nat.add_assoc] at this
    rw [wr64 (z := (f : Int) + i) (by omega) (by omega), wr64 (z := (i : Int) + 1) (by omega) (by omega), show (f : Int) + i = ((f + i : Nat) : Int) by omega]
    refine ⟨by omega, by omega, some ⟨gb, off + i * 64, none⟩, 64, 64, by rw [Int.toNat_natCast, Nat.mul_one]; exact hci, (dput_any hx hWi hpl hpc).mono ?_⟩
    rintro e w6 ⟨rfl, h6, f6⟩
    have hst : wrS S f (pieceB bs) (i + 1) = putK (wrS S f (pieceB bs) i) (f + i) (pieceB bs i) := by rw [wrS, if_neg (by rw [hoff]; decide)]
    rw [← hst] at h6 ⊢
    have f6w := fx.trans f6 (Gr.refl _ _)
    refine ⟨keepG_nil _ _, _, rfl, ?_⟩
    cases hq : (wrS S f (pieceB bs) (i + 1)).off
    · exact br_f rfl ⟨⟨i + 1, by omega, by omega, hq, h6, f6w, fx4.trans f6 (Gr.refl _ _)⟩, by dsimp only; omega⟩
    · have hall := wrS_stay hq (j := m) (by omega)
      rw [hall, if_pos hq]
      exact br_t rfl ⟨rfl, h6, f6w⟩
  · obtain rfl : i = m := by omega
    rw [if_neg (by rw [hoff]; decide)]
    exact ⟨rfl, hx, fx⟩
theorem dwrite_nil (first : Int) (w : World) : Calls Try.prog 12 #[.pointer none, .int .i64 first, .slice none 0 0] w (Ret (.int .i64 1) w) := by
  refine ret_in (GDk.dwrite_calls none first none 0 0 w (fun u w' => u = .int .i64 1 ∧ Below w.heap.size w w') ?_)
  unfold GDk.dwrite_vc
  exact ⟨by decide, callB (Bs.refl w) (dmay_nil first _ w) fun w2 b2 B2 => ⟨_, rfl, br_y (by decide) ⟨rfl, B2⟩⟩⟩
theorem dcut_any {w : World} {g gl mb : Nat} {S : DS} (h : DkAt w g gl mb S) (n : Int) : Calls Try.prog 16 #[.pointer (some ⟨g, 0, none⟩), .int .i64 n] w (DDo w g gl mb (.tuple #[]) (cutD S n)) := by
  refine ddo_in (GDk.dcut_calls (some ⟨g, 0, none⟩) n w (DDoV w g gl mb (.tuple #[]) (cutD S n)) ?_)
  unfold GDk.dcut_vc
  exact br_t rfl (h.setLeft (max n 0) (fun q hq => by cases hq) fun w2 h2 f2 z2 => ⟨rfl, h2, f2.mono fun k hk => .inl (by simp at hk; simp [hk])⟩)
theorem dcut_nil (n : Int) (w : World) : Calls Try.prog 16 #[.pointer none, .int .i64 n] w (Ret (.tuple #[]) w) := by
  refine ret_in (GDk.dcut_calls none n w (fun u w' => u = .tuple #[] ∧ Below w.heap.size w w') ?_)
  unfold GDk.dcut_vc
  exact br_f rfl ⟨rfl, Bs.refl _⟩
end Go.Proofs.Ytbolfgafiejkaaa
end
section
/- Rows of ints. No program in sight. -/
namespace Go.Proofs.Ytbolfgafiejkaaa
open Go.RowKit Go.ChangeShapes
def iV (z : Int) : Value := .int .i64 z
def ints (zs : List Int) : Prop := ∀ z ∈ zs, -9223372036854775808 ≤ z ∧ z ≤ 9223372036854775807
theorem RowAt.int {w : World} {a : Option Addr} {zs : List Int} (h : RowAt w a (zs.map iV)) {k : Nat} (hk : k < zs.length) : ∃ b off, a = some ⟨b, off, none⟩ ∧ w.cell? ⟨b, off + k, none⟩ = some (.int .i64 zs[k]) := by
  rcases h with h | ⟨b, off, ha, h⟩
  · rw [List.map_eq_nil_iff] at h; subst h; simp at hk
  · exact ⟨b, off, ha, h k _ (by rw [List.getElem?_map, List.getElem?_eq_getElem hk]; rfl)⟩
theorem one_iV {zs : List Int} : ∀ u ∈ zs.map iV, u.oneCell' = true := by
  intro u hu
  obtain ⟨x, _, rfl⟩ := List.mem_map.1 hu
  rfl
theorem min_takeI (zs : List Int) (n : Nat) : min (zs.length : Int) (n : Int) = ((zs.take n).length : Int) := by
  rw [List.length_take]; omega
variable {P : Program} {W : World} {H : Type} {enc : TypeId × Value → H}
theorem row_of_ints {a : Addr} {zs : List Int} {len : Nat} (hl : len ≤ zs.length) (hc : ∀ i, i < zs.length → W.cell? (a.add i) = some (.int .i64 (zs.getD i 0))) : (zs.take len).length = len ∧ RowAt W (some a) ((zs.take len).map iV) := by
  refine ⟨by simp; omega, ?_⟩
  cases hz : zs with
  | nil => exact .inl (by simp)
  | cons z0 r =>
    rw [← hz]
    have h0 := hc 0 (by rw [hz]; simp)
    have ha := addr_plain h0
    refine .inr ⟨a.block, a.off, by rw [← ha], fun i v hv => ?_⟩
    rw [List.getElem?_map, List.getElem?_take] at hv
    split at hv
    · rcases hq : zs[i]? with _ | z
      · rw [hq] at hv; cases hv
      · rw [hq] at hv
        simp only [Option.map_some, Option.some.injEq] at hv
        have hi : i < zs.length := (List.getElem?_eq_some_iff.1 hq).1
        have h1 := hc i hi
        rw [ha, Addr.add_lit, List.getD_eq_getElem?_getD, hq] at h1
        rw [← hv]
        exact h1
    · cases hv
theorem open_i64s {t e : TypeId} {v : Value} {d : DataW H} {p : List MemPlace} (ht : P.underlying t = some (.slice e)) (he : P.underlying e = some (.int .i64)) (hc : P.cellsOf e = 1)
    (hv : ∃ a l c, v = .slice a l c) (h : DataW.Trod enc P W 0 (fun _ => true) true t v d p) : ∃ (zs : List Int) (a : Option Addr) (c : Nat), v = .slice a zs.length c ∧ zs.length ≤ c ∧ c ≤ maxLen ∧ RowAt W a (zs.map iV) ∧ ints zs := by
  obtain ⟨a, l, c, rfl⟩ := hv
  obtain ⟨fuel, hf⟩ := h
  rcases open_ints ht he hc hf with ⟨hcs, _⟩ | ⟨x, l', c', zs, hcs, _, hl, hm, hz, _, hcell, hwz⟩
  · simp [Value.cells] at hcs
    obtain ⟨rfl, rfl, rfl⟩ := hcs
    exact ⟨[], none, 0, rfl, Nat.le_refl _, by decide, .inl rfl, fun _ h => by cases h⟩
  · simp [Value.cells] at hcs
    obtain ⟨rfl, rfl, rfl⟩ := hcs
    simp only [if_true] at hz
    obtain ⟨h1, h2⟩ := row_of_ints (len := l) (by omega) hcell
    exact ⟨zs.take l, some x, c, by rw [h1], by rw [h1]; exact hl, hm, h2, fun z hz => i64_range (hwz z (List.mem_of_mem_take hz))⟩
end Go.Proofs.Ytbolfgafiejkaaa
end
section
/- The program's disk: what lasts, behind a sync and behind a crash; walked. -/
namespace Go.Proofs.Ytbolfgafiejkaaa
open Go.RowKit Go.Shelf Go.Maps Go.Sort
theorem cD_some {S : DS} {k : Int} {v : Value} (h : cD S k = some v) : ∃ (i : Nat) (s : List UInt8), k = i ∧ S.cch i = some s ∧ v = secV s := by
  unfold cD at h
  split at h
  · cases h
  · rename_i hk
    rw [Option.map_eq_some_iff] at h
    obtain ⟨s, hs, rfl⟩ := h
    exact ⟨k.toNat, s, by omega, hs, rfl⟩
theorem cD_mem {S : DS} {m : List (Int × Value)} (hn : (m.map (·.1)).Nodup) (hl : ∀ k, lkM m k = cD S k) (k : Int) : k ∈ m.map (·.1) ↔ 0 ≤ k ∧ (S.cch k.toNat).isSome = true := by
  constructor
  · intro h
    obtain ⟨p, hp, rfl⟩ := List.mem_map.1 h
    have h1 := lkM_of_mem hn (k := p.1) (v := p.2) hp
    rw [hl] at h1
    obtain ⟨i, s, hi, hs, _⟩ := cD_some h1
    rw [hi, Int.toNat_natCast, hs]
    exact ⟨by omega, rfl⟩
  · rintro ⟨h0, h1⟩
    obtain ⟨s, hs⟩ := Option.isSome_iff_exists.1 h1
    have := hl k
    unfold cD at this
    rw [if_neg (by omega), hs] at this
    exact List.mem_map.2 ⟨_, lkM_mem this, rfl⟩
theorem sortK_dirty {S : DS} (hW : DWf S) {m : List (Int × Value)} (hn : (m.map (·.1)).Nodup) (hl : ∀ k, lkM m k = cD S k) : sortK m = dirtyI S := by
  unfold sortK
  have hnd : (dirtyI S).Nodup := (dirtyI_sorted S).imp fun h => by omega
  have hp : (m.map (·.1)).Perm (dirtyI S) := (List.perm_ext_iff_of_nodup hn hnd).2 fun k => by rw [mem_dirtyI hW, cD_mem hn hl]
  rw [mergeSort_of_perm_i hp]
  exact List.mergeSort_of_pairwise ((dirtyI_sorted S).imp fun h => by simp [leI]; omega)
theorem dirty_range {S : DS} (hW : DWf S) {m : List (Int × Value)} (hn : (m.map (·.1)).Nodup) (hl : ∀ k, lkM m k = cD S k) : (∀ p ∈ m, -9223372036854775808 ≤ p.1 ∧ p.1 ≤ 9223372036854775807) ∧ m.length ≤ 8192 := by
  have hn2 := hW.n2
  have h1 : ∀ k ∈ m.map (·.1), 0 ≤ k ∧ k < 8192 := fun k hk => by
    obtain ⟨h0, h1⟩ := (cD_mem hn hl k).1 hk
    obtain ⟨s, hs⟩ := Option.isSome_iff_exists.1 h1
    have := (hW.cch _ s hs).1
    omega
  refine ⟨fun p hp => by have := h1 p.1 (List.mem_map.2 ⟨p, hp, rfl⟩); omega, ?_⟩
  have hsub := nodup_sub (l := m.map (·.1)) (l' := (List.range 8192).map fun (i : Nat) => (i : Int)) hn fun k hk => by
    have := h1 k hk
    exact List.mem_map.2 ⟨k.toNat, List.mem_range.2 (by omega), by omega⟩
  simpa using hsub
def NewIntsD (w : World) (zs : List Int) (a : Option Addr) (n c : Nat) (w' : World) : Prop := n = zs.length ∧ Own w' w.heap.size 3 1 (.slice a n c) n (zs.map iV) ∧ Below w.heap.size w w'
theorem ddirty_new {w : World} {g gl mb : Nat} {S : DS} (h : DkAt w g gl mb S) (hW : DWf S) :
    Calls Try.prog 21 #[.pointer (some ⟨g, 0, none⟩)] w fun e w' => ∃ a n c, e = .returned (.slice a n c) ∧ NewIntsD w (dirtyI S) a n c w' := by
  refine (GDk.ddirty_calls (some ⟨g, 0, none⟩) w (fun u w' => ∃ a n c, u = .slice a n c ∧ NewIntsD w (dirtyI S) a n c w') ?_).mono (by rintro e w' ⟨v, rfl, a, n, c, rfl, h⟩; exact ⟨a, n, c, rfl, h⟩)
  unfold GDk.ddirty_vc
  obtain ⟨m, hm, hl⟩ := h.map
  obtain ⟨hr, hlen⟩ := dirty_range hW hm.nodup hl
  refine br_f rfl ⟨some mb, h.c1, keysDisk_new (K := fun u w' => ∃ a n c, u = .slice a n c ∧ NewIntsD w (dirtyI S) a n c w') hm hr (by omega) (Bs.refl w) fun a c w2 ho hn b2 B2 => ?_⟩
  rw [sortK_dirty hW hm.nodup hl] at ho ⊢
  exact ⟨a, _, c, rfl, rfl, ho, B2⟩
theorem ddirty_nil (w : World) : Calls Try.prog 21 #[.pointer none] w (Ret (.slice none 0 0) w) := by
  refine ret_in (GDk.ddirty_calls none w (fun u w' => u = .slice none 0 0 ∧ Below w.heap.size w w') ?_)
  unfold GDk.ddirty_vc
  exact br_t rfl ⟨rfl, Bs.refl _⟩
def seenS (S : DS) (seen : List Int) : DS := ⟨S.n, fun i => if (i : Int) ∈ seen then nowS S i else S.last i, S.cch, S.left, S.off⟩
theorem seenS_wf {S : DS} (h : DWf S) (seen : List Int) : DWf (seenS S seen) :=
  ⟨h.n1, h.n2, fun i => by
    show (if (i : Int) ∈ seen then nowS S i else S.last i).length = 64
    split
    · exact h.now i
    · exact h.last i, h.cch, h.left0, h.leftM⟩
theorem off_of {S : DS} (q : syncE S ≠ 0) : syncD S = S := by
  unfold syncE at q
  unfold syncD
  by_cases ho : S.off = true
  · rw [if_pos ho]
  · rw [if_neg ho] at q; exact absurd rfl q
theorem dsync_any {w : World} {g gl mb : Nat} {S : DS} (h : DkAt w g gl mb S) (hW : DWf S) : Calls Try.prog 14 #[.pointer (some ⟨g, 0, none⟩)] w (DDo w g gl mb (.int .i64 (syncE S)) (syncD S)) := by
  refine ddo_in (GDk.dsync_calls (some ⟨g, 0, none⟩) w (DDoV w g gl mb (.int .i64 (syncE S)) (syncD S)) ?_)
  unfold GDk.dsync_vc
  have hm0 : mayE S 0 0 = syncE S := by
    unfold mayE syncE
    split
    · rfl
    · rw [if_pos ⟨by omega, by omega, by omega, by omega⟩]
  refine callB (Bs.refl w) (dmay_ret h hW 0 0) fun w2 b2 B2 => ⟨_, rfl, ?_⟩
  rw [hm0]
  refine br_dec (fun q => ddo_no h B2 rfl (off_of q)) fun q => ?_
  have q : syncE S = 0 := Decidable.byContradiction q
  have ho : ¬ S.off = true := fun r => by unfold syncE at q; rw [if_pos r] at q; omega
  have hS : syncD S = ⟨S.n, nowS S, fun _ => none, S.left, S.off⟩ := by unfold syncD; rw [if_neg ho]
  rw [q, hS]
  have h2 := h.below B2
  obtain ⟨l1, l2, l3⟩ := h.lt
  obtain ⟨n1, n2, n3⟩ := h.ne
  have hs2 := B2.size
  obtain ⟨m, hm, hl⟩ := h2.map
  have hn := hm.nodup
  refine ⟨some mb, h2.c1, mb, m, rfl, hm, fun g2 w3 sg2 hit b3 z3 => ?_⟩
  have B3 := B2.to b3
  refine ⟨fun wx => ∃ seen, Loop wx g2 mb m seen ∧ DkAt wx g gl mb (seenS S seen) ∧ Fr [g, gl, mb] w wx ∧ w3.heap.size ≤ wx.heap.size, fun wx => m.length - iterLen wx g2, ⟨[], Loop.start hit, ?_, Fr.ofBelow B3, Nat.le_refl _⟩, ?_⟩
  · have := h2.below b3
    exact this
  rintro wx ⟨seen, hL, hx, fx, hsx⟩
  refine ⟨mb, m, seen, hL.at', fun hall => ?_, fun k v w7 hkv hks hit1 hf1 hz1 => ?_⟩
  · refine ⟨some mb, hx.c1, .inr (hx.clear fun w6 h6 f6 z6 => ⟨rfl, ?_, fx.g f6 (.inl (by simp))⟩)⟩
    have hlast : (seenS S seen).last = nowS S := by
      funext i
      show (if (i : Int) ∈ seen then nowS S i else S.last i) = nowS S i
      by_cases hi : (i : Int) ∈ seen
      · rw [if_pos hi]
      · rw [if_neg hi]
        unfold nowS
        cases hc : S.cch i with
        | none => rfl
        | some s =>
          have hlk := hl (i : Int)
          rw [cD_nat, hc] at hlk
          exact absurd (hall _ (lkM_mem hlk)) hi
    have h6' : DkAt w6 g gl mb ⟨S.n, (seenS S seen).last, fun _ => none, S.left, S.off⟩ := h6
    rw [hlast] at h6'
    exact h6'
  · have hv := lkM_of_mem hn hkv
    have hv' := hv
    rw [hl] at hv'
    obtain ⟨i, s, rfl, hs, rfl⟩ := cD_some hv'
    obtain ⟨hin, h64⟩ := hW.cch i s hs
    have hL1 := hL.step hkv hks hit1
    have hx7 : DkAt w7 g gl mb (seenS S seen) := hx.fr hf1 (by rw [List.mem_singleton]; omega) (by rw [List.mem_singleton]; omega) (by rw [List.mem_singleton]; omega)
    have fx7 : Fr [g, gl, mb] w w7 := fx.g hf1 (.inr (by omega))
    refine ⟨s, h64, (i : Int), ⟨mb, m, seen, hit1, hv⟩, newB (Bs.refl w7) fun g3 w8 g30 sg3 n8 z8 b8 B8 => condB h64 (stB B8 g30 n8 (by rw [List.length_map, h64]; rfl) (fun q hq => by cases hq) fun w9 n9 f9 B9 z9 => drewB B9 fun w10 b10 B10 e10 => ?_)⟩
    have h10 := hx7.below B10
    have n10 : Bk w10 g3 (s.map bV).toArray 64 := n9.below b10
    refine ⟨some ⟨gl, 0, none⟩, S.n, S.n, h10.c0, s, h64, cellsAt_row n10 (by rw [List.drop_zero, List.take_length]), by omega, by omega, condB h64 ?_⟩
    have hstep : (⟨S.n, fun j => if j = i then s else (seenS S seen).last j, S.cch, S.left, S.off⟩ : DS) = seenS S (seen ++ [(i : Int)]) := by
      unfold seenS
      congr 1
      funext j
      dsimp only
      by_cases e : j = i
      · subst e
        rw [if_pos rfl, if_pos (by simp)]
        unfold nowS
        rw [hs]
        rfl
      · rw [if_neg e]
        by_cases hj : (j : Int) ∈ seen
        · rw [if_pos hj, if_pos (by simp [hj])]
        · rw [if_neg hj, if_neg (by simp [hj]; omega)]
    rw [Int.toNat_natCast]
    refine h10.setSec (seenS_wf hW seen) hin h64 (fun q hq => by cases hq) fun w11 h11 f11 z11 => ?_
    have h11' : DkAt w11 g gl mb ⟨S.n, fun j => if j = i then s else (seenS S seen).last j, S.cch, S.left, S.off⟩ := h11
    rw [hstep] at h11'
    have hL11 : Loop w11 g2 mb m (seen ++ [(i : Int)]) := (hL1.below B10).box h10.lst f11
    refine ⟨⟨_, hL11, h11', (fx7.b B10).g f11 (.inl (by simp)), by have := B10.size; omega⟩, ?_⟩
    have hmore := hL.more hkv hks
    dsimp only
    rw [hL11.at'.len, hL.at'.len]
    simp
    omega
theorem dsync_nil (w : World) : Calls Try.prog 14 #[.pointer none] w (Ret (.int .i64 1) w) := by
  refine ret_in (GDk.dsync_calls none w (fun u w' => u = .int .i64 1 ∧ Below w.heap.size w w') ?_)
  unfold GDk.dsync_vc
  exact callB (Bs.refl w) (dmay_nil 0 0 w) fun w2 b2 B2 => ⟨_, rfl, br_y (by decide) ⟨rfl, B2⟩⟩
/-- So many of the cache have been looked at. -/
def crS (S : DS) (kept : List Bool) (k : Nat) : DS := ⟨S.n, fun i => if i ∈ (dirtyL S).take k ∧ kept.getD (rk (dirtyS S) i) false = true then nowS S i else S.last i, S.cch, S.left, S.off⟩
theorem crS_wf {S : DS} (h : DWf S) (kept : List Bool) (k : Nat) : DWf (crS S kept k) :=
  ⟨h.n1, h.n2, fun i => by
    show (if i ∈ (dirtyL S).take k ∧ kept.getD (rk (dirtyS S) i) false = true then nowS S i else S.last i).length = 64
    split
    · exact h.now i
    · exact h.last i, h.cch, h.left0, h.leftM⟩
theorem crS_no {S : DS} {kept : List Bool} {k i : Nat} (hk : (dirtyL S)[k]? = some i) (hn : kept.getD k false = false) : crS S kept (k + 1) = crS S kept k := by
  obtain ⟨h1, h2, h3⟩ := filt_get (dirtyS S) S.n k i hk
  unfold crS
  congr 1
  funext j
  by_cases e : j = i
  · subst e
    rw [if_neg fun q => by rw [← h1, hn] at q; exact absurd q.2 (by decide), if_neg fun q => by rw [← h1, hn] at q; exact absurd q.2 (by decide)]
  · have hiff : j ∈ (dirtyL S).take (k + 1) ↔ j ∈ (dirtyL S).take k := by
      rw [List.take_add_one, hk, List.mem_append]
      simp [e]
    simp only [hiff]
theorem crS_yes {S : DS} {kept : List Bool} {k i : Nat} {s : List UInt8} (hk : (dirtyL S)[k]? = some i) (hy : kept.getD k false = true) (hs : S.cch i = some s) :
    (⟨S.n, fun j => if j = i then s else (crS S kept k).last j, S.cch, S.left, S.off⟩ : DS) = crS S kept (k + 1) := by
  obtain ⟨h1, h2, h3⟩ := filt_get (dirtyS S) S.n k i hk
  unfold crS
  congr 1
  funext j
  dsimp only
  by_cases e : j = i
  · subst e
    rw [if_pos rfl, if_pos ⟨by rw [List.take_add_one, hk, List.mem_append]; simp, by rw [← h1]; exact hy⟩]
    unfold nowS
    rw [hs]
    rfl
  · rw [if_neg e]
    have hiff : j ∈ (dirtyL S).take (k + 1) ↔ j ∈ (dirtyL S).take k := by
      rw [List.take_add_one, hk, List.mem_append]
      simp [e]
    simp only [hiff]
theorem crS_all {S : DS} (hW : DWf S) (kept : List Bool) : (crS S kept (dirtyL S).length).last = (crashD S kept).last := by
  funext i
  show (if i ∈ (dirtyL S).take (dirtyL S).length ∧ kept.getD (rk (dirtyS S) i) false = true then nowS S i else S.last i) = if dirtyS S i = true ∧ kept.getD (rk (dirtyS S) i) false = true then nowS S i else S.last i
  have hiff : i ∈ (dirtyL S).take (dirtyL S).length ↔ dirtyS S i = true := by
    rw [List.take_length]
    unfold dirtyL
    rw [List.mem_filter, List.mem_range]
    refine ⟨fun q => q.2, fun q => ⟨?_, q⟩⟩
    obtain ⟨s, hs⟩ := Option.isSome_iff_exists.1 q
    exact (hW.cch i s hs).1
  simp only [hiff]
theorem getD_b {l : List Bool} {i : Nat} (h : i < l.length) : l.getD i false = l[i] := by rw [List.getD_eq_getElem?_getD, List.getElem?_eq_getElem h]; rfl
theorem RowAt.bool {w : World} {a : Option Addr} {bs : List Bool} (h : RowAt w a (bs.map Value.bool)) {k : Nat} (hk : k < bs.length) : ∃ b off, a = some ⟨b, off, none⟩ ∧ w.cell? ⟨b, off + k, none⟩ = some (.bool bs[k]) := by
  rcases h with h | ⟨b, off, ha, h⟩
  · rw [List.map_eq_nil_iff] at h; subst h; simp at hk
  · exact ⟨b, off, ha, h k _ (by simp [hk])⟩
theorem dcrash_g {w : World} {g gl mb : Nat} {S : DS} (h : DkAt w g gl mb S) (hW : DWf S) {a : Option Addr} {c : Nat} {kept : List Bool} (hr : ∀ w1, Fr [g, gl, mb] w w1 → RowAt w1 a (kept.map Value.bool)) :
    Calls Try.prog 17 #[.pointer (some ⟨g, 0, none⟩), .slice a kept.length c] w (DDo w g gl mb (.tuple #[]) (crashD S kept)) := by
  refine ddo_in (GDk.dcrash_calls (some ⟨g, 0, none⟩) a kept.length c w (DDoV w g gl mb (.tuple #[]) (crashD S kept)) ?_)
  unfold GDk.dcrash_vc
  have hlen := dirtyL_le hW
  have hlI : (dirtyI S).length = (dirtyL S).length := by unfold dirtyI; rw [List.length_map]
  obtain ⟨l1, l2, l3⟩ := h.lt
  refine br_f rfl ((ddirty_new h hW).mono ?_)
  rintro e w2 ⟨ad, nd, cd, rfl, rfl, od, bd⟩
  refine ⟨keepG_nil _ _, ad, _, cd, rfl, fun x wx => ∃ k : Nat, x = k ∧ k ≤ (dirtyL S).length ∧ DkAt wx g gl mb (crS S kept k) ∧ Fr [g, gl, mb] w wx ∧ Fr [g, gl, mb] w2 wx, fun x _ => (dirtyL S).length - x.toNat, ⟨0, rfl, by omega, ?_, Fr.ofBelow bd, Fr.refl _ _⟩, ?_⟩
  · have h2 := h.below bd
    have : crS S kept 0 = S := by
      unfold crS
      simp
    rw [this]
    exact h2
  rintro x wx ⟨k, rfl, hk, hx, fx, fx2⟩
  refine br_dec (fun hlt => ?_) fun hge => ?_
  · have hkl : k < (dirtyL S).length := by omega
    have hodx : Own wx w.heap.size 3 1 (.slice ad (dirtyI S).length cd) (dirtyI S).length ((dirtyI S).map iV) := od.keep fun j hj => by
      obtain ⟨j1, j2⟩ := od.lt j hj
      exact fx2.block j j2 (by simp; omega)
    obtain ⟨b0, o0, rfl, hc⟩ := hodx.row.int (k := k) (by omega)
    have hg := List.getElem?_eq_getElem hkl
    obtain ⟨r1, r2, r3⟩ := filt_get (dirtyS S) S.n k _ hg
    have hat : (dirtyI S)[k] = (((dirtyL S)[k] : Nat) : Int) := by unfold dirtyI; simp
    rw [wr64 (z := (k : Int) + 1) (by omega) (by omega)]
    refine ⟨by omega, by omega, (((dirtyL S)[k] : Nat) : Int), by rw [Int.toNat_natCast, Nat.mul_one, hc, hat], ?_⟩
    have no : kept.getD k false = false → (∃ j : Nat, (k : Int) + 1 = j ∧ j ≤ (dirtyL S).length ∧ DkAt wx g gl mb (crS S kept j) ∧ Fr [g, gl, mb] w wx ∧ Fr [g, gl, mb] w2 wx) ∧ (dirtyL S).length - ((k : Int) + 1).toNat < (dirtyL S).length - (k : Int).toNat := fun q => ⟨⟨k + 1, by omega, by omega, by rw [crS_no hg q]; exact hx, fx, fx2⟩, by omega⟩
    refine br_dec (fun hkk => ?_) fun hkk => no (by rw [List.getD_eq_getElem?_getD, List.getElem?_eq_none (by omega)]; rfl)
    have hkl2 : k < kept.length := by omega
    obtain ⟨b1, o1, rfl, hb⟩ := (hr _ fx).bool hkl2
    refine ⟨by omega, by omega, kept[k], by rw [Int.toNat_natCast, Nat.mul_one]; exact hb, ?_⟩
    cases hkb : kept[k]
    · exact br_f rfl (no (by rw [getD_b hkl2, hkb]))
    · obtain ⟨s, hs⟩ := Option.isSome_iff_exists.1 r3
      have h64 := (hW.cch _ s hs).2
      refine br_t rfl (drewB (Bs.refl wx) fun w4 b4 B4 e4 => ?_)
      have h4 := hx.below b4
      refine ⟨some ⟨gl, 0, none⟩, S.n, S.n, h4.c0, some mb, h4.c1, s, h64, ?_, by omega, by omega, condB h64 ?_⟩
      · obtain ⟨r, q1, q2, _⟩ := h4.hit (k := (dirtyL S)[k]) (s := s) hs
        exact ⟨r, q1, q2⟩
      rw [Int.toNat_natCast]
      refine h4.setSec (crS_wf hW kept k) r2 h64 (fun q hq => by cases hq) fun w5 h5 f5 z5 => ?_
      have h5' : DkAt w5 g gl mb ⟨S.n, fun j => if j = (dirtyL S)[k] then s else (crS S kept k).last j, S.cch, S.left, S.off⟩ := h5
      rw [crS_yes hg (by rw [getD_b hkl2, hkb]) hs] at h5'
      exact ⟨⟨k + 1, by omega, by omega, h5', (fx.b b4).g f5 (.inl (by simp)), (fx2.b b4).g f5 (.inl (by simp))⟩, by dsimp only; omega⟩
  · obtain rfl : k = (dirtyL S).length := by omega
    refine ⟨some mb, hx.c1, .inr (hx.clear fun w6 h6 f6 z6 => h6.setLeft 0 (fun q hq => by cases hq) fun w7 h7 f7 z7 => h7.setOff false (fun q hq => by cases hq) fun w8 h8 f8 z8 => ⟨rfl, ?_, ((fx.g f6 (.inl (by simp))).g f7 (.inl (by simp))).g f8 (.inl (by simp))⟩)⟩
    have h8' : DkAt w8 g gl mb ⟨S.n, (crS S kept (dirtyL S).length).last, fun _ => none, 0, false⟩ := h8
    rw [crS_all hW] at h8'
    exact h8'
theorem dcrash_any {w : World} {g gl mb : Nat} {S : DS} (h : DkAt w g gl mb S) (hW : DWf S) {a : Option Addr} {c : Nat} {kept : List Bool} (hr : RowAt w a (kept.map Value.bool)) (ha : ∀ q, a = some q → q.block ∉ [g, gl, mb]) :
    Calls Try.prog 17 #[.pointer (some ⟨g, 0, none⟩), .slice a kept.length c] w (DDo w g gl mb (.tuple #[]) (crashD S kept)) := dcrash_g h hW fun _ f => hr.frL f ha
theorem dcrash_nil (a : Option Addr) (n c : Nat) (w : World) : Calls Try.prog 17 #[.pointer none, .slice a n c] w (Ret (.tuple #[]) w) := by
  refine ret_in (GDk.dcrash_calls none a n c w (fun u w' => u = .tuple #[] ∧ Below w.heap.size w w') ?_)
  unfold GDk.dcrash_vc
  exact br_t rfl ⟨rfl, Bs.refl _⟩
end Go.Proofs.Ytbolfgafiejkaaa
end
section
/- The document's disk: three lists; walked. -/
namespace Go.Proofs.Ytbolfgafiejkaaa
open Go.RowKit
def strL (n : Nat) (f : Nat → List UInt8) : List Value := (List.range n).map fun i => .string (strOf (f i))
def boolL (n : Nat) (f : Nat → Bool) : List Value := (List.range n).map fun i => .bool (f i)
theorem range_set {n : Nat} {F : Nat → Value} (i : Nat) (v : Value) : ((List.range n).map F).set i v = (List.range n).map fun j => if j = i then v else F j := by
  apply List.ext_getElem?
  intro j
  rw [List.getElem?_set]
  by_cases hj : j < n
  · by_cases e : i = j
    · subst e; simp [hj]
    · rw [if_neg e]; simp [hj]; intro q; exact absurd q.symm e
  · have hj' : n ≤ j := by omega
    by_cases e : i = j
    · subst e; simp [hj']
    · rw [if_neg e]; simp [hj']
theorem strL_set (n i : Nat) (f : Nat → List UInt8) (s : List UInt8) : (strL n f).set i (.string (strOf s)) = strL n fun j => if j = i then s else f j := by
  unfold strL
  rw [range_set]
  exact List.map_congr_left fun j _ => by dsimp only; split <;> rfl
theorem boolL_set (n i : Nat) (f : Nat → Bool) (b : Bool) : (boolL n f).set i (.bool b) = boolL n fun j => if j = i then b else f j := by
  unfold boolL
  rw [range_set]
  exact List.map_congr_left fun j _ => by dsimp only; split <;> rfl
structure RkR (w : World) (gr k1 f1 c1 k2 f2 c2 k3 f3 c3 n : Nat) (L N : Nat → List UInt8) (D : Nat → Bool) (left : Int) (off : Bool) : Prop where
  blk : Bk w gr #[.slice (some ⟨k1, f1, none⟩) n c1, .slice (some ⟨k2, f2, none⟩) n c2, .slice (some ⟨k3, f3, none⟩) n c3, .int .i64 left, .bool off] 46
  o1 : Own w 0 9 1 (.slice (some ⟨k1, f1, none⟩) n c1) n (strL n L)
  o2 : Own w 0 9 1 (.slice (some ⟨k2, f2, none⟩) n c2) n (strL n N)
  o3 : Own w 0 4 1 (.slice (some ⟨k3, f3, none⟩) n c3) n (boolL n D)
  ne12 : k1 ≠ k2
section
variable {w w1 : World} {gr k1 f1 c1 k2 f2 c2 k3 f3 c3 n : Nat} {L N : Nat → List UInt8} {D : Nat → Bool} {left : Int} {off : Bool}
theorem RkR.lt (h : RkR w gr k1 f1 c1 k2 f2 c2 k3 f3 c3 n L N D left off) : gr < w.heap.size ∧ k1 < w.heap.size ∧ k2 < w.heap.size ∧ k3 < w.heap.size := ⟨h.blk.lt, (h.o1.lt k1 rfl).2, (h.o2.lt k2 rfl).2, (h.o3.lt k3 rfl).2⟩
theorem own_block {e : TypeId} {k f c m : Nat} {xs : List Value} (h : Own w 0 e 1 (.slice (some ⟨k, f, none⟩) m c) m xs) : ∃ cur, w.heap[k]? = some (.cells cur e (0, 0)) := by
  rcases h.2 with ⟨h0, _⟩ | ⟨g, off, cap, cur, hv, _, hg, _⟩
  · cases h0
  · injection hv with hv
    injection hv with hv
    injection hv with e1 _ _
    subst e1
    exact ⟨cur, hg⟩
theorem RkR.ne (h : RkR w gr k1 f1 c1 k2 f2 c2 k3 f3 c3 n L N D left off) : gr ≠ k1 ∧ gr ≠ k2 ∧ gr ≠ k3 ∧ k1 ≠ k2 ∧ k1 ≠ k3 ∧ k2 ≠ k3 := by
  obtain ⟨u1, h1⟩ := own_block h.o1
  obtain ⟨u2, h2⟩ := own_block h.o2
  obtain ⟨u3, h3⟩ := own_block h.o3
  have hb : w.heap[gr]? = some (.cells _ 46 (0, 0)) := h.blk
  refine ⟨fun e => ?_, fun e => ?_, fun e => ?_, h.ne12, fun e => ?_, fun e => ?_⟩
  · rw [e, h1] at hb; injection hb with hb; injection hb with _ hb _; exact absurd hb (by decide)
  · rw [e, h2] at hb; injection hb with hb; injection hb with _ hb _; exact absurd hb (by decide)
  · rw [e, h3] at hb; injection hb with hb; injection hb with _ hb _; exact absurd hb (by decide)
  · rw [e, h3] at h1; injection h1 with h1; injection h1 with _ h1 _; exact absurd h1 (by decide)
  · rw [e, h3] at h2; injection h2 with h2; injection h2 with _ h2 _; exact absurd h2 (by decide)
theorem RkR.keep (h : RkR w gr k1 f1 c1 k2 f2 c2 k3 f3 c3 n L N D left off) (h0 : w1.heap[gr]? = w.heap[gr]?) (h1 : w1.heap[k1]? = w.heap[k1]?) (h2 : w1.heap[k2]? = w.heap[k2]?) (h3 : w1.heap[k3]? = w.heap[k3]?) : RkR w1 gr k1 f1 c1 k2 f2 c2 k3 f3 c3 n L N D left off :=
  ⟨h.blk.keep h0, h.o1.keep fun k hk => by injection hk with hk; subst hk; exact h1, h.o2.keep fun k hk => by injection hk with hk; subst hk; exact h2, h.o3.keep fun k hk => by injection hk with hk; subst hk; exact h3, h.ne12⟩
theorem RkR.below (h : RkR w gr k1 f1 c1 k2 f2 c2 k3 f3 c3 n L N D left off) (b : Below w.heap.size w w1) : RkR w1 gr k1 f1 c1 k2 f2 c2 k3 f3 c3 n L N D left off := h.keep (b.block _ h.lt.1) (b.block _ h.lt.2.1) (b.block _ h.lt.2.2.1) (b.block _ h.lt.2.2.2)
theorem RkR.fr {M : List Nat} (h : RkR w gr k1 f1 c1 k2 f2 c2 k3 f3 c3 n L N D left off) (b : Fr M w w1) (hM : ∀ k ∈ [gr, k1, k2, k3], k ∉ M) : RkR w1 gr k1 f1 c1 k2 f2 c2 k3 f3 c3 n L N D left off :=
  h.keep (b.block _ h.lt.1 (hM _ (by simp))) (b.block _ h.lt.2.1 (hM _ (by simp))) (b.block _ h.lt.2.2.1 (hM _ (by simp))) (b.block _ h.lt.2.2.2 (hM _ (by simp)))
theorem RkR.d0 (h : RkR w gr k1 f1 c1 k2 f2 c2 k3 f3 c3 n L N D left off) : w.cell? ⟨gr, 0, none⟩ = some (.slice (some ⟨k1, f1, none⟩) n c1) := by rw [h.blk.cell]; rfl
theorem RkR.d1 (h : RkR w gr k1 f1 c1 k2 f2 c2 k3 f3 c3 n L N D left off) : w.cell? ⟨gr, 0 + 1, none⟩ = some (.slice (some ⟨k2, f2, none⟩) n c2) := by rw [h.blk.cell]; rfl
theorem RkR.d2 (h : RkR w gr k1 f1 c1 k2 f2 c2 k3 f3 c3 n L N D left off) : w.cell? ⟨gr, 0 + 2, none⟩ = some (.slice (some ⟨k3, f3, none⟩) n c3) := by rw [h.blk.cell]; rfl
theorem RkR.d3 (h : RkR w gr k1 f1 c1 k2 f2 c2 k3 f3 c3 n L N D left off) : w.cell? ⟨gr, 0 + 3, none⟩ = some (.int .i64 left) := by rw [h.blk.cell]; rfl
theorem RkR.d4 (h : RkR w gr k1 f1 c1 k2 f2 c2 k3 f3 c3 n L N D left off) : w.cell? ⟨gr, 0 + 4, none⟩ = some (.bool off) := by rw [h.blk.cell]; rfl
theorem RkR.atL (h : RkR w gr k1 f1 c1 k2 f2 c2 k3 f3 c3 n L N D left off) {i : Nat} (hi : i < n) : w.cell? ⟨k1, f1 + i * 1, none⟩ = some (.string (strOf (L i))) := by
  rw [Nat.mul_one]; exact h.o1.cells k1 f1 c1 rfl i _ (by unfold strL; simp [hi])
theorem RkR.atN (h : RkR w gr k1 f1 c1 k2 f2 c2 k3 f3 c3 n L N D left off) {i : Nat} (hi : i < n) : w.cell? ⟨k2, f2 + i * 1, none⟩ = some (.string (strOf (N i))) := by
  rw [Nat.mul_one]; exact h.o2.cells k2 f2 c2 rfl i _ (by unfold strL; simp [hi])
theorem RkR.atD (h : RkR w gr k1 f1 c1 k2 f2 c2 k3 f3 c3 n L N D left off) {i : Nat} (hi : i < n) : w.cell? ⟨k3, f3 + i * 1, none⟩ = some (.bool (D i)) := by
  rw [Nat.mul_one]; exact h.o3.cells k3 f3 c3 rfl i _ (by unfold boolL; simp [hi])
theorem RkR.setL (h : RkR w gr k1 f1 c1 k2 f2 c2 k3 f3 c3 n L N D left off) {i : Nat} (hi : i < n) (s : List UInt8) {gs : List Nat} (hg : ∀ x ∈ gs, x ≠ k1) {K : World → Prop}
    (k : ∀ w1, RkR w1 gr k1 f1 c1 k2 f2 c2 k3 f3 c3 n (fun j => if j = i then s else L j) N D left off → Fr [k1] w w1 → w1.heap.size = w.heap.size → K w1) : stO gs w k1 (f1 + i * 1) [.string (strOf s)] K := by
  obtain ⟨n1, n2, n3, n4, n5, n6⟩ := h.ne
  obtain ⟨l0, l1, l2, l3⟩ := h.lt
  refine h.o1.storeAt hi hg fun w1 o1 fr z => k w1 ⟨h.blk.fr1 fr n1, ?_, h.o2.keep fun q hq => ?_, h.o3.keep fun q hq => ?_, h.ne12⟩ fr z
  · rw [strL_set] at o1; exact o1
  · injection hq with hq; subst hq; exact fr.block _ l2 (by rw [List.mem_singleton]; exact fun e => n4 e.symm)
  · injection hq with hq; subst hq; exact fr.block _ l3 (by rw [List.mem_singleton]; exact fun e => n5 e.symm)
theorem RkR.setN (h : RkR w gr k1 f1 c1 k2 f2 c2 k3 f3 c3 n L N D left off) {i : Nat} (hi : i < n) (s : List UInt8) {gs : List Nat} (hg : ∀ x ∈ gs, x ≠ k2) {K : World → Prop}
    (k : ∀ w1, RkR w1 gr k1 f1 c1 k2 f2 c2 k3 f3 c3 n L (fun j => if j = i then s else N j) D left off → Fr [k2] w w1 → w1.heap.size = w.heap.size → K w1) : stO gs w k2 (f2 + i * 1) [.string (strOf s)] K := by
  obtain ⟨n1, n2, n3, n4, n5, n6⟩ := h.ne
  obtain ⟨l0, l1, l2, l3⟩ := h.lt
  refine h.o2.storeAt hi hg fun w1 o2 fr z => k w1 ⟨h.blk.fr1 fr n2, h.o1.keep fun q hq => ?_, ?_, h.o3.keep fun q hq => ?_, h.ne12⟩ fr z
  · injection hq with hq; subst hq; exact fr.block _ l1 (by rw [List.mem_singleton]; exact n4)
  · rw [strL_set] at o2; exact o2
  · injection hq with hq; subst hq; exact fr.block _ l3 (by rw [List.mem_singleton]; exact fun e => n6 e.symm)
theorem RkR.setD (h : RkR w gr k1 f1 c1 k2 f2 c2 k3 f3 c3 n L N D left off) {i : Nat} (hi : i < n) (b : Bool) {gs : List Nat} (hg : ∀ x ∈ gs, x ≠ k3) {K : World → Prop}
    (k : ∀ w1, RkR w1 gr k1 f1 c1 k2 f2 c2 k3 f3 c3 n L N (fun j => if j = i then b else D j) left off → Fr [k3] w w1 → w1.heap.size = w.heap.size → K w1) : stO gs w k3 (f3 + i * 1) [.bool b] K := by
  obtain ⟨n1, n2, n3, n4, n5, n6⟩ := h.ne
  obtain ⟨l0, l1, l2, l3⟩ := h.lt
  refine h.o3.storeAt hi hg fun w1 o3 fr z => k w1 ⟨h.blk.fr1 fr n3, h.o1.keep fun q hq => ?_, h.o2.keep fun q hq => ?_, ?_, h.ne12⟩ fr z
  · injection hq with hq; subst hq; exact fr.block _ l1 (by rw [List.mem_singleton]; exact n5)
  · injection hq with hq; subst hq; exact fr.block _ l2 (by rw [List.mem_singleton]; exact n6)
  · rw [boolL_set] at o3; exact o3
theorem RkR.setArm (h : RkR w gr k1 f1 c1 k2 f2 c2 k3 f3 c3 n L N D left off) (l : Int) {gs : List Nat} (hg : ∀ x ∈ gs, x ≠ gr) {K : World → Prop}
    (k : ∀ w1, RkR w1 gr k1 f1 c1 k2 f2 c2 k3 f3 c3 n L N D l off → Fr [gr] w w1 → w1.heap.size = w.heap.size → K w1) : stO gs w gr (0 + 3) [.int .i64 l] K := by
  obtain ⟨n1, n2, n3, n4, n5, n6⟩ := h.ne
  obtain ⟨l0, l1, l2, l3⟩ := h.lt
  refine stO_bk h.blk (by simp) hg fun w1 h1 fr z => k w1 ⟨h1, h.o1.keep fun q hq => ?_, h.o2.keep fun q hq => ?_, h.o3.keep fun q hq => ?_, h.ne12⟩ fr z
  · injection hq with hq; subst hq; exact fr.block _ l1 (by rw [List.mem_singleton]; exact fun e => n1 e.symm)
  · injection hq with hq; subst hq; exact fr.block _ l2 (by rw [List.mem_singleton]; exact fun e => n2 e.symm)
  · injection hq with hq; subst hq; exact fr.block _ l3 (by rw [List.mem_singleton]; exact fun e => n3 e.symm)
theorem RkR.setOffR (h : RkR w gr k1 f1 c1 k2 f2 c2 k3 f3 c3 n L N D left off) (b : Bool) {gs : List Nat} (hg : ∀ x ∈ gs, x ≠ gr) {K : World → Prop}
    (k : ∀ w1, RkR w1 gr k1 f1 c1 k2 f2 c2 k3 f3 c3 n L N D left b → Fr [gr] w w1 → w1.heap.size = w.heap.size → K w1) : stO gs w gr (0 + 4) [.bool b] K := by
  obtain ⟨n1, n2, n3, n4, n5, n6⟩ := h.ne
  obtain ⟨l0, l1, l2, l3⟩ := h.lt
  refine stO_bk h.blk (by simp) hg fun w1 h1 fr z => k w1 ⟨h1, h.o1.keep fun q hq => ?_, h.o2.keep fun q hq => ?_, h.o3.keep fun q hq => ?_, h.ne12⟩ fr z
  · injection hq with hq; subst hq; exact fr.block _ l1 (by rw [List.mem_singleton]; exact fun e => n1 e.symm)
  · injection hq with hq; subst hq; exact fr.block _ l2 (by rw [List.mem_singleton]; exact fun e => n2 e.symm)
  · injection hq with hq; subst hq; exact fr.block _ l3 (by rw [List.mem_singleton]; exact fun e => n3 e.symm)
end
/-- The places of the document's disk. -/
structure RPl where
  gr : Nat
  k1 : Nat
  f1 : Nat
  c1 : Nat
  k2 : Nat
  f2 : Nat
  c2 : Nat
  k3 : Nat
  f3 : Nat
  c3 : Nat
def RPl.bl (p : RPl) : List Nat := [p.gr, p.k1, p.k2, p.k3]
abbrev RkAt (w : World) (p : RPl) (S : DS) : Prop := RkR w p.gr p.k1 p.f1 p.c1 p.k2 p.f2 p.c2 p.k3 p.f3 p.c3 S.n S.last (nowS S) (dirtyS S) S.left S.off
def thereB (S : DS) (first n : Int) : Prop := 0 ≤ first ∧ 0 ≤ n ∧ first ≤ S.n ∧ n ≤ S.n - first
instance (S : DS) (first n : Int) : Decidable (thereB S first n) := by unfold thereB; infer_instance
theorem rthere4_ret {w : World} {p : RPl} {S : DS} (h : RkAt w p S) (hW : DWf S) (first n : Int) : Calls Try.prog 26 #[.pointer (some ⟨p.gr, 0, none⟩), .int .i64 first, .int .i64 n] w (Ret (.bool (decide (thereB S first n))) w) := by
  refine ret_in (GDkR.rthere_calls (some ⟨p.gr, 0, none⟩) first n w (fun u w' => u = .bool (decide (thereB S first n)) ∧ Below w.heap.size w w') ?_)
  unfold GDkR.rthere_vc
  have h2 := hW.n2
  have no : ¬ thereB S first n → (Value.bool false = .bool (decide (thereB S first n)) ∧ Below w.heap.size w w) := fun q => ⟨by rw [decide_eq_false q], Bs.refl _⟩
  refine br_dec (fun q1 => br_dec (fun q2 => ⟨_, _, _, h.d1, br_dec (fun q3 => ⟨_, _, _, h.d1, ?_⟩) fun q => no fun r => q r.2.2.1⟩) fun q => no fun r => q r.2.1) fun q => no fun r => q r.1
  rw [wr64 (by omega) (by omega)]
  refine ⟨?_, Bs.refl _⟩
  congr 1
  exact decide_eq_decide.2 ⟨fun q => ⟨q1, q2, q3, q⟩, fun q => q.2.2.2⟩
theorem rread_ret {w : World} {p : RPl} {S : DS} (h : RkAt w p S) (hW : DWf S) (first n : Int) :
    Calls Try.prog 10 #[.pointer (some ⟨p.gr, 0, none⟩), .int .i64 first, .int .i64 n] w (Ret (.tuple #[.string (strOf (readL S first n)), .int .i64 (mayE S first n)]) w) := by
  refine ret_in (GDkR.rread_calls (some ⟨p.gr, 0, none⟩) first n w (fun u w' => u = .tuple #[.string (strOf (readL S first n)), .int .i64 (mayE S first n)] ∧ Below w.heap.size w w') ?_)
  unfold GDkR.rread_vc
  refine ⟨S.off, h.d4, ?_⟩
  cases ho : S.off
  · refine br_f rfl (callB (Bs.refl w) (rthere4_ret h hW first n) fun w2 b2 B2 => ⟨_, rfl, br_not (br_dec (fun ht => ?_) fun ht => ⟨?_, B2⟩)⟩)
    · have hm : mayE S first n = 0 := by unfold mayE; rw [if_neg (by rw [ho]; decide), if_pos (show _ ∧ _ from ht)]
      obtain ⟨h0, h1, h3, h4⟩ := ht
      have hn2 := hW.n2
      unfold readL
      rw [hm, if_pos rfl]
      obtain ⟨f, rfl⟩ := Int.eq_ofNat_of_zero_le h0
      obtain ⟨k, rfl⟩ := Int.eq_ofNat_of_zero_le h1
      rw [Int.toNat_natCast, Int.toNat_natCast]
      refine ⟨fun s x wy => ∃ i : Nat, x = i ∧ i ≤ k ∧ s = strOf (readS S f i) ∧ Bs w wy, fun _ x _ => k - x.toNat, ⟨0, rfl, by omega, rfl, B2⟩, ?_⟩
      rintro s x wy ⟨i, rfl, hi, rfl, By⟩
      refine br_dec (fun hlt => ?_) fun hge => ⟨?_, By⟩
      · have hik : i < k := by omega
        have hy := h.below By
        have hl := readS_len hW f i
        have hl2 := hW.now (f + i)
        rw [wr64 (z := (f : Int) + i) (by omega) (by omega), wr64 (z := (i : Int) + 1) (by omega) (by omega), show (f : Int) + i = ((f + i : Nat) : Int) by omega]
        refine ⟨_, _, _, hy.d1, by omega, by omega, strOf (nowS S (f + i)), by rw [Int.toNat_natCast]; exact hy.atN (by omega), by rw [strOf_size, strOf_size]; omega, ⟨i + 1, by omega, by omega, ?_, By⟩, by dsimp only; omega⟩
        rw [readS_succ, ← strOf_cat]
      · obtain rfl : i = k := by omega
        rfl
    · have hm : mayE S first n = 1 := by unfold mayE; rw [if_neg (by rw [ho]; decide), if_neg (show ¬ (_ ∧ _) from ht)]
      unfold readL
      rw [hm, if_neg (by decide)]
      rfl
  · have hm : mayE S first n = 12 := by unfold mayE; rw [if_pos ho]
    unfold readL
    rw [hm, if_neg (by decide)]
    exact br_t rfl ⟨rfl, Bs.refl _⟩
/-- A call on the document's disk: what it tells, the disk behind it, where it wrote. -/
def RDoK (w : World) (p : RPl) (u : Value) (S' : DS) : Ending → World → Prop := fun e w' => e = .returned u ∧ RkAt w' p S' ∧ Fr p.bl w w'
def RDoKV (w : World) (p : RPl) (u : Value) (S' : DS) : Value → World → Prop := fun v w' => v = u ∧ RkAt w' p S' ∧ Fr p.bl w w'
theorem rdok_in {P : Program} {f : FuncId} {av : Array Value} {w : World} {p : RPl} {u : Value} {S' : DS} (h : Calls P f av w fun e w' => ∃ v, e = .returned v ∧ RDoKV w p u S' v w') : Calls P f av w (RDoK w p u S') :=
  h.mono (by rintro e w' ⟨v, rfl, rfl, hh⟩; exact ⟨rfl, hh⟩)
theorem rdok_no {w wx : World} {p : RPl} {S S' : DS} {u v : Value} (h : RkAt w p S) (B : Bs w wx) (hv : v = u) (hd : S' = S) : RDoKV w p u S' v wx := by
  subst hv; subst hd
  exact ⟨rfl, h.below B, Fr.ofBelow B⟩
theorem rlist_new {w : World} {p : RPl} {S : DS} (h : RkAt w p S) (hW : DWf S) : Calls Try.prog 22 #[.pointer (some ⟨p.gr, 0, none⟩)] w fun e w' => ∃ a n c, e = .returned (.slice a n c) ∧ NewIntsD w (dirtyI S) a n c w' := by
  refine (GDkR.rlist_calls (some ⟨p.gr, 0, none⟩) w (fun u w' => ∃ a n c, u = .slice a n c ∧ NewIntsD w (dirtyI S) a n c w') ?_).mono (by rintro e w' ⟨v, rfl, a, n, c, rfl, h⟩; exact ⟨a, n, c, rfl, h⟩)
  unfold GDkR.rlist_vc
  have hn2 := hW.n2
  have hfl : ∀ i, i ≤ S.n → (((List.range i).filter (dirtyS S)).map fun (j : Nat) => (j : Int)).length ≤ 8192 := fun i hi => by
    have := List.length_filter_le (dirtyS S) (List.range i)
    rw [List.length_range] at this
    rw [List.length_map]
    omega
  refine ⟨fun a n c x wy => ∃ i : Nat, x = i ∧ i ≤ S.n ∧ n = (((List.range i).filter (dirtyS S)).map fun (j : Nat) => (j : Int)).length ∧ Own wy w.heap.size 3 1 (.slice a n c) n ((((List.range i).filter (dirtyS S)).map fun (j : Nat) => (j : Int)).map iV) ∧ Bs w wy, fun _ _ _ x _ => S.n - x.toNat, ⟨0, rfl, by omega, rfl, Own.nil _ _ _ _, Bs.refl _⟩, ?_⟩
  rintro a n c x wy ⟨i, rfl, hi, rfl, hO, By⟩
  have hy := h.below By
  refine ⟨_, _, _, hy.d2, br_dec (fun hlt => ?_) fun hge => ?_⟩
  · have hil : i < S.n := by omega
    have hl := hfl i hi
    rw [wr64 (by omega) (by omega)]
    refine ⟨_, _, _, hy.d2, by omega, by omega, dirtyS S i, by rw [Int.toNat_natCast]; exact hy.atD hil, ?_⟩
    have hst : ((List.range (i + 1)).filter (dirtyS S)).map (fun (j : Nat) => (j : Int)) = (((List.range i).filter (dirtyS S)).map fun (j : Nat) => (j : Int)) ++ if dirtyS S i = true then [(i : Int)] else [] := by
      rw [List.range_succ, List.filter_append, List.map_append]
      congr 1
      cases hd : dirtyS S i <;> simp [hd]
    cases hd : dirtyS S i
    · rw [hd] at hst
      refine br_f rfl ⟨⟨i + 1, by omega, by omega, ?_, ?_, By⟩, by dsimp only; omega⟩
      · rw [hst, if_neg (by decide), List.append_nil]
      · rw [hst, if_neg (by decide), List.append_nil]; exact hO
    · rw [hd] at hst
      refine br_t rfl (newB By fun g2 w3 g20 sg2 n3 z3 b3 B3 => appB B3 (hO.below b3 (Nat.le_refl _)) (Nat.le_refl _) B3.size (src_block (cs := [.int .i64 (i : Int)]) Try.underlying49 n3 rfl rfl) (by unfold maxLen; omega) (by omega) (fun q hq => by cases hq) fun a' c' w4 o4 gr4 B4 z4 => ⟨⟨i + 1, by omega, by omega, ?_, ?_, B4⟩, by dsimp only; omega⟩)
      · rw [hst, if_pos rfl, List.length_append]; rfl
      · rw [hst, if_pos rfl, List.map_append]; exact o4
  · obtain rfl : i = S.n := by omega
    exact ⟨a, _, c, rfl, rfl, hO, By⟩
end Go.Proofs.Ytbolfgafiejkaaa
end
section
/- The document's disk: what writes it; walked. -/
namespace Go.Proofs.Ytbolfgafiejkaaa
open Go.RowKit
theorem nowS_put (S : DS) (k : Nat) (s : List UInt8) : nowS (putK S k s) = fun j => if j = k then s else nowS S j := by
  funext j
  unfold nowS putK
  dsimp only
  by_cases e : j = k
  · rw [if_pos e, if_pos e]; rfl
  · rw [if_neg e, if_neg e]
theorem dirtyS_put (S : DS) (k : Nat) (s : List UInt8) : dirtyS (putK S k s) = fun j => if j = k then true else dirtyS S j := by
  funext j
  unfold dirtyS putK
  dsimp only
  by_cases e : j = k
  · rw [if_pos e, if_pos e]; rfl
  · rw [if_neg e, if_neg e]
theorem rk_put {w : World} {p : RPl} {S : DS} {k : Nat} {s : List UInt8} {l : Int} {o : Bool} (h : RkR w p.gr p.k1 p.f1 p.c1 p.k2 p.f2 p.c2 p.k3 p.f3 p.c3 S.n S.last (fun j => if j = k then s else nowS S j) (fun j => if j = k then true else dirtyS S j) l o)
    (hl : l = (putK S k s).left) (ho : o = (putK S k s).off) : RkAt w p (putK S k s) := by
  rw [hl, ho, ← nowS_put, ← dirtyS_put] at h
  exact h
theorem rwrite4_any {w : World} {p : RPl} {S : DS} (h : RkAt w p S) (hW : DWf S) {bs : List UInt8} (hl : bs.length ≤ 60000000) (first : Int) :
    Calls Try.prog 13 #[.pointer (some ⟨p.gr, 0, none⟩), .int .i64 first, .string (strOf bs)] w (RDoK w p (.int .i64 (writeE S first bs)) (writeD S first bs)) := by
  refine rdok_in (GDkR.rwrite_calls (some ⟨p.gr, 0, none⟩) first (strOf bs) w (RDoKV w p (.int .i64 (writeE S first bs)) (writeD S first bs)) ?_)
  unfold GDkR.rwrite_vc
  rw [strOf_size, tdiv64, tmod64, wr64 (z := ((bs.length / 64 : Nat) : Int)) (by omega) (by omega)]
  refine ⟨S.off, h.d4, ?_⟩
  cases ho : S.off
  · refine br_f rfl ⟨by decide, br_dec (fun q2 => ?_) fun q2 => ⟨by decide, callB (Bs.refl w) (rthere4_ret h hW first _) fun w2 b2 B2 => ⟨_, rfl, br_not (br_dec (fun ht => ?_) fun ht => ?_)⟩⟩⟩
    · refine rdok_no h (Bs.refl w) ?_ (by unfold writeD; rw [if_neg fun r => by have := r.2; omega])
      have hm : mayE S first ((bs.length / 64 : Nat) : Int) = 0 ∨ mayE S first ((bs.length / 64 : Nat) : Int) = 1 := by
        unfold mayE
        rw [if_neg (by rw [ho]; decide)]
        split
        · exact .inl rfl
        · exact .inr rfl
      unfold writeE
      rcases hm with e | e
      · rw [e, if_neg (by decide), if_pos (by omega)]
      · rw [e, if_pos (by decide)]
    · have q : mayE S first ((bs.length / 64 : Nat) : Int) = 0 := by unfold mayE; rw [if_neg (by rw [ho]; decide), if_pos (show _ ∧ _ from ht)]
      obtain ⟨h0, h1, h3, h4⟩ := ht
      have hn2 := hW.n2
      obtain ⟨f, rfl⟩ := Int.eq_ofNat_of_zero_le h0
      obtain ⟨m, hm⟩ : ∃ m, bs.length = m * 64 := ⟨bs.length / 64, by omega⟩
      have hmd : bs.length / 64 = m := by omega
      have hE : writeE S (f : Int) bs = if (wrS S f (pieceB bs) m).off = true then 12 else 0 := by
        unfold writeE
        rw [if_neg (fun r => r q), if_neg (by omega), hmd, Int.toNat_natCast]
      have hD : writeD S (f : Int) bs = wrS S f (pieceB bs) m := by
        unfold writeD
        rw [if_pos ⟨q, by omega⟩, hmd, Int.toNat_natCast]
      rw [hE, hD, hmd]
      refine ⟨fun x wx => ∃ i : Nat, x = i ∧ i ≤ m ∧ (wrS S f (pieceB bs) i).off = false ∧ RkAt wx p (wrS S f (pieceB bs) i) ∧ Fr p.bl w wx, fun x _ => m - x.toNat, ⟨0, rfl, by omega, ho, h.below B2, Fr.ofBelow B2⟩, ?_⟩
      rintro x wx ⟨i, rfl, hi, hoff, hx, fx⟩
      have hWi : DWf (wrS S f (pieceB bs) i) := hW.wr (first := f) (f := pieceB bs) (m := i) (fun k hk => pieceB_len hm (by omega)) (by omega)
      have hni := wrS_n S f (pieceB bs) i
      refine ⟨by decide, br_dec (fun hlt => drewB (Bs.refl wx) fun w4 b4 B4 e4 => ?_) fun hge => ?_⟩
      · have him : i < m := by omega
        have hpl := pieceB_len hm him
        have hl0 := hWi.left0
        have hlM := hWi.leftM
        have h4' := hx.below b4
        have hst : wrS S f (pieceB bs) (i + 1) = putK (wrS S f (pieceB bs) i) (f + i) (pieceB bs i) := by rw [wrS, if_neg (by rw [hoff]; decide)]
        rw [wr64 (z := 64 * (i : Int)) (by omega) (by omega), wr64 (z := 64 * (i : Int) + 64) (by omega) (by omega), wr64 (z := (f : Int) + i) (by omega) (by omega), wr64 (z := (i : Int) + 1) (by omega) (by omega), show (f : Int) + i = ((f + i : Nat) : Int) by omega,
          show (64 * (i : Int)).toNat = i * 64 by omega, show (64 * (i : Int) + 64).toNat = i * 64 + 64 by omega, strOf_extract, show i * 64 + 64 - i * 64 = 64 by omega, Int.toNat_natCast]
        refine ⟨_, _, _, h4'.d1, _, _, _, h4'.d2, by omega, by omega, by omega, by omega, by omega, h4'.setN (i := f + i) (by omega) (pieceB bs i) (fun q hq => by cases hq) fun w5 h5 f5 z5 => ⟨by omega, by omega, h5.setD (i := f + i) (by omega) true (fun q hq => by cases hq) fun w6 h6 f6 z6 => ⟨_, h6.d3, ?_⟩⟩⟩
        have F6 : Fr p.bl w w6 := ((fx.b b4).g f5 (.inl (by simp [RPl.bl]))).g f6 (.inl (by simp [RPl.bl]))
        have fin : ∀ {wz : World}, RkAt wz p (wrS S f (pieceB bs) (i + 1)) → (wrS S f (pieceB bs) (i + 1)).off = false → Fr p.bl w wz → (∃ j : Nat, (i : Int) + 1 = j ∧ j ≤ m ∧ (wrS S f (pieceB bs) j).off = false ∧ RkAt wz p (wrS S f (pieceB bs) j) ∧ Fr p.bl w wz) ∧ m - ((i : Int) + 1).toNat < m - (i : Int).toNat := fun hz hq fz => ⟨⟨i + 1, by omega, by omega, hq, hz, fz⟩, by omega⟩
        refine br_dec (fun hlp => ⟨_, h6.d3, ?_⟩) fun hlp => ?_
        · rw [wr64 (z := (wrS S f (pieceB bs) i).left - 1) (by omega) (by omega)]
          refine h6.setArm _ (fun q hq => by cases hq) fun w7 h7 f7 z7 => ⟨_, h7.d3, br_dec (fun hz => ?_) fun hz => ?_⟩
          · refine h7.setOffR true (fun q hq => by cases hq) fun w8 h8 f8 z8 => ?_
            have hoT : (wrS S f (pieceB bs) (i + 1)).off = true := by rw [hst]; unfold putK; dsimp only; rw [if_pos hlp, decide_eq_true hz]
            have hall := wrS_stay hoT (j := m) (by omega)
            rw [hall, if_pos hoT]
            refine ⟨rfl, ?_, (F6.g f7 (.inl (by simp [RPl.bl]))).g f8 (.inl (by simp [RPl.bl]))⟩
            rw [hst] at hoT ⊢
            exact rk_put h8 (by unfold putK; dsimp only; rw [if_pos hlp]) hoT.symm
          · have hoF : (wrS S f (pieceB bs) (i + 1)).off = false := by rw [hst]; unfold putK; dsimp only; rw [if_pos hlp, decide_eq_false hz]
            refine fin ?_ hoF (F6.g f7 (.inl (by simp [RPl.bl])))
            rw [hst] at hoF ⊢
            exact rk_put h7 (by unfold putK; dsimp only; rw [if_pos hlp]) (by rw [hoF]; exact hoff)
        · have hoF : (wrS S f (pieceB bs) (i + 1)).off = false := by rw [hst]; unfold putK; dsimp only; rw [if_neg hlp]; exact hoff
          refine fin ?_ hoF F6
          rw [hst] at hoF ⊢
          exact rk_put h6 (by unfold putK; dsimp only; rw [if_neg hlp]) (by rw [hoF]; exact hoff)
      · obtain rfl : i = m := by omega
        rw [if_neg (by rw [hoff]; decide)]
        exact ⟨rfl, hx, fx⟩
    · have q : mayE S first ((bs.length / 64 : Nat) : Int) = 1 := by unfold mayE; rw [if_neg (by rw [ho]; decide), if_neg (show ¬ (_ ∧ _) from ht)]
      exact rdok_no h B2 (by unfold writeE; rw [q, if_pos (by decide)]) (by unfold writeD; rw [q, if_neg fun r => absurd r.1 (by decide)])
  · have q : mayE S first ((bs.length / 64 : Nat) : Int) = 12 := by unfold mayE; rw [if_pos ho]
    exact br_t rfl (rdok_no h (Bs.refl w) (by unfold writeE; rw [q, if_pos (by decide)]) (by unfold writeD; rw [q, if_neg fun r => absurd r.1 (by decide)]))
/-! What a crash, or a sync, leaves. -/
def newL (S : DS) (all : Bool) (kept : List Bool) (j : Nat) : List UInt8 := if dirtyS S j = true ∧ (all = true ∨ kept.getD (rk (dirtyS S) j) false = true) then nowS S j else S.last j
def settleD (S : DS) (all : Bool) (kept : List Bool) : DS := ⟨S.n, newL S all kept, fun _ => none, S.left, S.off⟩
def mixF {α : Type} (q f : Nat → α) (i : Nat) : Nat → α := fun j => if j < i then q j else f j
theorem mixF_step {α : Type} (q f : Nat → α) (i : Nat) : (fun j => if j = i then q i else mixF q f i j) = mixF q f (i + 1) := by
  funext j
  unfold mixF
  by_cases e : j = i
  · subst e; rw [if_pos rfl, if_pos (by omega)]
  · rw [if_neg e]
    by_cases h : j < i
    · rw [if_pos h, if_pos (by omega)]
    · rw [if_neg h, if_neg (by omega)]
theorem mixF_same {α : Type} {q f : Nat → α} {i : Nat} (h : q i = f i) : mixF q f i = mixF q f (i + 1) := by
  rw [← mixF_step]
  funext j
  by_cases e : j = i
  · rw [if_pos e, e]; unfold mixF; rw [if_neg (by omega), h]
  · rw [if_neg e]
theorem mixF_at {α : Type} (q f : Nat → α) (i : Nat) : mixF q f i i = f i := by unfold mixF; rw [if_neg (by omega)]
theorem rk_le (p : Nat → Bool) (i : Nat) : rk p i ≤ i := by
  unfold rk
  have := List.length_filter_le p (List.range i)
  rwa [List.length_range] at this
theorem rsettle_k1_ok {w2 wx : World} {p : RPl} {S : DS} {q : Nat → List UInt8} {i : Nat} {I : Int → Int → World → Prop} {μ : Int → Int → World → Nat} {x6 x6' : Int} (hi : i < S.n) (hn : S.n ≤ 8192)
    (h : RkR wx p.gr p.k1 p.f1 p.c1 p.k2 p.f2 p.c2 p.k3 p.f3 p.c3 S.n (mixF q S.last (i + 1)) (mixF q (nowS S) i) (mixF (fun _ => false) (dirtyS S) i) S.left S.off)
    (hk : ∀ wz, RkR wz p.gr p.k1 p.f1 p.c1 p.k2 p.f2 p.c2 p.k3 p.f3 p.c3 S.n (mixF q S.last (i + 1)) (mixF q (nowS S) (i + 1)) (mixF (fun _ => false) (dirtyS S) (i + 1)) S.left S.off → Fr p.bl wx wz → I x6' ((i : Int) + 1) wz ∧ μ x6' ((i : Int) + 1) wz < μ x6 i w2) :
    GDkR.rsettle_k1 I μ (some ⟨p.gr, 0, none⟩) x6 i w2 x6' wx := by
  unfold GDkR.rsettle_k1
  rw [wr64 (z := (i : Int) + 1) (by omega) (by omega)]
  refine drewB (Bs.refl wx) fun w4 b4 B4 e4 => ?_
  have h4 := h.below b4
  have hq : mixF q S.last (i + 1) i = q i := by unfold mixF; rw [if_pos (by omega)]
  refine ⟨_, _, _, h4.d1, _, _, _, h4.d2, _, _, _, h4.d0, by omega, by omega, strOf (q i), by rw [Int.toNat_natCast, ← hq]; exact h4.atL hi, by omega, by omega, ?_⟩
  rw [Int.toNat_natCast]
  refine h4.setN hi (q i) (fun q hq => by cases hq) fun w5 h5 f5 z5 => ⟨by omega, by omega, h5.setD hi false (fun q hq => by cases hq) fun w6 h6 f6 z6 => hk w6 ?_ (((Fr.ofBelow b4).g f5 (.inl (by simp [RPl.bl]))).g f6 (.inl (by simp [RPl.bl])))⟩
  have e1 := mixF_step q (nowS S) i
  have e2 := mixF_step (fun _ => false) (dirtyS S) i
  rw [e1] at h6
  exact e2 ▸ h6
theorem rsettle_any {w : World} {p : RPl} {S : DS} (h : RkAt w p S) (hW : DWf S) (all : Bool) {a : Option Addr} {c : Nat} {kept : List Bool} (hr : ∀ w1, Fr p.bl w w1 → RowAt w1 a (kept.map Value.bool)) :
    Calls Try.prog 30 #[.pointer (some ⟨p.gr, 0, none⟩), .bool all, .slice a kept.length c] w (RDoK w p (.tuple #[]) (settleD S all kept)) := by
  refine rdok_in (GDkR.rsettle_calls (some ⟨p.gr, 0, none⟩) all a kept.length c w (RDoKV w p (.tuple #[]) (settleD S all kept)) ?_)
  unfold GDkR.rsettle_vc
  have hn2 := hW.n2
  refine ⟨fun x y wx => ∃ i : Nat, y = i ∧ i ≤ S.n ∧ x = (rk (dirtyS S) i : Int) ∧ RkR wx p.gr p.k1 p.f1 p.c1 p.k2 p.f2 p.c2 p.k3 p.f3 p.c3 S.n (mixF (newL S all kept) S.last i) (mixF (newL S all kept) (nowS S) i) (mixF (fun _ => false) (dirtyS S) i) S.left S.off ∧ Fr p.bl w wx, fun _ y _ => S.n - y.toNat, ⟨0, rfl, by omega, rfl, ?_, Fr.refl _ _⟩, ?_⟩
  · have e : ∀ {α : Type} (q f : Nat → α), mixF q f 0 = f := fun q f => by funext j; unfold mixF; rw [if_neg (by omega)]
    rw [e, e, e]
    exact h
  rintro x y wx ⟨i, rfl, hi, rfl, hx, fx⟩
  refine ⟨_, _, _, hx.d1, br_dec (fun hlt => ?_) fun hge => ?_⟩
  · have hin : i < S.n := by omega
    have hrk := rk_le (dirtyS S) i
    have hrs := rk_succ (dirtyS S) i
    have hdi : mixF (fun _ => false) (dirtyS S) i i = dirtyS S i := mixF_at _ _ _
    have hni : mixF (newL S all kept) (nowS S) i i = nowS S i := mixF_at _ _ _
    rw [wr64 (z := (rk (dirtyS S) i : Int) + 1) (by omega) (by omega)]
    have last : ∀ {wz : World} {x' : Int}, x' = (rk (dirtyS S) (i + 1) : Int) → RkR wz p.gr p.k1 p.f1 p.c1 p.k2 p.f2 p.c2 p.k3 p.f3 p.c3 S.n (mixF (newL S all kept) S.last (i + 1)) (mixF (newL S all kept) (nowS S) i) (mixF (fun _ => false) (dirtyS S) i) S.left S.off → Fr p.bl w wz →
        GDkR.rsettle_k1 (fun x y wx => ∃ i : Nat, y = i ∧ i ≤ S.n ∧ x = (rk (dirtyS S) i : Int) ∧ RkR wx p.gr p.k1 p.f1 p.c1 p.k2 p.f2 p.c2 p.k3 p.f3 p.c3 S.n (mixF (newL S all kept) S.last i) (mixF (newL S all kept) (nowS S) i) (mixF (fun _ => false) (dirtyS S) i) S.left S.off ∧ Fr p.bl w wx) (fun _ y _ => S.n - y.toNat) (some ⟨p.gr, 0, none⟩) (rk (dirtyS S) i : Int) i wx x' wz := fun {wz x'} hx' hz fz => by
      refine rsettle_k1_ok hin hn2 hz fun wv hv fv => ⟨⟨i + 1, by omega, by omega, hx', hv, fz.trans fv (Gr.refl _ _)⟩, by omega⟩
    -- the sector lasts
    have yes : newL S all kept i = nowS S i → ∀ {wz : World}, RkR wz p.gr p.k1 p.f1 p.c1 p.k2 p.f2 p.c2 p.k3 p.f3 p.c3 S.n (mixF (newL S all kept) S.last i) (mixF (newL S all kept) (nowS S) i) (mixF (fun _ => false) (dirtyS S) i) S.left S.off → ∀ {K : World → Prop}, (∀ wv, RkR wv p.gr p.k1 p.f1 p.c1 p.k2 p.f2 p.c2 p.k3 p.f3 p.c3 S.n (mixF (newL S all kept) S.last (i + 1)) (mixF (newL S all kept) (nowS S) i) (mixF (fun _ => false) (dirtyS S) i) S.left S.off → Fr [p.k1] wz wv → K wv) → stO [] wz p.k1 (p.f1 + i * 1) [.string (strOf (nowS S i))] K := fun hnl {wz} hz {K} hK => by
      refine hz.setL hin (nowS S i) (fun q hq => by cases hq) fun wv hv fv zv => hK wv ?_ fv
      rw [← hnl, mixF_step] at hv
      exact hv
    refine ⟨_, _, _, hx.d2, by omega, by omega, dirtyS S i, by rw [Int.toNat_natCast, ← hdi]; exact hx.atD hin, ?_⟩
    cases hd : dirtyS S i
    · refine br_f rfl (last (by rw [hrs, hd]; simp) ?_ fx)
      rw [← mixF_same (q := newL S all kept) (f := S.last) (i := i) (by unfold newL; rw [hd, if_neg (fun r => absurd r.1 (by decide))])]
      exact hx
    · have hx6 : (rk (dirtyS S) i : Int) + 1 = (rk (dirtyS S) (i + 1) : Int) := by rw [hrs, hd]; simp
      refine br_t rfl ?_
      cases hall : all
      · have no : kept.getD (rk (dirtyS S) i) false = false → RkR wx p.gr p.k1 p.f1 p.c1 p.k2 p.f2 p.c2 p.k3 p.f3 p.c3 S.n (mixF (newL S all kept) S.last (i + 1)) (mixF (newL S all kept) (nowS S) i) (mixF (fun _ => false) (dirtyS S) i) S.left S.off := fun q => by
          rw [← mixF_same (q := newL S all kept) (f := S.last) (i := i) (by unfold newL; rw [q, hall, if_neg (fun r => r.2.elim (fun r => absurd r (by decide)) fun r => absurd r (by decide))])]
          exact hx
        subst hall
        refine br_f rfl (br_dec (fun hkk => ?_) fun hkk => last hx6 (no (by rw [List.getD_eq_getElem?_getD, List.getElem?_eq_none (by omega)]; rfl)) fx)
        have hkl : rk (dirtyS S) i < kept.length := by omega
        obtain ⟨b1, o1, rfl, hb⟩ := (hr _ fx).bool hkl
        refine ⟨by omega, by omega, kept[rk (dirtyS S) i], by rw [Int.toNat_natCast, Nat.mul_one]; exact hb, ?_⟩
        cases hkb : kept[rk (dirtyS S) i]
        · exact br_f rfl (last hx6 (no (by rw [getD_b hkl, hkb])) fx)
        · have hnl : newL S false kept i = nowS S i := by unfold newL; rw [if_pos ⟨hd, .inr (by rw [getD_b hkl, hkb])⟩]
          refine br_t rfl (drewB (Bs.refl wx) fun w4 b4 B4 e4 => ?_)
          have h4 := hx.below b4
          refine ⟨_, _, _, h4.d0, _, _, _, h4.d1, by omega, by omega, strOf (nowS S i), by rw [Int.toNat_natCast, ← hni]; exact h4.atN hin, by omega, by omega, ?_⟩
          rw [Int.toNat_natCast]
          exact yes hnl h4 fun wv hv fv => last hx6 hv ((fx.b b4).g fv (.inl (by simp [RPl.bl])))
      · subst hall
        have hnl : newL S true kept i = nowS S i := by unfold newL; rw [if_pos ⟨hd, .inl rfl⟩]
        refine br_t rfl (drewB (Bs.refl wx) fun w4 b4 B4 e4 => ?_)
        have h4 := hx.below b4
        refine ⟨_, _, _, h4.d0, _, _, _, h4.d1, by omega, by omega, strOf (nowS S i), by rw [Int.toNat_natCast, ← hni]; exact h4.atN hin, by omega, by omega, ?_⟩
        rw [Int.toNat_natCast]
        exact yes hnl h4 fun wv hv fv => last hx6 hv ((fx.b b4).g fv (.inl (by simp [RPl.bl])))
  · obtain rfl : i = S.n := by omega
    refine ⟨rfl, ?_, fx⟩
    -- within the length the lists are the same
    have eS : ∀ f : Nat → List UInt8, strL S.n (mixF (newL S all kept) f S.n) = strL S.n (newL S all kept) := fun f => List.map_congr_left fun j hj => by unfold mixF; rw [if_pos (List.mem_range.1 hj)]
    have eB : boolL S.n (mixF (fun _ => false) (dirtyS S) S.n) = boolL S.n fun _ => false := List.map_congr_left fun j hj => by unfold mixF; rw [if_pos (List.mem_range.1 hj)]
    exact ⟨hx.blk, by have := hx.o1; rw [eS] at this; exact this, by have := hx.o2; rw [eS] at this; exact this, by have := hx.o3; rw [eB] at this; exact this, hx.ne12⟩
theorem rsync_any {w : World} {p : RPl} {S : DS} (h : RkAt w p S) (hW : DWf S) : Calls Try.prog 15 #[.pointer (some ⟨p.gr, 0, none⟩)] w (RDoK w p (.int .i64 (syncE S)) (syncD S)) := by
  refine rdok_in (GDkR.rsync_calls (some ⟨p.gr, 0, none⟩) w (RDoKV w p (.int .i64 (syncE S)) (syncD S)) ?_)
  unfold GDkR.rsync_vc syncE syncD
  refine ⟨S.off, h.d4, ?_⟩
  cases ho : S.off
  · rw [if_neg (by decide), if_neg (by decide)]
    refine br_f rfl ((rsettle_any (kept := []) h hW true (a := none) (c := 0) (fun _ _ => .inl rfl)).mono ?_)
    rintro e w2 ⟨rfl, h2, f2⟩
    refine ⟨keepG_nil _ _, rfl, rfl, ?_, f2⟩
    have e1 : newL S true [] = nowS S := by
      funext j
      unfold newL
      cases hd : dirtyS S j
      · rw [if_neg (fun r => absurd r.1 (by decide))]
        unfold dirtyS at hd
        unfold nowS
        cases hc : S.cch j with
        | none => rfl
        | some s => rw [hc] at hd; cases hd
      · rw [if_pos ⟨rfl, .inl rfl⟩]
    unfold settleD at h2
    rw [e1, ho] at h2
    exact h2
  · rw [if_pos rfl, if_pos rfl]
    exact br_t rfl ⟨rfl, h, Fr.refl _ _⟩
theorem rcrash_any {w : World} {p : RPl} {S : DS} (h : RkAt w p S) (hW : DWf S) {a : Option Addr} {c : Nat} {kept : List Bool} (hr : ∀ w1, Fr p.bl w w1 → RowAt w1 a (kept.map Value.bool)) :
    Calls Try.prog 18 #[.pointer (some ⟨p.gr, 0, none⟩), .slice a kept.length c] w (RDoK w p (.tuple #[]) (crashD S kept)) := by
  refine rdok_in (GDkR.rcrash_calls (some ⟨p.gr, 0, none⟩) a kept.length c w (RDoKV w p (.tuple #[]) (crashD S kept)) ?_)
  unfold GDkR.rcrash_vc
  refine (rsettle_any h hW false (c := c) hr).mono ?_
  rintro e w2 ⟨rfl, h2, f2⟩
  refine ⟨keepG_nil _ _, rfl, h2.setOffR false (fun q hq => by cases hq) fun w3 h3 f3 z3 => h3.setArm 0 (fun q hq => by cases hq) fun w4 h4 f4 z4 => ⟨rfl, ?_, (f2.g f3 (.inl (by simp [RPl.bl]))).g f4 (.inl (by simp [RPl.bl]))⟩⟩
  have e1 : newL S false kept = (crashD S kept).last := by
    funext j
    unfold newL crashD
    dsimp only
    by_cases hc : dirtyS S j = true ∧ kept.getD (rk (dirtyS S) j) false = true
    · rw [if_pos hc, if_pos ⟨hc.1, .inr hc.2⟩]
    · rw [if_neg hc, if_neg fun r => r.2.elim (fun q => absurd q (by decide)) fun q => hc ⟨r.1, q⟩]
  have h4' : RkAt w4 p ⟨S.n, newL S false kept, fun _ => none, 0, false⟩ := h4
  rw [e1] at h4'
  exact h4'
end Go.Proofs.Ytbolfgafiejkaaa
end
section
/- Both disks, new; one sector of one byte; what is tried once; walked. -/
namespace Go.Proofs.Ytbolfgafiejkaaa
open Go.RowKit
theorem appBo {P : Program} {gs : List Nat} {w0 w : World} {e : TypeId} {size bytes n1 n c m : Nat} {tx : TypeId} {a : Option Addr} {x : Value} {xs news : List Value} {K : Nat → Option Addr → Nat → World → Prop}
    (B : Bs w0 w) (o : Own w n1 e size (.slice a n c) n xs) (hn1 : w0.heap.size ≤ n1) (hn2 : n1 ≤ w.heap.size) (s : Src P size tx x m news w) (h1 : n + m ≤ maxLen) (h2 : (n + m) * bytes ≤ 140737488355328)
    (hg : ∀ g ∈ gs, (Value.slice a n c).ownBlock ≠ some g)
    (k : ∀ a' c' w1, Own w1 n1 e size (.slice a' (n + m) c') (n + m) (xs ++ news) → w.grownBy w1 (Value.slice a n c).ownBlock → ((Value.slice a' (n + m) c').ownBlock = (Value.slice a n c).ownBlock ∨ ∃ g, (Value.slice a' (n + m) c').ownBlock = some g ∧ w.heap.size ≤ g) → Bs w0 w1 → w.heap.size ≤ w1.heap.size → K m a' c' w1) :
    appO P gs w e size bytes tx a n c x K := by
  refine ⟨m, xs, news, o.base_le fun _ _ => Nat.zero_le _, s, h1, h2, hg, fun a' c' w1 o1 g1 or1 _ => k a' c' w1 (o1.base_le fun q hq => ?_) g1 or1 ?_ g1.size⟩
  · rcases or1 with h | ⟨g, h, h3⟩
    · exact (o.lt q (h ▸ hq)).1
    · rw [h] at hq; injection hq with hq; omega
  · exact ⟨g1.os.trans B.os, g1.tape.trans B.tape, g1.output.trans B.output, Nat.le_trans B.size g1.size, fun q hq => (g1.block q (by have := B.size; omega) fun e => by have := (o.lt q e.symm).1; omega).trans (B.block q hq)⟩
/-- The document's disk, while it is made. -/
structure NwAt (w : World) (gr : Nat) (a1 : Option Addr) (n1 c1 : Nat) (a2 : Option Addr) (n2 c2 : Nat) (a3 : Option Addr) (n3 c3 : Nat) : Prop where
  blk : Bk w gr #[.slice a1 n1 c1, .slice a2 n2 c2, .slice a3 n3 c3, .int .i64 0, .bool false] 46
  o1 : Own w (gr + 1) 9 1 (.slice a1 n1 c1) n1 (strL n1 fun _ => zero64)
  o2 : Own w (gr + 1) 9 1 (.slice a2 n2 c2) n2 (strL n2 fun _ => zero64)
  o3 : Own w (gr + 1) 4 1 (.slice a3 n3 c3) n3 (boolL n3 fun _ => false)
  ne : ∀ k, (Value.slice a1 n1 c1).ownBlock = some k → (Value.slice a2 n2 c2).ownBlock ≠ some k
theorem strL_succ (n : Nat) (f : Nat → List UInt8) : strL (n + 1) f = strL n f ++ [.string (strOf (f n))] := by unfold strL; rw [List.range_succ, List.map_append]; rfl
theorem boolL_succ (n : Nat) (f : Nat → Bool) : boolL (n + 1) f = boolL n f ++ [.bool (f n)] := by unfold boolL; rw [List.range_succ, List.map_append]; rfl
theorem keep_gr {w w1 : World} {gr : Nat} {e : TypeId} {v : Value} {n : Nat} {xs : List Value} (o : Own w (gr + 1) e 1 v n xs) (f : Fr [gr] w w1) : Own w1 (gr + 1) e 1 v n xs := o.keep fun k hk => by
  have := o.lt k hk
  exact f.block k this.2 (by rw [List.mem_singleton]; omega)
section
variable {w0 w w1 : World} {gr n1 c1 n2 c2 n3 c3 g3 : Nat} {a1 a2 a3 : Option Addr} {K : World → Prop}
theorem NwAt.below (h : NwAt w gr a1 n1 c1 a2 n2 c2 a3 n3 c3) (b : Below w.heap.size w w1) : NwAt w1 gr a1 n1 c1 a2 n2 c2 a3 n3 c3 := ⟨h.blk.below b, h.o1.below b (Nat.le_refl _), h.o2.below b (Nat.le_refl _), h.o3.below b (Nat.le_refl _), h.ne⟩
theorem NwAt.app1 (h : NwAt w gr a1 n1 c1 a2 n2 c2 a3 n3 c3) (B : Bs w0 w) (hg0 : w0.heap.size ≤ gr) (hs : w.heap[g3]? = some (.cells #[.string (strOf zero64)] 9 (0, 0))) (hn : n1 ≤ 8192)
    (k : ∀ a c w2, NwAt w2 gr a (n1 + 1) c a2 n2 c2 a3 n3 c3 → Bs w0 w2 → w.heap.size ≤ w2.heap.size → K w2) :
    appO Try.prog [] w 9 1 16 44 a1 n1 c1 (.slice (some ⟨g3, 0, none⟩) 1 1) fun m a c w1 => stO [] w1 gr 0 [.slice a (n1 + m) c] K := by
  have hgl := h.blk.lt
  refine appBo B h.o1 (by omega) (by omega) (src_block (cs := [.string (strOf zero64)]) Try.underlying44 hs rfl rfl) (by unfold maxLen; omega) (by omega) (fun q hq => by cases hq) fun a' c' w1 o1 g1 or1 B1 z1 => ?_
  have hblk : Bk w1 gr _ _ := h.blk.keep (g1.block gr hgl fun e => by have := (h.o1.lt gr e.symm).1; omega)
  exact stO_bk hblk (by simp) (fun q hq => by cases hq) fun w2 h2 f2 z2 => k a' c' w2 ⟨h2, by rw [strL_succ]; exact keep_gr o1 f2, keep_gr (h.o2.kept g1 (by cases hb : (Value.slice a2 n2 c2).ownBlock with | none => exact .inl rfl | some q => exact .inr fun e => h.ne q e.symm hb)) f2, keep_gr (h.o3.kept g1 (h.o3.ne_of_type h.o1 (by decide))) f2, fun q hq => by
    rcases or1 with e | ⟨r, e, hr⟩
    · exact h.ne q (e.symm.trans hq)
    · rw [hq] at e; injection e with e; intro e2; have := (h.o2.lt q e2).2; omega⟩ (B1.fr1 f2 hg0) (by omega)
theorem NwAt.app2 (h : NwAt w gr a1 n1 c1 a2 n2 c2 a3 n3 c3) (B : Bs w0 w) (hg0 : w0.heap.size ≤ gr) (hs : w.heap[g3]? = some (.cells #[.string (strOf zero64)] 9 (0, 0))) (hn : n2 ≤ 8192)
    (k : ∀ a c w2, NwAt w2 gr a1 n1 c1 a (n2 + 1) c a3 n3 c3 → Bs w0 w2 → w.heap.size ≤ w2.heap.size → K w2) :
    appO Try.prog [] w 9 1 16 44 a2 n2 c2 (.slice (some ⟨g3, 0, none⟩) 1 1) fun m a c w1 => stO [] w1 gr 1 [.slice a (n2 + m) c] K := by
  have hgl := h.blk.lt
  refine appBo B h.o2 (by omega) (by omega) (src_block (cs := [.string (strOf zero64)]) Try.underlying44 hs rfl rfl) (by unfold maxLen; omega) (by omega) (fun q hq => by cases hq) fun a' c' w1 o1 g1 or1 B1 z1 => ?_
  have hblk : Bk w1 gr _ _ := h.blk.keep (g1.block gr hgl fun e => by have := (h.o2.lt gr e.symm).1; omega)
  exact stO_bk hblk (by simp) (fun q hq => by cases hq) fun w2 h2 f2 z2 => k a' c' w2 ⟨h2, keep_gr (h.o1.kept g1 (by cases hb : (Value.slice a1 n1 c1).ownBlock with | none => exact .inl rfl | some q => exact .inr fun e => h.ne q hb e.symm)) f2, by rw [strL_succ]; exact keep_gr o1 f2, keep_gr (h.o3.kept g1 (h.o3.ne_of_type h.o2 (by decide))) f2, fun q hq e2 => by
    rcases or1 with e | ⟨r, e, hr⟩
    · exact h.ne q hq (e.symm.trans e2)
    · rw [e2] at e; injection e with e; have := (h.o1.lt q hq).2; omega⟩ (B1.fr1 f2 hg0) (by omega)
theorem NwAt.app3 (h : NwAt w gr a1 n1 c1 a2 n2 c2 a3 n3 c3) (B : Bs w0 w) (hg0 : w0.heap.size ≤ gr) (hs : w.heap[g3]? = some (.cells #[.bool false] 4 (0, 0))) (hn : n3 ≤ 8192)
    (k : ∀ a c w2, NwAt w2 gr a1 n1 c1 a2 n2 c2 a (n3 + 1) c → Bs w0 w2 → w.heap.size ≤ w2.heap.size → K w2) :
    appO Try.prog [] w 4 1 1 31 a3 n3 c3 (.slice (some ⟨g3, 0, none⟩) 1 1) fun m a c w1 => stO [] w1 gr 2 [.slice a (n3 + m) c] K := by
  have hgl := h.blk.lt
  refine appBo B h.o3 (by omega) (by omega) (src_block (cs := [.bool false]) Try.underlying31 hs rfl rfl) (by unfold maxLen; omega) (by omega) (fun q hq => by cases hq) fun a' c' w1 o1 g1 or1 B1 z1 => ?_
  have hblk : Bk w1 gr _ _ := h.blk.keep (g1.block gr hgl fun e => by have := (h.o3.lt gr e.symm).1; omega)
  exact stO_bk hblk (by simp) (fun q hq => by cases hq) fun w2 h2 f2 z2 => k a' c' w2 ⟨h2, keep_gr (h.o1.kept g1 (h.o1.ne_of_type h.o3 (by decide))) f2, keep_gr (h.o2.kept g1 (h.o2.ne_of_type h.o3 (by decide))) f2, by rw [boolL_succ]; exact keep_gr o1 f2, h.ne⟩ (B1.fr1 f2 hg0) (by omega)
end
theorem made_bytes (n : Nat) : madeCells (Value.cells (.int .u8 0)) (n * 1) = ((List.replicate n (0 : UInt8)).map bV).toArray := by
  rw [List.map_replicate]
  apply Array.ext_getElem?
  intro i
  unfold madeCells
  rw [Array.getElem?_map, Array.getElem?_range, Nat.mul_one, List.getElem?_toArray, List.getElem?_replicate]
  by_cases h : i < n
  · rw [if_pos h, if_pos h]
    show some ((#[Value.int .u8 0] : Array Value)[i % 1]!) = _
    rw [Nat.mod_one]
    rfl
  · rw [if_neg h, if_neg h]
    rfl
theorem rnew_new (n : Nat) (h1 : 1 ≤ n) (h2 : n ≤ 8192) (w : World) : Calls Try.prog 7 #[.int .i64 n] w fun e w' => ∃ p : RPl, e = .returned (.pointer (some ⟨p.gr, 0, none⟩)) ∧ RkAt w' p (newS n) ∧ (∀ k ∈ p.bl, w.heap.size ≤ k) ∧ Below w.heap.size w w' := by
  refine (GDkR.rnew_calls n w (fun u w' => ∃ p : RPl, u = .pointer (some ⟨p.gr, 0, none⟩) ∧ RkAt w' p (newS n) ∧ (∀ k ∈ p.bl, w.heap.size ≤ k) ∧ Below w.heap.size w w') ?_).mono (by rintro e w' ⟨v, rfl, p, rfl, h⟩; exact ⟨p, rfl, h⟩)
  unfold GDkR.rnew_vc
  refine newB (Bs.refl w) fun gr w2 gr0 sgr n2 z2 b2 B2 => ?_
  refine ⟨fun x wx => ∃ (i : Nat) (a1 : Option Addr) (c1 : Nat) (a2 : Option Addr) (c2 : Nat) (a3 : Option Addr) (c3 : Nat), x = i ∧ i ≤ n ∧ NwAt wx gr a1 i c1 a2 i c2 a3 i c3 ∧ Bs w wx, fun x _ => n - x.toNat, ⟨0, none, 0, none, 0, none, 0, rfl, by omega, ⟨n2, Own.nil _ _ _ _, Own.nil _ _ _ _, Own.nil _ _ _ _, fun k hk => by cases hk⟩, B2⟩, ?_⟩
  rintro x wx ⟨i, a1, c1, a2, c2, a3, c3, rfl, hi, hx, Bx⟩
  refine br_dec (fun hlt => drewB Bx fun w4 b4 B4 e4 => ?_) fun hge => ?_
  · have hin : i < n := by omega
    have x4 := hx.below b4
    have z64 : ∀ {wz : World} {g : Nat}, wz.heap[g]? = some (.cells (madeCells (Value.cells (.int .u8 0)) ((64 : Int).toNat * 1)) 5 (0, 0)) → RowAt wz (some ⟨g, 0, none⟩) (zero64.map bV) := fun hg => by
      have hg' := hg
      rw [show ((64 : Int).toNat * 1) = 64 * 1 from rfl, made_bytes] at hg'
      exact RowAt.ofWhole hg'
    rw [wr64 (by omega) (by omega)]
    refine ⟨a1, i, c1, by rw [x4.blk.cell]; rfl, by decide, by decide, by decide, by decide, newB B4 fun g2 w5 g20 sg2 n5 z5 b5 B5 => ⟨by rw [(x4.below b5).blk.cell]; rfl, zero64, rfl, z64 n5, newB B5 fun g3 w6 g30 sg3 n6 z6 b6 B6 => ⟨by rw [((x4.below b5).below b6).blk.cell]; rfl, ((x4.below b5).below b6).app1 B6 (by omega) n6 (by omega) fun a1' c1' w8 x8 B8 s8 => ?_⟩⟩⟩
    refine drewB B8 fun w9 b9 B9 e9 => ?_
    have x9 := x8.below b9
    refine ⟨a2, i, c2, by rw [x9.blk.cell]; rfl, by decide, by decide, by decide, by decide, newB B9 fun g4 w10 g40 sg4 n10 z10 b10 B10 => ⟨by rw [(x9.below b10).blk.cell]; rfl, zero64, rfl, z64 n10, newB B10 fun g5 w11 g50 sg5 n11 z11 b11 B11 => ⟨by rw [((x9.below b10).below b11).blk.cell]; rfl, ((x9.below b10).below b11).app2 B11 (by omega) n11 (by omega) fun a2' c2' w13 x13 B13 s13 => ?_⟩⟩⟩
    refine ⟨a3, i, c3, by rw [x13.blk.cell]; rfl, newB B13 fun g6 w14 g60 sg6 n14 z14 b14 B14 => (x13.below b14).app3 B14 (by omega) n14 (by omega) fun a3' c3' w16 x16 B16 s16 => ⟨⟨i + 1, a1', c1', a2', c2', a3', c3', by omega, by omega, x16, B16⟩, by dsimp only; omega⟩⟩
  · obtain rfl : i = n := by omega
    obtain ⟨k1, f1, rfl, hk1, _⟩ := hx.o1.someAddr (by omega)
    obtain ⟨k2, f2, rfl, hk2, _⟩ := hx.o2.someAddr (by omega)
    obtain ⟨k3, f3, rfl, hk3, _⟩ := hx.o3.someAddr (by omega)
    refine ⟨⟨gr, k1, f1, c1, k2, f2, c2, k3, f3, c3⟩, rfl, ⟨hx.blk, hx.o1.base_le fun _ _ => Nat.zero_le _, hx.o2.base_le fun _ _ => Nat.zero_le _, hx.o3.base_le fun _ _ => Nat.zero_le _, fun e => hx.ne k1 rfl (congrArg some (Eq.symm e))⟩, fun k hk => ?_, Bx⟩
    simp [RPl.bl] at hk
    omega
/-! One sector of one byte. -/
def fillB (b : UInt8) (i : Nat) : List UInt8 := List.replicate i b ++ List.replicate (64 - i) 0
theorem fillB_set (b : UInt8) {i : Nat} (hi : i < 64) : (fillB b i).set i b = fillB b (i + 1) := by
  unfold fillB
  apply List.ext_getElem?
  intro j
  rw [List.getElem?_set]
  simp only [List.length_append, List.length_replicate]
  by_cases e : i = j
  · subst e
    rw [if_pos rfl, if_pos (by omega), List.getElem?_append_left (by simp), List.getElem?_replicate, if_pos (by omega)]
  · rw [if_neg e]
    by_cases hj : j < i
    · rw [List.getElem?_append_left (by simp; omega), List.getElem?_append_left (by simp; omega), List.getElem?_replicate, List.getElem?_replicate, if_pos hj, if_pos (by omega)]
    · rw [List.getElem?_append_right (by simp; omega), List.getElem?_append_right (by simp; omega), List.getElem?_replicate, List.getElem?_replicate]
      simp only [List.length_replicate]
      by_cases h2 : j < 64
      · rw [if_pos (by omega), if_pos (by omega)]
      · rw [if_neg (by omega), if_neg (by omega)]
theorem own_whole {w : World} {b g : Nat} {e : TypeId} {xs : List Value} (hb : b ≤ g) (h : w.heap[g]? = some (.cells xs.toArray e (0, 0))) (hl : xs.length ≤ maxLen) : Own w b e 1 (.slice (some ⟨g, 0, none⟩) xs.length xs.length) xs.length xs :=
  ⟨by omega, .inr ⟨g, 0, xs.length, xs.toArray, rfl, hb, h, Nat.le_refl _, hl, by simp, by simp⟩⟩
theorem lsector_new (b : UInt8) (w : World) : Calls Try.prog 11 #[.int .u8 (b.toNat : Int)] w fun e w' => ∃ a c, e = .returned (.slice a 64 c) ∧ NewBs w (List.replicate 64 b) a 64 c w' := by
  refine (GDkR.lsector_calls (b.toNat : Int) w (fun u w' => ∃ a c, u = .slice a 64 c ∧ NewBs w (List.replicate 64 b) a 64 c w') ?_).mono (by rintro e w' ⟨v, rfl, a, c, rfl, h⟩; exact ⟨a, c, rfl, h⟩)
  unfold GDkR.lsector_vc
  refine ⟨by decide, by decide, by decide, by decide, newB (Bs.refl w) fun g w2 g0 sg n2 z2 b2 B2 => ?_⟩
  rw [show ((64 : Int).toNat * 1) = 64 * 1 from rfl, made_bytes] at n2
  refine ⟨fun x wx => ∃ i : Nat, x = i ∧ i ≤ 64 ∧ Bk wx g ((fillB b i).map bV).toArray 5 ∧ Bs w wx, fun x _ => 64 - x.toNat, ⟨0, rfl, by omega, n2, B2⟩, ?_⟩
  rintro x wx ⟨i, rfl, hi, hx, Bx⟩
  refine br_dec (fun hlt => ?_) fun hge => ?_
  · rw [wr64 (by omega) (by omega), Int.toNat_natCast, Nat.mul_one, Nat.zero_add]
    refine ⟨by omega, by have : ((64 : Int).toNat : Int) = 64 := rfl; omega, stB1 Bx g0 hx (by simp [fillB]; omega) (fun q hq => by cases hq) fun w4 h4 f4 B4 z4 => ⟨⟨i + 1, by omega, by omega, ?_, B4⟩, by dsimp only; omega⟩⟩
    rw [← fillB_set b (by omega), List.map_set, ← List.setIfInBounds_toArray]
    exact h4
  · obtain rfl : i = 64 := by omega
    have hf : fillB b 64 = List.replicate 64 b := by unfold fillB; simp
    rw [hf] at hx
    have hw := own_whole (b := w.heap.size) g0 hx (by simp [maxLen])
    rw [List.length_map, List.length_replicate] at hw
    exact ⟨some ⟨g, 0, none⟩, 64, rfl, rfl, hw, Bx⟩
end Go.Proofs.Ytbolfgafiejkaaa
end
section
/- DiskNews; walked. -/
namespace Go.Proofs.Ytbolfgafiejkaaa
open Go.RowKit
theorem lnoneD_ret (w : World) : Calls Try.prog 23 #[] w (Ret (.pointer none) w) := by
  refine ret_in (GDkR.lnone_calls w (fun u w' => u = .pointer none ∧ Below w.heap.size w w') ?_)
  unfold GDkR.lnone_vc
  exact ⟨rfl, Bs.refl _⟩
def D12 : List UInt8 := List.replicate 64 1 ++ List.replicate 64 2
theorem D12_len : D12.length = 128 := by simp [D12]
def S12 : DS := cutD (newS 3) 1
theorem d12_facts : writeE S12 1 D12 = 12 ∧ (writeD S12 1 D12).off = true ∧ mayE (crashD (writeD S12 1 D12) [true]) 1 2 = 0 ∧ readL (crashD (writeD S12 1 D12) [true]) 1 2 = List.replicate 64 1 ++ List.replicate 64 0 := by decide +kernel
theorem src_bytes {w : World} {a : Option Addr} {c : Nat} {bs : List UInt8} (h : RowAt w a (bs.map bV)) : Src Try.prog 1 34 (.slice a bs.length c) bs.length (bs.map bV) w := by
  have hs := Src.ofRow (P := Try.prog) (w := w) Try.underlying34 a c (bs.map bV) h (fun u hu => by obtain ⟨x, _, rfl⟩ := List.mem_map.1 hu; rfl)
  rwa [List.length_map] at hs
theorem own_ne {w : World} {b g n c : Nat} {e : TypeId} {a : Option Addr} {xs : List Value} (h : Own w b e 1 (.slice a n c) n xs) (hg : g < b) : ∀ q, a = some q → q.block ≠ g := fun q hq e => by
  subst hq
  have := (h.lt q.block rfl).1
  omega
set_option maxRecDepth 20000 in
theorem ldisks_ret (w : World) : Calls Try.prog 8 #[] w (Ret (.bool true) w) := by
  refine ret_in (GDkR.ldisks_calls w (fun u w' => u = .bool true ∧ Below w.heap.size w w') ?_)
  unfold GDkR.ldisks_vc
  obtain ⟨x1, x2, x3, x4⟩ := d12_facts
  have hW0 : DWf (newS 3) := newS_wf (by omega) (by omega)
  have hW1 : DWf S12 := hW0.cut (by decide)
  have hW2 : DWf (writeD S12 1 D12) := hW1.write 1 D12
  have hW3 := hW2.crash [true]
  have sub : ∀ {g gl mb : Nat}, w.heap.size ≤ g → w.heap.size ≤ gl → w.heap.size ≤ mb → ∀ k ∈ [g, gl, mb], w.heap.size ≤ k := fun h1 h2 h3 k hk => by simp at hk; omega
  refine (dnew_new 3 (by omega) (by omega) w).mono ?_
  rintro e w2 ⟨g, gl, mb, rfl, t2, g0, gl0, mb0, b2⟩
  refine ⟨keepG_nil _ _, _, _, rfl, (dcut_any t2 1).mono ?_⟩
  rintro e w3 ⟨rfl, t3, f3⟩
  have B3 : Bs w w3 := Bs.fr b2 f3 (sub g0 gl0 mb0)
  refine ⟨keepG_nil _ _, rfl, (lsector_new 1 w3).mono ?_⟩
  rintro e w4 ⟨a1, c1, rfl, _, o1, bb4⟩
  have B4 := B3.to bb4
  refine ⟨keepG_nil _ _, a1, 64, c1, rfl, (lsector_new 2 w4).mono ?_⟩
  rintro e w5 ⟨a2, c2, rfl, _, o2, bb5⟩
  have B5 := B4.to bb5
  have t5 := (t3.below bb4).below bb5
  refine ⟨keepG_nil _ _, a2, 64, c2, rfl, ?_⟩
  refine appB (n1 := w3.heap.size) B5 (o1.below bb5 (Nat.le_refl _)) B3.size (Nat.le_trans bb4.size bb5.size) (src_bytes (bs := List.replicate 64 2) o2.row) (by decide) (by decide) (fun q hq => by cases hq) fun a' c' w6 o6 g6 B6 z6 => ?_
  rw [← List.map_append, show 64 + (List.replicate 64 (2 : UInt8)).length = D12.length from rfl] at o6
  have o6 : Own w6 w3.heap.size 5 1 (.slice a' D12.length c') D12.length (D12.map bV) := o6
  obtain ⟨l1, l2, l3⟩ := t3.lt
  have t6 : DkAt w6 g gl mb S12 := t5.keep (g6.block g t5.lt.1 fun e => by have := (o1.lt g e.symm).1; omega) (g6.block gl t5.lt.2.1 fun e => by have := (o1.lt gl e.symm).1; omega) (g6.block mb t5.lt.2.2 fun e => by have := (o1.lt mb e.symm).1; omega)
  rw [show 64 + (List.replicate 64 (2 : UInt8)).length = D12.length from rfl]
  refine (dwrite_any t6 hW1 (bs := D12) o6.row (by rw [D12_len]; omega) o6.cap.1 (fun q hq hm => ?_) 1).mono ?_
  · simp at hm
    rcases hm with e | e | e
    · exact own_ne o6 l1 q hq e
    · exact own_ne o6 l2 q hq e
    · exact own_ne o6 l3 q hq e
  rintro e w7 ⟨rfl, t7, f7⟩
  have B7 : Bs w w7 := B6.fr f7 (sub g0 gl0 mb0)
  refine ⟨keepG_nil _ _, _, rfl, callB B7 (doff_ret t7) fun w8 b8 B8 => ⟨_, rfl, newB B8 fun gk w9 gk0 sgk n9 z9 b9 B9 => ?_⟩⟩
  have t9 := (t7.below b8).below b9
  have l8 := (t7.below b8).lt
  refine (dcrash_any t9 hW2 (kept := [true]) (c := 1) (RowAt.ofWhole (vs := [Value.bool true]) n9) (fun q hq hm => ?_)).mono ?_
  · injection hq with hq
    subst hq
    simp at hm
    omega
  rintro e w10 ⟨rfl, t10, f10⟩
  have B10 : Bs w w10 := B9.fr f10 (sub g0 gl0 mb0)
  refine ⟨keepG_nil _ _, rfl, (dread_new t10 hW3 1 2).mono ?_⟩
  rintro e w11 ⟨ar, nr, cr, rfl, hn, orr, bb11⟩
  rw [x4] at hn orr
  have hn : nr = 128 := hn
  subst hn
  rw [x1, x2, x3]
  refine ⟨keepG_nil _ _, ar, _, cr, _, rfl, br_y rfl (br_y rfl (br_t rfl (br_y rfl (br_y rfl ?_))))⟩
  obtain ⟨b, o, rfl, hc0⟩ := (RowAt.byte (bs := List.replicate 64 1 ++ List.replicate 64 0) orr.row (k := 0) (by simp))
  obtain ⟨b', o', e', hc64⟩ := (RowAt.byte (bs := List.replicate 64 1 ++ List.replicate 64 0) orr.row (k := 64) (by simp))
  cases e'
  exact ⟨by decide, by decide, 1, hc0, br_y rfl ⟨by decide, by decide, 0, hc64, rfl, B10.to bb11⟩⟩
theorem lnews_k1_ok {w wx : World} (B : Bs w wx) (n : Int) (hn : n < 1 ∨ n > 8192 ∨ ∃ k : Nat, n = k ∧ 1 ≤ k ∧ k ≤ 8192) : GDkR.lnews_k1 (fun u w' => u = .bool true ∧ Below w.heap.size w w') n wx := by
  unfold GDkR.lnews_k1
  refine callB B (lnoneD_ret wx) fun w3 b3 B3 => ⟨_, rfl, callB B3 (dcut_nil 1 w3) fun w4 b4 B4 => ⟨rfl, callB B4 (lnoneD_ret w4) fun w5 b5 B5 => ⟨_, rfl, callB B5 (dcrash_nil none 0 0 w5) fun w6 b6 B6 => ⟨rfl, callB B6 (lnoneD_ret w6) fun w7 b7 B7 => ⟨_, rfl, callB B7 (dread_nil 0 1 w7) fun w8 b8 B8 => ⟨_, _, _, _, rfl, callB B8 (ldisks_ret w8) fun w9 b9 B9 => ⟨_, rfl, br_f rfl (br_n (by decide) ?_)⟩⟩⟩⟩⟩⟩⟩
  refine callB B9 (lnoneD_ret w9) fun w10 b10 B10 => ⟨_, rfl, callB B10 (dwrite_nil 0 w10) fun w11 b11 B11 => ⟨_, rfl, br_n (by decide) ?_⟩⟩
  refine callB B11 (lnoneD_ret w11) fun w12 b12 B12 => ⟨_, rfl, callB B12 (dsync_nil w12) fun w13 b13 B13 => ⟨_, rfl, br_n (by decide) ?_⟩⟩
  refine callB B13 (lnoneD_ret w13) fun w14 b14 B14 => ⟨_, rfl, callB B14 (dsize_nil w14) fun w15 b15 B15 => ⟨_, rfl, br_n (by decide) ?_⟩⟩
  refine callB B15 (lnoneD_ret w15) fun w16 b16 B16 => ⟨_, rfl, callB B16 (ddirty_nil w16) fun w17 b17 B17 => ⟨_, _, _, rfl, br_n (by decide) ?_⟩⟩
  refine callB B17 (lnoneD_ret w17) fun w18 b18 B18 => ⟨_, rfl, callB B18 (doff_nil w18) fun w19 b19 B19 => ⟨_, rfl, br_f rfl ?_⟩⟩
  by_cases hbad : n < 1 ∨ n > 8192
  · refine callB B19 (dnew_no n hbad w19) fun w20 b20 B20 => ⟨_, _, rfl, br_dec (fun q => br_t rfl ⟨rfl, B20⟩) fun q => br_y (by omega) (br_t rfl ⟨rfl, B20⟩)⟩
  obtain ⟨k, rfl, h1, h2⟩ : ∃ k : Nat, n = k ∧ 1 ≤ k ∧ k ≤ 8192 := by
    rcases hn with h | h | h
    · exact absurd (.inl h) hbad
    · exact absurd (.inr h) hbad
    · exact h
  refine (dnew_new k h1 h2 w19).mono ?_
  rintro e w20 ⟨g, gl, mb, rfl, t20, g0, gl0, mb0, b20⟩
  have B20 := B19.to b20
  have hW := newS_wf h1 h2
  refine ⟨keepG_nil _ _, _, _, rfl, br_n (by omega) (br_n (by omega) ?_)⟩
  rw [wr64 (by omega) (by omega)]
  refine (dread_new t20 hW ((k : Int) - 1) 1).mono ?_
  rintro e w21 ⟨a, m, c, rfl, rfl, oR, bR⟩
  have hm0 : mayE (newS k) ((k : Int) - 1) 1 = 0 := by unfold mayE newS; rw [if_neg (by show ¬ (false = true); decide), if_pos ⟨by omega, by omega, by dsimp only; omega, by dsimp only; omega⟩]
  have hr : readL (newS k) ((k : Int) - 1) 1 = zero64 := by
    unfold readL
    rw [if_pos hm0]
    show ((List.range 1).flatMap fun i => nowS (newS k) (_ + i)) = zero64
    simp [nowS, newS]
  rw [hr] at oR ⊢
  rw [hm0]
  have B21 := B20.to bR
  refine ⟨keepG_nil _ _, a, _, c, _, rfl, drewB B21 fun w22 b22 B22 e22 => br_y rfl (callB B22 (dsize_ret ((t20.below bR).below b22)) fun w23 b23 B23 => ⟨_, rfl, br_y rfl (br_y rfl ?_)⟩)⟩
  have o23 := (oR.below b22 (Nat.le_refl _)).below b23 (Nat.le_refl _)
  refine ⟨zero64, rfl, o23.row, by decide, by decide, by decide, by decide, newB B23 fun g2 w24 g20 sg2 n24 z24 b24 B24 => ⟨o23.row.below b24 (Nat.le_refl _), zero64, rfl, ?_, br_y rfl (callB B24 (doff_ret ((((t20.below bR).below b22).below b23).below b24)) fun w25 b25 B25 => ⟨_, rfl, rfl, B25⟩)⟩⟩
  rw [show ((64 : Int).toNat * 1) = 64 * 1 from rfl, made_bytes] at n24
  exact RowAt.ofWhole n24
theorem lnews_walk (n : Int) (w : World) (hn : -9223372036854775808 ≤ n ∧ n ≤ 9223372036854775807) : Calls Try.prog 5 #[.int .i64 n] w (Ret (.bool true) w) := by
  refine ret_in (GDkR.lnews_calls n w (fun u w' => u = .bool true ∧ Below w.heap.size w w') ?_)
  unfold GDkR.lnews_vc
  refine br_dec (fun h1 => br_dec (fun h2 => ⟨by decide, lnews_k1_ok (Bs.refl w) _ ?_⟩) fun h2 => lnews_k1_ok (Bs.refl w) n (by omega)) fun h1 => lnews_k1_ok (Bs.refl w) n ?_
  · have hm := Int.emod_nonneg n (b := 2) (by omega)
    have hm2 := Int.emod_lt_of_pos n (b := 2) (by omega)
    rw [Int.tmod_eq_emod_of_nonneg (by omega), wr64 (by omega) (by omega)]
    exact .inr (.inr ⟨(8192 - n % 2).toNat, by omega, by omega, by omega⟩)
  · by_cases h : n < 1
    · exact .inl h
    · exact .inr (.inr ⟨n.toNat, by omega, by omega, by omega⟩)
end Go.Proofs.Ytbolfgafiejkaaa
end
section
/- DiskJobs: both disks side by side; walked. -/
namespace Go.Proofs.Ytbolfgafiejkaaa
open Go.RowKit Go.WideShapes Go.ChangeShapes
structure DB (w : World) (g gl mb : Nat) (p : RPl) (S : DS) : Prop where
  t : DkAt w g gl mb S
  r : RkAt w p S
  wf : DWf S
  ap : ∀ k ∈ p.bl, k ∉ [g, gl, mb]
structure AtD (w wx : World) (g gl mb : Nat) (p : RPl) (S : DS) : Prop where
  two : DB wx g gl mb p S
  bs : Bs w wx
  t0 : ∀ k ∈ [g, gl, mb], w.heap.size ≤ k
  r0 : ∀ k ∈ p.bl, w.heap.size ≤ k
section
variable {w wx wy wz : World} {g gl mb : Nat} {p : RPl} {S S' : DS}
theorem AtD.below (h : AtD w wx g gl mb p S) (b : Below wx.heap.size wx wy) : AtD w wy g gl mb p S := ⟨⟨h.two.t.below b, h.two.r.below b, h.two.wf, h.two.ap⟩, h.bs.to b, h.t0, h.r0⟩
theorem AtD.ap' (h : AtD w wx g gl mb p S) : ∀ k ∈ [g, gl, mb], k ∉ p.bl := fun k hk hp => h.two.ap k hp hk
/-- The program's disk is another; then the document's is, too. -/
theorem AtD.both (h : AtD w wx g gl mb p S) (ht : DkAt wy g gl mb S') (f : Fr [g, gl, mb] wx wy) (hr : RkAt wz p S') (f2 : Fr p.bl wy wz) (hW : DWf S') : AtD w wz g gl mb p S' := by
  have ap := h.ap'
  refine ⟨⟨ht.fr f2 (ap g (by simp)) (ap gl (by simp)) (ap mb (by simp)), hr, hW, h.two.ap⟩, (h.bs.fr f h.t0).fr f2 h.r0, h.t0, h.r0⟩
theorem AtD.rk (h : AtD w wx g gl mb p S) (f : Fr [g, gl, mb] wx wy) : RkAt wy p S := h.two.r.fr f fun k hk => h.two.ap k hk
theorem AtD.lt (h : AtD w wx g gl mb p S) : (∀ k ∈ [g, gl, mb], k < wx.heap.size) ∧ ∀ k ∈ p.bl, k < wx.heap.size := by
  obtain ⟨a1, a2, a3⟩ := h.two.t.lt
  obtain ⟨b1, b2, b3, b4⟩ := h.two.r.lt
  exact ⟨fun k hk => by simp at hk; omega, fun k hk => by simp [RPl.bl] at hk; omega⟩
theorem AtD.k1 (h : AtD w wx g gl mb p S) {g1 : Nat} {L : List Nat} (hg : ∀ k ∈ L, k ≠ g1) (f : Fr L wy wz) : KeepG [g1] wy wz := keepG_fr f fun q hq hq2 => by rw [List.mem_singleton] at hq; exact hg q hq2 hq
end
theorem rSameD_true (a b : Option Addr) (ca cb : Nat) (zs : List Int) (w : World) (hl : zs.length ≤ 1000000) (hra : RowAt w a (zs.map iV)) (hrb : RowAt w b (zs.map iV)) :
    Calls Try.prog 20 #[.slice a zs.length ca, .slice b zs.length cb] w (Ret (.bool true) w) := by
  refine ret_in (GDkR.lsame_calls a zs.length ca b zs.length cb w (fun u w' => u = .bool true ∧ Below w.heap.size w w') ?_)
  unfold GDkR.lsame_vc
  refine br_n (fun q => q rfl) ⟨fun x wx => ∃ i : Nat, x = i ∧ i ≤ zs.length ∧ Bs w wx, fun x _ => zs.length - x.toNat, ⟨0, rfl, by omega, Bs.refl _⟩, ?_⟩
  rintro x wx ⟨i, rfl, hi, B⟩
  refine br_dec (fun hlt => drewB B fun w3 b3 B3 e3 => ?_) fun hge => ⟨rfl, B⟩
  have hil : i < zs.length := by omega
  obtain ⟨b1, o1, rfl, c1⟩ := (hra.below B3 (Nat.le_refl _)).int hil
  obtain ⟨b2, o2, rfl, c2⟩ := (hrb.below B3 (Nat.le_refl _)).int hil
  refine ⟨by omega, by omega, zs[i], by rw [Int.toNat_natCast, Nat.mul_one]; exact c1, by omega, by omega, zs[i], by rw [Int.toNat_natCast, Nat.mul_one]; exact c2, br_n (fun q => q rfl) ?_⟩
  rw [wr64 (by omega) (by omega)]
  exact ⟨⟨i + 1, by omega, by omega, B3⟩, by dsimp only; omega⟩
theorem ljobs_k1_ok {w wx w5 : World} {g gl mb g1 x8 : Nat} {p : RPl} {S : DS} {I : Int → World → Prop} {μ : Int → World → Nat} (h : AtD w wx g gl mb p S) (hx8 : (x8 : Int) < 50)
    (hn : ∀ wz, AtD w wz g gl mb p S → wx.heap.size ≤ wz.heap.size → I ((x8 : Int) + 1) wz ∧ μ ((x8 : Int) + 1) wz < μ x8 w5) :
    GDkR.ljobs_k1 (fun u w' => u = .bool true ∧ Below w.heap.size w w') I μ (some ⟨g, 0, none⟩) (some ⟨p.gr, 0, none⟩) x8 w5 g1 wx := by
  unfold GDkR.ljobs_k1
  rw [wr64 (z := (x8 : Int) + 1) (by omega) (by omega)]
  refine drewB h.bs fun w2 b2 B2 e2 => ?_
  have h2 := h.below b2
  have hl := dirtyL_le h.two.wf
  have hlI : (dirtyI S).length = (dirtyL S).length := by unfold dirtyI; rw [List.length_map]
  refine ⟨S.off, h2.two.r.d4, callB B2 (doff_ret h2.two.t) fun w3 b3 B3 => ⟨_, rfl, (h2.below b3).two.r.d4, br_n (fun q => q rfl) ?_⟩⟩
  have h3 := h2.below b3
  refine (ddirty_new h3.two.t h3.two.wf).mono ?_
  rintro e w4 ⟨a1, n1, c1, rfl, rfl, o1, bb1⟩
  have h4 := h3.below bb1
  refine ⟨keepG_below bb1, a1, _, c1, rfl, (rlist_new h4.two.r h4.two.wf).mono ?_⟩
  rintro e w6 ⟨a2, n2, c2, rfl, rfl, o2, bb2⟩
  have h6 := h4.below bb2
  refine ⟨keepG_below bb2, a2, _, c2, rfl, callB h6.bs (rSameD_true a1 a2 c1 c2 (dirtyI S) w6 (by omega) (o1.below bb2 (Nat.le_refl _)).row o2.row) fun w7 b7 B7 => ⟨_, rfl, br_f rfl (hn w7 (h6.below b7) ?_)⟩⟩
  have := b2.size; have := b3.size; have := bb1.size; have := bb2.size; have := b7.size
  omega
/-! The jobs. -/
structure Job where
  what : Int
  at' : Int
  n : Int
  by' : Int
  odd : Bool
  ka : Option Addr
  kc : Nat
  kept : List Bool
def jobC (x : Job) : List Value := [.int .i64 x.what, .int .i64 x.at', .int .i64 x.n, .int .u8 x.by', .bool x.odd, .slice x.ka x.kept.length x.kc]
structure JobOk (w : World) (x : Job) : Prop where
  k : RowAt w x.ka (x.kept.map Value.bool)
  n : x.n ≤ 9223372036854775807
  b : 0 ≤ x.by' ∧ x.by' < 256
def JobAt (w : World) (b off : Nat) (x : Job) : Prop := cellsAt w b off (jobC x) ∧ JobOk w x
theorem JobAt.below {w w' : World} {b off : Nat} {x : Job} (h : JobAt w b off x) (hb : Below w.heap.size w w') : JobAt w' b off x := ⟨cellsAt_below h.1 hb (Nat.le_refl _), h.2.k.below hb (Nat.le_refl _), h.2.n, h.2.b⟩
theorem bool_elem {w : World} (cs' : List Value) (b off : Nat) (hl : cs'.length = 1) (hc : cellsAt w b off cs') (h : Sh.bool.Has w cs') : ∃ z : Bool, cellsAt w b off [.bool z] := by
  obtain ⟨x, hx⟩ := h
  match cs', hl with
  | [v0], _ =>
    simp at hx
    subst hx
    exact ⟨x, hc⟩
theorem rows_bools {w : World} {a : Option Addr} {zs : List Bool} (h : RowsAt (fun w b off (z : Bool) => cellsAt w b off [.bool z]) 1 w a zs) : RowAt w a (zs.map Value.bool) := by
  rcases h with h | ⟨b, off, ha, h⟩
  · subst h; exact .inl rfl
  · refine .inr ⟨b, off, ha, fun i v hv => ?_⟩
    rw [List.getElem?_map, Option.map_eq_some_iff] at hv
    obtain ⟨z, hz, rfl⟩ := hv
    have := cellsAt_get (h i z hz) 0 _ rfl
    rwa [Nat.mul_one, Nat.add_zero] at this
theorem u8_wf {z : Int} (h : (Lit.int .u8 z).wf = true) : 0 ≤ z ∧ z < 256 := by
  have h1 : IntKind.u8.min = 0 := by decide
  have h2 : IntKind.u8.max = 255 := by decide
  simp [Lit.wf, h1, h2] at h
  omega
theorem open_bools {H : Type} {enc : TypeId × Value → H} {P : Program} {W : World} {t : TypeId} {v : Value} {d : DataW H} {p : List MemPlace} (hf : fitsB P (.slice .bool 1) t = true) (hv : ∃ a l c, v = .slice a l c) (h : DataW.Trod enc P W 0 (fun _ => true) true t v d p) :
    ∃ (xs : List Bool) (a : Option Addr) (c : Nat), v = .slice a xs.length c ∧ RowsAt (fun w b off (z : Bool) => cellsAt w b off [.bool z]) 1 W a xs ∧ xs.length ≤ c ∧ c ≤ maxLen := open_rows (by decide) bool_elem hf hv h
def shJob : Sh := .agg (.fcons 0 1 (.int .i64) (.fcons 1 1 (.int .i64) (.fcons 2 1 (.int .i64) (.fcons 3 1 (.int .u8) (.fcons 4 1 .bool (.fcons 5 1 (.slice .bool 1) .fnil))))))
theorem job_elem {w : World} (cs' : List Value) (b off : Nat) (hl : cs'.length = 6) (hc : cellsAt w b off cs') (h : shJob.Has w cs') : ∃ x, JobAt w b off x := by
  obtain ⟨⟨x0, h0, _⟩, ⟨x1, h1, _⟩, ⟨x2, h2, k2⟩, ⟨x3, h3, k3⟩, ⟨b4, h4⟩, hp, _⟩ := h
  obtain ⟨ks, a, c, p1, p2, _, p3⟩ := has_rows (R := fun w b off (z : Bool) => cellsAt w b off [.bool z]) (by decide) bool_elem hp
  match cs', hl with
  | [v0, v1, v2, v3, v4, v5], _ =>
    simp at h0 h1 h2 h3 h4 p1
    subst h0; subst h1; subst h2; subst h3; subst h4; subst p1
    exact ⟨⟨x0, x1, x2, x3, b4, a, c, ks⟩, hc, rows_bools p3, (i64_range k2).2, u8_wf k3⟩
theorem open_jobs {H : Type} {enc : TypeId × Value → H} {W : World} {t : TypeId} {v : Value} {d : DataW H} {p : List MemPlace} (hf : fitsB Try.prog (.slice shJob 6) t = true) (hv : ∃ a l c, v = .slice a l c) (h : DataW.Trod enc Try.prog W 0 (fun _ => true) true t v d p) :
    ∃ (xs : List Job) (a : Option Addr) (c : Nat), v = .slice a xs.length c ∧ RowsAt JobAt 6 W a xs ∧ xs.length ≤ c ∧ c ≤ maxLen := open_rows (by decide) job_elem hf hv h
abbrev Jobs (w : World) (a : Option Addr) (xs : List Job) : Prop := RowsAt JobAt 6 w a xs
theorem jobs_get {w : World} {a : Option Addr} {xs : List Job} (hx : Jobs w a xs) (i : Nat) (hi : i < xs.length) {wx : World} (B : Bs w wx) :
    ∃ b off, a = some ⟨b, off, none⟩ ∧ JobAt wx b (off + i * 6) xs[i] := by
  have hb : RowsAt JobAt 6 wx a xs := hx.mono fun _ _ _ q => q.below B
  obtain ⟨b, off, ha, hc⟩ := RowsAt.get hb hi
  exact ⟨b, off, ha, hc⟩
/-- A byte that was wrapped. -/
def ub (z : Int) : UInt8 := UInt8.ofNat (IntKind.u8.wrap z).toNat
theorem ub_eq (z : Int) : IntKind.u8.wrap z = ((ub z).toNat : Int) := by
  unfold ub
  rw [IntKind.wrap_u8]
  have h1 := Int.emod_nonneg z (b := 256) (by omega)
  have h2 := Int.emod_lt_of_pos z (b := 256) (by omega)
  rw [UInt8.toNat_ofNat']
  omega
end Go.Proofs.Ytbolfgafiejkaaa
end
section
/- DiskJobs: the whole law; walked. -/
namespace Go.Proofs.Ytbolfgafiejkaaa
open Go.RowKit
theorem AtD.out {w wx wy : World} {g gl mb b : Nat} {p : RPl} {S : DS} (h : AtD w wx g gl mb p S) (f : Fr [b] wx wy) (h1 : b ∉ [g, gl, mb]) (h2 : b ∉ p.bl) (h3 : w.heap.size ≤ b) : AtD w wy g gl mb p S :=
  ⟨⟨h.two.t.fr f (by rw [List.mem_singleton]; exact fun e => h1 (by simp [← e])) (by rw [List.mem_singleton]; exact fun e => h1 (by simp [← e])) (by rw [List.mem_singleton]; exact fun e => h1 (by simp [← e])),
    h.two.r.fr f fun k hk => by rw [List.mem_singleton]; exact fun e => h2 (e ▸ hk), h.two.wf, h.two.ap⟩, h.bs.fr1 f h3, h.t0, h.r0⟩
theorem writeD_n (S : DS) (first : Int) (b : List UInt8) : (writeD S first b).n = S.n := by unfold writeD; split; exact wrS_n _ _ _ _; rfl
theorem syncD_n (S : DS) : (syncD S).n = S.n := by unfold syncD; split <;> rfl
def bldB (by' : Int) (i : Nat) : List UInt8 := (List.range i).flatMap fun (k : Nat) => List.replicate 64 (ub (by' + IntKind.u8.wrap (k : Int)))
theorem bldB_succ (z : Int) (i : Nat) : bldB z (i + 1) = bldB z i ++ List.replicate 64 (ub (z + IntKind.u8.wrap (i : Int))) := by
  unfold bldB
  rw [List.range_succ, List.flatMap_append]
  simp
theorem bldB_len (z : Int) : ∀ i, (bldB z i).length = i * 64
  | 0 => rfl
  | i + 1 => by rw [bldB_succ, List.length_append, bldB_len z i, List.length_replicate]; omega
theorem ljobs_k2_ok {w wx w5 : World} {g gl mb g1 x8 b0 c : Nat} {p : RPl} {S : DS} {I : Int → World → Prop} {μ : Int → World → Nat} {a : Option Addr} {bs : List UInt8} (h : AtD w wx g gl mb p S) (hx8 : (x8 : Int) < 50) (at' : Int)
    (oB : Own wx b0 5 1 (.slice a bs.length c) bs.length (bs.map bV)) (hl : bs.length ≤ 1000) (hb1 : ∀ k ∈ [g, gl, mb], k < b0) (hb2 : ∀ k ∈ p.bl, k < b0) (hb3 : g1 < b0) (hb4 : w.heap.size ≤ b0) (hg1 : ∀ k ∈ [g, gl, mb], k ≠ g1) (hg2 : ∀ k ∈ p.bl, k ≠ g1)
    (hn : ∀ wz, AtD w wz g gl mb p (writeD S at' bs) → wx.heap.size ≤ wz.heap.size → I ((x8 : Int) + 1) wz ∧ μ ((x8 : Int) + 1) wz < μ x8 w5) :
    GDkR.ljobs_k2 (fun u w' => u = .bool true ∧ Below w.heap.size w w') I μ (some ⟨g, 0, none⟩) (some ⟨p.gr, 0, none⟩) x8 w5 at' g1 a bs.length c wx := by
  unfold GDkR.ljobs_k2
  refine ⟨bs, rfl, oB.row, drewB h.bs fun w2 b2 B2 e2 => ?_⟩
  have h2 := h.below b2
  have o2 := oB.below b2 (Nat.le_refl _)
  refine (dwrite_any h2.two.t h2.two.wf o2.row (by omega) o2.cap.1 (fun q hq hm => own_ne o2 (hb1 _ hm) q hq rfl) at').mono ?_
  rintro e w3 ⟨rfl, t3, f3⟩
  have o3 : Own w3 b0 5 1 (.slice a bs.length c) bs.length (bs.map bV) := o2.keep fun k hk => by
    obtain ⟨k1, k2⟩ := o2.lt k hk
    exact f3.block k k2 fun hm => by have := hb1 k hm; omega
  refine ⟨h.k1 hg1 f3, _, rfl, (rwrite4_any (h2.rk f3) h2.two.wf (bs := bs) (by omega) at').mono ?_⟩
  rintro e w4 ⟨rfl, r4, f4⟩
  have h4 : AtD w w4 g gl mb p (writeD S at' bs) := h2.both t3 f3 r4 f4 (h2.two.wf.write _ _)
  have o4 : Own w4 b0 5 1 (.slice a bs.length c) bs.length (bs.map bV) := o3.keep fun k hk => by
    obtain ⟨k1, k2⟩ := o3.lt k hk
    exact f4.block k k2 fun hm => by have := hb2 k hm; omega
  have hs4 : wx.heap.size ≤ w4.heap.size := by have := b2.size; have := f3.size; have := f4.size; omega
  refine ⟨h.k1 hg2 f4, _, rfl, br_n (fun q => q rfl) ⟨bs, rfl, o4.row, br_n (fun q => q rfl) ?_⟩⟩
  refine ⟨fun x wy => ∃ (i : Nat) (xs : List Value), x = i ∧ i ≤ bs.length ∧ Own wy b0 5 1 (.slice a bs.length c) bs.length xs ∧ (∀ j, j < bs.length → ∃ z : Int, xs[j]? = some (.int .u8 z)) ∧ AtD w wy g gl mb p (writeD S at' bs) ∧ wx.heap.size ≤ wy.heap.size, fun x _ => bs.length - x.toNat, ⟨0, _, rfl, by omega, o4, fun j hj => ⟨_, by rw [List.getElem?_map, List.getElem?_eq_getElem hj]; rfl⟩, h4, hs4⟩, ?_⟩
  rintro x wy ⟨i, xs, rfl, hi, oX, hX, hy, hsy⟩
  refine br_dec (fun hlt => ?_) fun hge => ljobs_k1_ok hy hx8 fun wz hz hsz => hn wz hz (Nat.le_trans hsy hsz)
  have hil : i < bs.length := by omega
  obtain ⟨b, off, rfl, hb, hbl⟩ := oX.someAddr (by omega)
  obtain ⟨z, hz⟩ := hX i hil
  have hc := oX.cells b off c rfl i _ hz
  rw [wr64 (z := (i : Int) + 1) (by omega) (by omega)]
  refine ⟨by omega, by omega, z, by rw [Int.toNat_natCast, Nat.mul_one]; exact hc, by omega, by omega, ?_⟩
  rw [Int.toNat_natCast]
  refine oX.storeAt hil (fun q hq => by rw [List.mem_singleton] at hq; omega) fun w6 o6 f6 z6 => ⟨⟨i + 1, _, by omega, by omega, o6, fun j hj => ?_, hy.out f6 (fun hm => by have := hb1 b hm; omega) (fun hm => by have := hb2 b hm; omega) (by omega), by omega⟩, by dsimp only; omega⟩
  rw [List.getElem?_set]
  by_cases e : i = j
  · subst e
    have hxl : i < xs.length := (List.getElem?_eq_some_iff.1 hz).1
    rw [if_pos rfl, if_pos hxl]
    exact ⟨_, rfl⟩
  · rw [if_neg e]
    exact hX j hj
theorem mod_of (x : Int) (k : Int) (hk : 0 < k ∧ k ≤ 100) : IntKind.i64.wrap (Int.tmod (IntKind.u64.wrap x) k) = IntKind.u64.wrap x % k := by
  have h0 : 0 ≤ IntKind.u64.wrap x := by rw [IntKind.wrap_u64]; omega
  have h1 := Int.emod_nonneg (IntKind.u64.wrap x) (b := k) (by omega)
  have h2 := Int.emod_lt_of_pos (IntKind.u64.wrap x) (b := k) (by omega)
  rw [Int.tmod_eq_emod_of_nonneg h0]
  exact wr64 (by omega) (by omega)
theorem ljobs_k3_ok {w wx : World} {g gl mb : Nat} {p : RPl} {S : DS} (h : AtD w wx g gl mb p S) (x0 : Int) (hn : (S.n : Int) = 1 + IntKind.u64.wrap x0 % 7) :
    GDkR.ljobs_k3 (fun u w' => u = .bool true ∧ Below w.heap.size w w') x0 (some ⟨g, 0, none⟩) (some ⟨p.gr, 0, none⟩) wx := by
  unfold GDkR.ljobs_k3
  have hn1 := h.two.wf.n1
  have hn2 := h.two.wf.n2
  rw [mod_of x0 7 (by omega), ← hn, wr64 (z := (S.n : Int)) (by omega) (by omega)]
  refine (dcrash_g (kept := []) (a := none) (c := 0) h.two.t h.two.wf (fun _ _ => .inl rfl)).mono ?_
  rintro e w2 ⟨rfl, t2, f2⟩
  refine ⟨keepG_nil _ _, rfl, (rcrash_any (kept := []) (a := none) (c := 0) (h.rk f2) h.two.wf (fun _ _ => .inl rfl)).mono ?_⟩
  rintro e w3 ⟨rfl, r3, f3⟩
  have hW3 := h.two.wf.crash []
  have h3 : AtD w w3 g gl mb p (crashD S []) := h.both t2 f2 r3 f3 hW3
  have hm : mayE (crashD S []) 0 S.n = 0 := by
    unfold mayE crashD
    rw [if_neg (by show ¬ (false = true); decide), if_pos ⟨by omega, by omega, by dsimp only; omega, by dsimp only; omega⟩]
  refine ⟨keepG_nil _ _, rfl, (dread_new h3.two.t hW3 0 S.n).mono ?_⟩
  rintro e w4 ⟨a, m, c, rfl, rfl, oR, bR⟩
  have h4 := h3.below bR
  rw [hm]
  refine ⟨keepG_nil _ _, a, _, c, _, rfl, callB h4.bs (rread_ret h4.two.r hW3 0 S.n) fun w5 b5 B5 => ⟨_, _, rfl, _, rfl, (oR.below b5 (Nat.le_refl _)).row, br_y rfl (br_y rfl ⟨?_, B5⟩)⟩⟩
  rw [hm]
  rfl
set_option maxRecDepth 20000 in
theorem ljobs_walk (x0 : Int) (a : Option Addr) (c : Nat) (xs : List Job) (w : World) (hl : xs.length ≤ maxLen) (hx : Jobs w a xs) :
    Calls Try.prog 3 #[.int .i64 x0, .slice a xs.length c] w (Ret (.bool true) w) := by
  refine ret_in (GDkR.ljobs_calls x0 a xs.length c w (fun u w' => u = .bool true ∧ Below w.heap.size w w') ?_)
  unfold GDkR.ljobs_vc
  have hlm : xs.length ≤ 9223372036854775807 := by unfold maxLen at hl; omega
  have hu0 : 0 ≤ IntKind.u64.wrap x0 := by rw [IntKind.wrap_u64]; omega
  have hu1 := Int.emod_nonneg (IntKind.u64.wrap x0) (b := 7) (by omega)
  have hu2 := Int.emod_lt_of_pos (IntKind.u64.wrap x0) (b := 7) (by omega)
  obtain ⟨m, hm⟩ : ∃ m : Nat, 1 + IntKind.u64.wrap x0 % 7 = m := ⟨(1 + IntKind.u64.wrap x0 % 7).toNat, by omega⟩
  rw [mod_of x0 7 (by omega), wr64 (z := 1 + IntKind.u64.wrap x0 % 7) (by omega) (by omega), hm]
  refine ⟨by decide, (dnew_new m (by omega) (by omega) w).mono ?_⟩
  rintro e w2 ⟨g, gl, mb, rfl, t2, g0, gl0, mb0, b2⟩
  refine ⟨keepG_nil _ _, _, _, rfl, (rnew_new m (by omega) (by omega) w2).mono ?_⟩
  rintro e w3 ⟨p, rfl, r3, hp, b3⟩
  have lt2 := t2.lt
  have hs2 := Below.size b2
  have h3 : AtD w w3 g gl mb p (newS m) := ⟨⟨t2.below b3, r3, newS_wf (by omega) (by omega), fun k hk hk2 => by have := hp k hk; simp at hk2; omega⟩, Bs.to b2 b3, fun k hk => by simp at hk; omega, fun k hk => by have := hp k hk; omega⟩
  refine ⟨keepG_nil _ _, _, rfl, callB h3.bs (ldisks_ret w3) fun w4 b4 B4 => ⟨_, rfl, br_f rfl (br_n (fun q => q rfl) ?_)⟩⟩
  refine ⟨fun x wx => ∃ (i : Nat) (S : DS), x = i ∧ i ≤ xs.length ∧ AtD w wx g gl mb p S ∧ S.n = m, fun x _ => xs.length - x.toNat, ⟨0, newS m, rfl, by omega, h3.below b4, rfl⟩, ?_⟩
  rintro x wx ⟨i, S, rfl, hi, hS, hSn⟩
  have k3 := ljobs_k3_ok hS x0 (by rw [hSn, hm])
  refine br_dec (fun hlt => br_dec (fun h50 => ?_) fun _ => k3) fun _ => k3
  have hil : i < xs.length := by omega
  obtain ⟨b, off, rfl, hcc, hok⟩ := jobs_get hx i hil hS.bs
  obtain ⟨lt1, lt2⟩ := hS.lt
  have next : ∀ {S' : DS} (wz : World), AtD w wz g gl mb p S' → S'.n = m → (∃ (j : Nat) (S : DS), (i : Int) + 1 = j ∧ j ≤ xs.length ∧ AtD w wz g gl mb p S ∧ S.n = m) ∧ xs.length - ((i : Int) + 1).toNat < xs.length - (i : Int).toNat := fun {S'} wz hz hn => ⟨⟨i + 1, S', by omega, by omega, hz, hn⟩, by omega⟩
  refine ⟨by omega, by omega, _, _, _, _, _, _, _, _, by rw [Int.toNat_natCast]; exact hcc, newB hS.bs fun g1 w6 g10 sg1 n6 z6 b6 B6 => boxB B6 g10 fun w7 h7 B7 z7 => ⟨by decide, ?_⟩⟩
  have bx7 : Bs wx w7 := Bs.box (show Bs wx w6 from b6) (by omega) h7
  have h7' := hS.below bx7
  have ng1 : ∀ k ∈ [g, gl, mb], k ≠ g1 := fun k hk => by have := lt1 k hk; omega
  have ng2 : ∀ k ∈ p.bl, k ≠ g1 := fun k hk => by have := lt2 k hk; omega
  rw [mod_of xs[i].what 5 (by omega)]
  refine br_dec (fun q => ?_) fun q0 => br_dec (fun q => ?_) fun q1 => br_dec (fun q => ?_) fun q2 => br_dec (fun q => ?_) fun q3 => br_dec (fun q => ?_) fun q4 => ljobs_k1_ok h7' h50 fun wz hz _ => next wz hz hSn
  · -- Read
    refine (dread_new h7'.two.t h7'.two.wf xs[i].at' xs[i].n).mono ?_
    rintro e w8 ⟨ar, nr, cr, rfl, rfl, oR, bR⟩
    have h8 := h7'.below bR
    refine ⟨keepG_below bR, ar, _, cr, _, rfl, callB h8.bs (rread_ret h8.two.r h8.two.wf xs[i].at' xs[i].n) fun w9 b9 B9 => ⟨_, _, rfl, _, rfl, (oR.below b9 (Nat.le_refl _)).row, br_n (fun q => q rfl) (br_n (fun q => q rfl) (ljobs_k1_ok (h8.below b9) h50 fun wz hz _ => next wz hz hSn))⟩⟩
  · -- Write
    have hn4a := Int.emod_nonneg (IntKind.u64.wrap xs[i].n) (b := 4) (by omega)
    have hn4b := Int.emod_lt_of_pos (IntKind.u64.wrap xs[i].n) (b := 4) (by omega)
    rw [mod_of xs[i].n 4 (by omega)]
    refine ⟨fun a n c x wy => ∃ j : Nat, x = j ∧ j ≤ 4 ∧ (j : Int) ≤ IntKind.u64.wrap xs[i].n % 4 ∧ n = (bldB xs[i].by' j).length ∧ Own wy w7.heap.size 5 1 (.slice a n c) n ((bldB xs[i].by' j).map bV) ∧ Bs w7 wy, fun _ _ _ x _ => 5 - x.toNat, ⟨0, rfl, by omega, by omega, rfl, Own.nil _ _ _ _, Bs.refl _⟩, ?_⟩
    rintro aw nw cw y wy ⟨j, rfl, hj, hj4, rfl, oB, By⟩
    have hy := h7'.below By
    have hlen := bldB_len xs[i].by' j
    have fin : ∀ {wz : World} {a : Option Addr} {c : Nat} {bs : List UInt8}, Bs w7 wz → Own wz w7.heap.size 5 1 (.slice a bs.length c) bs.length (bs.map bV) → bs.length ≤ 1000 → GDkR.ljobs_k2 (fun u w' => u = .bool true ∧ Below w.heap.size w w') (fun x wx => ∃ (i : Nat) (S : DS), x = i ∧ i ≤ xs.length ∧ AtD w wx g gl mb p S ∧ S.n = m) (fun x _ => xs.length - x.toNat) (some ⟨g, 0, none⟩) (some ⟨p.gr, 0, none⟩) (i : Int) wx xs[i].at' g1 a bs.length c wz := fun {wz a c bs} bz oz hz =>
      ljobs_k2_ok (h7'.below bz) h50 xs[i].at' oz hz (fun k hk => by have := lt1 k hk; omega) (fun k hk => by have := lt2 k hk; omega) (by omega) B7.size ng1 ng2 fun wv hv _ => next wv hv (by rw [writeD_n]; exact hSn)
    refine ⟨by decide, br_dec (fun hlt2 => ?_) fun hge2 => ?_⟩
    · rw [ub_eq (xs[i].by' + IntKind.u8.wrap (j : Int)), wr64 (z := (j : Int) + 1) (by omega) (by omega)]
      refine (lsector_new (ub (xs[i].by' + IntKind.u8.wrap (j : Int))) wy).mono ?_
      rintro e w8 ⟨a2, c2, rfl, _, o2, b8⟩
      have hs := src_bytes (c := c2) (bs := List.replicate 64 (ub (xs[i].by' + IntKind.u8.wrap (j : Int)))) o2.row
      rw [List.length_replicate] at hs
      refine ⟨keepG_below b8, a2, 64, c2, rfl, appB (w0 := w7) (By.to b8) (oB.below b8 (Nat.le_refl _)) (Nat.le_refl _) (Nat.le_trans By.size b8.size) hs (by unfold maxLen; omega) (by omega) (fun q hq e => ?_) fun a' c' w9 o9 g9 B9 z9 => ⟨⟨j + 1, by omega, by omega, by omega, ?_, ?_, B9⟩, by dsimp only; omega⟩⟩
      · rw [List.mem_singleton] at hq
        have := (oB.lt q e).1
        omega
      · rw [bldB_succ, List.length_append, List.length_replicate]
      · rw [bldB_succ, List.map_append]; exact o9
    · cases hodd : xs[i].odd
      · exact br_f rfl (fin By oB (by omega))
      · refine br_t rfl (newB By fun g2 w8 g20 sg2 n8 z8 b8 B8 => appB (w0 := w7) B8 (oB.below b8 (Nat.le_refl _)) (Nat.le_refl _) B8.size (src_block (cs := [.int .u8 1]) Try.underlying34 n8 rfl rfl) (by unfold maxLen; omega) (by omega) (fun q hq e => ?_) fun a' c' w9 o9 g9 B9 z9 => ?_)
        · rw [List.mem_singleton] at hq
          have := (oB.lt q e).1
          omega
        · have o9' : Own w9 w7.heap.size 5 1 (.slice a' ((bldB xs[i].by' j).length + 1) c') ((bldB xs[i].by' j).length + 1) ((bldB xs[i].by' j ++ [1]).map bV) := by rw [List.map_append]; exact o9
          have el : (bldB xs[i].by' j).length + 1 = (bldB xs[i].by' j ++ [1]).length := by rw [List.length_append]; rfl
          rw [el] at o9' ⊢
          exact fin B9 o9' (by rw [List.length_append]; simp; omega)
  · -- Sync
    refine (dsync_any h7'.two.t h7'.two.wf).mono ?_
    rintro e w8 ⟨rfl, t8, f8⟩
    refine ⟨hS.k1 ng1 f8, _, rfl, (rsync_any (h7'.rk f8) h7'.two.wf).mono ?_⟩
    rintro e w9 ⟨rfl, r9, f9⟩
    exact ⟨hS.k1 ng2 f9, _, rfl, br_n (fun q => q rfl) (ljobs_k1_ok (h7'.both t8 f8 r9 f9 h7'.two.wf.sync) h50 fun wz hz _ => next wz hz (by rw [syncD_n]; exact hSn))⟩
  · -- Cut
    refine (dcut_any h7'.two.t xs[i].n).mono ?_
    rintro e w8 ⟨rfl, t8, f8⟩
    refine ⟨hS.k1 ng1 f8, rfl, (h7'.rk f8).setArm (max xs[i].n 0) (fun q hq => by rw [List.mem_singleton] at hq; rw [hq]; exact fun e => ng2 p.gr (by simp [RPl.bl]) e.symm) fun w9 r9 f9 z9 => ?_⟩
    have f9' : Fr p.bl w8 w9 := f9.mono fun k hk => .inl (by rw [List.mem_singleton] at hk; simp [RPl.bl, hk])
    have hC := h7'.two.wf.cut (n := xs[i].n) hok.n
    have h9 : AtD w w9 g gl mb p (cutD S xs[i].n) := h7'.both t8 f8 (show RkAt w9 p (cutD S xs[i].n) from r9) f9' hC
    exact ljobs_k1_ok h9 h50 fun wz hz _ => next wz hz hSn
  · -- Crash
    have hrow : ∀ {wz : World}, Below w.heap.size w wz → RowAt wz xs[i].ka (xs[i].kept.map Value.bool) := fun {wz} hz => by
      obtain ⟨_, _, _, hh⟩ := jobs_get hx i hil hz
      exact hh.2.k
    refine (dcrash_g h7'.two.t h7'.two.wf (fun wz f => hrow (h7'.bs.fr f h7'.t0))).mono ?_
    rintro e w8 ⟨rfl, t8, f8⟩
    refine ⟨hS.k1 ng1 f8, rfl, (rcrash_any (h7'.rk f8) h7'.two.wf (fun wz f => hrow ((h7'.bs.fr f8 h7'.t0).fr f h7'.r0))).mono ?_⟩
    rintro e w9 ⟨rfl, r9, f9⟩
    exact ⟨hS.k1 ng2 f9, rfl, ljobs_k1_ok (h7'.both t8 f8 r9 f9 (h7'.two.wf.crash _)) h50 fun wz hz _ => next wz hz hSn⟩
end Go.Proofs.Ytbolfgafiejkaaa
end
section
/- DiskLasts; walked. -/
namespace Go.Proofs.Ytbolfgafiejkaaa
open Go.RowKit
def rep (b : UInt8) : List UInt8 := List.replicate 64 b
theorem rep_len (b : UInt8) : (rep b).length = 64 := List.length_replicate
theorem write1 {S : DS} {k : Nat} (hn : S.n = 8) (ho : S.off = false) (hl : S.left = 0) (hk : k < 8) (b : UInt8) : writeD S (k : Int) (rep b) = ⟨S.n, S.last, fun i => if i = k then some (rep b) else S.cch i, 0, false⟩ := by
  have hm : mayE S (k : Int) (((rep b).length / 64 : Nat) : Int) = 0 := by
    rw [rep_len]
    unfold mayE
    rw [if_neg (by rw [ho]; decide), if_pos]
    rw [hn]
    exact ⟨by omega, by omega, by omega, by omega⟩
  have hp : pieceB (rep b) 0 = rep b := by unfold pieceB rep; simp
  unfold writeD
  rw [if_pos ⟨hm, by rw [rep_len]⟩, rep_len, Int.toNat_natCast]
  show wrS S k (pieceB (rep b)) 1 = _
  rw [wrS, wrS, if_neg (by rw [ho]; decide)]
  unfold putK
  rw [hp, hl, Nat.add_zero, if_neg (by decide), if_neg (by decide), ho]
/-- Behind the writes of the first bytes. -/
structure L1 (S : DS) (L : Nat → UInt8) : Prop where
  wf : DWf S
  n : S.n = 8
  off : S.off = false
  left : S.left = 0
  now : ∀ j, nowS S j = rep (L j)
structure L2 (S : DS) (L N : Nat → UInt8) (T : Nat → Bool) : Prop where
  wf : DWf S
  n : S.n = 8
  off : S.off = false
  left : S.left = 0
  last : ∀ j, S.last j = rep (L j)
  cch : ∀ j, S.cch j = if T j = true then some (rep (N j)) else none
theorem L1.step {S : DS} {L : Nat → UInt8} (h : L1 S L) {k : Nat} (hk : k < 8) (b : UInt8) : L1 (writeD S (k : Int) (rep b)) fun j => if j = k then b else L j := by
  have hw := write1 h.n h.off h.left hk b
  refine ⟨h.wf.write _ _, by rw [hw]; exact h.n, by rw [hw], by rw [hw], fun j => ?_⟩
  rw [hw]
  unfold nowS
  dsimp only
  by_cases e : j = k
  · rw [if_pos e, if_pos e]; rfl
  · rw [if_neg e, if_neg e]; exact h.now j
theorem L1.sync {S : DS} {L : Nat → UInt8} (h : L1 S L) : L2 (syncD S) L L fun _ => false := by
  have hs : syncD S = ⟨S.n, nowS S, fun _ => none, S.left, S.off⟩ := by unfold syncD; rw [if_neg (by rw [h.off]; decide)]
  exact ⟨h.wf.sync, by rw [hs]; exact h.n, by rw [hs]; exact h.off, by rw [hs]; exact h.left, fun j => by rw [hs]; exact h.now j, fun j => by rw [hs]; rfl⟩
theorem L2.step {S : DS} {L N : Nat → UInt8} {T : Nat → Bool} (h : L2 S L N T) {k : Nat} (hk : k < 8) (b : UInt8) : L2 (writeD S (k : Int) (rep b)) L (fun j => if j = k then b else N j) fun j => if j = k then true else T j := by
  have hw := write1 h.n h.off h.left hk b
  refine ⟨h.wf.write _ _, by rw [hw]; exact h.n, by rw [hw], by rw [hw], fun j => by rw [hw]; exact h.last j, fun j => ?_⟩
  rw [hw]
  dsimp only
  by_cases e : j = k
  · rw [if_pos e, if_pos e, if_pos rfl, if_pos e]
  · rw [if_neg e, if_neg e, if_neg e]; exact h.cch j
theorem L2.read {S : DS} {L N : Nat → UInt8} {T : Nat → Bool} (h : L2 S L N T) (kept : List Bool) {k : Nat} (hk : k < 8) :
    mayE (crashD S kept) (k : Int) 1 = 0 ∧ (readL (crashD S kept) (k : Int) 1 = rep (L k) ∨ T k = true ∧ readL (crashD S kept) (k : Int) 1 = rep (N k)) := by
  have hm : mayE (crashD S kept) (k : Int) 1 = 0 := by
    unfold mayE
    rw [if_neg (by show ¬ (false = true); decide), if_pos]
    show 0 ≤ (k : Int) ∧ (0 : Int) ≤ 1 ∧ (k : Int) ≤ (S.n : Int) ∧ (1 : Int) ≤ (S.n : Int) - k
    rw [h.n]
    omega
  refine ⟨hm, ?_⟩
  have hr : readL (crashD S kept) (k : Int) 1 = if dirtyS S k = true ∧ kept.getD (rk (dirtyS S) k) false = true then nowS S k else S.last k := by
    unfold readL
    rw [if_pos hm, Int.toNat_natCast]
    show ((List.range 1).flatMap fun j => nowS _ (k + j)) = _
    simp only [List.range_one, List.flatMap_cons, List.flatMap_nil, List.append_nil, Nat.add_zero]
    rfl
  rw [hr]
  by_cases hc : dirtyS S k = true ∧ kept.getD (rk (dirtyS S) k) false = true
  · rw [if_pos hc]
    have hd := hc.1
    unfold dirtyS at hd
    have hcc := h.cch k
    cases hT : T k
    · rw [hT, if_neg (by decide)] at hcc
      rw [hcc] at hd
      cases hd
    · rw [hT, if_pos rfl] at hcc
      exact .inr ⟨rfl, by unfold nowS; rw [hcc]; rfl⟩
  · rw [if_neg hc]
    exact .inl (h.last k)
theorem crash_clean (S : DS) (kept : List Bool) : dirtyI (crashD S kept) = [] := by
  unfold dirtyI dirtyL
  rw [List.map_eq_nil_iff, List.filter_eq_nil_iff]
  intro j _
  show ¬ (none : Option (List UInt8)).isSome = true
  decide
def u8L (L : Nat → UInt8) : List Value := (List.range 8).map fun j => bV (L j)
def b8L (T : Nat → Bool) : List Value := (List.range 8).map fun j => .bool (T j)
theorem u8L_set (L : Nat → UInt8) (k : Nat) (b : UInt8) : ((u8L L).toArray.setIfInBounds k (bV b)) = (u8L fun j => if j = k then b else L j).toArray := by
  rw [List.setIfInBounds_toArray]
  unfold u8L
  rw [range_set]
  congr 1
  exact List.map_congr_left fun j _ => by dsimp only; split <;> rfl
theorem b8L_set (T : Nat → Bool) (k : Nat) (b : Bool) : ((b8L T).toArray.setIfInBounds k (.bool b)) = (b8L fun j => if j = k then b else T j).toArray := by
  rw [List.setIfInBounds_toArray]
  unfold b8L
  rw [range_set]
  congr 1
  exact List.map_congr_left fun j _ => by dsimp only; split <;> rfl
theorem u8L_cell {w : World} {g : Nat} {t : TypeId} {L : Nat → UInt8} (h : Bk w g (u8L L).toArray t) {k : Nat} (hk : k < 8) : w.cell? ⟨g, 0 + k * 1, none⟩ = some (bV (L k)) := by
  rw [h.cell, Nat.zero_add, Nat.mul_one]; simp [u8L, hk]
theorem b8L_cell {w : World} {g : Nat} {t : TypeId} {T : Nat → Bool} (h : Bk w g (b8L T).toArray t) {k : Nat} (hk : k < 8) : w.cell? ⟨g, 0 + k * 1, none⟩ = some (.bool (T k)) := by
  rw [h.cell, Nat.zero_add, Nat.mul_one]; simp [b8L, hk]
/-- What stands where, behind the base of the law. -/
structure At3 (w wx : World) (g gl mb ga gb : Nat) (S : DS) (L : Nat → UInt8) (N : Nat → UInt8) : Prop where
  t : DkAt wx g gl mb S
  a : Bk wx ga (u8L L).toArray 52
  b : Bk wx gb (u8L N).toArray 52
  bs : Bs w wx
  na : ga ∉ [g, gl, mb] ∧ gb ∉ [g, gl, mb] ∧ ga ≠ gb
  t0 : ∀ k ∈ [g, gl, mb], w.heap.size ≤ k
  g0 : w.heap.size ≤ ga ∧ w.heap.size ≤ gb
section
variable {w wx wy : World} {g gl mb ga gb : Nat} {S S' : DS} {L N : Nat → UInt8}
theorem At3.below (h : At3 w wx g gl mb ga gb S L N) (b : Below wx.heap.size wx wy) : At3 w wy g gl mb ga gb S L N := ⟨h.t.below b, h.a.below b, h.b.below b, h.bs.to b, h.na, h.t0, h.g0⟩
theorem At3.step (h : At3 w wx g gl mb ga gb S L N) (t : DkAt wy g gl mb S') (f : Fr [g, gl, mb] wx wy) : At3 w wy g gl mb ga gb S' L N := ⟨t, h.a.fr f h.na.1, h.b.fr f h.na.2.1, h.bs.fr f h.t0, h.na, h.t0, h.g0⟩
/-- One sector is made, and written. -/
theorem At3.put (h : At3 w wx g gl mb ga gb S L N) (hW : DWf S) (b : UInt8) (k : Int) {K : Option Addr → Nat → Nat → World → Prop}
    (hk : ∀ a c w1, Below wx.heap.size wx w1 → (Calls Try.prog 12 #[.pointer (some ⟨g, 0, none⟩), .int .i64 k, .slice a 64 c] w1 fun e w2 => e = .returned (.int .i64 (writeE S k (rep b))) ∧ At3 w w2 g gl mb ga gb (writeD S k (rep b)) L N ∧ Fr [g, gl, mb] w1 w2) → K a 64 c w1) :
    Calls Try.prog 11 #[.int .u8 (b.toNat : Int)] wx fun e w1 => KeepG [] wx w1 ∧ ∃ a n c, e = .returned (.slice a n c) ∧ K a n c w1 := by
  refine (lsector_new b wx).mono ?_
  rintro e w1 ⟨a, c, rfl, _, o1, b1⟩
  have h1 := h.below b1
  obtain ⟨l1, l2, l3⟩ := h.t.lt
  refine ⟨keepG_nil _ _, a, 64, c, rfl, hk a c w1 b1 ?_⟩
  have o1' : Own w1 wx.heap.size 5 1 (.slice a (rep b).length c) (rep b).length ((rep b).map bV) := by rw [rep_len]; exact o1
  have hd := dwrite_any h1.t hW (bs := rep b) o1'.row (by rw [rep_len]; omega) o1'.cap.1 (fun q hq hm => by
    simp at hm
    rcases hm with e | e | e
    · exact own_ne o1' l1 q hq e
    · exact own_ne o1' l2 q hq e
    · exact own_ne o1' l3 q hq e) k
  rw [rep_len] at hd
  refine hd.mono ?_
  rintro e w2 ⟨rfl, t2, f2⟩
  exact ⟨rfl, h1.step t2 f2, f2⟩
end
set_option maxRecDepth 20000 in
theorem llasts_k1_ok {w wx : World} {g gl mb ga gb gc c2 : Nat} {S : DS} {L N : Nat → UInt8} {T : Nat → Bool} {a2 : Option Addr} {kept : List Bool} (h : At3 w wx g gl mb ga gb S L N) (hT : Bk wx gc (b8L T).toArray 53) (hgc : gc ∉ [g, gl, mb]) (h2 : L2 S L N T) (hr : ∀ wy, Bs w wy → RowAt wy a2 (kept.map Value.bool)) :
    GDkR.llasts_k1 (fun u w' => u = .bool true ∧ Below w.heap.size w w') a2 kept.length c2 (some ⟨g, 0, none⟩) ga gb gc wx := by
  unfold GDkR.llasts_k1
  refine (dcrash_g h.t h2.wf (fun wy f => hr wy (h.bs.fr f h.t0))).mono ?_
  rintro e w3 ⟨rfl, t3, f3⟩
  have h3 := h.step t3 f3
  have hW3 := h2.wf.crash kept
  have T3 := hT.fr f3 hgc
  refine ⟨keepG_nil _ _, rfl, fun x wy => ∃ i : Nat, x = i ∧ i ≤ 8 ∧ Bs w3 wy, fun x _ => 8 - x.toNat, ⟨0, rfl, by omega, Bs.refl _⟩, ?_⟩
  rintro x wy ⟨i, rfl, hi, By⟩
  have hy := h3.below By
  refine br_dec (fun hlt => ?_) fun hge => ?_
  · have hi8 : i < 8 := by omega
    obtain ⟨m0, hread⟩ := h2.read kept hi8
    have hrl : (readL (crashD S kept) (i : Int) 1).length = 64 := by
      rcases hread with e | ⟨_, e⟩ <;> rw [e, rep_len]
    rw [wr64 (z := (i : Int) + 1) (by omega) (by omega), Int.toNat_natCast]
    refine (dread_new hy.t hW3 (i : Int) 1).mono ?_
    rintro e w4 ⟨ar, nr, cr, rfl, hnr, oR, bR⟩
    rw [m0]
    refine ⟨keepG_nil _ _, ar, nr, cr, 0, rfl, drewB (By.to bR) fun w5 b5 B5 e5 => br_n (fun q => q rfl) ?_⟩
    have h5 := h3.below B5
    have oR5 := oR.below b5 (Nat.le_refl _)
    have next : ∀ {wq : World}, Bs w3 wq → (∃ k : Nat, (i : Int) + 1 = k ∧ k ≤ 8 ∧ Bs w3 wq) ∧ 8 - ((i : Int) + 1).toNat < 8 - (i : Int).toNat := fun Bq => ⟨⟨i + 1, by omega, by omega, Bq⟩, by omega⟩
    refine ⟨_, hnr.symm, oR5.row, by omega, by omega, ((L i).toNat : Int), u8L_cell h5.a hi8, (lsector_new (L i) w5).mono ?_⟩
    rintro e w6 ⟨al, cl, rfl, _, oL, bL⟩
    have B6 := B5.to bL
    have oR6 := oR5.below bL (Nat.le_refl _)
    refine ⟨keepG_nil _ _, al, 64, cl, rfl, oR6.row, rep (L i), rep_len _, oL.row, br_dec (fun hne => ?_) fun _ => next B6⟩
    rcases hread with e | ⟨hTi, e⟩
    · exact absurd (by rw [e]) hne
    · have T6 := T3.below (show Below w3.heap.size w3 w6 from B6)
      have h6 := h3.below B6
      refine ⟨by omega, by omega, T i, b8L_cell T6 hi8, ?_⟩
      rw [hTi]
      refine br_t rfl ⟨_, hnr.symm, oR6.row, by omega, by omega, ((N i).toNat : Int), u8L_cell h6.b hi8, (lsector_new (N i) w6).mono ?_⟩
      rintro e' w7 ⟨an, cn, rfl, _, oN, bN⟩
      exact ⟨keepG_nil _ _, an, 64, cn, rfl, (oR6.below bN (Nat.le_refl _)).row, rep (N i), rep_len _, oN.row, br_f (by rw [e, decide_eq_true rfl]; rfl) (next (B6.to bN))⟩
  · refine (ddirty_new hy.t hW3).mono ?_
    rintro e w4 ⟨ad, nd, cd, rfl, hnd, _, bd⟩
    rw [crash_clean] at hnd
    subst hnd
    exact ⟨keepG_nil _ _, ad, _, cd, rfl, rfl, (h3.bs.to By).to bd⟩
end Go.Proofs.Ytbolfgafiejkaaa
end
section
/- DiskLasts: the whole law; walked. -/
namespace Go.Proofs.Ytbolfgafiejkaaa
open Go.RowKit
section
variable {w wx wy : World} {g gl mb ga gb : Nat} {S S' : DS} {L N : Nat → UInt8}
theorem At3.setA (h : At3 w wx g gl mb ga gb S L N) {k : Nat} (hk : k < 8) (b : UInt8) {K : World → Prop} (kk : ∀ w1, At3 w w1 g gl mb ga gb S (fun j => if j = k then b else L j) N → Fr [ga] wx w1 → K w1) : stO [] wx ga (0 + k * 1) [.int .u8 (b.toNat : Int)] K := by
  obtain ⟨n1, n2, n3⟩ := h.na
  rw [Nat.mul_one, Nat.zero_add]
  refine stB1 h.bs h.g0.1 h.a (by simp [u8L]; omega) (fun q hq => by cases hq) fun w1 h1 f1 B1 z1 => kk w1 ⟨h.t.fr f1 (by simp at n1 ⊢; omega) (by simp at n1 ⊢; omega) (by simp at n1 ⊢; omega), ?_, h.b.fr1 f1 (fun e => n3 e.symm), B1, h.na, h.t0, h.g0⟩ f1
  rw [← u8L_set]
  exact h1
theorem At3.setB (h : At3 w wx g gl mb ga gb S L N) {k : Nat} (hk : k < 8) (b : UInt8) {K : World → Prop} (kk : ∀ w1, At3 w w1 g gl mb ga gb S L (fun j => if j = k then b else N j) → Fr [gb] wx w1 → K w1) : stO [] wx gb (0 + k * 1) [.int .u8 (b.toNat : Int)] K := by
  obtain ⟨n1, n2, n3⟩ := h.na
  rw [Nat.mul_one, Nat.zero_add]
  refine stB1 h.bs h.g0.2 h.b (by simp [u8L]; omega) (fun q hq => by cases hq) fun w1 h1 f1 B1 z1 => kk w1 ⟨h.t.fr f1 (by simp at n2 ⊢; omega) (by simp at n2 ⊢; omega) (by simp at n2 ⊢; omega), h.a.fr1 f1 n3, ?_, B1, h.na, h.t0, h.g0⟩ f1
  rw [← u8L_set]
  exact h1
theorem At3.out (h : At3 w wx g gl mb ga gb S L N) {q : Nat} (f : Fr [q] wx wy) (h1 : q ∉ [g, gl, mb]) (h2 : ga ≠ q) (h3 : gb ≠ q) (h4 : w.heap.size ≤ q) : At3 w wy g gl mb ga gb S L N :=
  ⟨h.t.fr f (by simp at h1 ⊢; omega) (by simp at h1 ⊢; omega) (by simp at h1 ⊢; omega), h.a.fr1 f h2, h.b.fr1 f h3, h.bs.fr1 f h4, h.na, h.t0, h.g0⟩
end
theorem byte_of {x : Job} {w : World} (h : JobOk w x) : ∃ b : UInt8, x.by' = (b.toNat : Int) := ⟨UInt8.ofNat x.by'.toNat, by have := h.b; rw [UInt8.toNat_ofNat']; omega⟩
set_option maxRecDepth 20000 in
theorem llasts_k2_ok {w wx : World} {g gl mb ga gb c2 : Nat} {S : DS} {L N0 : Nat → UInt8} {a1 a2 : Option Addr} {kept : List Bool} {xs : List Job} (h : At3 w wx g gl mb ga gb S L N0) (h1 : L1 S L) (hx : Jobs w a1 xs) (hxl : xs.length ≤ 9223372036854775807) (hr : ∀ wy, Bs w wy → RowAt wy a2 (kept.map Value.bool)) :
    GDkR.llasts_k2 (fun u w' => u = .bool true ∧ Below w.heap.size w w') a1 xs.length a2 kept.length c2 (some ⟨g, 0, none⟩) ga gb wx := by
  unfold GDkR.llasts_k2
  refine (dsync_any h.t h1.wf).mono ?_
  rintro e w3 ⟨rfl, t3, f3⟩
  have h3 := h.step t3 f3
  have hE : syncE S = 0 := by unfold syncE; rw [if_neg (by rw [h1.off]; decide)]
  rw [hE]
  have hcl : cellsAt w3 ga 0 (u8L L) := cellsAt_row h3.a (by rw [List.drop_zero, List.take_length])
  refine ⟨keepG_nil _ _, _, rfl, br_n (fun q => q rfl) ⟨_, _, _, _, _, _, _, _, hcl, ?_⟩⟩
  refine stB h3.bs h3.g0.2 h3.b (vs := u8L L) (by simp [u8L]) (fun q hq => by cases hq) fun w4 b4 f4 B4 z4 => ?_
  obtain ⟨n1, n2, n3⟩ := h3.na
  have h4 : At3 w w4 g gl mb ga gb (syncD S) L L := ⟨h3.t.fr f4 (by simp at n2 ⊢; omega) (by simp at n2 ⊢; omega) (by simp at n2 ⊢; omega), h3.a.fr1 f4 n3, b4, B4, h3.na, h3.t0, h3.g0⟩
  refine newB B4 fun gc w5 gc0 sgc n5 z5 b5 B5 => ?_
  have h5 := h4.below b5
  have hT5 : Bk w5 gc (b8L fun _ => false).toArray 53 := n5
  have l4 := h4.t.lt
  have hgc : gc ∉ [g, gl, mb] := by simp; omega
  have hga : ga ≠ gc := by have := h4.a.lt; omega
  have hgb : gb ≠ gc := by have := h4.b.lt; omega
  refine ⟨fun x wy => ∃ (i : Nat) (S : DS) (N : Nat → UInt8) (T : Nat → Bool), x = i ∧ i ≤ xs.length ∧ At3 w wy g gl mb ga gb S L N ∧ Bk wy gc (b8L T).toArray 53 ∧ L2 S L N T, fun x _ => xs.length - x.toNat, ⟨0, _, _, _, rfl, by omega, h5, hT5, h1.sync⟩, ?_⟩
  rintro x wy ⟨i, S, N, T, rfl, hi, hy, hT, h2⟩
  have hk1 := llasts_k1_ok (c2 := c2) hy hT hgc h2 hr
  refine br_dec (fun hlt => br_dec (fun h20 => ?_) fun _ => hk1) fun _ => hk1
  have hil : i < xs.length := by omega
  obtain ⟨b, off, e1, hcc, hok⟩ := jobs_get hx i hil hy.bs
  obtain ⟨yb, hyb⟩ := byte_of hok
  subst e1
  have u0 : 0 ≤ IntKind.u64.wrap xs[i].at' := by rw [IntKind.wrap_u64]; omega
  have m1 := Int.emod_nonneg (IntKind.u64.wrap xs[i].at') (b := 8) (by omega)
  have m2 := Int.emod_lt_of_pos (IntKind.u64.wrap xs[i].at') (b := 8) (by omega)
  obtain ⟨k, hk⟩ : ∃ k : Nat, IntKind.u64.wrap xs[i].at' % 8 = k := ⟨(IntKind.u64.wrap xs[i].at' % 8).toNat, by omega⟩
  have hmo := mod_of xs[i].at' 8 (by omega)
  rw [hk] at hmo
  have hk8 : k < 8 := by omega
  have cell1 := cellsAt_get hcc 1 _ rfl
  have cell3 : ∀ {wz : World}, Bs w wz → wz.cell? ⟨b, off + i * 6 + 3, none⟩ = some (.int .u8 (yb.toNat : Int)) := fun Bz => by
    obtain ⟨b', off', e', hc', _⟩ := jobs_get hx i hil Bz
    cases e'
    have := cellsAt_get hc' 3 _ rfl
    rw [hyb] at this
    exact this
  rw [wr64 (z := (i : Int) + 1) (by omega) (by omega)]
  refine ⟨by omega, by omega, xs[i].at', by rw [Int.toNat_natCast]; exact cell1, by decide, by omega, by omega, (yb.toNat : Int), by rw [Int.toNat_natCast]; exact cell3 hy.bs, ?_⟩
  rw [hmo, Int.toNat_natCast, Int.toNat_natCast]
  refine hy.put h2.wf yb (k : Int) fun a c w6 b6 hcall => hcall.mono ?_
  rintro e w7 ⟨rfl, h7, f7⟩
  have T7 : Bk w7 gc (b8L T).toArray 53 := (hT.below b6).fr f7 hgc
  refine ⟨keepG_nil _ _, _, rfl, by omega, by omega, (yb.toNat : Int), cell3 h7.bs, by omega, by omega, h7.setB hk8 yb fun w8 h8 f8 => ⟨by omega, by omega, ?_⟩⟩
  have T8 := T7.fr1 f8 (fun e => hgb e.symm)
  rw [Nat.mul_one, Nat.zero_add]
  refine stB1 h8.bs gc0 T8 (by simp [b8L]; omega) (fun q hq => by cases hq) fun w9 t9 f9 B9 z9 => ⟨⟨i + 1, _, _, _, by omega, by omega, h8.out f9 hgc hga hgb gc0, ?_, h2.step hk8 yb⟩, by dsimp only; omega⟩
  rw [← b8L_set]
  exact t9
set_option maxRecDepth 20000 in
theorem llasts_walk (a0 : Option Addr) (c0 : Nat) (bs : List UInt8) (a1 : Option Addr) (c1 : Nat) (xs : List Job) (a2 : Option Addr) (c2 : Nat) (kept : List Bool) (w : World) (hbl : bs.length ≤ maxLen) (hxl : xs.length ≤ maxLen) (hb : RowAt w a0 (bs.map bV)) (hx : Jobs w a1 xs) (hr : RowAt w a2 (kept.map Value.bool)) :
    Calls Try.prog 4 #[.slice a0 bs.length c0, .slice a1 xs.length c1, .slice a2 kept.length c2] w (Ret (.bool true) w) := by
  refine ret_in (GDkR.llasts_calls a0 bs.length c0 a1 xs.length c1 a2 kept.length c2 w (fun u w' => u = .bool true ∧ Below w.heap.size w w') ?_)
  unfold GDkR.llasts_vc
  have hlm : xs.length ≤ 9223372036854775807 := by unfold maxLen at hxl; omega
  have hlb : bs.length ≤ 9223372036854775807 := by unfold maxLen at hbl; omega
  refine (dnew_new 8 (by omega) (by omega) w).mono ?_
  rintro e w2 ⟨g, gl, mb, rfl, t2, g0, gl0, mb0, b2⟩
  refine ⟨keepG_nil _ _, _, _, rfl, callB b2 (ldisks_ret w2) fun w3 b3 B3 => ⟨_, rfl, br_f rfl (br_n (fun q => q rfl) (newB B3 fun ga w4 ga0 sga n4 z4 b4 B4 => newB B4 fun gb w5 gb0 sgb n5 z5 b5 B5 => ?_))⟩⟩
  have lt2 := t2.lt
  have s3 := b3.size
  have h5 : At3 w w5 g gl mb ga gb (newS 8) (fun _ => 0) (fun _ => 0) := ⟨((t2.below b3).below b4).below b5, (show Bk w4 ga (u8L fun _ => 0).toArray 52 from n4).below b5, n5, B5, ⟨by simp; omega, by simp; omega, by omega⟩, fun k hk => by simp at hk; omega, ga0, gb0⟩
  have l5 : L1 (newS 8) fun _ => 0 := ⟨newS_wf (by omega) (by omega), rfl, rfl, rfl, fun j => rfl⟩
  refine ⟨fun x wx => ∃ (i : Nat) (S : DS) (L : Nat → UInt8), x = i ∧ i ≤ 8 ∧ At3 w wx g gl mb ga gb S L (fun _ => 0) ∧ L1 S L, fun x _ => 8 - x.toNat, ⟨0, _, _, rfl, by omega, h5, l5⟩, ?_⟩
  rintro x wx ⟨i, S, L, rfl, hi, hS, h1⟩
  have hk2 := llasts_k2_ok (c2 := c2) hS h1 hx hlm (kept := kept) fun wy By => hr.below By (Nat.le_refl _)
  refine br_dec (fun hlt => br_dec (fun hlt2 => ?_) fun _ => hk2) fun _ => hk2
  have hi8 : i < 8 := by omega
  have hib : i < bs.length := by omega
  obtain ⟨b, off, e1, hc⟩ := (hb.below hS.bs (Nat.le_refl _)).byte hib
  subst e1
  have cell : ∀ {wz : World}, Bs w wz → wz.cell? ⟨b, off + i * 1, none⟩ = some (.int .u8 (bs[i].toNat : Int)) := fun Bz => by
    obtain ⟨b', off', e', hc'⟩ := (hb.below Bz (Nat.le_refl _)).byte hib
    cases e'
    rw [Nat.mul_one]
    exact hc'
  rw [wr64 (z := (i : Int) + 1) (by omega) (by omega), Int.toNat_natCast]
  refine ⟨by omega, by omega, _, cell hS.bs, hS.put h1.wf bs[i] (i : Int) fun a c w6 b6 hcall => hcall.mono ?_⟩
  rintro e w7 ⟨rfl, h7, f7⟩
  exact ⟨keepG_nil _ _, _, rfl, by omega, by omega, _, cell h7.bs, by omega, by omega, h7.setA hi8 bs[i] fun w8 h8 f8 => ⟨⟨i + 1, _, _, by omega, by omega, h8, h1.step hi8 bs[i]⟩, by dsimp only; omega⟩⟩
end Go.Proofs.Ytbolfgafiejkaaa
end
section
/- Arrays and structs that came in as values: their numbers. -/
namespace Go.Proofs.Ytbolfgafiejkaaa
open Go.RowKit Go.WideShapes Go.ChangeShapes
theorem okWide_arr {P : Program} {W : World} {r : Reach} {base : Nat} {t : TypeId} {v : Value} {n : Nat} {e : Sh} {k : Nat} (hf : fitsB P (.arr n e k) t = true) (hv : Value.okWide P W r base t v) : ∃ cs, v = .agg cs ∧ cs.size = P.cellsOf t := by
  unfold fitsB at hf
  split at hf
  · rename_i l et hu
    unfold Value.okWide at hv
    rw [hu] at hv
    obtain ⟨cs, h1, h2, _⟩ := hv
    exact ⟨cs, h1, h2⟩
  · cases hf
theorem open_arrI {H : Type} {enc : TypeId × Value → H} {P : Program} {W : World} {r : Reach} {base : Nat} {t : TypeId} {v : Value} {d : DataW H} {p : List MemPlace} (n : Nat) (hf : fitsB P (.arr n (.int .i64) 1) t = true) (hc : P.cellsOf t = n) (hv : Value.okWide P W r base t v)
    (h : DataW.Trod enc P W 0 (fun _ => true) true t v d p) : ∃ zs : List Int, zs.length = n ∧ v = .agg (zs.map (Value.int .i64)).toArray ∧ ∀ z ∈ zs, -9223372036854775808 ≤ z ∧ z ≤ 9223372036854775807 := by
  obtain ⟨cs, rfl, hs⟩ := okWide_arr hf hv
  have hh := open_sh hf h
  obtain ⟨zs, hz, hp⟩ := exists_list (p := fun i z => cs.toList[i]? = some (Value.int .i64 z) ∧ (Lit.int .i64 z).wf = true) n (fun i hi => by
    obtain ⟨z, h1, h2⟩ := hh i hi
    refine ⟨z, ?_, h2⟩
    have := congrArg (·[0]?) h1
    simpa [Value.cells] using this)
  refine ⟨zs, hz, ?_, fun z hm => ?_⟩
  · congr 1
    apply Array.ext'
    apply List.ext_getElem?
    intro i
    rw [List.getElem?_map]
    by_cases hi : i < n
    · rw [List.getElem?_eq_getElem (show i < zs.length by omega)]
      exact (hp i _ (List.getElem?_eq_getElem (by omega))).1
    · rw [List.getElem?_eq_none (by simp; omega), List.getElem?_eq_none (by omega)]
      rfl
  · obtain ⟨i, hi⟩ := List.getElem?_of_mem hm
    exact i64_range (hp i z hi).2
theorem open_arr2 {H : Type} {enc : TypeId × Value → H} {P : Program} {W : World} {r : Reach} {base : Nat} {t : TypeId} {v : Value} {d : DataW H} {p : List MemPlace} (hf : fitsB P (.arr 2 (.int .i64) 1) t = true) (hc : P.cellsOf t = 2) (hv : Value.okWide P W r base t v)
    (h : DataW.Trod enc P W 0 (fun _ => true) true t v d p) : ∃ x y : Int, v = .agg #[.int .i64 x, .int .i64 y] ∧ (-9223372036854775808 ≤ x ∧ x ≤ 9223372036854775807) ∧ -9223372036854775808 ≤ y ∧ y ≤ 9223372036854775807 := by
  obtain ⟨zs, hz, rfl, hr⟩ := open_arrI 2 hf hc hv h
  match zs, hz with
  | [x, y], _ => exact ⟨x, y, rfl, hr x (by simp), hr y (by simp)⟩
theorem open_arr4 {H : Type} {enc : TypeId × Value → H} {P : Program} {W : World} {r : Reach} {base : Nat} {t : TypeId} {v : Value} {d : DataW H} {p : List MemPlace} (hf : fitsB P (.arr 4 (.int .i64) 1) t = true) (hc : P.cellsOf t = 4) (hv : Value.okWide P W r base t v)
    (h : DataW.Trod enc P W 0 (fun _ => true) true t v d p) : ∃ x y z u : Int, v = .agg #[.int .i64 x, .int .i64 y, .int .i64 z, .int .i64 u] ∧ (-9223372036854775808 ≤ x ∧ x ≤ 9223372036854775807) ∧ (-9223372036854775808 ≤ y ∧ y ≤ 9223372036854775807) ∧ (-9223372036854775808 ≤ z ∧ z ≤ 9223372036854775807) ∧ -9223372036854775808 ≤ u ∧ u ≤ 9223372036854775807 := by
  obtain ⟨zs, hz, rfl, hr⟩ := open_arrI 4 hf hc hv h
  match zs, hz with
  | [x, y, z, u], _ => exact ⟨x, y, z, u, rfl, hr x (by simp), hr y (by simp), hr z (by simp), hr u (by simp)⟩
end Go.Proofs.Ytbolfgafiejkaaa
end
section
/- What the rows of the disk need, together. -/
namespace Go.Proofs.Ytbolfgafiejkaaa
theorem u8_nat {z : Int} (h : (Lit.int .u8 z).wf = true) : ∃ n : Nat, z = (n : Int) ∧ n < 256 := by
  have := u8_wf h
  exact ⟨z.toNat, by omega, by omega⟩
end Go.Proofs.Ytbolfgafiejkaaa
end
