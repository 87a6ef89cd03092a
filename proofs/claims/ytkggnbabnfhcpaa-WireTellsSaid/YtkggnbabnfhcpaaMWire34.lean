import Derived.Test.YtkggnbabnfhcpaaMWire33
import Derived.Test.YtkggnbabnfhcpaaMWire31
import Derived.ScopeJumps
import Derived.WalkMore
set_option linter.unusedVariables false
section
/- A writer with a cell more behind it; walked. -/
namespace Go.Proofs.Ytkggnbabnfhcpaa
open Go.RowKit
/-- A writer; some blocks are never its own. -/
structure XAt (w : World) (pr : Nat → Prop) (g : Nat) (bs : List UInt8) (bad r : Bool) : Prop where
  ex : ∃ v, Bk w g #[v, .bool bad, .bool r] 73 ∧ Own w 0 5 1 v bs.length (bs.map bV) ∧ ∀ k, v.ownBlock = some k → ¬ pr k
  g0 : ¬ pr g
  up : ∀ q, pr q → q < w.heap.size
/-- Those, and blocks of other kinds than a writer's, are as they were. -/
structure XFr (pr : Nat → Prop) (w w' : World) : Prop where
  os : w'.os = w.os
  tape : w'.tape = w.tape
  output : w'.output = w.output
  size : w.heap.size ≤ w'.heap.size
  old : ∀ q, q < w.heap.size → pr q → w'.heap[q]? = w.heap[q]?
  kind : ∀ (q : Nat) (cs : Array Value) (t : TypeId) (f : Nat × Nat), w.heap[q]? = some (Obj.cells cs t f) → t ≠ 5 → t ≠ 73 → w'.heap[q]? = w.heap[q]?
theorem own_far2 {w : World} {b q n size : Nat} {v : Value} {cs : Array Value} {xs : List Value} {t e : TypeId} {f : Nat × Nat} (h1 : w.heap[q]? = some (.cells cs t f)) (h2 : Own w b e size v n xs) (hne : t ≠ e) : v.ownBlock ≠ some q := fun h => by
  rcases h2.2 with ⟨hv, _⟩ | ⟨g, off, cap, cur, hv, _, hg, _⟩
  · rw [hv] at h; cases h
  · rw [hv] at h
    injection h with h
    subst h
    rw [h1] at hg
    injection hg with hg
    injection hg with _ hg
    exact hne hg
section
variable {pr : Nat → Prop} {g : Nat} {w w1 w2 : World} {bs : List UInt8} {bad r : Bool}
theorem XFr.refl (pr : Nat → Prop) (w : World) : XFr pr w w := ⟨rfl, rfl, rfl, Nat.le_refl _, fun _ _ _ => rfl, fun _ _ _ _ _ _ _ => rfl⟩
theorem XFr.trans (h : XFr pr w w1) (k : XFr pr w1 w2) : XFr pr w w2 :=
  ⟨k.os.trans h.os, k.tape.trans h.tape, k.output.trans h.output, Nat.le_trans h.size k.size, fun q h1 h2 => (k.old q (Nat.lt_of_lt_of_le h1 h.size) h2).trans (h.old q h1 h2), fun q cs t f h1 h2 h3 => (k.kind q cs t f ((h.kind q cs t f h1 h2 h3).trans h1) h2 h3).trans (h.kind q cs t f h1 h2 h3)⟩
theorem XFr.ofBelow (b : Below w.heap.size w w1) : XFr pr w w1 := ⟨b.os, b.tape, b.output, b.size, fun q h1 _ => b.block q h1, fun q cs t f h1 _ _ => b.block q (heap_lt h1)⟩
theorem XFr.mono {pr2 : Nat → Prop} (h : XFr pr w w1) (hp : ∀ q, pr2 q → pr q) : XFr pr2 w w1 := ⟨h.os, h.tape, h.output, h.size, fun q h1 h2 => h.old q h1 (hp q h2), h.kind⟩
theorem XFr.old0 {w0 : World} (f : XFr pr w w1) (B : Bs w0 w) (hn : ∀ q, q < w0.heap.size → pr q) : Bs w0 w1 := ⟨f.os.trans B.os, f.tape.trans B.tape, f.output.trans B.output, Nat.le_trans B.size f.size, fun q hq => (f.old q (by have := B.size; omega) (hn q hq)).trans (B.block q hq)⟩
theorem XFr.row {a : Option Addr} {vs : List Value} (f : XFr pr w w1) (h : RowAt w a vs) (hp : ∀ q, a = some q → pr q.block) : RowAt w1 a vs := by
  rcases h with h | ⟨b, off, ha, h⟩
  · exact .inl h
  · refine .inr ⟨b, off, ha, fun i v hv => ?_⟩
    have hc := h i v hv
    rw [cell_keep (f.old b (block_lt_of_cell hc) (hp _ ha))]
    exact hc
theorem Bk.xfr {q : Nat} {cs : Array Value} {t : TypeId} (h : Bk w q cs t) (f : XFr pr w w1) (h1 : t ≠ 5) (h2 : t ≠ 73) : Bk w1 q cs t := Bk.keep h (f.kind q cs t (0, 0) h h1 h2)
theorem XAt.raw (h : XAt w pr g bs bad r) : ∃ a c, Bk w g #[.slice a bs.length c, .bool bad, .bool r] 73 ∧ Own w 0 5 1 (.slice a bs.length c) bs.length (bs.map bV) ∧ ∀ k, (Value.slice a bs.length c).ownBlock = some k → ¬ pr k := by
  obtain ⟨v, h1, h2, h3⟩ := h.ex
  obtain ⟨a, c, rfl⟩ := h2.isSlice
  exact ⟨a, c, h1, h2, h3⟩
theorem XAt.make (h : Bk w g #[.slice none 0 0, .bool false, .bool false] 73) (hn : ¬ pr g) (hp : ∀ q, pr q → q < w.heap.size) : XAt w pr g [] false false := ⟨⟨_, h, Own.nil _ _ _ _, fun k hk => by cases hk⟩, hn, hp⟩
theorem XAt.below (h : XAt w pr g bs bad r) (b : Below w.heap.size w w1) : XAt w1 pr g bs bad r := by
  obtain ⟨v, h1, h2, h3⟩ := h.ex
  exact ⟨⟨v, h1.below b, h2.below b (Nat.le_refl _), h3⟩, h.g0, fun q hq => Nat.lt_of_lt_of_le (h.up q hq) b.size⟩
theorem XAt.lt (h : XAt w pr g bs bad r) : g < w.heap.size := by
  obtain ⟨v, h1, h2⟩ := h.ex
  exact h1.lt
theorem XAt.mono {pr2 : Nat → Prop} (h : XAt w pr g bs bad r) (hp : ∀ q, pr2 q → pr q) : XAt w pr2 g bs bad r := by
  obtain ⟨v, h1, h2, h3⟩ := h.ex
  exact ⟨⟨v, h1, h2, fun k hk hq => h3 k hk (hp k hq)⟩, fun hq => h.g0 (hp _ hq), fun q hq => h.up q (hp q hq)⟩
/-- A block that is newer than all of the writer's is never its own. -/
theorem XAt.more {q : Nat} (h : XAt w pr g bs bad r) (b : Below w.heap.size w w1) (hq : w.heap.size ≤ q) (hq1 : q < w1.heap.size) : XAt w1 (fun k => pr k ∨ k = q) g bs bad r := by
  obtain ⟨v, h1, h2, h3⟩ := h.ex
  refine ⟨⟨v, h1.below b, h2.below b (Nat.le_refl _), fun k hk hp => ?_⟩, fun hp => ?_, fun k hp => ?_⟩
  · rcases hp with hp | rfl
    · exact h3 k hk hp
    · have := (h2.lt k hk).2; omega
  · rcases hp with hp | rfl
    · exact h.g0 hp
    · have := h1.lt; omega
  · rcases hp with hp | rfl
    · have := h.up k hp; have := b.size; omega
    · exact hq1
/-- A box of another kind was written. -/
theorem XAt.other {q : Nat} {cs : Array Value} {t : TypeId} (h : XAt w pr g bs bad r) (hq : Bk w q cs t) (h1 : t ≠ 5) (h2 : t ≠ 73) (f : Fr [q] w w1) : XAt w1 pr g bs bad r := by
  obtain ⟨v, k1, k2, k3⟩ := h.ex
  have hne : g ≠ q := k1.ne hq (Ne.symm h2)
  exact ⟨⟨v, k1.fr1 f hne, k2.keep fun k hk => f.block k (k2.lt k hk).2 (by rw [List.mem_singleton]; rintro rfl; exact own_far2 hq k2 h1 hk), k3⟩, h.g0, fun q hq => Nat.lt_of_lt_of_le (h.up q hq) f.size⟩
/-- Bytes more. -/
theorem x_app {a : Option Addr} {c m : Nat} {x : Value} {news : List UInt8} (hb : Bk w g #[.slice a bs.length c, .bool bad, .bool r] 73) (ho : Own w 0 5 1 (.slice a bs.length c) bs.length (bs.map bV)) (hop : ∀ k, (Value.slice a bs.length c).ownBlock = some k → ¬ pr k) (g0 : ¬ pr g) (hup : ∀ q, pr q → q < w.heap.size)
    (s : Src Try.prog 1 32 x m (news.map bV) w) (hm : news.length = m) (hl : bs.length + m ≤ 1000000000) {K : World → Prop} (k : ∀ w2, XAt w2 pr g (bs ++ news) bad r → XFr pr w w2 → K w2) :
    appO Try.prog [] w 5 1 1 32 a bs.length c x fun m' a' c' w1 => withP (some ⟨g, 0, none⟩) fun g o => stO [] w1 g o [.slice a' (bs.length + m') c'] K := by
  subst hm
  refine ⟨news.length, bs.map bV, news.map bV, ho.base_le fun _ _ => Nat.zero_le _, s, by unfold maxLen; omega, by omega, (fun g hg => by cases hg), fun a' c' w1 o1 g1 or1 _ => ?_⟩
  have hne : (Value.slice a bs.length c).ownBlock ≠ some g := own_far2 hb ho (by decide)
  have b1 : Bk w1 g #[.slice a bs.length c, .bool bad, .bool r] 73 := hb.keep (g1.block g hb.lt fun e => hne e.symm)
  have o2 : ∀ q, (Value.slice a' (bs.length + news.length) c').ownBlock = some q → ¬ pr q := fun q hq hp => by
    rcases or1 with h | ⟨g', h, h3⟩
    · exact hop q (h ▸ hq) hp
    · rw [h] at hq; injection hq with hq; have := hup q hp; omega
  refine stO_bk b1 (i := 0) (by simp) (fun q hq => by cases hq) fun w2 b2 f2 z2 => k w2 ⟨⟨.slice a' (bs.length + news.length) c', b2, ?_, o2⟩, g0, fun q hq => by have := hup q hq; have := g1.size; omega⟩ ⟨f2.os.trans g1.os, f2.tape.trans g1.tape, f2.output.trans g1.output, by have := g1.size; omega, fun q h1 h2 => ?_, fun q cs t f h1 h2 h3 => ?_⟩
  · rw [List.length_append, List.map_append]
    exact o1.keep fun q hq => f2.block q (o1.lt q hq).2 (by rw [List.mem_singleton]; rintro rfl; exact own_far2 b1 o1 (by decide) hq)
  · have := g1.size
    exact (f2.block q (by omega) (by rw [List.mem_singleton]; rintro rfl; exact g0 h2)).trans (g1.block q h1 fun e => hop q e.symm h2)
  · have hq := heap_lt h1
    have := g1.size
    have hne2 : q ≠ g := fun e => by subst e; have hb' : w.heap[q]? = _ := hb; rw [h1] at hb'; injection hb' with hb'; injection hb' with _ hb'; exact h3 hb'
    exact (f2.block q (by omega) (by rw [List.mem_singleton]; exact hne2)).trans (g1.block q hq fun e => own_far2 h1 ho h2 e.symm)
theorem x_cell {i : Nat} {b : Bool} (h : XAt w pr g bs bad r) (hi : i = 1 ∨ i = 2) {K : World → Prop} (k : ∀ w2, XAt w2 pr g bs (if i = 1 then b else bad) (if i = 2 then b else r) → XFr pr w w2 → w2.heap.size = w.heap.size → K w2)   : stO [] w g i [.bool b] K := by
  obtain ⟨u, h1, h2, h2'⟩ := h.ex
  refine stO_bk h1 (i := i) (by simp; omega) (fun q hq => by cases hq) fun w2 b2 f2 z2 => k w2 ⟨⟨u, ?_, h2.keep fun q hq => f2.block q (h2.lt q hq).2 (by rw [List.mem_singleton]; rintro rfl; exact own_far2 h1 h2 (by decide) hq), h2'⟩, h.g0, fun q hq => by have := h.up q hq; omega⟩ ⟨f2.os, f2.tape, f2.output, by omega, fun q h3 h4 => f2.block q h3 (by rw [List.mem_singleton]; rintro rfl; exact h.g0 h4), fun q cs t f h3 _ h5 => f2.block q (heap_lt h3) ?_⟩ z2
  · rcases hi with rfl | rfl <;> cases b <;> exact b2
  · rw [List.mem_singleton]
    rintro rfl
    have hb' : w.heap[q]? = _ := h1
    rw [h3] at hb'
    injection hb' with hb'
    injection hb' with _ hb'
    exact h5 hb'
/-- One of its flags is set. -/
theorem x_flag (h : XAt w pr g bs bad r) {v : Bool} {K : World → Prop} (k : ∀ w2, XAt w2 pr g bs bad v → XFr pr w w2 → w2.heap.size = w.heap.size → K w2) : stO [] w g 2 [.bool v] K :=
  x_cell h (.inr rfl) fun w2 h2 f z => k w2 h2 f z
theorem x_bad (h : XAt w pr g bs bad r) {K : World → Prop} (k : ∀ w2, XAt w2 pr g bs true r → XFr pr w w2 → K w2) : stO [] w g 1 [.bool true] K :=
  x_cell h (.inl rfl) fun w2 h2 f _ => k w2 h2 f
theorem XAt.c0 (h : XAt w pr g bs bad r) : ∃ a c, w.cell? ⟨g, 0, none⟩ = some (.slice a bs.length c) := by
  obtain ⟨a, c, h1, _⟩ := h.raw
  exact ⟨a, c, by rw [h1.cell]; rfl⟩
theorem XAt.c1 (h : XAt w pr g bs bad r) : w.cell? ⟨g, 1, none⟩ = some (.bool bad) := by
  obtain ⟨a, c, h1, _⟩ := h.raw
  rw [h1.cell]; rfl
theorem XAt.c2 (h : XAt w pr g bs bad r) : w.cell? ⟨g, 2, none⟩ = some (.bool r) := by
  obtain ⟨a, c, h1, _⟩ := h.raw
  rw [h1.cell]; rfl
end
def XDo (w : World) (pr : Nat → Prop) (g : Nat) (bs : List UInt8) (bad r : Bool) (e : Ending) (w' : World) : Prop := e = .returned (.tuple #[]) ∧ XAt w' pr g bs bad r ∧ XFr pr w w'
theorem bitsV_eq (op : BinOp) (k : IntKind) (x y : Int) (h : op = .or ∨ op = .xor) : bitsV op k x y = bits op k x y := by rcases h with rfl | rfl <;> rfl
theorem srcX {w : World} {a : Option Addr} {c : Nat} {bs : List UInt8} (h : RowAt w a (bs.map bV)) : Src Try.prog 1 32 (.slice a bs.length c) bs.length (bs.map bV) w := by
  have hs := Src.ofRow (P := Try.prog) (w := w) Try.underlying32 a c (bs.map bV) h (fun u hu => by obtain ⟨x, _, rfl⟩ := List.mem_map.1 hu; rfl)
  rwa [List.length_map] at hs
/-- A byte more, as the functions put it. -/
theorem x_byte {pr : Nat → Prop} {g : Nat} {w : World} {bs : List UInt8} {bad r : Bool} (h : XAt w pr g bs bad r) (hl : bs.length ≤ 200000000) (x : UInt8) {v : Int} (hv : v = (x.toNat : Int)) {K : World → Prop} (k : ∀ w2, XAt w2 pr g (bs ++ [x]) bad r → XFr pr w w2 → K w2) :
    ∃ (a : Option Addr) (n c : Nat), w.cell? ⟨g, 0, none⟩ = some (.slice a n c) ∧ newO w (.cells #[.int .u8 v] 5) fun q w3 => appO Try.prog [] w3 5 1 1 32 a n c (.slice (some ⟨q, 0, none⟩) 1 1) fun m' a' c' w1 => withP (some ⟨g, 0, none⟩) fun g o => stO [] w1 g o [.slice a' (n + m') c'] K := by
  obtain ⟨a, c, h1, h2, h3'⟩ := h.raw
  subst hv
  refine ⟨a, bs.length, c, by rw [h1.cell]; rfl, newB (Bs.refl w) fun q w3 q0 sq n3 z3 b3 B3 => ?_⟩
  exact x_app (h1.below b3) (h2.below b3 (Nat.le_refl _)) h3' h.g0 (fun q hq => by have := h.up q hq; omega) (srcX (bs := [x]) (c := 1) (RowAt.ofWhole n3)) rfl (by simp; omega) fun w2 h3 f3 => k w2 h3 ((XFr.ofBelow b3).trans f3)
theorem u8nat (n : Nat) (h : n < 256) : (n : Int) = ((UInt8.ofNat n).toNat : Int) := by
  rw [show (UInt8.ofNat n).toNat = n % 256 from rfl, Nat.mod_eq_of_lt h]
theorem xput_any {pr : Nat → Prop} {g : Nat} {w : World} {bs : List UInt8} {bad r : Bool} (u : Nat) (hu : u < 18446744073709551616) (h : XAt w pr g bs bad r) (hl : bs.length ≤ 100000000) :
    Calls Try.prog 53 #[.pointer (some ⟨g, 0, none⟩), .int .u64 u] w (XDo w pr g (bs ++ grp u) bad r) := by
  refine (GWi.cput_calls (some ⟨g, 0, none⟩) u w (fun v w' => v = .tuple #[] ∧ XAt w' pr g (bs ++ grp u) bad r ∧ XFr pr w w') ?_).mono (by rintro e w' ⟨v, rfl, rfl, h1, h2⟩; exact ⟨rfl, h1, h2⟩)
  unfold GWi.cput_vc
  have hg := grp_len64 hu
  refine ⟨fun x wx => ∃ (u' : Nat) (bs' : List UInt8), x = u' ∧ u' < 18446744073709551616 ∧ bs' ++ grp u' = bs ++ grp u ∧ XAt wx pr g bs' bad r ∧ XFr pr w wx, fun x _ => x.toNat, ⟨u, bs, rfl, hu, rfl, h, XFr.refl _ _⟩, ?_⟩
  rintro x wx ⟨u', bs', rfl, hu', he, hX, hF⟩
  have hbl : bs'.length ≤ 200000000 := by
    have := congrArg List.length he
    rw [List.length_append, List.length_append] at this
    omega
  refine br_dec (fun h1 => ?_) fun h1 => ?_
  · have e1 : bitsV .or .u8 (IntKind.u8.wrap (u' : Int)) 128 = ((UInt8.ofNat (u' % 128 + 128)).toNat : Int) := by
      rw [bitsV_eq _ _ _ _ (.inl rfl), IntKind.wrap_u8, or128, ← u8nat _ (by omega)]
    refine withP_mk g 0 rfl (x_byte hX hbl _ e1 fun w2 h2 f2 => ⟨by omega, ?_, ?_⟩)
    · have e2 : Int.fdiv (u' : Int) (2 ^ (min (7 : Int).toNat (IntKind.bits .u64))) = ((u' / 128 : Nat) : Int) := by
        rw [show (2 : Int) ^ (min (7 : Int).toNat (IntKind.bits .u64)) = 128 from rfl, Int.fdiv_eq_ediv_of_nonneg _ (by omega)]; omega
      rw [e2]
      refine ⟨u' / 128, _, rfl, by omega, ?_, h2, hF.trans f2⟩
      rw [List.append_assoc, ← he, grp_ge (u := u') (by omega)]
      rfl
    · have e2 : Int.fdiv (u' : Int) (2 ^ (min (7 : Int).toNat (IntKind.bits .u64))) = ((u' / 128 : Nat) : Int) := by
        rw [show (2 : Int) ^ (min (7 : Int).toNat (IntKind.bits .u64)) = 128 from rfl, Int.fdiv_eq_ediv_of_nonneg _ (by omega)]; omega
      dsimp only
      rw [e2]
      omega
  · have e1 : IntKind.u8.wrap (u' : Int) = ((UInt8.ofNat u').toNat : Int) := by rw [← u8nat _ (by omega), IntKind.wrap_u8]; omega
    refine withP_mk g 0 rfl (x_byte hX hbl _ e1 fun w2 h2 f2 => ⟨rfl, ?_, hF.trans f2⟩)
    rw [← he, grp_lt (by omega)]
    exact h2
/-- What is put for any number. -/
def ub (z : Int) : List UInt8 := if z < 0 then [] else grp (IntKind.u64.wrap z).toNat
theorem u64_range (z : Int) : 0 ≤ IntKind.u64.wrap z ∧ IntKind.u64.wrap z < 18446744073709551616 := by rw [IntKind.wrap_u64]; omega
theorem ub_len (z : Int) : (ub z).length ≤ 10 := by
  unfold ub
  split
  · exact Nat.zero_le _
  · exact grp_len64 (by have := u64_range z; omega)
theorem ub_eq {z : Int} (h : z ≤ 9223372036854775807) : ub z = uintB z := by
  unfold ub uintB
  split
  · rfl
  · rw [wru64 (by omega) (by omega)]
theorem xuint_any {pr : Nat → Prop} {g : Nat} {w : World} {bs : List UInt8} {bad r : Bool} (z : Int) (h : XAt w pr g bs bad r) (hl : bs.length ≤ 100000000) :
    Calls Try.prog 22 #[.pointer (some ⟨g, 0, none⟩), .int .i64 z] w (XDo w pr g (bs ++ ub z) (bad || decide (z < 0)) r) := by
  refine (GWi.cuint_calls (some ⟨g, 0, none⟩) z w (fun v w' => v = .tuple #[] ∧ XAt w' pr g (bs ++ ub z) (bad || decide (z < 0)) r ∧ XFr pr w w') ?_).mono (by rintro e w' ⟨v, rfl, rfl, h1, h2⟩; exact ⟨rfl, h1, h2⟩)
  unfold GWi.cuint_vc
  refine br_f rfl (br_dec (fun hz0 => ?_) fun hz0 => ?_)
  · refine withP_mk g 0 rfl (x_bad h fun w2 h2 f2 => ⟨rfl, ?_, f2⟩)
    unfold ub
    rw [if_pos hz0, List.append_nil, decide_eq_true hz0, Bool.or_true]
    exact h2
  · obtain ⟨h1, h2⟩ := u64_range z
    unfold ub
    rw [if_neg hz0]
    obtain ⟨n, hn'⟩ : ∃ n : Nat, IntKind.u64.wrap z = n := ⟨(IntKind.u64.wrap z).toNat, by omega⟩
    rw [hn', Int.toNat_natCast]
    refine (xput_any n (by omega) h hl).mono ?_
    rintro e w2 ⟨rfl, h2, f2⟩
    refine ⟨keepG_nil _ _, rfl, rfl, ?_, f2⟩
    rw [decide_eq_false hz0, Bool.or_false]
    exact h2
/-- What is put for any number with a sign. -/
def ib (z : Int) : List UInt8 := grp (bitsV .xor .u64 (IntKind.u64.wrap ((IntKind.u64.wrap z) * 2 ^ (min (1 : Int).toNat (IntKind.bits .u64)))) (IntKind.u64.wrap (Int.fdiv z (2 ^ (min (63 : Int).toNat (IntKind.bits .i64)))))).toNat
theorem bitsV_range (op : BinOp) (x y : Int) : 0 ≤ bitsV op .u64 x y ∧ bitsV op .u64 x y < 18446744073709551616 := by
  unfold bitsV
  dsimp only
  split
  all_goals first | exact u64_range _ | exact ⟨by decide, by decide⟩
theorem ib_len (z : Int) : (ib z).length ≤ 10 := grp_len64 (by have := bitsV_range .xor (IntKind.u64.wrap ((IntKind.u64.wrap z) * 2 ^ (min (1 : Int).toNat (IntKind.bits .u64)))) (IntKind.u64.wrap (Int.fdiv z (2 ^ (min (63 : Int).toNat (IntKind.bits .i64))))); omega)
theorem ib_eq {z : Int} (hz0 : -9223372036854775808 ≤ z) (hz : z ≤ 9223372036854775807) : ib z = intB z := by
  have e : bitsV .xor .u64 (IntKind.u64.wrap ((IntKind.u64.wrap z) * 2 ^ (min (1 : Int).toNat (IntKind.bits .u64)))) (IntKind.u64.wrap (Int.fdiv z (2 ^ (min (63 : Int).toNat (IntKind.bits .i64))))) = ((zig z : Nat) : Int) := by
    rw [bitsV_eq _ _ _ _ (.inr rfl), show (2 : Int) ^ (min (1 : Int).toNat (IntKind.bits .u64)) = 2 from rfl, show (2 : Int) ^ (min (63 : Int).toNat (IntKind.bits .i64)) = 9223372036854775808 from rfl, Int.fdiv_eq_ediv_of_nonneg _ (by decide)]
    by_cases h0 : 0 ≤ z
    · rw [show z / 9223372036854775808 = 0 by omega, show IntKind.u64.wrap 0 = 0 from rfl, wru64 h0 (by omega), wru64 (by omega) (by omega)]
      have := xor_zero (2 * z).toNat (by omega)
      rw [show (((2 * z).toNat : Nat) : Int) = z * 2 by omega] at this
      rw [this]
      unfold zig
      rw [if_pos h0]
      omega
    · have h1 : IntKind.u64.wrap z = 18446744073709551616 + z := by rw [IntKind.wrap_u64]; omega
      have h2 : IntKind.u64.wrap ((18446744073709551616 + z) * 2) = ((18446744073709551616 + 2 * z).toNat : Int) := by rw [IntKind.wrap_u64]; omega
      rw [show z / 9223372036854775808 = -1 by omega, show IntKind.u64.wrap (-1) = 18446744073709551615 from by rw [IntKind.wrap_u64]; rfl, h1, h2, xor_ones _ (by omega)]
      unfold zig
      rw [if_neg h0]
      omega
  unfold ib intB
  rw [e, Int.toNat_natCast]
theorem xint_any {pr : Nat → Prop} {g : Nat} {w : World} {bs : List UInt8} {bad r : Bool} (z : Int) (h : XAt w pr g bs bad r) (hl : bs.length ≤ 100000000) :
    Calls Try.prog 55 #[.pointer (some ⟨g, 0, none⟩), .int .i64 z] w (XDo w pr g (bs ++ ib z) bad r) := by
  refine (GWi.cint_calls (some ⟨g, 0, none⟩) z w (fun v w' => v = .tuple #[] ∧ XAt w' pr g (bs ++ ib z) bad r ∧ XFr pr w w') ?_).mono (by rintro e w' ⟨v, rfl, rfl, h1, h2⟩; exact ⟨rfl, h1, h2⟩)
  unfold GWi.cint_vc
  refine br_t rfl ⟨by omega, by omega, ?_⟩
  unfold ib
  have hr := bitsV_range .xor (IntKind.u64.wrap ((IntKind.u64.wrap z) * 2 ^ (min (1 : Int).toNat (IntKind.bits .u64)))) (IntKind.u64.wrap (Int.fdiv z (2 ^ (min (63 : Int).toNat (IntKind.bits .i64)))))
  generalize bitsV .xor .u64 (IntKind.u64.wrap ((IntKind.u64.wrap z) * 2 ^ (min (1 : Int).toNat (IntKind.bits .u64)))) (IntKind.u64.wrap (Int.fdiv z (2 ^ (min (63 : Int).toNat (IntKind.bits .i64))))) = q at *
  obtain ⟨n, rfl⟩ : ∃ n : Nat, q = n := ⟨q.toNat, by omega⟩
  rw [Int.toNat_natCast]
  refine (xput_any n (by omega) h hl).mono ?_
  rintro e w2 ⟨rfl, h2, f2⟩
  exact ⟨keepG_nil _ _, rfl, rfl, h2, f2⟩
theorem xflag_any {pr : Nat → Prop} {g : Nat} {w : World} {bs : List UInt8} {bad r : Bool} (b : Bool) (h : XAt w pr g bs bad r) (hl : bs.length ≤ 100000000) :
    Calls Try.prog 47 #[.pointer (some ⟨g, 0, none⟩), .bool b] w (XDo w pr g (bs ++ flagB b) bad r) := by
  refine (GWi.cflag_calls (some ⟨g, 0, none⟩) b w (fun v w' => v = .tuple #[] ∧ XAt w' pr g (bs ++ flagB b) bad r ∧ XFr pr w w') ?_).mono (by rintro e w' ⟨v, rfl, rfl, h1, h2⟩; exact ⟨rfl, h1, h2⟩)
  unfold GWi.cflag_vc
  refine br_f rfl ?_
  cases b
  · exact br_f rfl (withP_mk g 0 rfl (x_byte h (by omega) 0 rfl fun w2 h2 f2 => ⟨rfl, h2, f2⟩))
  · exact br_t rfl (withP_mk g 0 rfl (x_byte h (by omega) 1 rfl fun w2 h2 f2 => ⟨rfl, h2, f2⟩))
theorem xtext_any {pr : Nat → Prop} {g : Nat} {w : World} {bs ts : List UInt8} {bad r : Bool} {a : Option Addr} {c : Nat} (h : XAt w pr g bs bad r) (ht : RowAt w a (ts.map bV)) (htp : ts ≠ [] → ∀ q, a = some q → pr q.block) (hl : bs.length ≤ 100000000) (hlt : ts.length ≤ 100000000) :
    Calls Try.prog 49 #[.pointer (some ⟨g, 0, none⟩), .slice a ts.length c] w (XDo w pr g (bs ++ textB ts) bad r) := by
  refine (GWi.ctext_calls (some ⟨g, 0, none⟩) a ts.length c w (fun v w' => v = .tuple #[] ∧ XAt w' pr g (bs ++ textB ts) bad r ∧ XFr pr w w') ?_).mono (by rintro e w' ⟨v, rfl, rfl, h1, h2⟩; exact ⟨rfl, h1, h2⟩)
  unfold GWi.ctext_vc
  refine br_t rfl ?_
  rw [wru64 (by omega) (by omega)]
  refine (xput_any ts.length (by omega) h hl).mono ?_
  rintro e w2 ⟨rfl, h2, f2⟩
  obtain ⟨a2, c2, k1, k2, k3⟩ := h2.raw
  have hrow : RowAt w2 a (ts.map bV) := by
    by_cases h0 : ts = []
    · exact .inl (by rw [h0]; rfl)
    · exact f2.row ht (htp h0)
  have hgl := grp_len64 (u := ts.length) (by omega)
  refine ⟨keepG_nil _ _, rfl, withP_mk g 0 rfl ⟨a2, _, c2, by rw [k1.cell]; rfl, x_app k1 k2 k3 h2.g0 h2.up (srcX hrow) rfl (by rw [List.length_append]; omega) fun w3 h3 f3 => ⟨rfl, ?_, f2.trans f3⟩⟩⟩
  rw [List.append_assoc] at h3
  exact h3
theorem xbytes_any {pr : Nat → Prop} {g : Nat} {w : World} {bs : List UInt8} {bad r : Bool} (h : XAt w pr g bs bad r) (hl : bs.length ≤ 100000000) :
    Calls Try.prog 57 #[.pointer (some ⟨g, 0, none⟩)] w fun e w' => ∃ a c, e = .returned (.tuple #[.slice a bs.length c, .int .i64 (wErr bad)]) ∧ Own w' w.heap.size 5 1 (.slice a bs.length c) bs.length (bs.map bV) ∧ Below w.heap.size w w' := by
  obtain ⟨a, c, k1, k2, _⟩ := h.raw
  refine (GWi.cbytes_calls (some ⟨g, 0, none⟩) w (fun v w' => ∃ a c, v = .tuple #[.slice a bs.length c, .int .i64 (wErr bad)] ∧ Own w' w.heap.size 5 1 (.slice a bs.length c) bs.length (bs.map bV) ∧ Below w.heap.size w w') ?_).mono (by rintro e w' ⟨v, rfl, a, c, rfl, h⟩; exact ⟨a, c, rfl, h⟩)
  unfold GWi.cbytes_vc
  refine br_f rfl (withP_mk g 0 rfl ⟨bad, h.c1, ?_⟩)
  cases bad
  · refine br_f rfl (withP_mk g 0 rfl ⟨a, _, c, by rw [k1.cell]; rfl, (bClone_any a c bs w k2.row hl).mono ?_⟩)
    rintro e w2 ⟨v, rfl, o, b⟩
    obtain ⟨a2, c2, rfl⟩ := o.isSlice
    exact ⟨keepG_below b, a2, _, c2, rfl, a2, c2, rfl, o, b⟩
  · refine br_t rfl (withP_mk g 0 rfl ⟨a, _, c, by rw [k1.cell]; rfl, (bClone_any a c bs w k2.row hl).mono ?_⟩)
    rintro e w2 ⟨v, rfl, o, b⟩
    obtain ⟨a2, c2, rfl⟩ := o.isSlice
    exact ⟨keepG_below b, a2, _, c2, rfl, a2, c2, rfl, o, b⟩
end Go.Proofs.Ytkggnbabnfhcpaa
end
section
/- Rows of ints. No program in sight. -/
namespace Go.Proofs.Ytkggnbabnfhcpaa
open Go.RowKit Go.ChangeShapes
def iV (z : Int) : Value := .int .i64 z
def ints (zs : List Int) : Prop := ∀ z ∈ zs, -9223372036854775808 ≤ z ∧ z ≤ 9223372036854775807
theorem RowAt.int {w : World} {a : Option Addr} {zs : List Int} (h : RowAt w a (zs.map iV)) {k : Nat} (hk : k < zs.length) : ∃ b off, a = some ⟨b, off, none⟩ ∧ w.cell? ⟨b, off + k, none⟩ = some (.int .i64 zs[k]) := by
  rcases h with h | ⟨b, off, ha, h⟩
  · rw [List.map_eq_nil_iff] at h; subst h; simp at hk
  · exact ⟨b, off, ha, h k _ (by rw [List.getElem?_map, List.getElem?_eq_getElem hk]; rfl)⟩
theorem one_iV {zs : List Int} : ∀ u ∈ zs.map iV, u.oneCell' = true := by
  intro u hu
  obtain ⟨x, _, rfl⟩ := List.mem_map.1 hu
  rfl
theorem min_takeI (zs : List Int) (n : Nat) : min (zs.length : Int) (n : Int) = ((zs.take n).length : Int) := by
  rw [List.length_take]; omega
variable {P : Program} {W : World} {H : Type} {enc : TypeId × Value → H}
theorem row_of_ints {a : Addr} {zs : List Int} {len : Nat} (hl : len ≤ zs.length) (hc : ∀ i, i < zs.length → W.cell? (a.add i) = some (.int .i64 (zs.getD i 0))) : (zs.take len).length = len ∧ RowAt W (some a) ((zs.take len).map iV) := by
  refine ⟨by simp; omega, ?_⟩
  cases hz : zs with
  | nil => exact .inl (by simp)
  | cons z0 r =>
    rw [← hz]
    have h0 := hc 0 (by rw [hz]; simp)
    have ha := addr_plain h0
    refine .inr ⟨a.block, a.off, by rw [← ha], fun i v hv => ?_⟩
    rw [List.getElem?_map, List.getElem?_take] at hv
    split at hv
    · rcases hq : zs[i]? with _ | z
      · rw [hq] at hv; cases hv
      · rw [hq] at hv
        simp only [Option.map_some, Option.some.injEq] at hv
        have hi : i < zs.length := (List.getElem?_eq_some_iff.1 hq).1
        have h1 := hc i hi
        rw [ha, Addr.add_lit, List.getD_eq_getElem?_getD, hq] at h1
        rw [← hv]
        exact h1
    · cases hv
theorem open_i64s {t e : TypeId} {v : Value} {d : DataW H} {p : List MemPlace} (ht : P.underlying t = some (.slice e)) (he : P.underlying e = some (.int .i64)) (hc : P.cellsOf e = 1)
    (hv : ∃ a l c, v = .slice a l c) (h : DataW.Trod enc P W 0 (fun _ => true) true t v d p) : ∃ (zs : List Int) (a : Option Addr) (c : Nat), v = .slice a zs.length c ∧ zs.length ≤ c ∧ c ≤ maxLen ∧ RowAt W a (zs.map iV) ∧ ints zs := by
  obtain ⟨a, l, c, rfl⟩ := hv
  obtain ⟨fuel, hf⟩ := h
  rcases open_ints ht he hc hf with ⟨hcs, _⟩ | ⟨x, l', c', zs, hcs, _, hl, hm, hz, _, hcell, hwz⟩
  · simp [Value.cells] at hcs
    obtain ⟨rfl, rfl, rfl⟩ := hcs
    exact ⟨[], none, 0, rfl, Nat.le_refl _, by decide, .inl rfl, fun _ h => by cases h⟩
  · simp [Value.cells] at hcs
    obtain ⟨rfl, rfl, rfl⟩ := hcs
    simp only [if_true] at hz
    obtain ⟨h1, h2⟩ := row_of_ints (len := l) (by omega) hcell
    exact ⟨zs.take l, some x, c, by rw [h1], by rw [h1]; exact hl, hm, h2, fun z hz => i64_range (hwz z (List.mem_of_mem_take hz))⟩
end Go.Proofs.Ytkggnbabnfhcpaa
end
section
/- Tariffs, lines and what they cost, in plain numbers. No program in sight. -/
namespace Go.Proofs.Ytkggnbabnfhcpaa
structure Tr where
  upto : Int
  price : Int
deriving DecidableEq
structure Tar where
  grp : Int
  mode : Int
  block : Int
  ts : List Tr
deriving DecidableEq
structure Pl where
  day : Int
  frm : Int
  til : Int
  base : Tar
  other : Tar
deriving DecidableEq
structure Ln where
  tier : Int
  blocks : Int
  price : Int
deriving DecidableEq
def far : Int := 1099511627776
def tiersE : Int → List Tr → Int
  | _, [] => 0
  | ahead, t :: r => if ¬ (0 ≤ t.price ∧ t.price ≤ 1048576) then 1 else if r = [] then (if t.upto ≠ 0 then 15 else 0) else if ¬ (ahead + 1 ≤ t.upto ∧ t.upto ≤ 1099511627776) then 15 else tiersE t.upto r
def chkE (t : Tar) : Int := if ¬ ((1 ≤ t.grp ∧ t.grp ≤ 8) ∧ 1 ≤ t.block ∧ t.block ≤ 1073741824) then 1 else if t.mode ≠ 1 ∧ t.mode ≠ 2 then 21 else if ¬ (1 ≤ t.ts.length ∧ t.ts.length ≤ 6) then 5 else tiersE 0 t.ts
def nothingT (t : Tar) : Prop := t.grp = 0 ∧ t.mode = 0 ∧ t.block = 0 ∧ t.ts = []
instance (t : Tar) : Decidable (nothingT t) := by unfold nothingT; infer_instance
def dayOk (p : Pl) : Prop := (2 ≤ p.day ∧ p.day ≤ 1073741824) ∧ (0 ≤ p.frm ∧ p.frm ≤ p.day - 1) ∧ (0 ≤ p.til ∧ p.til ≤ p.day - 1) ∧ p.frm ≠ p.til
instance (p : Pl) : Decidable (dayOk p) := by unfold dayOk; infer_instance
def planE (p : Pl) : Int := if chkE p.base ≠ 0 then chkE p.base else if p.day = 0 then (if p.frm = 0 ∧ p.til = 0 ∧ nothingT p.other then 0 else 2) else if ¬ dayOk p then 1 else if chkE p.other ≠ 0 then chkE p.other else if p.base.grp ≠ p.other.grp ∨ p.base.block ≠ p.other.block then 20 else 0
/-- Whether it is the other one. -/
def isOther (p : Pl) (now : Int) : Prop := p.day ≠ 0 ∧ if p.frm < p.til then p.frm ≤ Int.tmod now p.day ∧ Int.tmod now p.day < p.til else p.frm ≤ Int.tmod now p.day ∨ Int.tmod now p.day < p.til
instance (p : Pl) (now : Int) : Decidable (isOther p now) := by unfold isOther; infer_instance
def atT (p : Pl) (now : Int) : Tar := if isOther p now then p.other else p.base
/-- Tiers that are in order. -/
def Good : Int → List Tr → Prop
  | _, [] => False
  | ahead, t :: r => (0 ≤ t.price ∧ t.price ≤ 1048576) ∧ (if r = [] then t.upto = 0 else (ahead < t.upto ∧ t.upto ≤ 1099511627776) ∧ Good t.upto r)
theorem good_of : ∀ (ts : List Tr) (ahead : Int), ts ≠ [] → tiersE ahead ts = 0 → Good ahead ts
  | [], _, h, _ => absurd rfl h
  | t :: r, ahead, _, h => by
    unfold tiersE at h
    unfold Good
    split at h
    · cases h
    · rename_i h1
      have h1 := Decidable.not_not.1 h1
      by_cases hr : r = []
      · rw [if_pos hr] at h
        rw [if_pos hr]
        split at h
        · cases h
        · rename_i h2; exact ⟨h1, Decidable.not_not.1 h2⟩
      · rw [if_neg hr] at h
        rw [if_neg hr]
        split at h
        · cases h
        · rename_i h2
          have h2 := Decidable.not_not.1 h2
          exact ⟨h1, ⟨by omega, h2.2⟩, good_of r _ hr h⟩
theorem chk_ok {t : Tar} (h : chkE t = 0) : ((1 ≤ t.grp ∧ t.grp ≤ 8) ∧ 1 ≤ t.block ∧ t.block ≤ 1073741824) ∧ (t.mode = 1 ∨ t.mode = 2) ∧ (1 ≤ t.ts.length ∧ t.ts.length ≤ 6) ∧ Good 0 t.ts := by
  unfold chkE at h
  split at h
  · cases h
  · rename_i h1
    split at h
    · cases h
    · rename_i h2
      split at h
      · cases h
      · rename_i h3
        have h3 := Decidable.not_not.1 h3
        exact ⟨Decidable.not_not.1 h1, by omega, h3, good_of _ _ (fun e => by rw [e] at h3; simp at h3) h⟩
theorem plan_ok {p : Pl} (h : planE p = 0) : chkE p.base = 0 ∧ ((p.day = 0 ∧ p.frm = 0 ∧ p.til = 0 ∧ nothingT p.other) ∨ (p.day ≠ 0 ∧ dayOk p ∧ chkE p.other = 0 ∧ p.base.grp = p.other.grp ∧ p.base.block = p.other.block)) := by
  unfold planE at h
  split at h
  · rename_i h1; exact absurd h h1
  · rename_i h1
    refine ⟨Decidable.not_not.1 h1, ?_⟩
    split at h
    · rename_i h2
      split at h
      · rename_i h3; exact .inl ⟨h2, h3⟩
      · cases h
    · rename_i h2
      split at h
      · cases h
      · rename_i h3
        split at h
        · rename_i h4; exact absurd h h4
        · rename_i h4
          split at h
          · cases h
          · rename_i h5
            exact .inr ⟨h2, Decidable.not_not.1 h3, Decidable.not_not.1 h4, by omega, by omega⟩
theorem at_ok {p : Pl} (h : planE p = 0) (now : Int) : chkE (atT p now) = 0 ∧ (atT p now).block = p.base.block ∧ (atT p now).grp = p.base.grp := by
  obtain ⟨h1, h2⟩ := plan_ok h
  unfold atT
  split
  · rename_i h3
    rcases h2 with ⟨h2, _⟩ | ⟨_, _, h4, h5, h6⟩
    · exact absurd h2 h3.1
    · exact ⟨h4, h6.symm, h5.symm⟩
  · exact ⟨h1, rfl, rfl⟩
/-- In which tier a block is. -/
def idx (b : Int) : List Tr → Nat
  | [] => 0
  | t :: r => if t.upto = 0 ∨ b ≤ t.upto then 0 else idx b r + 1
theorem idx_lt (b : Int) : ∀ (ts : List Tr) (ahead : Int), Good ahead ts → idx b ts < ts.length
  | [], _, h => h.elim
  | t :: r, ahead, h => by
    unfold idx
    unfold Good at h
    split
    · simp
    · rename_i h1
      by_cases hr : r = []
      · rw [if_pos hr] at h; exact absurd (.inl h.2) h1
      · rw [if_neg hr] at h
        have := idx_lt b r _ h.2.2
        simp; omega
/-- Of each tier the blocks from lo on up to hi. -/
def splitG (k : Int) (prev : Int) : List Tr → Int → Int → List Ln
  | [], _, _ => []
  | t :: r, lo, hi => (if max lo prev < (if 0 < t.upto then min hi t.upto else hi) then [⟨k, (if 0 < t.upto then min hi t.upto else hi) - max lo prev, t.price⟩] else []) ++ splitG (k + 1) t.upto r lo hi
theorem splitG_none : ∀ (ts : List Tr) (k prev lo hi : Int), Good prev ts → hi ≤ max lo prev → splitG k prev ts lo hi = []
  | [], _, _, _, _, h, _ => h.elim
  | t :: r, k, prev, lo, hi, h, hle => by
    unfold splitG
    unfold Good at h
    rw [if_neg (by split <;> omega), List.nil_append]
    by_cases hr : r = []
    · subst hr; rfl
    · rw [if_neg hr] at h
      exact splitG_none r _ _ _ _ h.2.2 (by omega)
theorem splitG_from : ∀ (ts : List Tr) (k prev lo lo2 hi : Int), Good prev ts → max lo prev = max lo2 prev → splitG k prev ts lo hi = splitG k prev ts lo2 hi
  | [], _, _, _, _, _, h, _ => h.elim
  | t :: r, k, prev, lo, lo2, hi, h, hle => by
    unfold splitG
    unfold Good at h
    rw [hle]
    by_cases hr : r = []
    · subst hr; rfl
    · rw [if_neg hr] at h
      rw [splitG_from r _ _ lo lo2 _ h.2.2 (by omega)]
/-- What is taken of the first tier that there is. -/
def takeN (t : Tr) (lo hi : Int) : Int := if 0 < t.upto then min (hi - lo) (t.upto - lo) else hi - lo
theorem splitG_step : ∀ (ts : List Tr) (k prev lo hi : Int), Good prev ts → 0 ≤ prev → prev ≤ lo → lo < hi → ∀ t, ts[idx (lo + 1) ts]? = some t →
    splitG k prev ts lo hi = ⟨k + idx (lo + 1) ts, takeN t lo hi, t.price⟩ :: splitG k prev ts (lo + takeN t lo hi) hi ∧ 0 < takeN t lo hi ∧ takeN t lo hi ≤ hi - lo
  | [], _, _, _, _, h, _, _, _ => h.elim
  | x :: r, k, prev, lo, hi, h, h0, hlo, hlt => by
    intro t ht
    unfold Good at h
    by_cases hx : x.upto = 0 ∨ lo + 1 ≤ x.upto
    · have hi0 : idx (lo + 1) (x :: r) = 0 := by unfold idx; rw [if_pos hx]
      rw [hi0] at ht ⊢
      simp at ht
      subst ht
      have hb : 0 < takeN x lo hi ∧ takeN x lo hi ≤ hi - lo := by
        unfold takeN
        by_cases hr : r = []
        · rw [if_pos hr] at h; split <;> omega
        · rw [if_neg hr] at h; split <;> omega
      refine ⟨?_, hb⟩
      have e1 : (if 0 < x.upto then min hi x.upto else hi) = lo + takeN x lo hi := by unfold takeN; split <;> omega
      conv => lhs; unfold splitG
      conv => rhs; rhs; unfold splitG
      rw [e1, show max lo prev = lo by omega, show max (lo + takeN x lo hi) prev = lo + takeN x lo hi by omega, if_pos (by omega), if_neg (by omega)]
      simp only [List.nil_append, List.singleton_append]
      rw [show lo + takeN x lo hi - lo = takeN x lo hi by omega, show k + ((0 : Nat) : Int) = k by omega]
      congr 1
      by_cases hr : r = []
      · subst hr; rfl
      · rw [if_neg hr] at h
        by_cases hc : hi ≤ x.upto
        · rw [splitG_none _ _ _ _ _ h.2.2 (by omega), splitG_none _ _ _ _ _ h.2.2 (by omega)]
        · exact splitG_from _ _ _ _ _ _ h.2.2 (by rw [show takeN x lo hi = x.upto - lo by unfold takeN; rw [if_pos (by omega)]; omega]; omega)
    · have hr : r ≠ [] := by rintro rfl; simp at h; exact hx (.inl h.2)
      rw [if_neg hr] at h
      have hi1 : idx (lo + 1) (x :: r) = idx (lo + 1) r + 1 := by conv => lhs; unfold idx; rw [if_neg hx]
      rw [hi1] at ht ⊢
      have ht' : r[idx (lo + 1) r]? = some t := by simpa using ht
      obtain ⟨g1, g2, g3⟩ := splitG_step r (k + 1) x.upto lo hi h.2.2 (by omega) (by omega) hlt t ht'
      refine ⟨?_, g2, g3⟩
      conv => lhs; unfold splitG
      conv => rhs; rhs; unfold splitG
      rw [if_neg (by rw [if_pos (by omega)]; omega), if_neg (by rw [if_pos (by omega)]; omega), List.nil_append, List.nil_append, g1]
      congr 2
      push_cast
      omega
def blocksOf : List Ln → Int
  | [] => 0
  | l :: r => l.blocks + blocksOf r
def costOf : List Ln → Int
  | [] => 0
  | l :: r => l.blocks * l.price + costOf r
theorem blocksOf_app : ∀ (a b : List Ln), blocksOf (a ++ b) = blocksOf a + blocksOf b
  | [], b => by simp [blocksOf]
  | l :: r, b => by simp [blocksOf, blocksOf_app r b]; omega
theorem costOf_app : ∀ (a b : List Ln), costOf (a ++ b) = costOf a + costOf b
  | [], b => by simp [costOf]
  | l :: r, b => by simp [costOf, costOf_app r b]; omega
def dearT : List Tr → Int
  | [] => 0
  | t :: r => max t.price (dearT r)
theorem dearT_nn : ∀ ts, 0 ≤ dearT ts
  | [] => by simp [dearT]
  | t :: r => by have := dearT_nn r; simp only [dearT]; omega
theorem dearT_mem : ∀ (ts : List Tr) (t : Tr), t ∈ ts → t.price ≤ dearT ts
  | x :: r, t, h => by
    simp only [dearT]
    rcases List.mem_cons.1 h with rfl | h
    · omega
    · have := dearT_mem r t h; omega
theorem good_price : ∀ (ts : List Tr) (ahead : Int), Good ahead ts → ∀ t ∈ ts, (0 ≤ t.price ∧ t.price ≤ 1048576) ∧ 0 ≤ t.upto ∨ ahead < 0
  | [], _, h, _, _ => h.elim
  | x :: r, ahead, h, t, ht => by
    by_cases hn : ahead < 0
    · exact .inr hn
    · unfold Good at h
      rcases List.mem_cons.1 ht with rfl | ht
      · by_cases hr : r = []
        · rw [if_pos hr] at h; exact .inl ⟨h.1, by omega⟩
        · rw [if_neg hr] at h; exact .inl ⟨h.1, by omega⟩
      · have hr : r ≠ [] := by rintro rfl; cases ht
        rw [if_neg hr] at h
        rcases good_price r _ h.2.2 t ht with h1 | h1
        · exact .inl h1
        · omega
theorem dearT_le (ts : List Tr) (m : Int) (hm : 0 ≤ m) (h : ∀ t ∈ ts, t.price ≤ m) : dearT ts ≤ m := by
  induction ts with
  | nil => simpa [dearT] using hm
  | cons t r ih =>
    have h1 := h t (by simp)
    have h2 := ih fun t ht => h t (by simp [ht])
    simp only [dearT]; omega
/-- The blocks of a tier. -/
theorem splitG_blocks : ∀ (ts : List Tr) (k prev lo hi : Int), Good prev ts → 0 ≤ prev → blocksOf (splitG k prev ts lo hi) = max 0 (hi - max lo prev)
  | [], _, _, _, _, h, _ => h.elim
  | t :: r, k, prev, lo, hi, h, h0 => by
    unfold Good at h
    unfold splitG
    rw [blocksOf_app]
    by_cases hr : r = []
    · subst hr
      simp at h
      rw [if_neg (show ¬ 0 < t.upto by omega)]
      split
      · simp [blocksOf, splitG]; omega
      · simp [blocksOf, splitG]; omega
    · rw [if_neg hr] at h
      rw [splitG_blocks r _ _ _ _ h.2.2 (by omega), if_pos (show 0 < t.upto by omega)]
      split
      · simp [blocksOf]; omega
      · simp [blocksOf]; omega
theorem splitG_mem : ∀ (ts : List Tr) (k prev lo hi : Int) (l : Ln), Good prev ts → 0 ≤ prev → l ∈ splitG k prev ts lo hi → (0 < l.blocks ∧ l.blocks ≤ hi - max lo prev) ∧ (∃ t ∈ ts, l.price = t.price)
  | [], _, _, _, _, _, h, _, _ => h.elim
  | t :: r, k, prev, lo, hi, l, hg, h0, h => by
    unfold Good at hg
    unfold splitG at h
    rcases List.mem_append.1 h with h | h
    · by_cases hm : max lo prev < (if 0 < t.upto then min hi t.upto else hi)
      · rw [if_pos hm, List.mem_singleton] at h
        subst h
        refine ⟨⟨by dsimp only; omega, ?_⟩, t, by simp, rfl⟩
        dsimp only
        split <;> omega
      · rw [if_neg hm] at h; cases h
    · by_cases hr : r = []
      · subst hr; cases h
      · rw [if_neg hr] at hg
        obtain ⟨⟨h1, h3⟩, x, hx, h2⟩ := splitG_mem r _ _ _ _ l hg.2.2 (by omega) h
        exact ⟨⟨h1, by omega⟩, x, by simp [hx], h2⟩
theorem mul_le_mul_i {a b c d : Int} (h1 : a ≤ b) (h2 : c ≤ d) (h3 : 0 ≤ c) (h4 : 0 ≤ b) : a * c ≤ b * d :=
  Int.le_trans (Int.mul_le_mul_of_nonneg_right h1 h3) (Int.mul_le_mul_of_nonneg_left h2 h4)
theorem costOf_le (m : Int) (hm : 0 ≤ m) : ∀ (ls : List Ln), (∀ l ∈ ls, 0 ≤ l.blocks ∧ 0 ≤ l.price ∧ l.price ≤ m) → 0 ≤ costOf ls ∧ costOf ls ≤ blocksOf ls * m ∧ 0 ≤ blocksOf ls
  | [], _ => by simp [costOf, blocksOf]
  | l :: r, h => by
    obtain ⟨h1, h2, h3⟩ := h l (by simp)
    obtain ⟨i1, i2, i3⟩ := costOf_le m hm r fun x hx => h x (by simp [hx])
    simp only [costOf, blocksOf]
    have e1 := Int.mul_nonneg h1 h2
    have e2 := Int.mul_le_mul_of_nonneg_left h3 h1
    rw [Int.add_mul]
    omega
/-- What was split at mid costs as much as the whole. -/
theorem splitG_apart : ∀ (ts : List Tr) (k k1 k2 prev lo mid hi : Int), Good prev ts → lo ≤ mid → mid ≤ hi → costOf (splitG k1 prev ts lo mid) + costOf (splitG k2 prev ts mid hi) = costOf (splitG k prev ts lo hi)
  | [], _, _, _, _, _, _, _, h, _, _ => h.elim
  | t :: r, k, k1, k2, prev, lo, mid, hi, h, h1, h2 => by
    unfold Good at h
    unfold splitG
    simp only [costOf_app]
    have ih : costOf (splitG (k1 + 1) t.upto r lo mid) + costOf (splitG (k2 + 1) t.upto r mid hi) = costOf (splitG (k + 1) t.upto r lo hi) := by
      by_cases hr : r = []
      · subst hr; rfl
      · rw [if_neg hr] at h; exact splitG_apart r _ _ _ _ _ _ _ h.2.2 h1 h2
    have key : ∀ a b : Int, costOf (if a < b then [⟨k, b - a, t.price⟩] else []) = max 0 (b - a) * t.price := fun a b => by
      split
      · simp only [costOf]; rw [show max 0 (b - a) = b - a by omega]; omega
      · simp only [costOf]; rw [show max 0 (b - a) = 0 by omega]; omega
    have key1 : ∀ a b : Int, costOf (if a < b then [⟨k1, b - a, t.price⟩] else []) = max 0 (b - a) * t.price := fun a b => by
      split
      · simp only [costOf]; rw [show max 0 (b - a) = b - a by omega]; omega
      · simp only [costOf]; rw [show max 0 (b - a) = 0 by omega]; omega
    have key2 : ∀ a b : Int, costOf (if a < b then [⟨k2, b - a, t.price⟩] else []) = max 0 (b - a) * t.price := fun a b => by
      split
      · simp only [costOf]; rw [show max 0 (b - a) = b - a by omega]; omega
      · simp only [costOf]; rw [show max 0 (b - a) = 0 by omega]; omega
    rw [key, key1, key2]
    have e : max 0 ((if 0 < t.upto then min mid t.upto else mid) - max lo prev) + max 0 ((if 0 < t.upto then min hi t.upto else hi) - max mid prev) = max 0 ((if 0 < t.upto then min hi t.upto else hi) - max lo prev) := by
      split <;> omega
    rw [← e, Int.add_mul]
    omega
/-- Blocks that begun ones count as. -/
def blk (n b : Int) : Int := (n + b - 1) / b
theorem blk_le (n b c : Int) (hb : 0 < b) (hn : 0 ≤ n) : blk n b ≤ c ↔ n ≤ c * b := by
  unfold blk
  rw [← Int.lt_add_one_iff, Int.ediv_lt_iff_lt_mul hb, Int.add_mul]
  omega
theorem blk_nn (n b : Int) (hb : 0 < b) (hn : 0 ≤ n) : 0 ≤ blk n b := Int.ediv_nonneg (by omega) (by omega)
theorem blk_self (n b : Int) (hb : 0 < b) (hn : 0 ≤ n) : blk n b ≤ n := (blk_le n b n hb hn).2 (by
  have := Int.mul_le_mul_of_nonneg_left (show 1 ≤ b by omega) hn
  omega)
theorem blk_mono {n m b : Int} (hb : 0 < b) (h : n ≤ m) : blk n b ≤ blk m b := Int.ediv_le_ediv hb (by omega)
theorem blk_whole (k b : Int) (hb : 0 < b) : blk (k * b) b = k := by
  unfold blk
  rw [show k * b + b - 1 = (b - 1) + k * b by omega, Int.add_mul_ediv_right _ _ (by omega), Int.ediv_eq_zero_of_lt (by omega) (by omega)]
  omega
def dear (p : Pl) : Int := max (dearT p.base.ts) (dearT p.other.ts)
/-- How many fit. -/
def fitN (b price credit want : Int) : Int := if 0 < price then min want (credit / price * b) else want
theorem fitN_le (b price credit want n : Int) (hb : 0 < b) (hp : 0 ≤ price) (hc : 0 ≤ credit) (hn : 0 ≤ n) (hw : n ≤ want) : blk n b * price ≤ credit ↔ n ≤ fitN b price credit want := by
  unfold fitN
  split
  · rename_i h
    rw [← Int.le_ediv_iff_mul_le h, blk_le n b _ hb hn]
    omega
  · rename_i h
    rw [show price = 0 by omega]
    omega
theorem fitN_nn (b price credit want : Int) (hb : 0 < b) (hc : 0 ≤ credit) (hw : 0 ≤ want) : 0 ≤ fitN b price credit want ∧ fitN b price credit want ≤ want := by
  unfold fitN
  split
  · rename_i h
    have := Int.mul_nonneg (Int.ediv_nonneg hc (Int.le_of_lt h)) (Int.le_of_lt hb)
    omega
  · omega
theorem good_far : ∀ (ts : List Tr) (ahead : Int), Good ahead ts → ∀ t ∈ ts, t.upto ≤ 1099511627776 ∨ t.upto = 0
  | [], _, h, _, _ => h.elim
  | x :: r, ahead, h, t, ht => by
    unfold Good at h
    rcases List.mem_cons.1 ht with rfl | ht
    · by_cases hr : r = []
      · rw [if_pos hr] at h; exact .inr h.2
      · rw [if_neg hr] at h; exact .inl h.2.1.2
    · have hr : r ≠ [] := by rintro rfl; cases ht
      rw [if_neg hr] at h
      exact good_far r _ h.2.2 t ht
def priceAt (ts : List Tr) (i : Nat) : Int := match ts[i]? with | some t => t.price | none => 0
/-- The lines of so many blocks behind a position. -/
def splitL (t : Tar) (pos n : Int) : List Ln := if t.mode = 2 ∧ 0 < n then [⟨idx (pos + n) t.ts, n, priceAt t.ts (idx (pos + n) t.ts)⟩] else splitG 0 0 t.ts pos (pos + n)
def posOk (pos : Int) : Prop := 0 ≤ pos ∧ pos ≤ 1099511627776
instance (pos : Int) : Decidable (posOk pos) := by unfold posOk; infer_instance
def splitO (t : Tar) (pos n : Int) : List Ln := if posOk pos then splitL t pos n else []
theorem splitG_len : ∀ (ts : List Tr) (k prev lo hi : Int), (splitG k prev ts lo hi).length ≤ ts.length
  | [], _, _, _, _ => by simp [splitG]
  | t :: r, k, prev, lo, hi => by
    have := splitG_len r (k + 1) t.upto lo hi
    unfold splitG
    have one : ∀ (b : Prop) [Decidable b] (l : Ln), (if b then [l] else []).length ≤ 1 := fun b _ l => by split <;> simp
    rw [List.length_append, List.length_cons]
    exact Nat.le_trans (Nat.add_le_add (one _ _) this) (by omega)
theorem good0_price {ts : List Tr} (h : Good 0 ts) : ∀ t ∈ ts, (0 ≤ t.price ∧ t.price ≤ 1048576) ∧ 0 ≤ t.upto := fun t ht => (good_price ts 0 h t ht).elim id fun k => by omega
theorem splitL_ok {t : Tar} (h : chkE t = 0) {pos n : Int} (hp : 0 ≤ pos) (hn : 0 ≤ n) :
    (∀ l ∈ splitL t pos n, (0 < l.blocks ∧ l.blocks ≤ n) ∧ (0 ≤ l.price ∧ l.price ≤ 1048576) ∧ l.price ≤ dearT t.ts) ∧ blocksOf (splitL t pos n) = n ∧ (splitL t pos n).length ≤ 6 := by
  obtain ⟨_, _, hl, hg⟩ := chk_ok h
  unfold splitL
  split
  · rename_i hm
    have hi := idx_lt (pos + n) t.ts 0 hg
    have hx := List.getElem?_eq_getElem hi
    refine ⟨fun l hl => ?_, by simp [blocksOf], by simp⟩
    rw [List.mem_singleton] at hl
    subst hl
    have hmem := List.getElem_mem hi
    have he : priceAt t.ts (idx (pos + n) t.ts) = (t.ts[idx (pos + n) t.ts]'hi).price := by unfold priceAt; rw [hx]
    refine ⟨⟨hm.2, Int.le_refl _⟩, ?_, ?_⟩
    · show 0 ≤ priceAt _ _ ∧ priceAt _ _ ≤ _
      rw [he]; exact (good0_price hg _ hmem).1
    · show priceAt _ _ ≤ _
      rw [he]; exact dearT_mem _ _ hmem
  · refine ⟨fun l hl => ?_, ?_, Nat.le_trans (splitG_len _ _ _ _ _) hl.2⟩
    · obtain ⟨⟨h1, h2⟩, x, hx, h3⟩ := splitG_mem t.ts 0 0 pos (pos + n) l hg (by omega) hl
      have := good0_price hg x hx
      refine ⟨⟨h1, by omega⟩, by omega, ?_⟩
      rw [h3]; exact dearT_mem _ _ hx
    · rw [splitG_blocks _ _ _ _ _ hg (by omega)]; omega
theorem splitL_cost {t : Tar} (h : chkE t = 0) {pos n : Int} (hp : 0 ≤ pos) (hn : 0 ≤ n) : 0 ≤ costOf (splitL t pos n) ∧ costOf (splitL t pos n) ≤ n * dearT t.ts := by
  obtain ⟨h1, h2, h3⟩ := splitL_ok h hp hn
  have := costOf_le (dearT t.ts) (dearT_nn _) (splitL t pos n) fun l hl => ⟨by have := (h1 l hl).1; omega, (h1 l hl).2.1.1, (h1 l hl).2.2⟩
  rw [h2] at this
  exact ⟨this.1, this.2.1⟩
theorem dear_small {t : Tar} (h : chkE t = 0) : 0 ≤ dearT t.ts ∧ dearT t.ts ≤ 1048576 := ⟨dearT_nn _, dearT_le _ _ (by omega) fun x hx => (good0_price (chk_ok h).2.2.2 x hx).1.2⟩
structure Rtd where
  ls : List Ln
  blocks : Int
  cost : Int
  pos : Int
def rateE (p : Pl) (now pos n : Int) : Int := if planE p ≠ 0 ∨ now < 0 ∨ ¬ (0 ≤ n ∧ n ≤ 1073741824) ∨ ¬ posOk pos then 1 else 0
def rateR (p : Pl) (now pos n : Int) : Rtd := if rateE p now pos n = 0 then ⟨splitL (atT p now) pos (blk n p.base.block), blk n p.base.block, costOf (splitL (atT p now) pos (blk n p.base.block)), pos + blk n p.base.block⟩ else ⟨[], 0, 0, 0⟩
theorem rateE_ok {p : Pl} {now pos n : Int} (h : rateE p now pos n = 0) : planE p = 0 ∧ 0 ≤ now ∧ (0 ≤ n ∧ n ≤ 1073741824) ∧ posOk pos := by
  unfold rateE at h
  split at h
  · cases h
  · rename_i h1
    refine ⟨Decidable.not_not.1 fun k => h1 (.inl k), by omega, by omega, Decidable.not_not.1 fun k => h1 (.inr (.inr (.inr k)))⟩
theorem rateE_01 (p : Pl) (now pos n : Int) : rateE p now pos n = 0 ∨ rateE p now pos n = 1 := by unfold rateE; split <;> simp
def worstE (p : Pl) (n : Int) : Int := if planE p ≠ 0 ∨ ¬ (0 ≤ n ∧ n ≤ 1073741824) then 1 else 0
def worstN (p : Pl) (n : Int) : Int := if worstE p n = 0 then blk n p.base.block * dear p else 0
def fitE (p : Pl) (credit want : Int) : Int := if planE p ≠ 0 ∨ ¬ (0 ≤ want ∧ want ≤ 1073741824) ∨ credit < 0 then 1 else 0
def fitU (p : Pl) (credit want : Int) : Int := if fitE p credit want = 0 then fitN p.base.block (dear p) credit want else 0
def fitC (p : Pl) (credit want : Int) : Int := if fitE p credit want = 0 then blk (fitU p credit want) p.base.block * dear p else 0
theorem dear_plan {p : Pl} (h : planE p = 0) : 0 ≤ dear p ∧ dear p ≤ 1048576 := by
  obtain ⟨h1, h2⟩ := plan_ok h
  have a := dear_small h1
  unfold dear
  rcases h2 with ⟨_, _, _, h3⟩ | ⟨_, _, h3, _⟩
  · rw [h3.2.2.2]; simp only [dearT]; omega
  · have b := dear_small h3; omega
theorem worst_small {p : Pl} (h : planE p = 0) {n : Int} (hn : 0 ≤ n ∧ n ≤ 1073741824) : 0 ≤ blk n p.base.block * dear p ∧ blk n p.base.block * dear p ≤ 1125899906842624 := by
  have hb := (chk_ok (plan_ok h).1).1.2
  have h1 := dear_plan h
  have h2 := blk_nn n p.base.block (by omega) hn.1
  have h3 := blk_self n p.base.block (by omega) hn.1
  exact ⟨Int.mul_nonneg h2 h1.1, mul_le_mul_i (show blk n p.base.block ≤ 1073741824 by omega) h1.2 h1.1 (by omega)⟩
end Go.Proofs.Ytkggnbabnfhcpaa
end
section
/- Numbers read from bytes: the plain law. No program in sight. -/
namespace Go.Proofs.Ytkggnbabnfhcpaa
open Go.RowKit
/-- The next number: it, how many bytes it has, and what is wrong (3: it ends too soon; 2: not in form). -/
def tk (most : Nat) : Nat → Nat → List UInt8 → Nat × Nat × Int
  | _, _, [] => (0, 0, 3)
  | i, u, x :: r => if i = most ∨ (x.toNat = 0 ∧ 0 < i) ∨ (i = 9 ∧ 1 < x.toNat) then (0, 0, 2) else
    if 128 ≤ x.toNat then tk most (i + 1) (u + x.toNat % 128 * 128 ^ i) r else (u + x.toNat % 128 * 128 ^ i, i + 1, 0)
theorem tk_nil (most i u : Nat) : tk most i u [] = (0, 0, 3) := rfl
theorem tk_bad {most i u : Nat} {x : UInt8} {r : List UInt8} (h : i = most ∨ (x.toNat = 0 ∧ 0 < i) ∨ (i = 9 ∧ 1 < x.toNat)) : tk most i u (x :: r) = (0, 0, 2) := by unfold tk; rw [if_pos h]
theorem tk_more {most i u : Nat} {x : UInt8} {r : List UInt8} (h : ¬ (i = most ∨ (x.toNat = 0 ∧ 0 < i) ∨ (i = 9 ∧ 1 < x.toNat))) (h2 : 128 ≤ x.toNat) : tk most i u (x :: r) = tk most (i + 1) (u + x.toNat % 128 * 128 ^ i) r := by
  rw [tk, if_neg h, if_pos h2]
theorem tk_last {most i u : Nat} {x : UInt8} {r : List UInt8} (h : ¬ (i = most ∨ (x.toNat = 0 ∧ 0 < i) ∨ (i = 9 ∧ 1 < x.toNat))) (h2 : ¬ 128 ≤ x.toNat) : tk most i u (x :: r) = (u + x.toNat % 128 * 128 ^ i, i + 1, 0) := by
  rw [tk, if_neg h, if_neg h2]
theorem u8_eq {x : UInt8} {n : Nat} (h : x.toNat = n) (hn : n < 256) : UInt8.ofNat n = x := by
  subst h; simp
/-- What is read has just its bytes. -/
theorem tk_enc (most : Nat) : ∀ (bs : List UInt8) (i a u n : Nat), tk most i a bs = (u, n, 0) → ∃ v, u = a + v * 128 ^ i ∧ (0 < i → v ≠ 0) ∧ i < n ∧ n ≤ i + bs.length ∧ bs.take (n - i) = grp v := by
  intro bs
  induction bs with
  | nil => intro i a u n h; rw [tk_nil] at h; injection h with _ h; injection h with _ h; cases h
  | cons x r ih =>
    intro i a u n h
    by_cases hb : i = most ∨ (x.toNat = 0 ∧ 0 < i) ∨ (i = 9 ∧ 1 < x.toNat)
    · rw [tk_bad hb] at h; injection h with _ h; injection h with _ h; cases h
    · by_cases h2 : 128 ≤ x.toNat
      · rw [tk_more hb h2] at h
        obtain ⟨v, h3, h4, h5, h6, h7⟩ := ih _ _ _ _ h
        have hx := x.toNat_lt
        have hv := h4 (by omega)
        refine ⟨x.toNat % 128 + 128 * v, ?_, fun _ => by omega, by omega, by simp; omega, ?_⟩
        · rw [h3, Nat.pow_succ, Nat.add_mul, Nat.add_assoc, Nat.mul_comm (128 ^ i) 128, ← Nat.mul_assoc, Nat.mul_comm v 128]
        · rw [grp_ge (by omega), show n - i = (n - (i + 1)) + 1 by omega, List.take_succ_cons, h7]
          congr 1
          · exact (u8_eq (n := (x.toNat % 128 + 128 * v) % 128 + 128) (by omega) (by omega)).symm
          · congr 1; omega
      · rw [tk_last hb h2] at h
        injection h with h3 h
        injection h with h4 _
        have hx := x.toNat_lt
        refine ⟨x.toNat, by rw [← h3, Nat.mod_eq_of_lt (by omega)], fun h => by omega, by omega, by simp; omega, ?_⟩
        rw [grp_lt (by omega), show n - i = 1 by omega]
        simp
theorem tk_enc0 {most u n : Nat} {bs : List UInt8} (h : tk most 0 0 bs = (u, n, 0)) : 0 < n ∧ n ≤ bs.length ∧ bs.take n = grp u := by
  obtain ⟨v, h1, _, h3, h4, h5⟩ := tk_enc most bs 0 0 u n h
  simp at h1 h4 h5
  subst h1
  exact ⟨h3, h4, h5⟩
/-- What is written is read again. -/
theorem tk_dec (most : Nat) (rest : List UInt8) : ∀ (m v i a : Nat), v ≤ m → v * 128 ^ i < 18446744073709551616 → i ≤ 9 → i + (grp v).length ≤ most → (0 < i → v ≠ 0) →
    tk most i a (grp v ++ rest) = (a + v * 128 ^ i, i + (grp v).length, 0) := by
  intro m
  induction m with
  | zero =>
    intro v i a hv hb hi hm h0
    obtain rfl : v = 0 := by omega
    have hi0 : i = 0 := by
      rcases Nat.eq_zero_or_pos i with h | h
      · exact h
      · exact absurd rfl (h0 h)
    subst hi0
    rw [grp_lt (by omega)] at hm ⊢
    simp at hm
    show tk most 0 a (UInt8.ofNat 0 :: rest) = _
    rw [tk_last (by simp; omega) (by simp)]
    simp
  | succ m ih =>
    intro v i a hv hb hi hm h0
    have h9 : i = 9 → v ≤ 1 := by
      intro h; subst h; omega
    by_cases hlt : v < 128
    · rw [grp_lt hlt] at hm ⊢
      simp at hm
      show tk most i a (UInt8.ofNat v :: rest) = _
      have hx : (UInt8.ofNat v).toNat = v := by show v % 256 = v; omega
      rw [tk_last (by rw [hx]; omega) (by rw [hx]; omega), hx, Nat.mod_eq_of_lt hlt]
      rfl
    · rw [grp_ge (by omega)] at hm ⊢
      rw [List.length_cons] at hm ⊢
      show tk most i a (UInt8.ofNat (v % 128 + 128) :: (grp (v / 128) ++ rest)) = _
      have hx : (UInt8.ofNat (v % 128 + 128)).toNat = v % 128 + 128 := by show (v % 128 + 128) % 256 = _; omega
      have hp := grp_pos (v / 128)
      have hdiv : v / 128 * 128 ^ (i + 1) ≤ v * 128 ^ i := by
        rw [Nat.pow_succ, Nat.mul_comm (128 ^ i) 128, ← Nat.mul_assoc]
        exact Nat.mul_le_mul_right _ (by omega)
      rw [tk_more (by rw [hx]; omega) (by rw [hx]; omega), hx, ih (v / 128) (i + 1) _ (by omega) (by omega) (by omega) (by omega) (by omega)]
      have e : v = 128 * (v / 128) + v % 128 := by omega
      refine Prod.ext ?_ (Prod.ext (by simp; omega) rfl)
      show a + (v % 128 + 128) % 128 * 128 ^ i + v / 128 * 128 ^ (i + 1) = a + v * 128 ^ i
      rw [show (v % 128 + 128) % 128 = v % 128 by omega]
      conv => rhs; rw [e]
      rw [Nat.pow_succ, Nat.add_mul, Nat.mul_comm (128 ^ i) 128, ← Nat.mul_assoc, Nat.mul_comm (v / 128) 128]
      omega
theorem tk_dec0 {most v : Nat} (rest : List UInt8) (hv : v < 18446744073709551616) (hm : (grp v).length ≤ most) : tk most 0 0 (grp v ++ rest) = (v, (grp v).length, 0) := by
  have := tk_dec most rest v v 0 0 (Nat.le_refl _) (by simpa using hv) (by omega) (by omega) (by omega)
  simpa using this
/-- A number without a sign as an int: zigzag, back. -/
def zag (u : Nat) : Int := if u % 2 = 1 then -((u / 2 : Nat) : Int) - 1 else ((u / 2 : Nat) : Int)
theorem zig_zag (u : Nat) : zig (zag u) = u := by unfold zig zag; split <;> (split <;> omega)
theorem zag_zig (z : Int) : zag (zig z) = z := by unfold zag zig; split <;> (split <;> omega)
theorem zag_range {u : Nat} (h : u < 18446744073709551616) : -9223372036854775808 ≤ zag u ∧ zag u ≤ 9223372036854775807 := by unfold zag; split <;> omega
end Go.Proofs.Ytkggnbabnfhcpaa
end
section
/- The reader of the codec, walked. -/
namespace Go.Proofs.Ytkggnbabnfhcpaa
open Go.RowKit
/-- A reader. -/
structure RdAt (w : World) (L : List Nat) (g : Nat) (bs : List UInt8) (e : Int) : Prop where
  ex : ∃ a c, Bk w g #[.slice a bs.length c, .int .i64 e] 126 ∧ In w L a bs ∧ bs.length ≤ c
  mem : g ∈ L
  under : Under L w.heap.size
theorem RdAt.keep {w w' : World} {L : List Nat} {g : Nat} {bs : List UInt8} {e : Int} (h : RdAt w L g bs e) (hk : ∀ k ∈ L, w'.heap[k]? = w.heap[k]?) (hs : w.heap.size ≤ w'.heap.size) : RdAt w' L g bs e := by
  obtain ⟨⟨a, c, h1, h2, h3⟩, h4, h5⟩ := h
  exact ⟨⟨a, c, h1.keep (hk g h4), h2.keep hk, h3⟩, h4, h5.mono hs⟩
theorem RdAt.fr {w w' : World} {L M : List Nat} {g : Nat} {bs : List UInt8} {e : Int} (h : RdAt w L g bs e) (hf : Fr M w w') (ha : Apart L M) : RdAt w' L g bs e := h.keep (hf.keep ha h.under) hf.size
theorem RdAt.below {w w' : World} {L : List Nat} {g : Nat} {bs : List UInt8} {e : Int} (h : RdAt w L g bs e) (hb : Below w.heap.size w w') : RdAt w' L g bs e := h.keep (fun k hk => hb.block k (h.under k hk)) hb.size
/-- The bytes are not in the reader's own block. -/
theorem in_other {w : World} {L : List Nat} {a : Option Addr} {bs : List UInt8} {g i : Nat} {cs : Array Value} {v : Value} (hb : Bk w g cs 126) (h : In w L a bs) : In (w.setCell ⟨g, i, none⟩ v) L a bs ∨ ∃ (j : Nat) (x : UInt8), cs[j]? = some (bV x) := by
  rcases h.1 with h1 | ⟨b, off, rfl, h1⟩
  · left; exact ⟨.inl h1, h.2⟩
  · by_cases hg : b = g
    · subst hg
      cases bs with
      | nil => left; exact ⟨.inl rfl, h.2⟩
      | cons x r =>
        right
        have := h1 0 (bV x) rfl
        rw [hb.cell] at this
        exact ⟨_, _, this⟩
    · left
      refine ⟨.inr ⟨b, off, rfl, fun j u hj => ?_⟩, h.2⟩
      rw [← h1 j u hj]
      exact World.cell?_of_block (a := ⟨b, off + j, none⟩) (Below.heap_setCell _ _ _ _ hg)
theorem in_set {w : World} {L : List Nat} {a a0 : Option Addr} {bs : List UInt8} {n0 c0 g i : Nat} {e : Int} {v : Value} (hb : Bk w g #[.slice a0 n0 c0, .int .i64 e] 126) (h : In w L a bs) : In (w.setCell ⟨g, i, none⟩ v) L a bs := by
  rcases in_other (i := i) (v := v) hb h with h | ⟨j, x, hj⟩
  · exact h
  · match j with
    | 0 => cases hj
    | 1 => cases hj
    | j + 2 => simp at hj
theorem RdAt.setErr {w : World} {L : List Nat} {g : Nat} {bs : List UInt8} {e : Int} (h : RdAt w L g bs e) (e' : Int) : RdAt (w.setCell ⟨g, 1, none⟩ (.int .i64 e')) L g bs e' := by
  obtain ⟨⟨a, c, h1, h2, h3⟩, h4, h5⟩ := h
  exact ⟨⟨a, c, h1.setCell 1 (.int .i64 e'), in_set h1 h2, h3⟩, h4, by simpa [Under] using h5⟩
theorem RdAt.setBytes {w : World} {L : List Nat} {g : Nat} {bs bs2 : List UInt8} {e : Int} (h : RdAt w L g bs e) {a2 : Option Addr} {c2 : Nat} (h2 : In w L a2 bs2) (hc : bs2.length ≤ c2) : RdAt (w.setCell ⟨g, 0, none⟩ (.slice a2 bs2.length c2)) L g bs2 e := by
  obtain ⟨⟨a, c, h1, _, h3⟩, h4, h5⟩ := h
  exact ⟨⟨a2, c2, h1.setCell 0 (.slice a2 bs2.length c2), in_set h1 h2, hc⟩, h4, by simpa [Under] using h5⟩
/-- 'b[n:]'. -/
theorem slice_from {w : World} {L : List Nat} {a : Option Addr} {bs : List UInt8} {c n : Nat} (hn : n ≤ bs.length) (hc : bs.length ≤ c) (h : In w L a bs) :
    ∃ a' c', (∀ W : World, (Instr.slice 32 (.slice a bs.length c) (some (.int .i64 (n : Int))) none none).run Try.prog W = .ok (.slice a' (bs.drop n).length c') W) ∧ In w L a' (bs.drop n) ∧ (bs.drop n).length ≤ c' := by
  have hsz : ∀ W : World, (sizeOf 5).run Try.prog W = .ok 1 W := fun W => by kernel_rfl
  refine ⟨if c = n then a else a.map (·.add (n * 1)), c - n, fun W => ?_, ?_, by simp; omega⟩
  · have h1 : (0 : Int) ≤ (n : Int) ∧ (n : Int) ≤ (bs.length : Int) := by omega
    have h2 : ¬ bs.length < n := by omega
    simp [Instr.slice, run_underlying Try.underlying32, Instr.sliceBounds, Instr.sliceBound, asIntOf, h1, h2, hsz]
  · by_cases hcn : c = n
    · rw [if_pos hcn]
      have : bs.drop n = [] := List.drop_eq_nil_of_le (by omega)
      rw [this]
      exact ⟨.inl rfl, fun _ _ h => absurd rfl h⟩
    · rw [if_neg hcn]
      rcases h.1 with h1 | ⟨b, off, rfl, h1⟩
      · have h2 : bs = [] := by simpa using h1
        subst h2
        exact ⟨.inl (by simp), fun _ _ h => absurd (by simp) h⟩
      · refine ⟨?_, fun ad had hne => ?_⟩
        · have := RowAt.drop (w := w) (b := b) (off := off) (vs := bs.map bV) (.inr ⟨b, off, rfl, h1⟩) n
          rw [List.map_drop] 
          simpa [Addr.add_lit] using this
        · simp [Addr.add_lit] at had
          subst had
          exact h.2 ⟨b, off, none⟩ rfl (fun h0 => hne (by rw [h0]; simp))
set_option maxRecDepth 100000 in
set_option maxHeartbeats 2000000 in
theorem cRead_any (a : Option Addr) (c : Nat) (bs : List UInt8) (w : World) (h : RowAt w a (bs.map bV)) (hl : bs.length ≤ 100000000) :
    Calls Try.prog 33 #[.slice a bs.length c] w fun e w' => ∃ g L, e = .returned (.pointer (some ⟨g, 0, none⟩)) ∧ RdAt w' L g bs 0 ∧ From w.heap.size L ∧ Below w.heap.size w w' := by
  have HC := Bx.mk (bClone_any a c bs w h hl)
  clear h hl
  go_enter Try.func33, Try.ntmps33
  go_wp2_with fail
  refine HC.out.mono ?_
  rintro e w1 ⟨v, rfl, ho, hb⟩
  obtain ⟨a1, c1, rfl⟩ := ho.isSlice
  have HO := Bx.mk ho; have HB := Bx.mk hb
  clear ho hb
  go_wp2
  go_ret
  refine ⟨w1.heap.size, w1.heap.size :: (Value.ownBlock (.slice a1 bs.length c1)).toList, rfl, ⟨⟨a1, c1, Bk.new rfl, ?_, HO.out.cap.1⟩, by simp, ?_⟩, ?_, HB.out.alloc HB.out.size _⟩
  · have h1 := In.ofOwn (HO.out.alloc (.cells #[.slice a1 bs.length c1, .int .i64 0] 126))
    exact ⟨h1.1, fun ad had hne => by simp only [List.mem_cons]; exact .inr (h1.2 ad had hne)⟩
  · intro k hk
    rcases List.mem_cons.1 hk with rfl | hk
    · simp
    · have := (HO.out.lt k (by simpa using hk)).2; simp; omega
  · intro k hk
    rcases List.mem_cons.1 hk with rfl | hk
    · exact HB.out.size
    · exact (HO.out.lt k (by simpa using hk)).1
theorem rdead0 {w : World} {L : List Nat} {g : Nat} {bs : List UInt8} (h : RdAt w L g bs 0) : Calls Try.prog 63 #[.pointer (some ⟨g, 0, none⟩)] w fun e w' => e = .returned (.bool false) ∧ w' = w := by
  obtain ⟨⟨a, c, h1, _, _⟩, _, _⟩ := h
  have c1 : w.cell? ⟨g, 1, none⟩ = some (.int .i64 0) := by rw [h1.cell]; rfl
  clear h1
  go_enter Try.func63, Try.ntmps63
  go_wp2
  go_ret
  exact ⟨rfl, rfl⟩
theorem rdead1 {w : World} {L : List Nat} {g : Nat} {bs : List UInt8} {e : Int} (h : RdAt w L g bs e) (he : e ≠ 0) : Calls Try.prog 63 #[.pointer (some ⟨g, 0, none⟩)] w fun r w' => r = .returned (.bool true) ∧ w' = w := by
  obtain ⟨⟨a, c, h1, _, _⟩, _, _⟩ := h
  have c1 : w.cell? ⟨g, 1, none⟩ = some (.int .i64 e) := by rw [h1.cell]; rfl
  have he2 : (e != 0) = true := by simpa using he
  clear h1 he
  go_enter Try.func63, Try.ntmps63
  go_wp2
  go_ret
  exact ⟨rfl, rfl⟩
theorem and127B : ((List.range 256).all fun x => bits BinOp.andNot IntKind.u8 (x : Int) 128 == ((x % 128 : Nat) : Int)) = true := by kernel_rfl
theorem and127 (x : UInt8) : bits BinOp.andNot IntKind.u8 (x.toNat : Int) 128 = ((x.toNat % 128 : Nat) : Int) :=
  eq_of_beq (List.all_eq_true.1 and127B x.toNat (List.mem_range.2 x.toNat_lt))
theorem or_next {u y i : Nat} (hu : u < 128 ^ i) (hs : u + y * 128 ^ i < 18446744073709551616) : bits BinOp.or IntKind.u64 (u : Int) ((y * 128 ^ i : Nat) : Int) = ((u + y * 128 ^ i : Nat) : Int) := by
  have hy : y * 128 ^ i < 18446744073709551616 := by omega
  have e : (128 : Nat) ^ i = 2 ^ (7 * i) := by rw [Nat.pow_mul]
  rw [u64_or_nat _ _ (by omega) hy, Nat.or_comm, nat_join (7 * i) _ _ (by rw [e]; exact Nat.mul_mod_left _ _) (by rw [← e]; exact hu), Nat.add_comm]
set_option maxRecDepth 100000 in
set_option maxHeartbeats 4000000 in
theorem rtake_any (g : Nat) (most : Nat) (hm0 : 0 < most) (hm : most ≤ 10) (bs : List UInt8) (L : List Nat) (w : World) (h : RdAt w L g bs 0) (hl : bs.length ≤ 100000000) (u0 n0 : Nat) (e0 : Int) (hr : tk most 0 0 bs = (u0, n0, e0)) :
    Calls Try.prog 64 #[.pointer (some ⟨g, 0, none⟩), .int .i64 most] w fun e w' => (e0 = 0 ∧ e = .returned (.tuple #[.int .u64 u0, .int .i64 n0]) ∧ w' = w) ∨ (e0 ≠ 0 ∧ e = .returned (.tuple #[.int .u64 0, .int .i64 0]) ∧ w' = w.setCell ⟨g, 1, none⟩ (.int .i64 e0)) := by
  obtain ⟨⟨a, c, h1, h2, h3⟩, h4, h5⟩ := h
  have HI := Bx.mk h2; have HR := Bx.mk hr; have HM := Bx.mk hm; have HL := Bx.mk hl
  have c0 : w.cell? ⟨g, 0, none⟩ = some (.slice a bs.length c) := by rw [h1.cell]; rfl
  have c1 : w.cell? ⟨g, 1, none⟩ = some (.int .i64 0) := by rw [h1.cell]; rfl
  have c2 : w.frozen? ⟨g, 1, none⟩ = false := h1.frozen 1
  have M0 := Bx.mk hm0
  have hmb : ((0 : Int) == (most : Int)) = false := by simp; omega
  clear h1 h2 h3 h4 h5 hr hm hl hm0
  go_enter Try.func64, Try.ntmps64
  go_wp2
  refine wp_scope_jumps 0 (fun a' w' => w' = w ∧ ∃ (i u : Nat) (x8 x9 x10 x11 x12 x13 x14 x15 x16 x17 x18 x19 x20 x21 x22 x23 x24 x25 x26 x27 x28 x29 x30 x31 x32 x33 x34 x35 x36 x37 x38 x39 x40 x41 x42 x43 x44 x45 x46 x47 x48 x49 x50 x51 x52 x53 x54 x55 x56 x57 x58 x59 x60 x61 : Value), a' = { tmps := #[.pointer (some ⟨g, 0, none⟩), .int .i64 most, undef, undef, .int .u64 0, .int .i64 0, .int .u64 u, .int .i64 i, x8, x9, x10, x11, x12, x13, x14, x15, x16, x17, x18, x19, x20, x21, x22, x23, x24, x25, x26, x27, x28, x29, x30, x31, x32, x33, x34, x35, x36, x37, x38, x39, x40, x41, x42, x43, x44, x45, x46, x47, x48, x49, x50, x51, x52, x53, x54, x55, x56, x57, x58, x59, x60, x61], defers := [] } ∧ Bx (tk most i u (bs.drop i) = (u0, n0, e0) ∧ u < 128 ^ i ∧ i ≤ 9 ∧ i ≤ bs.length)) (fun a' _ => 10 - (intOf (a'.tmps.getD 7 undef)).toNat) rfl ?first ?pass
  case first =>
    go_wp2
    go_step3
    by_cases hb0 : bs.length = 0
    · have h0 : bs = [] := List.eq_nil_of_length_eq_zero hb0
      have HE := Bx.mk (show ((0, 0, 3) : Nat × Nat × Int) = (u0, n0, e0) by rw [← HR.out, h0]; rfl)
      have hl0 : ((0 : Int) == (bs.length : Int)) = true := by rw [hb0]; rfl
      clear HR HI h0 hb0
      go_wp2
      dsimp only [Exit.jump]
      go_ret2
      have h := HE.out
      injection h with h1 h2
      injection h2 with h2 h3
      subst h1; subst h2; subst h3
      exact .inr ⟨by decide, rfl, rfl⟩
    · obtain ⟨b, off, rfl, hc⟩ := RowAt.byte HI.out.1 (k := 0) (by omega)
      rw [Nat.add_zero] at hc
      have hd : bs = bs[0] :: bs.drop 1 := by rw [← List.drop_eq_getElem_cons (by omega)]; rfl
      have HD := Bx.mk hd
      have hn0 : ((0 : Int) == (bs.length : Int)) = false := by simp; omega
      have l0 : (0 : Int) < (bs.length : Int) := by omega
      have hx : bs[0].toNat < 256 := bs[0].toNat_lt
      obtain ⟨y, hy⟩ : ∃ y, y = bs[0].toNat % 128 := ⟨_, rfl⟩
      have ha := and127 bs[0]
      rw [← hy] at ha
      have hor : bits BinOp.or IntKind.u64 0 (y : Int) = (y : Int) := by
        have := u64_or_nat 0 y (by omega) (by omega)
        simpa using this
      have hyw : IntKind.u64.wrap (y : Int) = (y : Int) := by rw [IntKind.wrap_u64]; omega
      generalize bs[0] = x at *
      clear hd
      have HX := Bx.mk hx; have HY := Bx.mk hy; have HY2 := Bx.mk (show y < 128 by omega)
      by_cases h2 : (128 : Int) ≤ (x.toNat : Int)
      · have ht : tk most 1 y (bs.drop 1) = (u0, n0, e0) := by
          have h := HR.out
          rw [HD.out, tk_more (by have := M0.out; omega) (by omega), ← hy] at h
          simpa using h
        have HT := Bx.mk ht
        have HL1 := Bx.mk (show 1 ≤ bs.length by omega)
        have hxb : ((x.toNat : Int) == 0) = false := by simp; omega
        clear ht HR hy hx
        go_wp2
        go_step3
        refine ⟨rfl, rfl, ?_⟩
        refine ⟨1, y, ?_⟩
        repeat apply Exists.intro
        exact ⟨rfl, ⟨HT.out, by have := HY2.out; simpa using this, by omega, HL1.out⟩⟩
      · have ht : (y, 1, (0 : Int)) = (u0, n0, e0) := by
          have h := HR.out
          rw [HD.out, tk_last (by have := M0.out; omega) (by omega), ← hy] at h
          simpa using h
        injection ht with h1 h3
        injection h3 with h3 h4
        subst h1; subst h3; subst h4
        by_cases hx0 : x.toNat = 0
        · have hy0 : y = 0 := by omega
          subst hy0
          rw [hx0] at hc ha
          have ha0 : bits BinOp.andNot IntKind.u8 0 128 = 0 := ha
          have hor0 : bits BinOp.or IntKind.u64 0 0 = 0 := hor
          clear HR hy hx ha hor h2 hx0
          go_wp2
          dsimp only [Exit.jump]
          go_ret2
          exact .inl ⟨rfl, rfl, rfl⟩
        · have hxb : ((x.toNat : Int) == 0) = false := by simpa using hx0
          clear HR hy hx hx0
          go_wp2
          dsimp only [Exit.jump]
          go_ret2
          exact .inl ⟨rfl, rfl, rfl⟩
  case pass =>
    rintro a' w' ⟨hw, i, u, hx⟩
    subst hw
    obtain ⟨x8, hx⟩ := hx
    obtain ⟨x9, hx⟩ := hx
    obtain ⟨x10, hx⟩ := hx
    obtain ⟨x11, hx⟩ := hx
    obtain ⟨x12, hx⟩ := hx
    obtain ⟨x13, hx⟩ := hx
    obtain ⟨x14, hx⟩ := hx
    obtain ⟨x15, hx⟩ := hx
    obtain ⟨x16, hx⟩ := hx
    obtain ⟨x17, hx⟩ := hx
    obtain ⟨x18, hx⟩ := hx
    obtain ⟨x19, hx⟩ := hx
    obtain ⟨x20, hx⟩ := hx
    obtain ⟨x21, hx⟩ := hx
    obtain ⟨x22, hx⟩ := hx
    obtain ⟨x23, hx⟩ := hx
    obtain ⟨x24, hx⟩ := hx
    obtain ⟨x25, hx⟩ := hx
    obtain ⟨x26, hx⟩ := hx
    obtain ⟨x27, hx⟩ := hx
    obtain ⟨x28, hx⟩ := hx
    obtain ⟨x29, hx⟩ := hx
    obtain ⟨x30, hx⟩ := hx
    obtain ⟨x31, hx⟩ := hx
    obtain ⟨x32, hx⟩ := hx
    obtain ⟨x33, hx⟩ := hx
    obtain ⟨x34, hx⟩ := hx
    obtain ⟨x35, hx⟩ := hx
    obtain ⟨x36, hx⟩ := hx
    obtain ⟨x37, hx⟩ := hx
    obtain ⟨x38, hx⟩ := hx
    obtain ⟨x39, hx⟩ := hx
    obtain ⟨x40, hx⟩ := hx
    obtain ⟨x41, hx⟩ := hx
    obtain ⟨x42, hx⟩ := hx
    obtain ⟨x43, hx⟩ := hx
    obtain ⟨x44, hx⟩ := hx
    obtain ⟨x45, hx⟩ := hx
    obtain ⟨x46, hx⟩ := hx
    obtain ⟨x47, hx⟩ := hx
    obtain ⟨x48, hx⟩ := hx
    obtain ⟨x49, hx⟩ := hx
    obtain ⟨x50, hx⟩ := hx
    obtain ⟨x51, hx⟩ := hx
    obtain ⟨x52, hx⟩ := hx
    obtain ⟨x53, hx⟩ := hx
    obtain ⟨x54, hx⟩ := hx
    obtain ⟨x55, hx⟩ := hx
    obtain ⟨x56, hx⟩ := hx
    obtain ⟨x57, hx⟩ := hx
    obtain ⟨x58, hx⟩ := hx
    obtain ⟨x59, hx⟩ := hx
    obtain ⟨x60, hx⟩ := hx
    obtain ⟨x61, hx⟩ := hx
    obtain ⟨ha, hJ⟩ := hx
    subst ha
    obtain ⟨hr, hu, hi9, hil⟩ := hJ.out
    clear hJ HR hmb
    have HR := Bx.mk hr; have HU := Bx.mk hu
    clear hr hu
    by_cases hb0 : i = bs.length
    · have HE := Bx.mk (show ((0, 0, 3) : Nat × Nat × Int) = (u0, n0, e0) by rw [← HR.out, hb0, List.drop_length]; rfl)
      have hl0 : ((i : Int) == (bs.length : Int)) = true := by rw [hb0]; simp
      clear HR HI hb0
      go_wp2
      dsimp only [Exit.jump]
      go_ret2
      have h := HE.out
      injection h with h1 h2
      injection h2 with h2 h3
      subst h1; subst h2; subst h3
      exact .inr ⟨by decide, rfl, rfl⟩
    · have hlt : i < bs.length := by omega
      obtain ⟨b, off, rfl, hc⟩ := RowAt.byte HI.out.1 (k := i) hlt
      have HD := Bx.mk (List.drop_eq_getElem_cons hlt)
      have hn0 : ((i : Int) == (bs.length : Int)) = false := by simp; omega
      have l0 : (i : Int) < (bs.length : Int) := by omega
      have i0 : (0 : Int) ≤ (i : Int) := by omega
      have hx : bs[i].toNat < 256 := bs[i].toNat_lt
      have ha := and127 bs[i]
      generalize bs[i] = x at *
      obtain ⟨z, hz⟩ : ∃ z, z = x.toNat := ⟨_, rfl⟩
      rw [← hz] at hc ha hx
      have HZ := Bx.mk hz
      clear hz
      obtain ⟨bad, hbad⟩ : ∃ bad, bad = decide (i = most ∨ (z = 0 ∧ 0 < i) ∨ (i = 9 ∧ 1 < z)) := ⟨_, rfl⟩
      have HBD := Bx.mk hbad
      go_upto_region 7 with fail
      go_cut [44] (fun t44 wx => t44 = .bool bad ∧ w' = wx)
      case first =>
        clear HR HD HU ha
        by_cases h1 : i = most
        · have h1b : ((i : Int) == (most : Int)) = true := by simp; omega
          rw [decide_eq_true (.inl h1)] at hbad
          clear h1 HBD
          go_wp2
          go_meet
          case rel => exact ⟨by rw [hbad], rfl⟩
        · have h1b : ((i : Int) == (most : Int)) = false := by simp; omega
          by_cases h2 : z = 0
          · subst h2
            by_cases h3 : (0 : Int) < (i : Int)
            · rw [decide_eq_true (.inr (.inl ⟨rfl, by omega⟩))] at hbad
              clear h1 HBD
              go_wp2
              go_meet
              case rel => exact ⟨by rw [hbad], rfl⟩
            · rw [decide_eq_false (by omega)] at hbad
              obtain rfl : i = 0 := by omega
              clear h1 HBD h3 h1b
              have h1c : ((0 : Int) == (most : Int)) = false := by have := M0.out; simp; omega
              go_wp2
              go_meet
              case rel => exact ⟨by rw [hbad], rfl⟩
          · have h2b : ((z : Int) == 0) = false := by simp; omega
            by_cases h4 : i = 9
            · have h4b : ((i : Int) == 9) = true := by simp; omega
              by_cases h5 : (1 : Int) < (z : Int)
              · rw [decide_eq_true (.inr (.inr ⟨h4, by omega⟩))] at hbad
                clear h1 HBD h2 h4
                go_wp2
                go_meet
                case rel => exact ⟨by rw [hbad], rfl⟩
              · rw [decide_eq_false (by omega)] at hbad
                clear h1 HBD h2 h4
                go_wp2
                go_meet
                case rel => exact ⟨by rw [hbad], rfl⟩
            · have h4b : ((i : Int) == 9) = false := by simp; omega
              rw [decide_eq_false (by omega)] at hbad
              clear h1 HBD h2 h4
              go_wp2
              go_meet
              case rel => exact ⟨by rw [hbad], rfl⟩
      case rest =>
        obtain ⟨rfl, rfl⟩ := hcut
        clear hbad
        cases bad with
        | true =>
          have hb := of_decide_eq_true HBD.out.symm
          have hE : ((0, 0, 2) : Nat × Nat × Int) = (u0, n0, e0) := by rw [← HR.out, HD.out, tk_bad (by rw [← HZ.out]; exact hb)]
          injection hE with h1 h2
          injection h2 with h2 h3
          subst h1; subst h2; subst h3
          clear HR HD HU HI hb ha
          go_wp2
          dsimp only [Exit.jump]
          go_ret2
          exact .inr ⟨by decide, rfl, rfl⟩
        | false =>
          have hb := of_decide_eq_false HBD.out.symm
          obtain ⟨y, hy⟩ : ∃ y, y = z % 128 := ⟨_, rfl⟩
          rw [← hy] at ha
          obtain ⟨p, hp⟩ : ∃ p, p = y * 128 ^ i := ⟨_, rfl⟩
          have hpow : 128 ^ i ≤ 128 ^ 9 := Nat.pow_le_pow_right (by omega) hi9
          have hpb : u + p < 18446744073709551616 := by
            by_cases h9 : i = 9
            · subst h9
              have h1 : y ≤ 1 := by omega
              have h2 : y * 128 ^ 9 ≤ 1 * 128 ^ 9 := Nat.mul_le_mul_right _ h1
              have := HU.out
              omega
            · have h3 : 128 ^ i ≤ 128 ^ 8 := Nat.pow_le_pow_right (by omega) (by omega)
              have h2 : y * 128 ^ i ≤ 127 * 128 ^ i := Nat.mul_le_mul_right _ (by omega)
              have := HU.out
              omega
          have hpi : IntKind.u64.wrap (IntKind.u64.wrap (y : Int) * 2 ^ (7 * i)) = (p : Int) := by
            have e : ((y : Int) * 2 ^ (7 * i)) = (p : Int) := by
              have e2 : ((2 : Int) ^ (7 * i)) = ((128 ^ i : Nat) : Int) := by
                rw [show (128 : Nat) = 2 ^ 7 from rfl, ← Nat.pow_mul]; exact (Int.natCast_pow 2 (7 * i)).symm
              rw [hp, e2, ← Int.natCast_mul]
            rw [show IntKind.u64.wrap (y : Int) = (y : Int) by rw [IntKind.wrap_u64]; omega, e, IntKind.wrap_u64]; omega
          have hor : bits BinOp.or IntKind.u64 (u : Int) (p : Int) = ((u + p : Nat) : Int) := by
            rw [hp]; exact or_next HU.out (by rw [← hp]; exact hpb)
          obtain ⟨q, hq⟩ : ∃ q, q = u + p := ⟨_, rfl⟩
          rw [← hq] at hor
          have HB2 := Bx.mk hb; have HY := Bx.mk hy; have HP := Bx.mk hp; have HQ := Bx.mk hq
          have s0 : (0 : Int) ≤ 7 * (i : Int) := by omega
          clear hb hy hp hq hpow hpb
          by_cases hmore : (128 : Int) ≤ (z : Int)
          · have hne9 : i ≠ 9 := fun h => by have := HB2.out; omega
            have ht : tk most (i + 1) q (bs.drop (i + 1)) = (u0, n0, e0) := by
              have h := HR.out
              rw [HD.out, tk_more (by rw [← HZ.out]; exact HB2.out) (by rw [← HZ.out]; omega), ← HZ.out, ← HY.out, ← HP.out, ← HQ.out] at h
              exact h
            have hq2 : q < 128 ^ (i + 1) := by
              have h2 : y * 128 ^ i ≤ 127 * 128 ^ i := Nat.mul_le_mul_right _ (by have := HY.out; omega)
              have h3 := HU.out
              rw [HQ.out, HP.out, Nat.pow_succ]; omega
            have HT := Bx.mk ht; have HQ2 := Bx.mk hq2
            clear ht hq2
            go_wp2
            go_step3
            rw [show ((i : Int) + 1) = ((i + 1 : Nat) : Int) by omega]
            refine ⟨rfl, ⟨rfl, ?_⟩, by simp [intOf]; omega⟩
            refine ⟨i + 1, q, ?_⟩
            repeat apply Exists.intro
            exact ⟨rfl, ⟨HT.out, HQ2.out, by omega, by omega⟩⟩
          · have ht : (q, i + 1, (0 : Int)) = (u0, n0, e0) := by
              have h := HR.out
              rw [HD.out, tk_last (by rw [← HZ.out]; exact HB2.out) (by rw [← HZ.out]; omega), ← HZ.out, ← HY.out, ← HP.out, ← HQ.out] at h
              exact h
            injection ht with h1 h3
            injection h3 with h3 h4
            subst h1; subst h3; subst h4
            go_wp2
            dsimp only [Exit.jump]
            go_ret2
            exact .inl ⟨rfl, rfl, rfl⟩
end Go.Proofs.Ytkggnbabnfhcpaa
end
section
/- The reader's methods, walked. -/
namespace Go.Proofs.Ytkggnbabnfhcpaa
open Go.RowKit
theorem grp_bound (n : Nat) : ∀ u, (grp u).length ≤ n → u < 128 ^ n := by
  induction n with
  | zero => intro u h; have := grp_pos u; omega
  | succ n ih =>
    intro u h
    by_cases h1 : u < 128
    · have : 1 ≤ 128 ^ n := Nat.pow_pos (by omega)
      rw [Nat.pow_succ]; omega
    · rw [grp_ge (by omega), List.length_cons] at h
      have := ih (u / 128) (by omega)
      rw [Nat.pow_succ]; omega
theorem tk_n (most : Nat) : ∀ (bs : List UInt8) (i a u n : Nat), i ≤ most → tk most i a bs = (u, n, 0) → n ≤ most := by
  intro bs
  induction bs with
  | nil => intro i a u n _ h; rw [tk_nil] at h; injection h with _ h; injection h with _ h; cases h
  | cons x r ih =>
    intro i a u n hi h
    by_cases hb : i = most ∨ (x.toNat = 0 ∧ 0 < i) ∨ (i = 9 ∧ 1 < x.toNat)
    · rw [tk_bad hb] at h; injection h with _ h; injection h with _ h; cases h
    · by_cases h2 : 128 ≤ x.toNat
      · rw [tk_more hb h2] at h; exact ih _ _ _ _ (by omega) h
      · rw [tk_last hb h2] at h; injection h with _ h; injection h with h _; omega
theorem tk_lt (most : Nat) : ∀ (bs : List UInt8) (i a u n : Nat), i ≤ 9 → a < 128 ^ i → tk most i a bs = (u, n, 0) → u < 18446744073709551616 := by
  intro bs
  induction bs with
  | nil => intro i a u n _ _ h; rw [tk_nil] at h; injection h with _ h; injection h with _ h; cases h
  | cons x r ih =>
    intro i a u n hi ha h
    by_cases hb : i = most ∨ (x.toNat = 0 ∧ 0 < i) ∨ (i = 9 ∧ 1 < x.toNat)
    · rw [tk_bad hb] at h; injection h with _ h; injection h with _ h; cases h
    · by_cases h2 : 128 ≤ x.toNat
      · rw [tk_more hb h2] at h
        refine ih _ _ _ _ (by omega) ?_ h
        have h3 : x.toNat % 128 * 128 ^ i ≤ 127 * 128 ^ i := Nat.mul_le_mul_right _ (by omega)
        rw [Nat.pow_succ]; omega
      · rw [tk_last hb h2] at h
        injection h with h _
        by_cases h9 : i = 9
        · subst h9
          have h3 : x.toNat % 128 * 128 ^ 9 ≤ 1 * 128 ^ 9 := Nat.mul_le_mul_right _ (by omega)
          omega
        · have h4 : 128 ^ i ≤ 128 ^ 8 := Nat.pow_le_pow_right (by omega) (by omega)
          have h3 : x.toNat % 128 * 128 ^ i ≤ 127 * 128 ^ i := Nat.mul_le_mul_right _ (by omega)
          omega
theorem tk9_lt {bs : List UInt8} {u n : Nat} (h : tk 9 0 0 bs = (u, n, 0)) : u < 9223372036854775808 := by
  have h1 := tk_n 9 bs 0 0 u n (by omega) h
  obtain ⟨_, h2, h3⟩ := tk_enc0 h
  have h4 : (grp u).length ≤ 9 := by rw [← h3, List.length_take]; omega
  exact grp_bound 9 u h4
/-- What a reader answers. -/
def rdUint (most : Int) (bs : List UInt8) (e : Int) : Int × List UInt8 × Int :=
  if e ≠ 0 then (0, bs, e) else
  let r := tk 9 0 0 bs
  if r.2.2 ≠ 0 then (0, bs, r.2.2) else if most < 0 ∨ most < r.1 then (0, bs, 5) else (r.1, bs.drop r.2.1, 0)
def rdInt (bs : List UInt8) (e : Int) : Int × List UInt8 × Int :=
  if e ≠ 0 then (0, bs, e) else
  let r := tk 10 0 0 bs
  if r.2.2 ≠ 0 then (0, bs, r.2.2) else (zag r.1, bs.drop r.2.1, 0)
/-- The reader's block alone is written. -/
def R1 (w : World) (L : List Nat) (g : Nat) (v : Value) (bs : List UInt8) (e : Int) (r : Ending) (w' : World) : Prop :=
  r = .returned v ∧ RdAt w' L g bs e ∧ Fr L w w' ∧ Fr [g] w w'
theorem rtake_ok {g most : Nat} (hm0 : 0 < most) (hm : most ≤ 10) {bs : List UInt8} {L : List Nat} {w : World} (h : RdAt w L g bs 0) (hl : bs.length ≤ 100000000) {u n : Nat} (hr : tk most 0 0 bs = (u, n, 0)) :
    Calls Try.prog 64 #[.pointer (some ⟨g, 0, none⟩), .int .i64 most] w fun e w' => e = .returned (.tuple #[.int .u64 u, .int .i64 n]) ∧ w' = w :=
  (rtake_any g most hm0 hm bs L w h hl u n 0 hr).mono fun e w' h => by
    rcases h with ⟨_, h1, h2⟩ | ⟨h1, _⟩
    · exact ⟨h1, h2⟩
    · exact absurd rfl h1
theorem rtake_err {g most : Nat} (hm0 : 0 < most) (hm : most ≤ 10) {bs : List UInt8} {L : List Nat} {w : World} (h : RdAt w L g bs 0) (hl : bs.length ≤ 100000000) {u n : Nat} {e0 : Int} (he : e0 ≠ 0) (hr : tk most 0 0 bs = (u, n, e0)) :
    Calls Try.prog 64 #[.pointer (some ⟨g, 0, none⟩), .int .i64 most] w fun e w' => e = .returned (.tuple #[.int .u64 0, .int .i64 0]) ∧ w' = w.setCell ⟨g, 1, none⟩ (.int .i64 e0) :=
  (rtake_any g most hm0 hm bs L w h hl u n e0 hr).mono fun e w' h => by
    rcases h with ⟨h1, _⟩ | ⟨_, h1, h2⟩
    · exact absurd h1 he
    · exact ⟨h1, h2⟩
theorem rd_err {w : World} {L : List Nat} {g : Nat} {bs : List UInt8} {e : Int} (h : RdAt w L g bs e) (e' : Int) (v : Value) : R1 w L g v bs e' (.returned v) (w.setCell ⟨g, 1, none⟩ (.int .i64 e')) :=
  ⟨rfl, h.setErr e', (Fr.refl _ _).setCell (p := ⟨g, 1, none⟩) (.inl h.mem) _, (Fr.refl _ _).setCell (p := ⟨g, 1, none⟩) (.inl (by simp)) _⟩
theorem rd_bytes {w : World} {L : List Nat} {g : Nat} {bs bs2 : List UInt8} {e : Int} (h : RdAt w L g bs e) {a2 : Option Addr} {c2 : Nat} (h2 : In w L a2 bs2) (hc : bs2.length ≤ c2) (v : Value) :
    R1 w L g v bs2 e (.returned v) (w.setCell ⟨g, 0, none⟩ (.slice a2 bs2.length c2)) :=
  ⟨rfl, h.setBytes h2 hc, (Fr.refl _ _).setCell (p := ⟨g, 0, none⟩) (.inl h.mem) _, (Fr.refl _ _).setCell (p := ⟨g, 0, none⟩) (.inl (by simp)) _⟩
theorem rd_same {w : World} {L : List Nat} {g : Nat} {bs : List UInt8} {e : Int} (h : RdAt w L g bs e) (v : Value) : R1 w L g v bs e (.returned v) w := ⟨rfl, h, Fr.refl _ _, Fr.refl _ _⟩
set_option maxRecDepth 100000 in
set_option maxHeartbeats 4000000 in
theorem rUint_dead (g : Nat) (most : Int) (bs : List UInt8) (e : Int) (L : List Nat) (w : World) (h : RdAt w L g bs e) (he : e ≠ 0) :
    Calls Try.prog 34 #[.pointer (some ⟨g, 0, none⟩), .int .i64 most] w (R1 w L g (.int .i64 0) bs e) := by
  have HD := Bx.mk (rdead1 h he); have H := Bx.mk h
  clear h he
  go_enter Try.func34, Try.ntmps34
  go_wp2_with fail
  refine HD.out.mono ?_
  rintro r w1 ⟨rfl, rfl⟩
  go_wp2
  go_ret
  exact rd_same H.out _
set_option maxRecDepth 100000 in
set_option maxHeartbeats 4000000 in
theorem rUint_err (g : Nat) (most : Int) (bs : List UInt8) (L : List Nat) (w : World) (h : RdAt w L g bs 0) (hl : bs.length ≤ 100000000) (u n : Nat) (e0 : Int) (he : e0 ≠ 0) (hr : tk 9 0 0 bs = (u, n, e0)) :
    Calls Try.prog 34 #[.pointer (some ⟨g, 0, none⟩), .int .i64 most] w (R1 w L g (.int .i64 0) bs e0) := by
  have HD := Bx.mk (rdead0 h); have H := Bx.mk h
  have HC := Bx.mk (rtake_err (by omega) (by omega) h hl he hr)
  have he2 : (e0 != 0) = true := by simpa using he
  obtain ⟨⟨a, c, k1, _, _⟩, _, _⟩ := h
  have c1 : (w.setCell ⟨g, 1, none⟩ (.int .i64 e0)).cell? ⟨g, 1, none⟩ = some (.int .i64 e0) := by rw [(k1.setCell 1 (.int .i64 e0)).cell]; rfl
  clear k1 hl he hr
  go_enter Try.func34, Try.ntmps34
  go_wp2_with fail
  refine HD.out.mono ?_
  rintro r w1 ⟨rfl, rfl⟩
  go_wp2_with fail
  refine HC.out.mono ?_
  rintro r w2 ⟨rfl, hw⟩
  rw [← hw] at c1
  have HW := Bx.mk hw; clear hw
  go_wp2
  go_ret
  rw [HW.out]
  exact rd_err H.out _ _
set_option maxRecDepth 100000 in
set_option maxHeartbeats 4000000 in
theorem rUint_ok (g : Nat) (most : Int) (hm : most ≤ 9223372036854775807) (hm2 : -9223372036854775808 ≤ most) (bs : List UInt8) (L : List Nat) (w : World) (h : RdAt w L g bs 0) (hl : bs.length ≤ 100000000) (u n : Nat) (hr : tk 9 0 0 bs = (u, n, 0)) :
    Calls Try.prog 34 #[.pointer (some ⟨g, 0, none⟩), .int .i64 most] w fun r w' =>
      (most < 0 ∨ most < u → R1 w L g (.int .i64 0) bs 5 r w') ∧ (¬ (most < 0 ∨ most < u) → R1 w L g (.int .i64 u) (bs.drop n) 0 r w') := by
  have HD := Bx.mk (rdead0 h); have H := Bx.mk h
  have HC := Bx.mk (rtake_ok (by omega) (by omega) h hl hr)
  have hu := tk9_lt hr
  have hn := (tk_enc0 hr).2.1
  obtain ⟨⟨a, c, k1, k2, k3⟩, _, _⟩ := h
  have c0 : w.cell? ⟨g, 0, none⟩ = some (.slice a bs.length c) := by rw [k1.cell]; rfl
  have c1 : w.cell? ⟨g, 1, none⟩ = some (.int .i64 0) := by rw [k1.cell]; rfl
  have d0 : w.frozen? ⟨g, 0, none⟩ = false := k1.frozen 0
  have d1 : w.frozen? ⟨g, 1, none⟩ = false := k1.frozen 1
  obtain ⟨a2, c2, hsl, hI, hc2⟩ := slice_from (n := n) hn k3 k2
  have RB := fun v => Bx.mk (rd_bytes H.out hI hc2 v)
  have RE := fun v => Bx.mk (rd_err H.out 5 v)
  have f1 : wrap64 (u : Int) = (u : Int) := by unfold wrap64; omega
  have HU := Bx.mk (show (0 : Int) ≤ (u : Int) ∧ (u : Int) ≤ 9223372036854775807 by omega)
  have HM := Bx.mk (And.intro hm hm2)
  clear k1 k2 k3 hI hc2 hr hn hl hu hm hm2 H
  generalize (bs.drop n).length = m at *
  generalize (u : Int) = u at *
  by_cases hm0 : most < 0
  · go_enter Try.func34, Try.ntmps34
    go_wp2_with fail
    refine HD.out.mono ?_
    rintro r w1 ⟨rfl, rfl⟩
    go_wp2_with fail
    refine HC.out.mono ?_
    rintro r w2 ⟨rfl, rfl⟩
    go_wp2
    go_ret
    exact ⟨fun _ => (RE _).out, fun h => absurd (.inl hm0) h⟩
  · have f2 : IntKind.u64.wrap most = most := by rw [IntKind.wrap_u64]; have := HM.out; omega
    by_cases hmu : most < u
    · go_enter Try.func34, Try.ntmps34
      go_wp2_with fail
      refine HD.out.mono ?_
      rintro r w1 ⟨rfl, rfl⟩
      go_wp2_with fail
      refine HC.out.mono ?_
      rintro r w2 ⟨rfl, rfl⟩
      go_wp2
      go_ret
      exact ⟨fun _ => (RE _).out, fun h => absurd (.inr hmu) h⟩
    · go_enter Try.func34, Try.ntmps34
      go_wp2_with fail
      refine HD.out.mono ?_
      rintro r w1 ⟨rfl, rfl⟩
      go_wp2_with fail
      refine HC.out.mono ?_
      rintro r w2 ⟨rfl, rfl⟩
      go_wp2
      go_ret
      exact ⟨fun h => by omega, fun _ => by show R1 _ _ _ (.int .i64 u) _ 0 (.returned (.int .i64 (wrap64 u))) _; rw [f1]; exact (RB _).out⟩
theorem rUint_any (g : Nat) (most : Int) (hm : most ≤ 9223372036854775807) (hm2 : -9223372036854775808 ≤ most) (bs : List UInt8) (e : Int) (L : List Nat) (w : World) (h : RdAt w L g bs e) (hl : bs.length ≤ 100000000) :
    Calls Try.prog 34 #[.pointer (some ⟨g, 0, none⟩), .int .i64 most] w (R1 w L g (.int .i64 (rdUint most bs e).1) (rdUint most bs e).2.1 (rdUint most bs e).2.2) := by
  unfold rdUint
  by_cases he : e = 0
  · subst he
    rw [if_neg (by simp)]
    obtain ⟨u, n, e1, hr⟩ : ∃ u n e1, tk 9 0 0 bs = (u, n, e1) := ⟨_, _, _, rfl⟩
    rw [hr]
    dsimp only
    by_cases he1 : e1 = 0
    · subst he1
      rw [if_neg (by simp)]
      have hC := rUint_ok g most hm hm2 bs L w h hl u n hr
      by_cases hc : most < 0 ∨ most < (u : Int)
      · rw [if_pos hc]; exact hC.mono fun r w' h => h.1 hc
      · rw [if_neg hc]; exact hC.mono fun r w' h => h.2 hc
    · rw [if_pos he1]; exact rUint_err g most bs L w h hl u n e1 he1 hr
  · rw [if_pos he]; exact rUint_dead g most bs e L w h he
set_option maxRecDepth 100000 in
set_option maxHeartbeats 4000000 in
theorem rInt_dead (g : Nat) (bs : List UInt8) (e : Int) (L : List Nat) (w : World) (h : RdAt w L g bs e) (he : e ≠ 0) :
    Calls Try.prog 65 #[.pointer (some ⟨g, 0, none⟩)] w (R1 w L g (.int .i64 0) bs e) := by
  have HD := Bx.mk (rdead1 h he); have H := Bx.mk h
  clear h he
  go_enter Try.func65, Try.ntmps65
  go_wp2_with fail
  refine HD.out.mono ?_
  rintro r w1 ⟨rfl, rfl⟩
  go_wp2
  go_ret
  exact rd_same H.out _
set_option maxRecDepth 100000 in
set_option maxHeartbeats 4000000 in
theorem rInt_err (g : Nat) (bs : List UInt8) (L : List Nat) (w : World) (h : RdAt w L g bs 0) (hl : bs.length ≤ 100000000) (u n : Nat) (e0 : Int) (he : e0 ≠ 0) (hr : tk 10 0 0 bs = (u, n, e0)) :
    Calls Try.prog 65 #[.pointer (some ⟨g, 0, none⟩)] w (R1 w L g (.int .i64 0) bs e0) := by
  have HD := Bx.mk (rdead0 h); have H := Bx.mk h
  have HC := Bx.mk (rtake_err (by omega) (by omega) h hl he hr)
  have he2 : (e0 != 0) = true := by simpa using he
  obtain ⟨⟨a, c, k1, _, _⟩, _, _⟩ := h
  have c1 : (w.setCell ⟨g, 1, none⟩ (.int .i64 e0)).cell? ⟨g, 1, none⟩ = some (.int .i64 e0) := by rw [(k1.setCell 1 (.int .i64 e0)).cell]; rfl
  clear k1 hl he hr
  go_enter Try.func65, Try.ntmps65
  go_wp2_with fail
  refine HD.out.mono ?_
  rintro r w1 ⟨rfl, rfl⟩
  go_wp2_with fail
  refine HC.out.mono ?_
  rintro r w2 ⟨rfl, hw⟩
  rw [← hw] at c1
  have HW := Bx.mk hw; clear hw
  go_wp2
  go_ret
  rw [HW.out]
  exact rd_err H.out _ _
set_option maxRecDepth 100000 in
set_option maxHeartbeats 4000000 in
theorem rInt_ok (g : Nat) (bs : List UInt8) (L : List Nat) (w : World) (h : RdAt w L g bs 0) (hl : bs.length ≤ 100000000) (u n : Nat) (hr : tk 10 0 0 bs = (u, n, 0)) :
    Calls Try.prog 65 #[.pointer (some ⟨g, 0, none⟩)] w (R1 w L g (.int .i64 (zag u)) (bs.drop n) 0) := by
  have HD := Bx.mk (rdead0 h); have H := Bx.mk h
  have HC := Bx.mk (rtake_ok (by omega) (by omega) h hl hr)
  have hu := tk_lt 10 bs 0 0 u n (by omega) (by omega) hr
  have hn := (tk_enc0 hr).2.1
  obtain ⟨⟨a, c, k1, k2, k3⟩, _, _⟩ := h
  have c0 : w.cell? ⟨g, 0, none⟩ = some (.slice a bs.length c) := by rw [k1.cell]; rfl
  have c1 : w.cell? ⟨g, 1, none⟩ = some (.int .i64 0) := by rw [k1.cell]; rfl
  have d0 : w.frozen? ⟨g, 0, none⟩ = false := k1.frozen 0
  obtain ⟨a2, c2, hsl, hI, hc2⟩ := slice_from (n := n) hn k3 k2
  have RB := fun v => Bx.mk (rd_bytes H.out hI hc2 v)
  have f0 := and_one_u64 (u : Int) (by omega) (by omega)
  obtain ⟨q, hq⟩ : ∃ q, q = u / 2 := ⟨_, rfl⟩
  have f1 : (u : Int) / 2 = (q : Int) := by omega
  have hqb : q < 9223372036854775808 := by omega
  clear k1 k2 k3 hI hc2 hr hn hl H
  generalize (bs.drop n).length = m at *
  by_cases hodd : u % 2 = 1
  · have hz : zag u = -(q : Int) - 1 := by unfold zag; rw [if_pos hodd, hq]
    have f2 : (u : Int) % 2 = 1 := by omega
    rw [f2] at f0
    have f3 : IntKind.u64.wrap (-1) = 18446744073709551615 := by rw [IntKind.wrap_u64]; rfl
    have f4 := xor_ones q (by omega)
    obtain ⟨k, hk⟩ : ∃ k : Int, k = ((18446744073709551615 - q : Nat) : Int) := ⟨_, rfl⟩
    rw [← hk] at f4
    have f5 : wrap64 k = -(q : Int) - 1 := by unfold wrap64; omega
    rw [hz]
    obtain ⟨j, hj⟩ : ∃ j : Int, j = -(q : Int) - 1 := ⟨_, rfl⟩
    rw [← hj] at f5 ⊢
    clear hz f2 hk hodd hq hu hj hqb
    go_enter Try.func65, Try.ntmps65
    go_wp2_with fail
    refine HD.out.mono ?_
    rintro r w1 ⟨rfl, rfl⟩
    go_wp2_with fail
    refine HC.out.mono ?_
    rintro r w2 ⟨rfl, rfl⟩
    go_wp2
    go_ret
    show R1 _ _ _ (.int .i64 j) _ 0 (.returned (.int .i64 (wrap64 k))) _
    rw [f5]
    exact (RB _).out
  · have hz : zag u = (q : Int) := by unfold zag; rw [if_neg hodd, hq]
    have f2 : (u : Int) % 2 = 0 := by omega
    rw [f2] at f0
    have f3 : IntKind.u64.wrap (-0) = 0 := by rw [IntKind.wrap_u64]; rfl
    have f4 := xor_zero q (by omega)
    have f5 : wrap64 (q : Int) = (q : Int) := by unfold wrap64; omega
    rw [hz]
    clear hz f2 hodd hq hu hqb
    go_enter Try.func65, Try.ntmps65
    go_wp2_with fail
    refine HD.out.mono ?_
    rintro r w1 ⟨rfl, rfl⟩
    go_wp2_with fail
    refine HC.out.mono ?_
    rintro r w2 ⟨rfl, rfl⟩
    go_wp2
    go_ret
    show R1 _ _ _ (.int .i64 (q : Int)) _ 0 (.returned (.int .i64 (wrap64 (q : Int)))) _
    rw [f5]
    exact (RB _).out
theorem rInt_any2 (g : Nat) (bs : List UInt8) (e : Int) (L : List Nat) (w : World) (h : RdAt w L g bs e) (hl : bs.length ≤ 100000000) :
    Calls Try.prog 65 #[.pointer (some ⟨g, 0, none⟩)] w (R1 w L g (.int .i64 (rdInt bs e).1) (rdInt bs e).2.1 (rdInt bs e).2.2) := by
  unfold rdInt
  by_cases he : e = 0
  · subst he
    rw [if_neg (by simp)]
    obtain ⟨u, n, e1, hr⟩ : ∃ u n e1, tk 10 0 0 bs = (u, n, e1) := ⟨_, _, _, rfl⟩
    rw [hr]
    dsimp only
    by_cases he1 : e1 = 0
    · subst he1
      rw [if_neg (by simp)]
      exact rInt_ok g bs L w h hl u n hr
    · rw [if_pos he1]; exact rInt_err g bs L w h hl u n e1 he1 hr
  · rw [if_pos he]; exact rInt_dead g bs e L w h he
/-- What 'End' tells. -/
def rdEnd (bs : List UInt8) (e : Int) : Int := if e = 0 ∧ bs ≠ [] then 4 else e
theorem rEnd_any (g : Nat) (bs : List UInt8) (e : Int) (L : List Nat) (w : World) (h : RdAt w L g bs e) (hl : bs.length ≤ 100000000) :
    Calls Try.prog 67 #[.pointer (some ⟨g, 0, none⟩)] w fun r w' => r = .returned (.int .i64 (rdEnd bs e)) ∧ w' = w := by
  obtain ⟨⟨a, c, k1, k2, k3⟩, _, _⟩ := h
  have c0 : w.cell? ⟨g, 0, none⟩ = some (.slice a bs.length c) := by rw [k1.cell]; rfl
  have c1 : w.cell? ⟨g, 1, none⟩ = some (.int .i64 e) := by rw [k1.cell]; rfl
  clear k1 k2 k3
  unfold rdEnd
  by_cases he : e = 0
  · subst he
    by_cases hb : bs = []
    · subst hb
      rw [if_neg (by simp)]
      have c0' : w.cell? ⟨g, 0, none⟩ = some (.slice a 0 c) := c0
      clear c0 hl
      go_enter Try.func67, Try.ntmps67
      go_wp2
      go_ret
      exact ⟨rfl, rfl⟩
    · rw [if_pos ⟨rfl, hb⟩]
      have hlen : (0 : Int) < (bs.length : Int) := by have := List.length_pos_iff.2 hb; omega
      clear hb
      go_enter Try.func67, Try.ntmps67
      go_wp2
      go_ret
      exact ⟨rfl, rfl⟩
  · rw [if_neg (fun h => he h.1)]
    have heb : (e == 0) = false := by simpa using he
    clear he
    go_enter Try.func67, Try.ntmps67
    go_wp2
    go_ret
    exact ⟨rfl, rfl⟩
theorem rdInt_range (bs : List UInt8) (e : Int) : -9223372036854775808 ≤ (rdInt bs e).1 ∧ (rdInt bs e).1 ≤ 9223372036854775807 := by
  unfold rdInt
  split
  · simp
  · obtain ⟨u, n, e1, hr⟩ : ∃ u n e1, tk 10 0 0 bs = (u, n, e1) := ⟨_, _, _, rfl⟩
    rw [hr]
    dsimp only
    split
    · simp
    · rename_i h
      have h0 : e1 = 0 := Classical.not_not.1 h
      subst h0
      exact zag_range (tk_lt 10 bs 0 0 u n (by omega) (by omega) hr)
theorem rdUint_range (most : Int) (bs : List UInt8) (e : Int) : 0 ≤ (rdUint most bs e).1 ∧ (rdUint most bs e).1 ≤ 9223372036854775807 := by
  unfold rdUint
  split
  · simp
  · obtain ⟨u, n, e1, hr⟩ : ∃ u n e1, tk 9 0 0 bs = (u, n, e1) := ⟨_, _, _, rfl⟩
    rw [hr]
    dsimp only
    split
    · simp
    · rename_i h
      have h0 : e1 = 0 := Classical.not_not.1 h
      subst h0
      split
      · simp
      · have := tk9_lt hr
        show 0 ≤ (u : Int) ∧ (u : Int) ≤ _
        omega
theorem rdLen (bs : List UInt8) (e : Int) : (rdInt bs e).2.1.length ≤ bs.length := by
  unfold rdInt
  split
  · simp
  · dsimp only; split
    · simp
    · simp
theorem rdLenU (most : Int) (bs : List UInt8) (e : Int) : (rdUint most bs e).2.1.length ≤ bs.length := by
  unfold rdUint
  split
  · simp
  · dsimp only; split
    · simp
    · split
      · simp
      · simp
end Go.Proofs.Ytkggnbabnfhcpaa
end
section
/- The reader's flag and text, walked. -/
namespace Go.Proofs.Ytkggnbabnfhcpaa
open Go.RowKit
def rdFlag (bs : List UInt8) (e : Int) : Bool × List UInt8 × Int :=
  if e ≠ 0 then (false, bs, e) else match bs with
  | [] => (false, [], 3)
  | x :: r => if 1 < x.toNat then (false, x :: r, 2) else (decide (x.toNat = 1), r, 0)
def rdText (most : Int) (bs : List UInt8) (e : Int) : List UInt8 × List UInt8 × Int :=
  if e ≠ 0 then ([], bs, e) else
  let r := rdUint most bs 0
  if r.2.2 ≠ 0 then ([], r.2.1, r.2.2) else if (r.2.1.length : Int) < r.1 then ([], bs, 3) else (r.2.1.take r.1.toNat, r.2.1.drop r.1.toNat, 0)
theorem in_fr {w w' : World} {L : List Nat} {a a0 : Option Addr} {bs : List UInt8} {n0 c0 g : Nat} {e : Int} (hb : Bk w g #[.slice a0 n0 c0, .int .i64 e] 126) (h : In w L a bs) (hu : Under L w.heap.size) (hf : Fr [g] w w') : In w' L a bs := by
  refine ⟨?_, h.2⟩
  rcases h.1 with h1 | ⟨b, off, rfl, h1⟩
  · exact .inl h1
  · cases bs with
    | nil => exact .inl rfl
    | cons x r =>
      have hbg : b ≠ g := by
        rintro rfl
        have := h1 0 (bV x) rfl
        rw [hb.cell] at this
        generalize off + 0 = j at this
        match j with
        | 0 => cases this
        | 1 => cases this
        | j + 2 => simp at this
      have hbL := h.2 _ rfl (by simp)
      refine .inr ⟨b, off, rfl, fun i v hv => ?_⟩
      rw [← h1 i v hv]
      exact World.cell?_of_block (a := ⟨b, off + i, none⟩) (hf.block b (hu b hbL) (by simpa using hbg))
set_option maxRecDepth 100000 in
set_option maxHeartbeats 4000000 in
theorem rFlag_dead (g : Nat) (bs : List UInt8) (e : Int) (L : List Nat) (w : World) (h : RdAt w L g bs e) (he : e ≠ 0) :
    Calls Try.prog 51 #[.pointer (some ⟨g, 0, none⟩)] w (R1 w L g (.bool false) bs e) := by
  have HD := Bx.mk (rdead1 h he); have H := Bx.mk h
  clear h he
  go_enter Try.func51, Try.ntmps51
  go_wp2_with fail
  refine HD.out.mono ?_
  rintro r w1 ⟨rfl, rfl⟩
  go_wp2
  go_ret
  exact rd_same H.out _
set_option maxRecDepth 100000 in
set_option maxHeartbeats 4000000 in
theorem rFlag_short (g : Nat) (L : List Nat) (w : World) (h : RdAt w L g [] 0) :
    Calls Try.prog 51 #[.pointer (some ⟨g, 0, none⟩)] w (R1 w L g (.bool false) [] 3) := by
  have HD := Bx.mk (rdead0 h); have H := Bx.mk h
  obtain ⟨⟨a, c, k1, _, _⟩, _, _⟩ := h
  have c0 : w.cell? ⟨g, 0, none⟩ = some (.slice a 0 c) := by rw [k1.cell]; rfl
  have c1 : w.cell? ⟨g, 1, none⟩ = some (.int .i64 0) := by rw [k1.cell]; rfl
  have d1 : w.frozen? ⟨g, 1, none⟩ = false := k1.frozen 1
  clear k1
  go_enter Try.func51, Try.ntmps51
  go_wp2_with fail
  refine HD.out.mono ?_
  rintro r w1 ⟨rfl, rfl⟩
  go_wp2
  go_ret
  exact rd_err H.out _ _
set_option maxRecDepth 100000 in
set_option maxHeartbeats 4000000 in
theorem rFlag_one (g : Nat) (x : UInt8) (r : List UInt8) (L : List Nat) (w : World) (h : RdAt w L g (x :: r) 0) :
    Calls Try.prog 51 #[.pointer (some ⟨g, 0, none⟩)] w fun q w' => (1 < x.toNat → R1 w L g (.bool false) (x :: r) 2 q w') ∧ (¬ 1 < x.toNat → R1 w L g (.bool (decide (x.toNat = 1))) r 0 q w') := by
  have HD := Bx.mk (rdead0 h); have H := Bx.mk h
  obtain ⟨⟨a, c, k1, k2, k3⟩, _, _⟩ := h
  obtain ⟨bs, hbs⟩ : ∃ bs, bs = x :: r := ⟨_, rfl⟩
  rw [← hbs] at k1 k2 k3 H
  have hlen : 0 < bs.length := by rw [hbs]; simp
  obtain ⟨b, off, rfl, hc⟩ := RowAt.byte k2.1 (k := 0) hlen
  have hx0 : bs[0] = x := by subst hbs; rfl
  rw [hx0, Nat.add_zero] at hc
  have c0 : w.cell? ⟨g, 0, none⟩ = some (.slice (some ⟨b, off, none⟩) bs.length c) := by rw [k1.cell]; rfl
  have c1 : w.cell? ⟨g, 1, none⟩ = some (.int .i64 0) := by rw [k1.cell]; rfl
  have d0 : w.frozen? ⟨g, 0, none⟩ = false := k1.frozen 0
  have d1 : w.frozen? ⟨g, 1, none⟩ = false := k1.frozen 1
  obtain ⟨a2, c2, hsl, hI, hc2⟩ := slice_from (n := 1) (by omega) k3 k2
  have hdr : bs.drop 1 = r := by rw [hbs]; rfl
  rw [hdr] at hsl hI hc2
  have RB := fun v => Bx.mk (rd_bytes H.out hI hc2 v)
  have RE := fun v => Bx.mk (rd_err H.out 2 v)
  rw [hbs] at RE
  have l0 : (0 : Int) < (bs.length : Int) := by omega
  have l1 : ((bs.length : Int) == 0) = false := by rw [beq_eq_false_iff_ne]; omega
  clear k1 k2 k3 hI hc2 hx0 hdr hlen H hbs
  have hsl' : ∀ W : World, (Instr.slice 32 (.slice (some ⟨b, off, none⟩) bs.length c) (some (.int .i64 1)) none none).run Try.prog W = .ok (.slice a2 r.length c2) W := hsl
  clear hsl
  by_cases hm : (1 : Int) < (x.toNat : Int)
  · have HX := Bx.mk (show 1 < x.toNat by omega)
    go_enter Try.func51, Try.ntmps51
    go_wp2_with fail
    refine HD.out.mono ?_
    rintro q w1 ⟨rfl, rfl⟩
    go_wp2
    go_ret
    exact ⟨fun _ => (RE _).out, fun h => absurd HX.out h⟩
  · have hx : x.toNat = 0 ∨ x.toNat = 1 := by omega
    rcases hx with hx | hx
    · have HX := Bx.mk hx
      rw [hx] at hc
      clear hm hx
      go_enter Try.func51, Try.ntmps51
      go_wp2_with fail
      refine HD.out.mono ?_
      rintro q w1 ⟨rfl, rfl⟩
      go_wp2
      go_ret
      exact ⟨fun h => by have := HX.out; omega, fun _ => by rw [HX.out]; exact (RB _).out⟩
    · have HX := Bx.mk hx
      rw [hx] at hc
      clear hm hx
      go_enter Try.func51, Try.ntmps51
      go_wp2_with fail
      refine HD.out.mono ?_
      rintro q w1 ⟨rfl, rfl⟩
      go_wp2
      go_ret
      exact ⟨fun h => by have := HX.out; omega, fun _ => by rw [HX.out]; exact (RB _).out⟩
theorem rFlag_any (g : Nat) (bs : List UInt8) (e : Int) (L : List Nat) (w : World) (h : RdAt w L g bs e) :
    Calls Try.prog 51 #[.pointer (some ⟨g, 0, none⟩)] w (R1 w L g (.bool (rdFlag bs e).1) (rdFlag bs e).2.1 (rdFlag bs e).2.2) := by
  unfold rdFlag
  by_cases he : e = 0
  · subst he
    rw [if_neg (by simp)]
    cases bs with
    | nil => exact rFlag_short g L w h
    | cons x r =>
      dsimp only
      by_cases hx : 1 < x.toNat
      · rw [if_pos hx]; exact (rFlag_one g x r L w h).mono fun q w' h => h.1 hx
      · rw [if_neg hx]; exact (rFlag_one g x r L w h).mono fun q w' h => h.2 hx
  · rw [if_pos he]; exact rFlag_dead g bs e L w h he
/-- What 'Text' does. -/
def T1 (w : World) (L : List Nat) (g : Nat) (ts bs : List UInt8) (e : Int) (r : Ending) (w' : World) : Prop :=
  ∃ v, r = .returned v ∧ Own w' w.heap.size 5 1 v ts.length (ts.map bV) ∧ RdAt w' L g bs e ∧ Fr L w w'
set_option maxRecDepth 100000 in
set_option maxHeartbeats 4000000 in
theorem rText_dead (g : Nat) (most : Int) (bs : List UInt8) (e : Int) (L : List Nat) (w : World) (h : RdAt w L g bs e) (he : e ≠ 0) :
    Calls Try.prog 52 #[.pointer (some ⟨g, 0, none⟩), .int .i64 most] w (T1 w L g [] bs e) := by
  have HD := Bx.mk (rdead1 h he); have H := Bx.mk h
  clear h he
  go_enter Try.func52, Try.ntmps52
  go_wp2_with fail
  refine HD.out.mono ?_
  rintro r w1 ⟨rfl, rfl⟩
  go_wp2
  go_ret
  exact ⟨_, rfl, Own.nil _ _ _ _, H.out, Fr.refl _ _⟩
set_option maxRecDepth 100000 in
set_option maxHeartbeats 4000000 in
theorem rText_live (g : Nat) (most : Int) (hm : most ≤ 9223372036854775807) (hm2 : -9223372036854775808 ≤ most) (bs : List UInt8) (L : List Nat) (w : World) (h : RdAt w L g bs 0) (hl : bs.length ≤ 100000000) :
    Calls Try.prog 52 #[.pointer (some ⟨g, 0, none⟩), .int .i64 most] w (T1 w L g (rdText most bs 0).1 (rdText most bs 0).2.1 (rdText most bs 0).2.2) := by
  have HD := Bx.mk (rdead0 h); have H := Bx.mk h
  have HC := rUint_any g most hm hm2 bs 0 L w h hl
  have hr := rdUint_range most bs 0
  have hlen := rdLenU most bs 0
  unfold rdText
  rw [if_neg (by simp)]
  obtain ⟨n, b1, e1, hd⟩ : ∃ n b1 e1, rdUint most bs 0 = (n, b1, e1) := ⟨_, _, _, rfl⟩
  simp only [hd] at HC hr hlen ⊢
  obtain ⟨⟨a, c, k1, k2, k3⟩, k4, k5⟩ := h
  have c0 : w.cell? ⟨g, 0, none⟩ = some (.slice a bs.length c) := by rw [k1.cell]; rfl
  have K1 := Bx.mk k1; have K2 := Bx.mk k2; have K3 := Bx.mk k3; have K4 := Bx.mk k4; have K5 := Bx.mk k5; have HCC := Bx.mk HC
  have HLn := Bx.mk hlen; have HLl := Bx.mk hl
  clear k1 k2 k3 k4 k5 HC hd hlen hl hm hm2
  by_cases he : e1 = 0
  · subst he
    rw [if_neg (by simp)]
    obtain ⟨m, rfl⟩ := Int.eq_ofNat_of_zero_le hr.1
    have hm63 := Bx.mk hr.2
    clear hr
    by_cases hs : (b1.length : Int) < (m : Int)
    · rw [if_pos hs]
      go_enter Try.func52, Try.ntmps52
      go_wp2_with fail
      refine HD.out.mono ?_
      rintro r w1 ⟨rfl, rfl⟩
      go_wp2_with fail
      refine HCC.out.mono ?_
      rintro r w1 ⟨rfl, hr1, hf, hg⟩
      have HD1 := Bx.mk (rdead0 hr1)
      have HF := Bx.mk hf
      have HB := Bx.mk (hr1.setBytes (in_fr K1.out K2.out K5.out hg) K3.out)
      obtain ⟨⟨a1, c1, j1, _, _⟩, _, _⟩ := hr1
      have e0 : w1.cell? ⟨g, 0, none⟩ = some (.slice a1 b1.length c1) := by rw [j1.cell]; rfl
      have d0 : w1.frozen? ⟨g, 0, none⟩ = false := j1.frozen 0
      have d1 : w1.frozen? ⟨g, 1, none⟩ = false := j1.frozen 1
      have e1 : w1.cell? ⟨g, 1, none⟩ = some (.int .i64 0) := by rw [j1.cell]; rfl
      clear hf hg j1
      go_wp2_with fail
      refine HD1.out.mono ?_
      rintro r w2 ⟨rfl, rfl⟩
      go_wp2
      go_ret
      exact ⟨_, rfl, Own.nil _ _ _ _, HB.out.setErr 3, (HF.out.setCell (p := ⟨g, 0, none⟩) (.inl K4.out) _).setCell (p := ⟨g, 1, none⟩) (.inl K4.out) _⟩
    · rw [if_neg hs]
      have hmle : m ≤ b1.length := by omega
      show Calls _ _ _ _ (T1 w L g (b1.take ((m : Int)).toNat) (b1.drop ((m : Int)).toNat) 0)
      rw [Int.toNat_natCast]
      go_enter Try.func52, Try.ntmps52
      go_wp2_with fail
      refine HD.out.mono ?_
      rintro r w1 ⟨rfl, rfl⟩
      go_wp2_with fail
      refine HCC.out.mono ?_
      rintro r w1 ⟨rfl, hr1, hf, hg⟩
      have HD1 := Bx.mk (rdead0 hr1)
      have HF := Bx.mk hf
      have HR1 := Bx.mk hr1
      obtain ⟨⟨a1, c1, j1, j2, j3⟩, _, _⟩ := hr1
      have e0 : w1.cell? ⟨g, 0, none⟩ = some (.slice a1 b1.length c1) := by rw [j1.cell]; rfl
      obtain ⟨a2, c2, hsl, hI, hc2⟩ := slice_from (n := m) hmle j3 j2
      have ht : (b1.take m).length = m := by rw [List.length_take]; omega
      have HRt := Bx.mk (show RowAt w1 a1 ((b1.take m).map bV) by rw [List.map_take]; exact j2.1.take m)
      have J1 := Bx.mk j1; have HI := Bx.mk hI; have HC2 := Bx.mk hc2
      have q0 : (0 : Int) ≤ (m : Int) := by omega
      have q1 : (m : Int) ≤ (c1 : Int) := by omega
      clear hf hg j1 j2 hI hc2 j3
      go_wp2_with fail
      refine HD1.out.mono ?_
      rintro r w2 ⟨rfl, rfl⟩
      go_wp2_with fail
      have HCl := bClone_any a1 c1 (b1.take m) w2 HRt.out (by have := HLn.out; have := HLl.out; omega)
      rw [ht] at HCl
      refine HCl.mono ?_
      rintro r w3 ⟨v, rfl, ho, hb⟩
      have HO := Bx.mk ho
      have HR3 := Bx.mk (HR1.out.below hb)
      have J3 := Bx.mk (J1.out.keep (hb.block g J1.out.lt))
      have HI3 := Bx.mk (HI.out.keep (fun k hk => hb.block k (HR1.out.under k hk)))
      have HF3 := Bx.mk (HF.out.trans (Fr.ofBelow (L := []) hb) (fun k hk => by cases hk))
      have S3 := Bx.mk HF.out.size
      have e3 : w3.cell? ⟨g, 0, none⟩ = some (.slice a1 b1.length c1) := by rw [J3.out.cell]; rfl
      have d3 : w3.frozen? ⟨g, 0, none⟩ = false := J3.out.frozen 0
      clear ho hb HCl
      go_wp2
      go_ret
      refine ⟨_, rfl, ?_, by have h := HR3.out.setBytes HI3.out HC2.out; rw [List.length_drop] at h; exact h, HF3.out.setCell (p := ⟨g, 0, none⟩) (.inl K4.out) _⟩
      rw [ht]
      refine Own.keep (HO.out.base_le fun k hk => Nat.le_trans S3.out (HO.out.lt k hk).1) fun k hk => Below.heap_setCell _ _ _ _ fun e => ?_
      have e2 : k = g := e
      have := (HO.out.lt k hk).1
      have := HR1.out.under g K4.out
      omega
  · rw [if_pos he]
    go_enter Try.func52, Try.ntmps52
    go_wp2_with fail
    refine HD.out.mono ?_
    rintro r w1 ⟨rfl, rfl⟩
    go_wp2_with fail
    refine HCC.out.mono ?_
    rintro r w1 ⟨rfl, hr1, hf, hg⟩
    have HD1 := Bx.mk (rdead1 hr1 he)
    have HF := Bx.mk hf; have HR1 := Bx.mk hr1
    clear hf hg hr1
    go_wp2_with fail
    refine HD1.out.mono ?_
    rintro r w2 ⟨rfl, rfl⟩
    go_wp2
    go_ret
    exact ⟨_, rfl, Own.nil _ _ _ _, HR1.out, HF.out⟩
theorem rText_any (g : Nat) (most : Int) (hm : most ≤ 9223372036854775807) (hm2 : -9223372036854775808 ≤ most) (bs : List UInt8) (e : Int) (L : List Nat) (w : World) (h : RdAt w L g bs e) (hl : bs.length ≤ 100000000) :
    Calls Try.prog 52 #[.pointer (some ⟨g, 0, none⟩), .int .i64 most] w (T1 w L g (rdText most bs e).1 (rdText most bs e).2.1 (rdText most bs e).2.2) := by
  by_cases he : e = 0
  · subst he; exact rText_live g most hm hm2 bs L w h hl
  · have : rdText most bs e = ([], bs, e) := by unfold rdText; rw [if_pos he]
    rw [this]
    exact rText_dead g most bs e L w h he
end Go.Proofs.Ytkggnbabnfhcpaa
end
section
/- What is read is what was written, and what is written is read: plain laws of the parts. No program in sight. -/
namespace Go.Proofs.Ytkggnbabnfhcpaa
theorem dead_uint {most : Int} {bs : List UInt8} {e : Int} (he : e ≠ 0) : rdUint most bs e = (0, bs, e) := by unfold rdUint; rw [if_pos he]
theorem dead_int {bs : List UInt8} {e : Int} (he : e ≠ 0) : rdInt bs e = (0, bs, e) := by unfold rdInt; rw [if_pos he]
theorem dead_flag {bs : List UInt8} {e : Int} (he : e ≠ 0) : rdFlag bs e = (false, bs, e) := by unfold rdFlag; rw [if_pos he]
theorem dead_text {most : Int} {bs : List UInt8} {e : Int} (he : e ≠ 0) : rdText most bs e = ([], bs, e) := by unfold rdText; rw [if_pos he]
theorem un_uint {most : Int} {bs : List UInt8} {e : Int} (h : (rdUint most bs e).2.2 = 0) : e = 0 ∧ 0 ≤ (rdUint most bs e).1 ∧ (rdUint most bs e).1 ≤ most ∧ bs = uintB (rdUint most bs e).1 ++ (rdUint most bs e).2.1 := by
  by_cases he : e = 0
  · refine ⟨he, ?_⟩
    subst he
    revert h
    unfold rdUint
    rw [if_neg (by simp)]
    obtain ⟨u, n, e1, hr⟩ : ∃ u n e1, tk 9 0 0 bs = (u, n, e1) := ⟨_, _, _, rfl⟩
    rw [hr]
    dsimp only
    split
    · rename_i h; intro h1; exact absurd h1 h
    rename_i h
    split
    · intro h1; cases h1
    rename_i hm
    intro _
    have h0 : e1 = 0 := Classical.not_not.1 h
    subst h0
    obtain ⟨_, h3, h4⟩ := tk_enc0 hr
    refine ⟨by dsimp only; omega, by dsimp only; omega, ?_⟩
    dsimp only
    unfold uintB
    rw [if_neg (by omega), Int.toNat_natCast, ← h4, List.take_append_drop]
  · rw [dead_uint he] at h; exact absurd h he
theorem un_int {bs : List UInt8} {e : Int} (h : (rdInt bs e).2.2 = 0) : e = 0 ∧ bs = intB (rdInt bs e).1 ++ (rdInt bs e).2.1 := by
  by_cases he : e = 0
  · refine ⟨he, ?_⟩
    subst he
    revert h
    unfold rdInt
    rw [if_neg (by simp)]
    obtain ⟨u, n, e1, hr⟩ : ∃ u n e1, tk 10 0 0 bs = (u, n, e1) := ⟨_, _, _, rfl⟩
    rw [hr]
    dsimp only
    split
    · rename_i h; intro h1; exact absurd h1 h
    rename_i h
    intro _
    have h0 : e1 = 0 := Classical.not_not.1 h
    subst h0
    obtain ⟨_, h3, h4⟩ := tk_enc0 hr
    dsimp only
    unfold intB
    rw [zig_zag, ← h4, List.take_append_drop]
  · rw [dead_int he] at h; exact absurd h he
theorem un_flag {bs : List UInt8} {e : Int} (h : (rdFlag bs e).2.2 = 0) : e = 0 ∧ bs = flagB (rdFlag bs e).1 ++ (rdFlag bs e).2.1 := by
  by_cases he : e = 0
  · refine ⟨he, ?_⟩
    subst he
    revert h
    unfold rdFlag
    rw [if_neg (by simp)]
    cases bs with
    | nil => intro h; cases h
    | cons x r =>
      dsimp only
      split
      · intro h; cases h
      rename_i hx
      intro _
      unfold flagB
      by_cases h1 : x.toNat = 1
      · rw [if_pos (decide_eq_true h1)]
        rw [show x = 1 from UInt8.toNat_inj.1 h1]
        rfl
      · rw [if_neg (by simp [h1])]
        rw [show x = 0 from UInt8.toNat_inj.1 (by show x.toNat = 0; omega)]
        rfl
  · rw [dead_flag he] at h; exact absurd h he
theorem uint_nat {z : Int} (h : 0 ≤ z) : uintB z = grp z.toNat := by unfold uintB; rw [if_neg (by omega)]
theorem un_text {most : Int} {bs : List UInt8} {e : Int} (h : (rdText most bs e).2.2 = 0) : e = 0 ∧ ((rdText most bs e).1.length : Int) ≤ most ∧ bs = textB (rdText most bs e).1 ++ (rdText most bs e).2.1 := by
  by_cases he : e = 0
  · refine ⟨he, ?_⟩
    subst he
    revert h
    unfold rdText
    rw [if_neg (by simp)]
    have hu := un_uint (most := most) (bs := bs) (e := 0)
    revert hu
    generalize rdUint most bs 0 = q
    obtain ⟨z, cs, e1⟩ := q
    dsimp only
    intro hu
    split
    · rename_i h; intro h1; exact absurd h1 h
    rename_i h
    have h0 : e1 = 0 := Classical.not_not.1 h
    obtain ⟨_, k1, k2, k3⟩ := hu h0
    split
    · intro h1; cases h1
    rename_i h2
    intro _
    dsimp only
    have hl : (cs.take z.toNat).length = z.toNat := by rw [List.length_take]; omega
    refine ⟨by rw [hl]; omega, ?_⟩
    unfold textB
    rw [hl, List.append_assoc, List.take_append_drop, ← uint_nat k1]
    exact k3
  · rw [dead_text he] at h; exact absurd h he
theorem ck_grp {m : Nat} {most : Int} (h : (m : Int) ≤ most) (h1 : m < 9223372036854775808) (rest : List UInt8) : rdUint most (grp m ++ rest) 0 = ((m : Int), rest, 0) := by
  unfold rdUint
  rw [if_neg (by simp), tk_dec0 rest (by omega) (grp_len 8 m (by omega))]
  dsimp only
  rw [if_neg (by simp), if_neg (by omega), List.drop_left]
theorem ck_uint {n most : Int} (h0 : 0 ≤ n) (h1 : n ≤ 9223372036854775807) (h2 : n ≤ most) (rest : List UInt8) : rdUint most (uintB n ++ rest) 0 = (n, rest, 0) := by
  rw [uint_nat h0, ck_grp (by omega) (by omega), Int.toNat_of_nonneg h0]
theorem ck_int {n : Int} (h0 : -9223372036854775808 ≤ n) (h1 : n ≤ 9223372036854775807) (rest : List UInt8) : rdInt (intB n ++ rest) 0 = (n, rest, 0) := by
  unfold rdInt intB
  rw [if_neg (by simp), tk_dec0 rest (zig_lt h0 h1) (grp_len64 (zig_lt h0 h1))]
  dsimp only
  rw [if_neg (by simp), List.drop_left, zag_zig]
theorem ck_flag (y : Bool) (rest : List UInt8) : rdFlag (flagB y ++ rest) 0 = (y, rest, 0) := by
  cases y <;> rfl
theorem ck_text {ts : List UInt8} {most : Int} (h : (ts.length : Int) ≤ most) (h2 : ts.length ≤ 100000000) (rest : List UInt8) : rdText most (textB ts ++ rest) 0 = (ts, rest, 0) := by
  unfold rdText textB
  rw [if_neg (by simp), List.append_assoc, ck_grp h (by omega)]
  dsimp only
  rw [if_neg (by simp), if_neg (by rw [List.length_append]; omega), Int.toNat_natCast, List.take_left, List.drop_left]
theorem end_zero {bs : List UInt8} {e : Int} (h : rdEnd bs e = 0) : e = 0 ∧ bs = [] := by
  unfold rdEnd at h
  split at h
  · cases h
  · rename_i h2
    subst h
    exact ⟨rfl, Classical.byContradiction fun h3 => h2 ⟨rfl, h3⟩⟩
theorem end_dead {bs : List UInt8} {e : Int} (h : e ≠ 0) : rdEnd bs e = e := by unfold rdEnd; rw [if_neg (fun h2 => h h2.1)]
theorem end_nil : rdEnd [] 0 = 0 := rfl
theorem uint_le {most : Int} {bs : List UInt8} {e : Int} (h : 0 ≤ most) : (rdUint most bs e).1 ≤ most := by
  unfold rdUint
  split
  · exact h
  dsimp only
  split
  · exact h
  split
  · exact h
  · dsimp only; omega
theorem text_le {most : Int} {bs : List UInt8} {e : Int} (h : 0 ≤ most) : ((rdText most bs e).1.length : Int) ≤ most := by
  unfold rdText
  split
  · exact h
  have hu := uint_le (bs := bs) (e := 0) h
  have hr := (rdUint_range most bs 0).1
  generalize rdUint most bs 0 = q at *
  dsimp only
  split
  · exact h
  split
  · exact h
  · rw [List.length_take]; omega
theorem text_len {most : Int} {bs : List UInt8} {e : Int} : (rdText most bs e).1.length ≤ bs.length ∧ (rdText most bs e).2.1.length ≤ bs.length := by
  have hu := rdLenU most bs 0
  unfold rdText
  split
  · exact ⟨Nat.zero_le _, Nat.le_refl _⟩
  dsimp only
  split
  · exact ⟨Nat.zero_le _, hu⟩
  split
  · exact ⟨Nat.zero_le _, Nat.le_refl _⟩
  · dsimp only
    rw [List.length_take, List.length_drop]
    omega
theorem uint_len10 {n : Int} (h : n ≤ 9223372036854775807) : (uintB n).length ≤ 10 := by
  unfold uintB
  split
  · exact Nat.zero_le _
  · exact grp_len64 (by omega)
theorem int_len10 {n : Int} (h1 : -9223372036854775808 ≤ n) (h2 : n ≤ 9223372036854775807) : (intB n).length ≤ 10 := grp_len64 (zig_lt h1 h2)
theorem textB_len {ts : List UInt8} (h : ts.length ≤ 100000000) : (textB ts).length ≤ ts.length + 10 := by
  unfold textB
  rw [List.length_append]
  have := grp_len64 (u := ts.length) (by omega)
  omega
theorem flag_len {bs : List UInt8} {e : Int} : (rdFlag bs e).2.1.length ≤ bs.length := by
  unfold rdFlag
  split
  · exact Nat.le_refl _
  cases bs with
  | nil => exact Nat.le_refl _
  | cons x r =>
    dsimp only
    split
    · exact Nat.le_refl _
    · simp
end Go.Proofs.Ytkggnbabnfhcpaa
end
section
/- Tariffs and plans as bytes, in plain lists. No program in sight. -/
namespace Go.Proofs.Ytkggnbabnfhcpaa
def tirB (t : Tr) : List UInt8 := uintB t.upto ++ uintB t.price
def tarHd (t : Tar) : List UInt8 := uintB t.grp ++ uintB t.mode ++ uintB t.block ++ uintB (t.ts.length : Int)
def tarB (t : Tar) : List UInt8 := tarHd t ++ t.ts.flatMap tirB
def planHd (p : Pl) : List UInt8 := uintB p.day ++ uintB p.frm ++ uintB p.til
def planB (p : Pl) : List UInt8 := planHd p ++ tarB p.base ++ (if p.day ≠ 0 then tarB p.other else [])
structure RdT where
  ts : List Tr
  bs : List UInt8
  e : Int
/-- One tier more. -/
def rdTr (s : RdT) : RdT :=
  let a := rdUint 1099511627776 s.bs s.e
  let b := rdUint 1099511627776 a.2.1 a.2.2
  ⟨s.ts ++ [⟨a.1, b.1⟩], b.2.1, b.2.2⟩
def rdTs (s : RdT) : Nat → RdT
  | 0 => s
  | n + 1 => rdTr (rdTs s n)
/-- A tariff; its bytes, and what is wrong. -/
def rdTar (bs : List UInt8) (e : Int) : Tar × List UInt8 × Int :=
  let a := rdUint 1099511627776 bs e
  let b := rdUint 1099511627776 a.2.1 a.2.2
  let c := rdUint 1099511627776 b.2.1 b.2.2
  let n := rdUint 6 c.2.1 c.2.2
  let s := rdTs ⟨[], n.2.1, n.2.2⟩ n.1.toNat
  (⟨a.1, b.1, c.1, s.ts⟩, s.bs, s.e)
/-- A plan, before it is asked whether it is one. -/
def rdPl (bs : List UInt8) : Pl × List UInt8 × Int :=
  let a := rdUint 1099511627776 bs 0
  let b := rdUint 1099511627776 a.2.1 a.2.2
  let c := rdUint 1099511627776 b.2.1 b.2.2
  let t := rdTar c.2.1 c.2.2
  let u := if a.1 ≠ 0 then rdTar t.2.1 t.2.2 else (⟨0, 0, 0, []⟩, t.2.1, t.2.2)
  (⟨a.1, b.1, c.1, t.1, u.1⟩, u.2.1, u.2.2)
def rdPlE (bs : List UInt8) : Int := if rdEnd (rdPl bs).2.1 (rdPl bs).2.2 ≠ 0 then 2 else planE (rdPl bs).1
def zeroPl : Pl := ⟨0, 0, 0, ⟨0, 0, 0, []⟩, ⟨0, 0, 0, []⟩⟩
def rdPlan (bs : List UInt8) : Pl := if rdPlE bs = 0 then (rdPl bs).1 else zeroPl
theorem rdTs_len (s : RdT) : ∀ n, (rdTs s n).ts.length = s.ts.length + n
  | 0 => rfl
  | n + 1 => by simp [rdTs, rdTr, rdTs_len s n]; omega
theorem rdTs_bs (s : RdT) : ∀ n, (rdTs s n).bs.length ≤ s.bs.length
  | 0 => Nat.le_refl _
  | n + 1 => by
    have h1 := rdTs_bs s n
    have h2 := rdLenU 1099511627776 (rdTs s n).bs (rdTs s n).e
    have h3 := rdLenU 1099511627776 (rdUint 1099511627776 (rdTs s n).bs (rdTs s n).e).2.1 (rdUint 1099511627776 (rdTs s n).bs (rdTs s n).e).2.2
    show (rdTr (rdTs s n)).bs.length ≤ _
    simp only [rdTr]
    omega
theorem rdTs_dead {s : RdT} (h : s.e ≠ 0) : ∀ n, (rdTs s n).e = s.e ∧ (rdTs s n).bs = s.bs
  | 0 => ⟨rfl, rfl⟩
  | n + 1 => by
    obtain ⟨h1, h2⟩ := rdTs_dead h n
    have e1 : rdUint 1099511627776 (rdTs s n).bs (rdTs s n).e = (0, s.bs, s.e) := by rw [h1, h2]; exact dead_uint h
    show (rdTr (rdTs s n)).e = _ ∧ (rdTr (rdTs s n)).bs = _
    simp only [rdTr, e1, dead_uint h]
    exact ⟨trivial, trivial⟩
theorem un_tr {s : RdT} (h : (rdTr s).e = 0) : s.e = 0 ∧ ∃ t, (rdTr s).ts = s.ts ++ [t] ∧ s.bs = tirB t ++ (rdTr s).bs := by
  simp only [rdTr] at h ⊢
  obtain ⟨h1, _, _, h2⟩ := un_uint h
  obtain ⟨h3, _, _, h4⟩ := un_uint h1
  refine ⟨h3, _, rfl, ?_⟩
  unfold tirB
  rw [List.append_assoc, ← h2, ← h4]
theorem un_ts (s : RdT) : ∀ n, (rdTs s n).e = 0 → s.e = 0 ∧ ∃ ts, (rdTs s n).ts = s.ts ++ ts ∧ ts.length = n ∧ s.bs = ts.flatMap tirB ++ (rdTs s n).bs
  | 0, h => ⟨h, [], by simp [rdTs], rfl, by simp [rdTs]⟩
  | n + 1, h => by
    obtain ⟨h1, t, h2, h3⟩ := un_tr (s := rdTs s n) h
    obtain ⟨h4, ts, h5, h6, h7⟩ := un_ts s n h1
    refine ⟨h4, ts ++ [t], ?_, by simp [h6], ?_⟩
    · show (rdTr (rdTs s n)).ts = _
      rw [h2, h5, List.append_assoc]
    · show _ = _ ++ (rdTr (rdTs s n)).bs
      rw [h7, h3]
      simp
theorem un_tar {bs : List UInt8} {e : Int} (h : (rdTar bs e).2.2 = 0) : e = 0 ∧ bs = tarB (rdTar bs e).1 ++ (rdTar bs e).2.1 := by
  unfold rdTar at h ⊢
  dsimp only at h ⊢
  obtain ⟨h1, ts, h2, h3, h4⟩ := un_ts _ _ h
  dsimp only at h1 h2 h4
  obtain ⟨k1, k0, _, k2⟩ := un_uint h1
  obtain ⟨k3, _, _, k4⟩ := un_uint k1
  obtain ⟨k5, _, _, k6⟩ := un_uint k3
  obtain ⟨k7, _, _, k8⟩ := un_uint k5
  refine ⟨k7, ?_⟩
  unfold tarB tarHd
  dsimp only
  rw [h2, List.nil_append, h3, Int.toNat_of_nonneg k0]
  simp only [List.append_assoc]
  rw [← h4, ← k2, ← k4, ← k6, ← k8]
theorem un_pl {bs : List UInt8} (h : (rdPl bs).2.2 = 0) : bs = planB (rdPl bs).1 ++ (rdPl bs).2.1 := by
  unfold rdPl at h ⊢
  dsimp only at h ⊢
  unfold planB planHd
  dsimp only
  by_cases hd : (rdUint 1099511627776 bs 0).1 ≠ 0
  · rw [if_pos hd] at h ⊢
    rw [if_pos hd]
    obtain ⟨h1, h2⟩ := un_tar h
    obtain ⟨h3, h4⟩ := un_tar h1
    obtain ⟨k3, _, _, k4⟩ := un_uint h3
    obtain ⟨k5, _, _, k6⟩ := un_uint k3
    obtain ⟨_, _, _, k8⟩ := un_uint k5
    simp only [List.append_assoc]
    rw [← h2, ← h4, ← k4, ← k6, ← k8]
  · rw [if_neg hd] at h ⊢
    rw [if_neg hd]
    dsimp only at h ⊢
    obtain ⟨h3, h4⟩ := un_tar h
    obtain ⟨k3, _, _, k4⟩ := un_uint h3
    obtain ⟨k5, _, _, k6⟩ := un_uint k3
    obtain ⟨_, _, _, k8⟩ := un_uint k5
    simp only [List.append_assoc, List.nil_append]
    rw [← h4, ← k4, ← k6, ← k8]
/-- Numbers that a writer takes, and a reader. -/
def NumOk (z : Int) : Prop := 0 ≤ z ∧ z ≤ 1099511627776
structure TarIo (t : Tar) : Prop where
  g : NumOk t.grp
  m : NumOk t.mode
  b : NumOk t.block
  l : t.ts.length ≤ 6
  ts : ∀ x ∈ t.ts, NumOk x.upto ∧ NumOk x.price
theorem tarIo_of {t : Tar} (h : chkE t = 0) : TarIo t := by
  obtain ⟨⟨h1, h2⟩, h3, h4, h5⟩ := chk_ok h
  refine ⟨⟨by omega, by omega⟩, ⟨by omega, by omega⟩, ⟨by omega, by omega⟩, h4.2, fun x hx => ?_⟩
  have a := good0_price h5 x hx
  have b := good_far t.ts 0 h5 x hx
  exact ⟨⟨a.2, by omega⟩, a.1.1, by omega⟩
theorem ck_num {z : Int} (h : NumOk z) (rest : List UInt8) : rdUint 1099511627776 (uintB z ++ rest) 0 = (z, rest, 0) := ck_uint h.1 (by have := h.2; omega) h.2 rest
theorem ck_ts (rest : List UInt8) : ∀ (ts : List Tr) (s : List Tr), (∀ x ∈ ts, NumOk x.upto ∧ NumOk x.price) → rdTs ⟨s, ts.flatMap tirB ++ rest, 0⟩ ts.length = ⟨s ++ ts, rest, 0⟩ := by
  have one : ∀ (n : Nat) (s : RdT), rdTs s (n + 1) = rdTs (rdTr s) n := by
    intro n
    induction n with
    | zero => intro s; rfl
    | succ n ih => intro s; show rdTr (rdTs s (n + 1)) = rdTr (rdTs (rdTr s) n); rw [ih]
  intro ts
  induction ts with
  | nil => intro s _; simp [rdTs]
  | cons t r ih =>
    intro s h
    have ht := h t (by simp)
    rw [List.length_cons, one]
    have e : rdTr ⟨s, (t :: r).flatMap tirB ++ rest, 0⟩ = ⟨s ++ [t], r.flatMap tirB ++ rest, 0⟩ := by
      simp only [rdTr, List.flatMap_cons, tirB, List.append_assoc, ck_num ht.1, ck_num ht.2]
    rw [e, ih (s ++ [t]) fun x hx => h x (by simp [hx])]
    simp
theorem ck_tar {t : Tar} (h : TarIo t) (rest : List UInt8) : rdTar (tarB t ++ rest) 0 = (t, rest, 0) := by
  have hl := h.l
  unfold rdTar tarB tarHd
  simp only [List.append_assoc, ck_num h.g, ck_num h.m, ck_num h.b]
  rw [ck_uint (n := (t.ts.length : Int)) (by omega) (by omega) (by omega)]
  simp only [Int.toNat_natCast]
  rw [ck_ts rest t.ts [] h.ts]
  rfl
theorem plan_io {p : Pl} (h : planE p = 0) : NumOk p.day ∧ NumOk p.frm ∧ NumOk p.til ∧ TarIo p.base ∧ (p.day ≠ 0 → TarIo p.other) ∧ (p.day = 0 → p.other = ⟨0, 0, 0, []⟩) := by
  obtain ⟨h1, h2⟩ := plan_ok h
  rcases h2 with ⟨a, b, c, d⟩ | ⟨a, b, c, d⟩
  · refine ⟨⟨by omega, by omega⟩, ⟨by omega, by omega⟩, ⟨by omega, by omega⟩, tarIo_of h1, fun k => absurd a k, fun _ => ?_⟩
    obtain ⟨d1, d2, d3, d4⟩ := d
    cases ho : p.other
    rw [ho] at d1 d2 d3 d4
    simp only at d1 d2 d3 d4
    rw [d1, d2, d3, d4]
  · obtain ⟨b1, b2, b3, b4⟩ := b
    exact ⟨⟨by omega, by omega⟩, ⟨by omega, by omega⟩, ⟨by omega, by omega⟩, tarIo_of h1, fun _ => tarIo_of c, fun k => absurd k a⟩
theorem ck_pl {p : Pl} (h : planE p = 0) : rdPl (planB p) = (p, [], 0) := by
  obtain ⟨h1, h2, h3, h4, h5, h6⟩ := plan_io h
  unfold rdPl planB planHd
  simp only [List.append_assoc, ck_num h1, ck_num h2, ck_num h3, ck_tar h4]
  by_cases hd : p.day ≠ 0
  · rw [if_pos hd, if_pos hd]
    have := ck_tar (h5 hd) []
    rw [List.append_nil] at this
    rw [this]
  · rw [if_neg hd, if_neg hd]
    rw [← h6 (Decidable.not_not.1 hd)]
theorem rd_back {p : Pl} (h : planE p = 0) : rdPlE (planB p) = 0 ∧ rdPlan (planB p) = p := by
  have e : rdPlE (planB p) = 0 := by
    unfold rdPlE
    rw [ck_pl h]
    simp [rdEnd, h]
  refine ⟨e, ?_⟩
  unfold rdPlan
  rw [if_pos e, ck_pl h]
theorem rd_ok {bs : List UInt8} (h : rdPlE bs = 0) : planE (rdPlan bs) = 0 ∧ bs = planB (rdPlan bs) ∧ rdPlan bs = (rdPl bs).1 := by
  have hp : rdPlan bs = (rdPl bs).1 := by unfold rdPlan; rw [if_pos h]
  unfold rdPlE at h
  split at h
  · cases h
  · rename_i hn
    obtain ⟨h1, h2⟩ := end_zero (Decidable.not_not.1 hn)
    have := un_pl h1
    rw [h2, List.append_nil] at this
    rw [hp]
    exact ⟨h, this, rfl⟩
end Go.Proofs.Ytkggnbabnfhcpaa
end
section
/- Requests and answers as bytes, in plain lists. No program in sight. -/
namespace Go.Proofs.Ytkggnbabnfhcpaa
/-- A part: how it is read, how it is written, and what is one. -/
structure Prt (α : Type) where
  rd : List UInt8 → Int → α × List UInt8 × Int
  enc : α → List UInt8
  ok : α → Prop
  dead : ∀ bs e, e ≠ 0 → (rd bs e).2 = (bs, e)
  un : ∀ bs e, (rd bs e).2.2 = 0 → e = 0 ∧ ok (rd bs e).1 ∧ bs = enc (rd bs e).1 ++ (rd bs e).2.1
  ck : ∀ v, ok v → ∀ rest, rd (enc v ++ rest) 0 = (v, rest, 0)
  len : ∀ bs e, (rd bs e).2.1.length ≤ bs.length
structure RdM (α : Type) where
  xs : List α
  bs : List UInt8
  e : Int
section
variable {α : Type} (P : Prt α)
def rdM (s : RdM α) : Nat → RdM α
  | 0 => s
  | n + 1 => ⟨(rdM s n).xs ++ [(P.rd (rdM s n).bs (rdM s n).e).1], (P.rd (rdM s n).bs (rdM s n).e).2.1, (P.rd (rdM s n).bs (rdM s n).e).2.2⟩
theorem rdM_len (s : RdM α) : ∀ n, (rdM P s n).xs.length = s.xs.length + n
  | 0 => rfl
  | n + 1 => by simp [rdM, rdM_len s n]; omega
theorem rdM_bs (s : RdM α) : ∀ n, (rdM P s n).bs.length ≤ s.bs.length
  | 0 => Nat.le_refl _
  | n + 1 => Nat.le_trans (P.len _ _) (rdM_bs s n)
theorem rdM_dead {s : RdM α} (h : s.e ≠ 0) : ∀ n, (rdM P s n).e = s.e ∧ (rdM P s n).bs = s.bs
  | 0 => ⟨rfl, rfl⟩
  | n + 1 => by
    obtain ⟨h1, h2⟩ := rdM_dead h n
    have := P.dead s.bs s.e h
    show (P.rd _ _).2.2 = _ ∧ (P.rd _ _).2.1 = _
    rw [h1, h2, this]
    exact ⟨rfl, rfl⟩
theorem rdM_add (s : RdM α) (i : Nat) : ∀ k, rdM P s (i + k) = rdM P (rdM P s i) k
  | 0 => rfl
  | k + 1 => by
    have ih := rdM_add s i k
    show (⟨(rdM P s (i + k)).xs ++ [(P.rd (rdM P s (i + k)).bs (rdM P s (i + k)).e).1], (P.rd (rdM P s (i + k)).bs (rdM P s (i + k)).e).2.1, (P.rd (rdM P s (i + k)).bs (rdM P s (i + k)).e).2.2⟩ : RdM α) = _
    rw [ih]
    rfl
theorem rdM_stop {s : RdM α} {i n : Nat} (hi : i ≤ n) (h : (rdM P s i).e ≠ 0) : (rdM P s n).e = (rdM P s i).e ∧ (rdM P s n).bs = (rdM P s i).bs := by
  have := rdM_add P s i (n - i)
  rw [show i + (n - i) = n by omega] at this
  rw [this]
  exact rdM_dead P h _
theorem rdM_un (s : RdM α) : ∀ n, (rdM P s n).e = 0 → s.e = 0 ∧ ∃ vs, (rdM P s n).xs = s.xs ++ vs ∧ vs.length = n ∧ (∀ v ∈ vs, P.ok v) ∧ s.bs = vs.flatMap P.enc ++ (rdM P s n).bs
  | 0, h => ⟨h, [], by simp [rdM], rfl, (fun v hv => by cases hv), by simp [rdM]⟩
  | n + 1, h => by
    obtain ⟨h1, h2, h3⟩ := P.un (rdM P s n).bs (rdM P s n).e h
    obtain ⟨h4, vs, h5, h6, h7, h8⟩ := rdM_un s n h1
    refine ⟨h4, vs ++ [(P.rd (rdM P s n).bs (rdM P s n).e).1], ?_, by simp [h6], fun v hv => ?_, ?_⟩
    · show (rdM P s n).xs ++ _ = _
      rw [h5, List.append_assoc]
    · rcases List.mem_append.1 hv with hv | hv
      · exact h7 v hv
      · rw [List.mem_singleton.1 hv]; exact h2
    · show _ = _ ++ (P.rd (rdM P s n).bs (rdM P s n).e).2.1
      rw [h8, List.flatMap_append, List.append_assoc]
      congr 1
      rw [h3]
      simp [← h3]
theorem rdM_ck (rest : List UInt8) : ∀ (vs xs : List α), (∀ v ∈ vs, P.ok v) → rdM P ⟨xs, vs.flatMap P.enc ++ rest, 0⟩ vs.length = ⟨xs ++ vs, rest, 0⟩ := by
  intro vs xs h
  have key : ∀ n, n ≤ vs.length → rdM P ⟨xs, vs.flatMap P.enc ++ rest, 0⟩ n = ⟨xs ++ vs.take n, (vs.drop n).flatMap P.enc ++ rest, 0⟩ := by
    intro n
    induction n with
    | zero => intro _; simp [rdM]
    | succ n ih =>
      intro hn
      have hlt : n < vs.length := by omega
      have e1 : (vs.drop n).flatMap P.enc ++ rest = P.enc vs[n] ++ ((vs.drop (n + 1)).flatMap P.enc ++ rest) := by
        rw [List.drop_eq_getElem_cons hlt, List.flatMap_cons, List.append_assoc]
      have e2 := P.ck vs[n] (h _ (List.getElem_mem hlt)) ((vs.drop (n + 1)).flatMap P.enc ++ rest)
      show (⟨_, _, _⟩ : RdM α) = _
      rw [ih (by omega)]
      dsimp only
      rw [e1, e2]
      dsimp only
      rw [List.take_add_one, List.getElem?_eq_getElem hlt, List.append_assoc]
      rfl
  have := key vs.length (Nat.le_refl _)
  rw [List.take_length, List.drop_length] at this
  rw [this]
  simp
end
def wfar : Int := 4611686018427387904
theorem wfar_eq : wfar = 4611686018427387904 := rfl
/-- Numbers of a bound. -/
def pNum (most : Int) (h : most ≤ 9223372036854775807) : Prt Int :=
  ⟨rdUint most, uintB, fun z => 0 ≤ z ∧ z ≤ most, fun bs e he => by rw [dead_uint he], fun bs e he => by obtain ⟨h1, h2, h3, h4⟩ := un_uint he; exact ⟨h1, ⟨h2, h3⟩, h4⟩, fun v hv rest => ck_uint hv.1 (by omega) hv.2 rest, fun bs e => rdLenU _ _ _⟩
abbrev pFar : Prt Int := pNum wfar (by decide)
/-- So many parts, told by a count ahead. -/
def pList {α : Type} (P : Prt α) (most : Int) (h : most ≤ 1000000) (h0 : 0 ≤ most) : Prt (List α) where
  rd := fun bs e => ((rdM P ⟨[], (rdUint most bs e).2.1, (rdUint most bs e).2.2⟩ (rdUint most bs e).1.toNat).xs, (rdM P ⟨[], (rdUint most bs e).2.1, (rdUint most bs e).2.2⟩ (rdUint most bs e).1.toNat).bs, (rdM P ⟨[], (rdUint most bs e).2.1, (rdUint most bs e).2.2⟩ (rdUint most bs e).1.toNat).e)
  enc := fun xs => uintB (xs.length : Int) ++ xs.flatMap P.enc
  ok := fun xs => (xs.length : Int) ≤ most ∧ ∀ x ∈ xs, P.ok x
  dead := fun bs e he => by rw [dead_uint he]; obtain ⟨h1, h2⟩ := rdM_dead P (s := ⟨[], bs, e⟩) he (0 : Int).toNat; rfl
  un := fun bs e he => by
    obtain ⟨h1, vs, h2, h3, h4, h5⟩ := rdM_un P _ _ he
    dsimp only at h1 h2 h5
    obtain ⟨k1, k2, k3, k4⟩ := un_uint h1
    rw [List.nil_append] at h2
    dsimp only
    rw [h2]
    refine ⟨k1, ⟨by omega, h4⟩, ?_⟩
    rw [h3, Int.toNat_of_nonneg k2, List.append_assoc, ← h5, ← k4]
  ck := fun v hv rest => by
    rw [List.append_assoc, ck_uint (by omega) (by omega) hv.1]
    dsimp only
    rw [Int.toNat_natCast, rdM_ck P rest v [] hv.2]
    rfl
  len := fun bs e => Nat.le_trans (rdM_bs P _ _) (rdLenU _ _ _)
structure It where
  g : Int
  u : Int
  w : Int
deriving DecidableEq
def inFar (z : Int) : Prop := 0 ≤ z ∧ z ≤ wfar
instance (z : Int) : Decidable (inFar z) := by unfold inFar; infer_instance
theorem far64 {z : Int} (h : inFar z) : z ≤ 9223372036854775807 := Int.le_trans h.2 (by decide)
/-- The numbers of an item that a kind has, by their places. -/
def itO (k : Int) : List Nat := if k = 1 then [0, 2] else if k = 2 then [0, 1, 2] else [0, 1]
def pI1 : Prt It where
  rd := fun bs e => (⟨(rdUint wfar bs e).1, 0, (rdUint wfar (rdUint wfar bs e).2.1 (rdUint wfar bs e).2.2).1⟩, (rdUint wfar (rdUint wfar bs e).2.1 (rdUint wfar bs e).2.2).2)
  enc := fun x => uintB x.g ++ uintB x.w
  ok := fun x => inFar x.g ∧ x.u = 0 ∧ inFar x.w
  dead := fun bs e he => by simp only [dead_uint he]
  un := fun bs e he => by
    obtain ⟨h1, h2, h3, h4⟩ := un_uint he
    obtain ⟨k1, k2, k3, k4⟩ := un_uint h1
    exact ⟨k1, ⟨⟨k2, k3⟩, rfl, h2, h3⟩, by dsimp only; rw [List.append_assoc, ← h4, ← k4]⟩
  ck := fun v hv rest => by
    obtain ⟨g, u, w⟩ := v
    obtain ⟨h1, h2, h3⟩ := hv
    have h2 : u = 0 := h2
    subst h2
    rw [List.append_assoc, ck_uint h1.1 (far64 h1) h1.2, ck_uint h3.1 (far64 h3) h3.2]
  len := fun bs e => Nat.le_trans (rdLenU _ _ _) (rdLenU _ _ _)
def pI2 : Prt It where
  rd := fun bs e => (⟨(rdUint wfar bs e).1, (rdUint wfar (rdUint wfar bs e).2.1 (rdUint wfar bs e).2.2).1, (rdUint wfar (rdUint wfar (rdUint wfar bs e).2.1 (rdUint wfar bs e).2.2).2.1 (rdUint wfar (rdUint wfar bs e).2.1 (rdUint wfar bs e).2.2).2.2).1⟩, (rdUint wfar (rdUint wfar (rdUint wfar bs e).2.1 (rdUint wfar bs e).2.2).2.1 (rdUint wfar (rdUint wfar bs e).2.1 (rdUint wfar bs e).2.2).2.2).2)
  enc := fun x => uintB x.g ++ (uintB x.u ++ uintB x.w)
  ok := fun x => inFar x.g ∧ inFar x.u ∧ inFar x.w
  dead := fun bs e he => by simp only [dead_uint he]
  un := fun bs e he => by
    obtain ⟨h1, h2, h3, h4⟩ := un_uint he
    obtain ⟨k1, k2, k3, k4⟩ := un_uint h1
    obtain ⟨l1, l2, l3, l4⟩ := un_uint k1
    exact ⟨l1, ⟨⟨l2, l3⟩, ⟨k2, k3⟩, h2, h3⟩, by dsimp only; rw [List.append_assoc, List.append_assoc, ← h4, ← k4, ← l4]⟩
  ck := fun v hv rest => by
    obtain ⟨h1, h2, h3⟩ := hv
    rw [List.append_assoc, List.append_assoc, ck_uint h1.1 (far64 h1) h1.2, ck_uint h2.1 (far64 h2) h2.2, ck_uint h3.1 (far64 h3) h3.2]
  len := fun bs e => Nat.le_trans (rdLenU _ _ _) (Nat.le_trans (rdLenU _ _ _) (rdLenU _ _ _))
def pI3 : Prt It where
  rd := fun bs e => (⟨(rdUint wfar bs e).1, (rdUint wfar (rdUint wfar bs e).2.1 (rdUint wfar bs e).2.2).1, 0⟩, (rdUint wfar (rdUint wfar bs e).2.1 (rdUint wfar bs e).2.2).2)
  enc := fun x => uintB x.g ++ uintB x.u
  ok := fun x => inFar x.g ∧ inFar x.u ∧ x.w = 0
  dead := fun bs e he => by simp only [dead_uint he]
  un := fun bs e he => by
    obtain ⟨h1, h2, h3, h4⟩ := un_uint he
    obtain ⟨k1, k2, k3, k4⟩ := un_uint h1
    exact ⟨k1, ⟨⟨k2, k3⟩, ⟨h2, h3⟩, rfl⟩, by dsimp only; rw [List.append_assoc, ← h4, ← k4]⟩
  ck := fun v hv rest => by
    obtain ⟨g, u, w⟩ := v
    obtain ⟨h1, h3, h2⟩ := hv
    have h2 : w = 0 := h2
    subst h2
    rw [List.append_assoc, ck_uint h1.1 (far64 h1) h1.2, ck_uint h3.1 (far64 h3) h3.2]
  len := fun bs e => Nat.le_trans (rdLenU _ _ _) (rdLenU _ _ _)
def pIt (k : Int) : Prt It := if k = 1 then pI1 else if k = 2 then pI2 else pI3
structure Gn where
  g : Int
  u : Int
  a : Int
  f : Bool
deriving DecidableEq
def pGn : Prt Gn where
  rd := fun bs e => (⟨(pI2.rd bs e).1.g, (pI2.rd bs e).1.u, (pI2.rd bs e).1.w, (rdFlag (pI2.rd bs e).2.1 (pI2.rd bs e).2.2).1⟩, (rdFlag (pI2.rd bs e).2.1 (pI2.rd bs e).2.2).2)
  enc := fun x => pI2.enc ⟨x.g, x.u, x.a⟩ ++ flagB x.f
  ok := fun x => inFar x.g ∧ inFar x.u ∧ inFar x.a
  dead := fun bs e he => by simp only [pI2.dead bs e he, dead_flag he]
  un := fun bs e he => by
    obtain ⟨h1, h2⟩ := un_flag he
    obtain ⟨k1, k2, k3⟩ := pI2.un _ _ h1
    exact ⟨k1, k2, by dsimp only; rw [List.append_assoc, ← h2]; exact k3⟩
  ck := fun v hv rest => by
    have := pI2.ck ⟨v.g, v.u, v.a⟩ hv (flagB v.f ++ rest)
    rw [List.append_assoc, this]
    dsimp only
    rw [ck_flag]
  len := fun bs e => Nat.le_trans flag_len (pI2.len bs e)
/-- A request. -/
structure Rq where
  k : Int
  ns : Nat → Int
  items : List It
  plan : Pl
  carry : List Int
def numsO (k : Int) : List Nat := if k = 1 then [1, 3] else if k = 2 ∨ k = 3 then [1, 2] else if k = 4 then [2, 3, 4, 5] else if k = 5 then [2, 6] else if k = 6 then [3, 7, 8] else if k = 7 then [3, 7] else if k = 8 ∨ k = 13 ∨ k = 9 then [3] else if k = 10 then [3, 10] else if k = 14 then [3, 11] else []
def itOnly (k : Int) (x : It) : It := if k = 1 then ⟨x.g, 0, x.w⟩ else if k = 2 then x else ⟨x.g, x.u, 0⟩
def pItems (k : Int) : Prt (List It) := pList (pIt k) 4 (by decide) (by decide)
def pCarry : Prt (List Int) := pList pFar 32 (by decide) (by decide)
def limOk (z : Int) : Prop := -1 ≤ z ∧ z ≤ wfar
instance (z : Int) : Decidable (limOk z) := by unfold limOk; infer_instance
def hasLim (k : Int) : Prop := k = 6 ∨ k = 9
instance (k : Int) : Decidable (hasLim k) := by unfold hasLim; infer_instance
structure RestOk (q : Rq) : Prop where
  items : q.k ≤ 3 → (pItems q.k).ok (q.items.map (itOnly q.k))
  lim : hasLim q.k → limOk (q.ns 9)
  plan : q.k = 11 → planE q.plan = 0
  carry : q.k = 12 → pCarry.ok q.carry
structure AskOk (q : Rq) : Prop where
  kind : 1 ≤ q.k ∧ q.k ≤ 14
  nums : ∀ o ∈ numsO q.k, inFar (q.ns o)
  rest : RestOk q
def restB (q : Rq) : List UInt8 := if q.k ≤ 3 then (pItems q.k).enc q.items else if hasLim q.k then intB (q.ns 9) else if q.k = 11 then textB (planB q.plan) else if q.k = 12 then pCarry.enc q.carry else []
def rqHeadB (q : Rq) : List UInt8 := (numsO q.k).flatMap fun o => uintB (q.ns o)
def askB (q : Rq) : List UInt8 := uintB q.k ++ (rqHeadB q ++ restB q)
def nsOf : List Nat → List Int → Nat → Int
  | o' :: os, x :: xs, o => if o = o' then x else nsOf os xs o
  | _, _, _ => 0
def nsL (k : Int) (xs : List Int) (lim : Int) (o : Nat) : Int := if o = 9 ∧ hasLim k then lim else nsOf (numsO k) xs o
def only (q : Rq) : Rq := ⟨q.k, nsL q.k ((numsO q.k).map q.ns) (q.ns 9), if q.k ≤ 3 then q.items.map (itOnly q.k) else [], if q.k = 11 then q.plan else zeroPl, if q.k = 12 then q.carry else []⟩
structure RestR where
  items : List It
  lim : Int
  plan : Pl
  carry : List Int
  bad : Bool
  bs : List UInt8
  e : Int
def rdRest (k : Int) (bs : List UInt8) (e : Int) : RestR :=
  if k ≤ 3 then ⟨((pItems k).rd bs e).1, 0, zeroPl, [], false, ((pItems k).rd bs e).2.1, ((pItems k).rd bs e).2.2⟩
  else if hasLim k then ⟨[], (rdInt bs e).1, zeroPl, [], decide (¬ limOk (rdInt bs e).1), (rdInt bs e).2.1, (rdInt bs e).2.2⟩
  else if k = 11 then ⟨[], 0, rdPlan (rdText 1024 bs e).1, [], decide (rdPlE (rdText 1024 bs e).1 ≠ 0), (rdText 1024 bs e).2.1, (rdText 1024 bs e).2.2⟩
  else if k = 12 then ⟨[], 0, zeroPl, (pCarry.rd bs e).1, false, (pCarry.rd bs e).2.1, (pCarry.rd bs e).2.2⟩
  else ⟨[], 0, zeroPl, [], false, bs, e⟩
def rdHead (bs : List UInt8) : RdM Int := rdM pFar ⟨[], (rdUint wfar bs 0).2.1, (rdUint wfar bs 0).2.2⟩ (numsO (rdUint wfar bs 0).1).length
def rdTail (bs : List UInt8) : RestR := rdRest (rdUint wfar bs 0).1 (rdHead bs).bs (rdHead bs).e
def reqOk (bs : List UInt8) : Prop := (1 ≤ (rdUint wfar bs 0).1 ∧ (rdUint wfar bs 0).1 ≤ 14) ∧ (rdTail bs).bad = false ∧ rdEnd (rdTail bs).bs (rdTail bs).e = 0
instance (bs : List UInt8) : Decidable (reqOk bs) := by unfold reqOk; infer_instance
def reqOf (bs : List UInt8) : Rq := ⟨(rdUint wfar bs 0).1, nsL (rdUint wfar bs 0).1 (rdHead bs).xs (rdTail bs).lim, (rdTail bs).items, (rdTail bs).plan, (rdTail bs).carry⟩
def zeroRq : Rq := ⟨0, fun _ => 0, [], zeroPl, []⟩
def rdReq (bs : List UInt8) : Rq := if reqOk bs then reqOf bs else zeroRq
theorem nums_lim (k : Int) : 9 ∉ numsO k := by
  unfold numsO
  repeat' split
  all_goals simp
theorem nums_nodup (k : Int) : (numsO k).Nodup := by
  unfold numsO
  repeat' split
  all_goals decide
theorem nsOf_map (f : Nat → Int) : ∀ (os : List Nat) (o : Nat), o ∈ os → nsOf os (os.map f) o = f o
  | o' :: os, o, h => by
    show (if o = o' then f o' else nsOf os (os.map f) o) = f o
    split
    · rename_i e; rw [e]
    · rename_i e
      exact nsOf_map f os o ((List.mem_cons.1 h).resolve_left e)
theorem map_nsOf : ∀ (os : List Nat) (xs : List Int), os.Nodup → xs.length = os.length → os.map (nsOf os xs) = xs
  | [], [], _, _ => rfl
  | [], x :: xs, _, h => by cases h
  | o :: os, [], _, h => by cases h
  | o :: os, x :: xs, hn, h => by
    rw [List.nodup_cons] at hn
    have ih := map_nsOf os xs hn.2 (by simpa using h)
    rw [List.map_cons]
    have e1 : nsOf (o :: os) (x :: xs) o = x := by show (if o = o then x else _) = x; rw [if_pos rfl]
    have e2 : os.map (nsOf (o :: os) (x :: xs)) = os.map (nsOf os xs) := List.map_congr_left fun y hy => by
      show (if y = o then x else nsOf os xs y) = _
      rw [if_neg (fun e : y = o => hn.1 (e ▸ hy))]
    rw [e1, e2, ih]
theorem nums_nsL (k : Int) (xs : List Int) (lim : Int) (h : xs.length = (numsO k).length) : (numsO k).map (nsL k xs lim) = xs := by
  have e : (numsO k).map (nsL k xs lim) = (numsO k).map (nsOf (numsO k) xs) := List.map_congr_left fun o ho => by
    unfold nsL
    rw [if_neg (fun e : o = 9 ∧ hasLim k => nums_lim k (e.1 ▸ ho))]
  rw [e, map_nsOf _ _ (nums_nodup k) h]
theorem itOnly_ok {k : Int} {x : It} (h : (pIt k).ok x) : itOnly k x = x := by
  unfold pIt at h
  unfold itOnly
  split at h
  · rename_i e
    rw [if_pos e]
    cases x; obtain ⟨_, h2, _⟩ := h; cases h2; rfl
  · rename_i e
    rw [if_neg e]
    split at h
    · rename_i e2; rw [if_pos e2]
    · rename_i e2
      rw [if_neg e2]
      cases x; obtain ⟨_, _, h2⟩ := h; cases h2; rfl
theorem itOnly_enc (k : Int) (x : It) : (pIt k).enc (itOnly k x) = (pIt k).enc x := by
  unfold pIt itOnly
  split
  · rfl
  · split <;> rfl
theorem items_only {k : Int} {xs : List It} (h : ∀ x ∈ xs, (pIt k).ok x) : xs.map (itOnly k) = xs := by
  have : xs.map (itOnly k) = xs.map id := List.map_congr_left fun x hx => itOnly_ok (h x hx)
  rw [this, List.map_id]
theorem items_enc (k : Int) (xs : List It) : (pItems k).enc (xs.map (itOnly k)) = (pItems k).enc xs := by
  show uintB ((xs.map (itOnly k)).length : Int) ++ (xs.map (itOnly k)).flatMap (pIt k).enc = uintB (xs.length : Int) ++ xs.flatMap (pIt k).enc
  rw [List.length_map, List.flatMap_map]
  congr 2
  funext x
  exact itOnly_enc k x
theorem restB_items {q : Rq} (h : q.k ≤ 3) : restB q = (pItems q.k).enc q.items := by unfold restB; rw [if_pos h]
theorem restB_lim {q : Rq} (h : hasLim q.k) : restB q = intB (q.ns 9) := by unfold restB; rw [if_neg (by unfold hasLim at h; omega), if_pos h]
theorem restB_plan {q : Rq} (h : q.k = 11) : restB q = textB (planB q.plan) := by unfold restB; rw [if_neg (by omega), if_neg (by unfold hasLim; omega), if_pos h]
theorem restB_carry {q : Rq} (h : q.k = 12) : restB q = pCarry.enc q.carry := by unfold restB; rw [if_neg (by omega), if_neg (by unfold hasLim; omega), if_neg (by omega), if_pos h]
theorem restB_none {q : Rq} (h1 : ¬ q.k ≤ 3) (h2 : ¬ hasLim q.k) (h3 : q.k ≠ 11) (h4 : q.k ≠ 12) : restB q = [] := by unfold restB; rw [if_neg h1, if_neg h2, if_neg h3, if_neg h4]
theorem rdRest_items {k : Int} (h : k ≤ 3) (bs : List UInt8) (e : Int) : rdRest k bs e = ⟨((pItems k).rd bs e).1, 0, zeroPl, [], false, ((pItems k).rd bs e).2.1, ((pItems k).rd bs e).2.2⟩ := by unfold rdRest; rw [if_pos h]
theorem rdRest_lim {k : Int} (h : hasLim k) (bs : List UInt8) (e : Int) : rdRest k bs e = ⟨[], (rdInt bs e).1, zeroPl, [], decide (¬ limOk (rdInt bs e).1), (rdInt bs e).2.1, (rdInt bs e).2.2⟩ := by unfold rdRest; rw [if_neg (by unfold hasLim at h; omega), if_pos h]
theorem rdRest_plan {k : Int} (h : k = 11) (bs : List UInt8) (e : Int) : rdRest k bs e = ⟨[], 0, rdPlan (rdText 1024 bs e).1, [], decide (rdPlE (rdText 1024 bs e).1 ≠ 0), (rdText 1024 bs e).2.1, (rdText 1024 bs e).2.2⟩ := by unfold rdRest; rw [if_neg (by omega), if_neg (by unfold hasLim; omega), if_pos h]
theorem rdRest_carry {k : Int} (h : k = 12) (bs : List UInt8) (e : Int) : rdRest k bs e = ⟨[], 0, zeroPl, (pCarry.rd bs e).1, false, (pCarry.rd bs e).2.1, (pCarry.rd bs e).2.2⟩ := by unfold rdRest; rw [if_neg (by omega), if_neg (by unfold hasLim; omega), if_neg (by omega), if_pos h]
theorem rdRest_none {k : Int} (h1 : ¬ k ≤ 3) (h2 : ¬ hasLim k) (h3 : k ≠ 11) (h4 : k ≠ 12) (bs : List UInt8) (e : Int) : rdRest k bs e = ⟨[], 0, zeroPl, [], false, bs, e⟩ := by unfold rdRest; rw [if_neg h1, if_neg h2, if_neg h3, if_neg h4]
theorem un_rest {k : Int} {bs : List UInt8} {e : Int} (hb : (rdRest k bs e).bad = false) (he : rdEnd (rdRest k bs e).bs (rdRest k bs e).e = 0) :
    e = 0 ∧ ∀ q : Rq, q.k = k → q.items = (rdRest k bs e).items → (hasLim k → q.ns 9 = (rdRest k bs e).lim) → q.plan = (rdRest k bs e).plan → q.carry = (rdRest k bs e).carry → RestOk q ∧ bs = restB q := by
  obtain ⟨e0, hr⟩ := end_zero he
  by_cases c1 : k ≤ 3
  · rw [rdRest_items c1] at e0 hr ⊢
    dsimp only at e0 hr ⊢
    obtain ⟨h1, h2, h3⟩ := (pItems k).un _ _ e0
    rw [hr, List.append_nil] at h3
    refine ⟨h1, fun q fk fi _ _ _ => ?_⟩
    subst fk
    rw [restB_items c1, fi]
    exact ⟨⟨fun _ => by rw [fi, items_only h2.2]; exact h2, fun c => by unfold hasLim at c; omega, fun c => by omega, fun c => by omega⟩, h3⟩
  by_cases c2 : hasLim k
  · rw [rdRest_lim c2] at e0 hr hb ⊢
    dsimp only at e0 hr hb ⊢
    obtain ⟨h1, h2⟩ := un_int e0
    rw [hr, List.append_nil] at h2
    have hl : limOk (rdInt bs e).1 := by simpa using hb
    refine ⟨h1, fun q fk _ fl _ _ => ?_⟩
    subst fk
    rw [restB_lim c2, fl c2]
    exact ⟨⟨fun c => absurd c c1, fun _ => by rw [fl c2]; exact hl, fun c => by unfold hasLim at c2; omega, fun c => by unfold hasLim at c2; omega⟩, h2⟩
  by_cases c3 : k = 11
  · rw [rdRest_plan c3] at e0 hr hb ⊢
    dsimp only at e0 hr hb ⊢
    obtain ⟨h1, h2, h3⟩ := un_text e0
    rw [hr, List.append_nil] at h3
    have hp : rdPlE (rdText 1024 bs e).1 = 0 := by simpa using hb
    obtain ⟨p1, p2, _⟩ := rd_ok hp
    refine ⟨h1, fun q fk _ _ fp _ => ?_⟩
    subst fk
    rw [restB_plan c3, fp, ← p2]
    exact ⟨⟨fun c => absurd c c1, fun c => absurd c c2, fun _ => by rw [fp]; exact p1, fun c => by omega⟩, h3⟩
  by_cases c4 : k = 12
  · rw [rdRest_carry c4] at e0 hr ⊢
    dsimp only at e0 hr ⊢
    obtain ⟨h1, h2, h3⟩ := pCarry.un _ _ e0
    rw [hr, List.append_nil] at h3
    refine ⟨h1, fun q fk _ _ _ fc => ?_⟩
    subst fk
    rw [restB_carry c4, fc]
    exact ⟨⟨fun c => absurd c c1, fun c => absurd c c2, fun c => absurd c c3, fun _ => by rw [fc]; exact h2⟩, h3⟩
  · rw [rdRest_none c1 c2 c3 c4] at e0 hr ⊢
    dsimp only at e0 hr ⊢
    refine ⟨e0, fun q fk _ _ _ _ => ?_⟩
    subst fk
    rw [restB_none c1 c2 c3 c4]
    exact ⟨⟨fun c => absurd c c1, fun c => absurd c c2, fun c => absurd c c3, fun c => absurd c c4⟩, hr⟩
theorem un_req {bs : List UInt8} (h : reqOk bs) : AskOk (reqOf bs) ∧ askB (reqOf bs) = bs := by
  obtain ⟨hk, hb, he⟩ := h
  have hT : (rdHead bs).e = 0 ∧ RestOk (reqOf bs) ∧ (rdHead bs).bs = restB (reqOf bs) := by
    obtain ⟨h1, h2⟩ := un_rest hb he
    exact ⟨h1, h2 (reqOf bs) rfl rfl (fun c => by show nsL _ _ _ 9 = _; unfold nsL; rw [if_pos ⟨rfl, c⟩]; rfl) rfl rfl⟩
  obtain ⟨h1, h2, h3⟩ := hT
  obtain ⟨k1, vs, k2, k3, k4, k5⟩ := rdM_un pFar _ _ h1
  dsimp only at k1 k2 k5
  rw [List.nil_append] at k2
  obtain ⟨l1, l2, l3, l4⟩ := un_uint k1
  have hn : (numsO (reqOf bs).k).map (reqOf bs).ns = vs := by
    show (numsO (rdUint wfar bs 0).1).map (nsL (rdUint wfar bs 0).1 (rdHead bs).xs (rdTail bs).lim) = vs
    have e : (rdHead bs).xs = vs := k2
    rw [e]
    exact nums_nsL _ _ _ k3
  refine ⟨⟨hk, fun o ho => k4 _ (by rw [← hn]; exact List.mem_map_of_mem ho), h2⟩, ?_⟩
  unfold askB rqHeadB
  rw [← h3]
  have : (numsO (reqOf bs).k).flatMap (fun o => uintB ((reqOf bs).ns o)) = vs.flatMap uintB := by rw [← hn, List.flatMap_map]
  rw [this]
  show uintB (rdUint wfar bs 0).1 ++ (vs.flatMap uintB ++ (rdHead bs).bs) = bs
  have k5 : (rdUint wfar bs 0).2.1 = vs.flatMap uintB ++ (rdHead bs).bs := k5
  rw [← k5, ← l4]
theorem ck_rest {q : Rq} (h : RestOk q) (hp : q.k = 11 → (planB q.plan).length ≤ 1024) : rdRest q.k (restB q) 0 = ⟨(only q).items, if hasLim q.k then q.ns 9 else 0, (only q).plan, (only q).carry, false, [], 0⟩ := by
  unfold only
  dsimp only
  by_cases c1 : q.k ≤ 3
  · have := (pItems q.k).ck _ (h.items c1) []
    rw [items_enc, List.append_nil] at this
    rw [rdRest_items c1, restB_items c1, this, if_pos c1, if_neg (by unfold hasLim; omega), if_neg (by omega), if_neg (by omega)]
  by_cases c2 : hasLim q.k
  · have hl := h.lim c2
    have := ck_int (n := q.ns 9) (by have := hl.1; omega) (Int.le_trans hl.2 (by decide)) []
    rw [List.append_nil] at this
    rw [rdRest_lim c2, restB_lim c2, this, if_neg c1, if_pos c2, if_neg (by unfold hasLim at c2; omega), if_neg (by unfold hasLim at c2; omega)]
    simp [hl]
  by_cases c3 : q.k = 11
  · have := ck_text (ts := planB q.plan) (most := 1024) (by have := hp c3; omega) (by have := hp c3; omega) []
    rw [List.append_nil] at this
    obtain ⟨h1, h2⟩ := rd_back (h.plan c3)
    rw [rdRest_plan c3, restB_plan c3, this, if_neg c1, if_neg c2, if_pos c3, if_neg (by omega)]
    dsimp only
    rw [h1, h2]
    rfl
  by_cases c4 : q.k = 12
  · have := pCarry.ck _ (h.carry c4) []
    rw [List.append_nil] at this
    rw [rdRest_carry c4, restB_carry c4, this, if_neg c1, if_neg c2, if_neg c3, if_pos c4]
  · rw [rdRest_none c1 c2 c3 c4, restB_none c1 c2 c3 c4, if_neg c1, if_neg c2, if_neg c3, if_neg c4]
theorem ck_req {q : Rq} (h : AskOk q) (hp : q.k = 11 → (planB q.plan).length ≤ 1024) : reqOk (askB q) ∧ reqOf (askB q) = only q := by
  have hk := h.kind
  have e1 : rdUint wfar (askB q) 0 = (q.k, rqHeadB q ++ restB q, 0) := ck_uint (by omega) (by omega) (by unfold wfar; omega) _
  have e2 : rdHead (askB q) = ⟨(numsO q.k).map q.ns, restB q, 0⟩ := by
    unfold rdHead
    rw [e1]
    dsimp only
    have := rdM_ck pFar (restB q) ((numsO q.k).map q.ns) [] (fun v hv => by obtain ⟨o, ho, rfl⟩ := List.mem_map.1 hv; exact h.nums o ho)
    rw [List.length_map, List.flatMap_map] at this
    exact this
  have e3 : rdTail (askB q) = ⟨(only q).items, if hasLim q.k then q.ns 9 else 0, (only q).plan, (only q).carry, false, [], 0⟩ := by
    unfold rdTail
    rw [e1, e2]
    exact ck_rest h.rest hp
  refine ⟨⟨by rw [e1]; exact hk, by rw [e3], by rw [e3]; rfl⟩, ?_⟩
  unfold reqOf
  rw [e1, e2, e3]
  dsimp only
  show (⟨q.k, nsL q.k ((numsO q.k).map q.ns) (if hasLim q.k then q.ns 9 else 0), _, _, _⟩ : Rq) = ⟨q.k, nsL q.k ((numsO q.k).map q.ns) (q.ns 9), _, _, _⟩
  have : nsL q.k ((numsO q.k).map q.ns) (if hasLim q.k then q.ns 9 else 0) = nsL q.k ((numsO q.k).map q.ns) (q.ns 9) := by
    funext o
    unfold nsL
    by_cases c : hasLim q.k
    · rw [if_pos c]
    · rw [if_neg (fun e => c e.2), if_neg (fun e => c e.2)]
  rw [this]
  rfl
end Go.Proofs.Ytkggnbabnfhcpaa
end
section
/- Answers as bytes, in plain lists. No program in sight. -/
namespace Go.Proofs.Ytkggnbabnfhcpaa
structure An where
  k : Int
  e : Int
  gs : List Gn
  ns : Nat → Int
  inv : List UInt8
def hasGr (k : Int) : Prop := k = 1 ∨ k = 2
instance (k : Int) : Decidable (hasGr k) := by unfold hasGr; infer_instance
def ansO (k : Int) : List Nat := if hasGr k then [3, 4] else if k = 3 ∨ k = 4 ∨ k = 5 then [4] else if k = 12 then [5] else if k = 13 then [7, 8, 9, 10, 11, 6] else []
theorem ans_nodup (k : Int) : (ansO k).Nodup := by
  unfold ansO
  repeat' split
  all_goals decide
def pGrants : Prt (List Gn) := pList pGn 4 (by decide) (by decide)
def grB (k : Int) (gs : List Gn) : List UInt8 := if hasGr k then pGrants.enc gs else []
def invB (k : Int) (inv : List UInt8) : List UInt8 := if k = 14 then textB inv else []
def numB (a : An) : List UInt8 := (ansO a.k).flatMap fun o => uintB (a.ns o)
def bodyA (a : An) : List UInt8 := grB a.k a.gs ++ (numB a ++ invB a.k a.inv)
def tellB (a : An) : List UInt8 := uintB a.k ++ (uintB a.e ++ if a.e = 0 then bodyA a else [])
structure BodyOk (a : An) : Prop where
  grants : hasGr a.k → pGrants.ok a.gs
  nums : ∀ o ∈ ansO a.k, inFar (a.ns o)
  inv : a.k = 14 → a.inv.length ≤ 65536
structure TellOk (a : An) : Prop where
  kind : 0 ≤ a.k ∧ a.k ≤ 14
  err : 0 ≤ a.e ∧ a.e ≤ 255
  body : a.e = 0 → BodyOk a
structure BdR where
  gs : List Gn
  xs : List Int
  inv : List UInt8
  bs : List UInt8
  e : Int
def rdGr (k : Int) (bs : List UInt8) (e : Int) : List Gn × List UInt8 × Int := if hasGr k then pGrants.rd bs e else ([], bs, e)
def rdInv (k : Int) (bs : List UInt8) (e : Int) : List UInt8 × List UInt8 × Int := if k = 14 then rdText 65536 bs e else ([], bs, e)
def rdNs (k : Int) (bs : List UInt8) (e : Int) : RdM Int := rdM pFar ⟨[], (rdGr k bs e).2.1, (rdGr k bs e).2.2⟩ (ansO k).length
def rdBody (k : Int) (bs : List UInt8) (e : Int) : BdR := ⟨(rdGr k bs e).1, (rdNs k bs e).xs, (rdInv k (rdNs k bs e).bs (rdNs k bs e).e).1, (rdInv k (rdNs k bs e).bs (rdNs k bs e).e).2.1, (rdInv k (rdNs k bs e).bs (rdNs k bs e).e).2.2⟩
def ansK (bs : List UInt8) : Int := (rdUint 14 bs 0).1
def ansE (bs : List UInt8) : Int := (rdUint 255 (rdUint 14 bs 0).2.1 (rdUint 14 bs 0).2.2).1
def ans2 (bs : List UInt8) : List UInt8 × Int := (rdUint 255 (rdUint 14 bs 0).2.1 (rdUint 14 bs 0).2.2).2
def rdAns (bs : List UInt8) : BdR := if ansE bs = 0 then rdBody (ansK bs) (ans2 bs).1 (ans2 bs).2 else ⟨[], [], [], (ans2 bs).1, (ans2 bs).2⟩
def ansOk (bs : List UInt8) : Prop := rdEnd (rdAns bs).bs (rdAns bs).e = 0
instance (bs : List UInt8) : Decidable (ansOk bs) := by unfold ansOk; infer_instance
def ansOf (bs : List UInt8) : An := ⟨ansK bs, ansE bs, (rdAns bs).gs, nsOf (ansO (ansK bs)) (rdAns bs).xs, (rdAns bs).inv⟩
def zeroAn : An := ⟨0, 0, [], fun _ => 0, []⟩
def rdTold (bs : List UInt8) : An := if ansOk bs then ansOf bs else zeroAn
theorem un_body {k : Int} {bs : List UInt8} {e : Int} (he : (rdBody k bs e).e = 0) : e = 0 ∧ ∀ a : An, a.k = k → a.gs = (rdBody k bs e).gs → a.ns = nsOf (ansO k) (rdBody k bs e).xs → a.inv = (rdBody k bs e).inv → BodyOk a ∧ bs = bodyA a ++ (rdBody k bs e).bs := by
  have h1 : (rdNs k bs e).e = 0 ∧ (k = 14 → (rdBody k bs e).inv.length ≤ 65536) ∧ (rdNs k bs e).bs = invB k (rdBody k bs e).inv ++ (rdBody k bs e).bs := by
    unfold rdBody at he ⊢
    dsimp only at he ⊢
    unfold rdInv invB at *
    by_cases c : k = 14
    · rw [if_pos c] at he ⊢
      rw [if_pos c]
      obtain ⟨h1, h2, h3⟩ := un_text he
      exact ⟨h1, fun _ => by omega, h3⟩
    · rw [if_neg c] at he ⊢
      rw [if_neg c]
      exact ⟨he, fun d => absurd d c, rfl⟩
  obtain ⟨h2, h3, h4⟩ := h1
  obtain ⟨k1, vs, k2, k3, k4, k5⟩ := rdM_un pFar _ _ h2
  dsimp only at k1 k2 k5
  rw [List.nil_append] at k2
  have h5 : e = 0 ∧ (hasGr k → pGrants.ok (rdGr k bs e).1) ∧ bs = grB k (rdGr k bs e).1 ++ (rdGr k bs e).2.1 := by
    unfold rdGr at k1 ⊢
    unfold grB
    by_cases c : hasGr k
    · rw [if_pos c] at k1 ⊢
      rw [if_pos c]
      obtain ⟨h1, h2, h3⟩ := pGrants.un _ _ k1
      exact ⟨h1, fun _ => h2, h3⟩
    · rw [if_neg c] at k1 ⊢
      rw [if_neg c]
      exact ⟨k1, fun d => absurd d c, rfl⟩
  obtain ⟨l1, l2, l3⟩ := h5
  refine ⟨l1, fun a fk fg fn fi => ?_⟩
  subst fk
  have fx : (rdBody a.k bs e).xs = vs := k2
  have fm : (ansO a.k).map a.ns = vs := by rw [fn, fx]; exact map_nsOf _ _ (ans_nodup _) k3
  refine ⟨⟨fun c => by rw [fg]; exact l2 c, fun o ho => k4 _ (by rw [← fm]; exact List.mem_map_of_mem ho), fun c => by rw [fi]; exact h3 c⟩, ?_⟩
  unfold bodyA numB
  have : (ansO a.k).flatMap (fun o => uintB (a.ns o)) = vs.flatMap uintB := by rw [← fm, List.flatMap_map]
  rw [this, List.append_assoc, List.append_assoc, fi, ← h4, fg]
  have k5 : (rdGr a.k bs e).2.1 = vs.flatMap uintB ++ (rdNs a.k bs e).bs := k5
  show bs = grB a.k (rdGr a.k bs e).1 ++ _
  rw [← k5]
  exact l3
theorem un_ans {bs : List UInt8} (h : ansOk bs) : TellOk (ansOf bs) ∧ tellB (ansOf bs) = bs := by
  obtain ⟨e0, hr⟩ := end_zero h
  have key : (ans2 bs).2 = 0 ∧ (ansE bs = 0 → BodyOk (ansOf bs)) ∧ (ans2 bs).1 = if ansE bs = 0 then bodyA (ansOf bs) else [] := by
    by_cases c : ansE bs = 0
    · have hR : rdAns bs = rdBody (ansK bs) (ans2 bs).1 (ans2 bs).2 := by unfold rdAns; rw [if_pos c]
      rw [hR] at e0 hr
      obtain ⟨h1, h2⟩ := un_body e0
      obtain ⟨h3, h4⟩ := h2 (ansOf bs) rfl (by rw [← hR]; rfl) (by rw [← hR]; rfl) (by rw [← hR]; rfl)
      rw [hr, List.append_nil] at h4
      rw [if_pos c]
      exact ⟨h1, fun _ => h3, h4⟩
    · have hR : rdAns bs = ⟨[], [], [], (ans2 bs).1, (ans2 bs).2⟩ := by unfold rdAns; rw [if_neg c]
      rw [hR] at e0 hr
      rw [if_neg c]
      exact ⟨e0, fun d => absurd d c, hr⟩
  obtain ⟨h1, h2, h3⟩ := key
  obtain ⟨k1, k2, k3, k4⟩ := un_uint (most := 255) h1
  obtain ⟨l1, l2, l3, l4⟩ := un_uint k1
  refine ⟨⟨⟨l2, l3⟩, ⟨k2, k3⟩, h2⟩, ?_⟩
  show uintB (ansK bs) ++ (uintB (ansE bs) ++ if ansE bs = 0 then bodyA (ansOf bs) else []) = bs
  rw [← h3]
  have k4 : (rdUint 14 bs 0).2.1 = uintB (ansE bs) ++ (ans2 bs).1 := k4
  rw [← k4]
  exact l4.symm
theorem ck_body {a : An} (h : BodyOk a) (rest : List UInt8) : (rdBody a.k (bodyA a ++ rest) 0).bs = rest ∧ (rdBody a.k (bodyA a ++ rest) 0).e = 0 := by
  unfold bodyA
  simp only [List.append_assoc]
  have g1 : rdGr a.k (grB a.k a.gs ++ (numB a ++ (invB a.k a.inv ++ rest))) 0 = (if hasGr a.k then a.gs else [], numB a ++ (invB a.k a.inv ++ rest), 0) := by
    unfold rdGr grB
    by_cases c : hasGr a.k
    · rw [if_pos c, if_pos c, if_pos c, pGrants.ck _ (h.grants c)]
    · rw [if_neg c, if_neg c, if_neg c, List.nil_append]
  have g2 : rdNs a.k (grB a.k a.gs ++ (numB a ++ (invB a.k a.inv ++ rest))) 0 = ⟨(ansO a.k).map a.ns, invB a.k a.inv ++ rest, 0⟩ := by
    unfold rdNs
    rw [g1]
    dsimp only
    have := rdM_ck pFar (invB a.k a.inv ++ rest) ((ansO a.k).map a.ns) [] (fun v hv => by obtain ⟨o, ho, rfl⟩ := List.mem_map.1 hv; exact h.nums o ho)
    rw [List.length_map, List.flatMap_map] at this
    exact this
  unfold rdBody
  rw [g2]
  dsimp only
  unfold rdInv invB
  by_cases c : a.k = 14
  · rw [if_pos c, if_pos c, ck_text (by have := h.inv c; omega) (by have := h.inv c; omega)]
    exact ⟨rfl, rfl⟩
  · rw [if_neg c, if_neg c]
    exact ⟨rfl, rfl⟩
theorem ck_ans {a : An} (h : TellOk a) (rest : List UInt8) : ansK (tellB a ++ rest) = a.k ∧ ansE (tellB a ++ rest) = a.e ∧ (rdAns (tellB a ++ rest)).bs = rest ∧ (rdAns (tellB a ++ rest)).e = 0 := by
  have e1 : rdUint 14 (tellB a ++ rest) 0 = (a.k, uintB a.e ++ ((if a.e = 0 then bodyA a else []) ++ rest), 0) := by
    unfold tellB
    simp only [List.append_assoc]
    exact ck_uint h.kind.1 (by have := h.kind; omega) h.kind.2 _
  have e2 : rdUint 255 (uintB a.e ++ ((if a.e = 0 then bodyA a else []) ++ rest)) 0 = (a.e, (if a.e = 0 then bodyA a else []) ++ rest, 0) := ck_uint h.err.1 (by have := h.err; omega) h.err.2 _
  have e3 : ansE (tellB a ++ rest) = a.e := by unfold ansE; rw [e1]; dsimp only; rw [e2]
  have e4 : ansK (tellB a ++ rest) = a.k := by unfold ansK; rw [e1]
  have e5 : ans2 (tellB a ++ rest) = ((if a.e = 0 then bodyA a else []) ++ rest, 0) := by unfold ans2; rw [e1]; dsimp only; rw [e2]
  refine ⟨e4, e3, ?_⟩
  unfold rdAns
  rw [e3, e4, e5]
  by_cases c : a.e = 0
  · rw [if_pos c, if_pos c]
    exact ck_body (h.body c) rest
  · rw [if_neg c, if_neg c]
    exact ⟨rfl, rfl⟩
theorem ans_back {a : An} (h : TellOk a) : ansOk (tellB a) := by
  have := ck_ans h []
  rw [List.append_nil] at this
  unfold ansOk
  rw [this.2.2.1, this.2.2.2]
  rfl
theorem ans_tail {a : An} (h : TellOk a) {rest : List UInt8} (hr : rest ≠ []) : ¬ ansOk (tellB a ++ rest) := fun c => by
  obtain ⟨_, _, h1, h2⟩ := ck_ans h rest
  unfold ansOk at c
  rw [h1, h2] at c
  exact hr (end_zero c).2
theorem ans_cut {a : An} (h : TellOk a) {m : Nat} (hm : m < (tellB a).length) : ¬ ansOk ((tellB a).take m) := fun c => by
  obtain ⟨h1, h2⟩ := un_ans c
  have := ans_tail h1 (rest := (tellB a).drop m) (fun e => by have := congrArg List.length e; rw [List.length_drop, List.length_nil] at this; omega)
  rw [h2, List.take_append_drop] at this
  exact this (ans_back h)
end Go.Proofs.Ytkggnbabnfhcpaa
end
section
/- The writer of requests and answers: numbers, lists; walked. -/
namespace Go.Proofs.Ytkggnbabnfhcpaa
open Go.RowKit
/-- A writer at work: its bytes, if all was right. -/
structure XS (w : World) (pr : Nat → Prop) (g : Nat) (bs : List UInt8) (P : Prop) (L : Nat) : Prop where
  ex : ∃ bs' bad r, XAt w pr g bs' bad r ∧ ((bad = false ∧ r = false) ↔ P) ∧ (P → bs' = bs) ∧ bs'.length ≤ L
def XSd (w : World) (pr : Nat → Prop) (g : Nat) (bs : List UInt8) (P : Prop) (L : Nat) (e : Ending) (w' : World) : Prop := e = .returned (.tuple #[]) ∧ XS w' pr g bs P L ∧ XFr pr w w'
/-- Pointers to cells of a block. -/
def Ptrs (w : World) (a : Option Addr) (x : Nat) (os : List Nat) : Prop := os = [] ∨ ∃ p, a = some ⟨p, 0, none⟩ ∧ Bk w p (os.map fun o => Value.pointer (some ⟨x, o, none⟩)).toArray 112
section
variable {pr : Nat → Prop} {g x L : Nat} {w w1 : World} {bs : List UInt8} {P : Prop} {a : Option Addr} {os : List Nat}
theorem XS.below (h : XS w pr g bs P L) (b : Below w.heap.size w w1) : XS w1 pr g bs P L := by
  obtain ⟨⟨bs', bad, r, h1, h2⟩⟩ := h
  exact ⟨⟨bs', bad, r, h1.below b, h2⟩⟩
theorem XS.to (h : XS w pr g bs P L) {bs2 : List UInt8} {Q : Prop} {M : Nat} (e : bs = bs2) (hq : P ↔ Q) (hm : L ≤ M) : XS w pr g bs2 Q M := by
  subst e
  obtain ⟨⟨bs', bad, r, h1, h2, h4, h5⟩⟩ := h
  exact ⟨⟨bs', bad, r, h1, h2.trans hq, fun q => h4 (hq.2 q), Nat.le_trans h5 hm⟩⟩
theorem XS.other {q : Nat} {cs : Array Value} {t : TypeId} (h : XS w pr g bs P L) (hq : Bk w q cs t) (h1 : t ≠ 5) (h2 : t ≠ 73) (f : Fr [q] w w1) : XS w1 pr g bs P L := by
  obtain ⟨⟨bs', bad, r, k1, k2⟩⟩ := h
  exact ⟨⟨bs', bad, r, k1.other hq h1 h2 f, k2⟩⟩
theorem Ptrs.xfr (h : Ptrs w a x os) (f : XFr pr w w1) : Ptrs w1 a x os := h.imp id fun ⟨p, h1, h2⟩ => ⟨p, h1, h2.xfr f (by decide) (by decide)⟩
theorem keepG_xfr {gs : List Nat} (f : XFr pr w w1) (h : ∀ q ∈ gs, ∃ cs t, Bk w q cs t ∧ t ≠ 5 ∧ t ≠ 73) : KeepG gs w w1 := fun _ q hq => by
  obtain ⟨cs, t, h1, h2, h3⟩ := h q hq
  exact f.kind q cs t _ h1 h2 h3
end
theorem flags_num {bad r : Bool} {P : Prop} {z : Int} (h : (bad = false ∧ r = false) ↔ P) : ((bad || decide (z < 0)) = false ∧ (r || decide (z > 4611686018427387904)) = false) ↔ (P ∧ inFar z) := by
  unfold inFar wfar
  rw [← h]
  constructor
  · rintro ⟨h1, h2⟩
    rw [Bool.or_eq_false_iff] at h1 h2
    have h3 := of_decide_eq_false h1.2
    have h4 := of_decide_eq_false h2.2
    exact ⟨⟨h1.1, h2.1⟩, by omega, by omega⟩
  · rintro ⟨⟨h1, h2⟩, h3, h4⟩
    exact ⟨Bool.or_eq_false_iff.2 ⟨h1, decide_eq_false (by omega)⟩, Bool.or_eq_false_iff.2 ⟨h2, decide_eq_false (by omega)⟩⟩
theorem XS.start {w : World} {pr : Nat → Prop} {g : Nat} (h : Bk w g #[.slice none 0 0, .bool false, .bool false] 73) (hn : ¬ pr g) (hp : ∀ q, pr q → q < w.heap.size) : XS w pr g [] True 0 :=
  ⟨⟨[], false, false, XAt.make h hn hp, by simp, fun _ => rfl, Nat.le_refl _⟩⟩
/-- A number, with no look at its bound. -/
theorem XS.uint {pr : Nat → Prop} {g L : Nat} {w : World} {bs : List UInt8} {P : Prop} (h : XS w pr g bs P L) (z : Int) (hz : z ≤ 9223372036854775807) (hl : L ≤ 1000000) : Calls Try.prog 22 #[.pointer (some ⟨g, 0, none⟩), .int .i64 z] w (XSd w pr g (bs ++ uintB z) (P ∧ 0 ≤ z) (L + 10)) := by
  obtain ⟨⟨bs', bad, r, h1, h2, h4, h5⟩⟩ := h
  refine (xuint_any z h1 (by omega)).mono ?_
  rintro e w' ⟨rfl, k1, k2⟩
  have := ub_len z
  refine ⟨rfl, ⟨⟨_, _, _, k1, ?_, fun p => by rw [h4 p.1, ub_eq hz], by rw [List.length_append]; omega⟩⟩, k2⟩
  rw [← h2]
  constructor
  · rintro ⟨q1, q2⟩
    rw [Bool.or_eq_false_iff] at q1
    have := of_decide_eq_false q1.2
    exact ⟨⟨q1.1, q2⟩, by omega⟩
  · rintro ⟨⟨q1, q2⟩, q3⟩
    exact ⟨Bool.or_eq_false_iff.2 ⟨q1, decide_eq_false (by omega)⟩, q2⟩
set_option maxHeartbeats 800000 in
theorem xputs_any {pr : Nat → Prop} {g x L : Nat} {w : World} {bs : List UInt8} {P : Prop} {a : Option Addr} {os : List Nat} {c : Nat} {cs : Array Value} {t : TypeId} {f : Nat → Int} (h : XS w pr g bs P L) (hp : Ptrs w a x os) (hb : Bk w x cs t) (ht1 : t ≠ 5) (ht2 : t ≠ 73) (hc : ∀ o ∈ os, cs[o]? = some (.int .i64 (f o))) (hl : L ≤ 1000000) (hos : os.length ≤ 100) :
    Calls Try.prog 23 #[.pointer (some ⟨g, 0, none⟩), .slice a os.length c] w (XSd w pr g (bs ++ os.flatMap fun o => uintB (f o)) (P ∧ ∀ o ∈ os, inFar (f o)) (L + 10 * os.length)) := by
  refine (GWi.iput_calls (some ⟨g, 0, none⟩) a os.length c w (fun v w' => v = .tuple #[] ∧ XS w' pr g (bs ++ os.flatMap fun o => uintB (f o)) (P ∧ ∀ o ∈ os, inFar (f o)) (L + 10 * os.length) ∧ XFr pr w w') ?_).mono (by rintro e w' ⟨v, rfl, rfl, h1, h2⟩; exact ⟨rfl, h1, h2⟩)
  unfold GWi.iput_vc
  refine ⟨fun y wx => ∃ i : Nat, y = i ∧ i ≤ os.length ∧ XS wx pr g (bs ++ (os.take i).flatMap fun o => uintB (f o)) (P ∧ ∀ o ∈ os.take i, inFar (f o)) (L + 10 * i) ∧ XFr pr w wx, fun y _ => (os.length - y).toNat, ⟨0, rfl, Nat.zero_le _, h.to (by simp) (by simp) (by omega), XFr.refl _ _⟩, ?_⟩
  rintro y wx ⟨i, rfl, hi, hX, hF⟩
  refine br_dec (fun h1 => ?_) fun h1 => by
    have e : i = os.length := by omega
    subst e
    rw [List.take_length] at hX
    exact ⟨rfl, hX, hF⟩
  have hi2 : i < os.length := by omega
  obtain ⟨p, rfl, hpb⟩ : ∃ p, a = some ⟨p, 0, none⟩ ∧ Bk w p (os.map fun o => Value.pointer (some ⟨x, o, none⟩)).toArray 112 := by
    rcases hp with e | h
    · rw [e] at hi2; simp at hi2
    · exact h
  have hpx := hpb.xfr hF (by decide) (by decide)
  have hbx := hb.xfr hF ht1 ht2
  obtain ⟨⟨bs', bad, r, k1, k2, k3, k4⟩⟩ := hX
  have hi1 : IntKind.i64.wrap ((i : Int) + 1) = ((i + 1 : Nat) : Int) := by rw [wr64 (by omega) (by omega)]; omega
  have hcell : cs[os[i]]? = some (.int .i64 (f os[i])) := hc _ (List.getElem_mem hi2)
  have fin : ∀ w5, XAt w5 pr g (bs' ++ ub (f os[i])) (bad || decide (f os[i] < 0)) (r || decide (f os[i] > 4611686018427387904)) → XFr pr wx w5 →
      (∃ j : Nat, ((i + 1 : Nat) : Int) = j ∧ j ≤ os.length ∧ XS w5 pr g (bs ++ (os.take j).flatMap fun o => uintB (f o)) (P ∧ ∀ o ∈ os.take j, inFar (f o)) (L + 10 * j) ∧ XFr pr w w5) ∧ ((os.length : Int) - ((i + 1 : Nat) : Int)).toNat < ((os.length : Int) - (i : Int)).toNat := fun w5 k5 f5 => by
    have et : os.take (i + 1) = os.take i ++ [os[i]] := by rw [List.take_add_one, List.getElem?_eq_getElem hi2]; rfl
    have hul := ub_len (f os[i])
    refine ⟨⟨i + 1, rfl, hi2, ⟨⟨_, _, _, k5, (flags_num k2).trans ?_, fun q => ?_, by rw [List.length_append]; omega⟩⟩, hF.trans f5⟩, by omega⟩
    · rw [et]
      constructor
      · rintro ⟨⟨q1, q2⟩, q3⟩
        exact ⟨q1, fun o ho => by
          rcases List.mem_append.1 ho with ho | ho
          · exact q2 o ho
          · rw [List.mem_singleton.1 ho]; exact q3⟩
      · rintro ⟨q1, q2⟩
        exact ⟨⟨q1, fun o ho => q2 o (List.mem_append_left _ ho)⟩, q2 os[i] (List.mem_append_right _ List.mem_cons_self)⟩
    · rw [et] at q ⊢
      have q3 : inFar (f os[i]) := q.2 os[i] (List.mem_append_right _ List.mem_cons_self)
      rw [k3 ⟨q.1, fun o ho => q.2 o (List.mem_append_left _ ho)⟩, ub_eq (far64 q3), List.flatMap_append, List.append_assoc]
      simp
  refine withP_mk p 0 rfl ⟨by omega, by omega, some ⟨x, os[i], none⟩, by rw [hpx.cell]; simp [List.getElem?_eq_getElem hi2], withP_mk g 0 rfl ⟨r, k1.c2, ?_⟩⟩
  rw [hi1]
  cases r
  · refine br_f rfl (withP_mk x os[i] rfl ⟨f os[i], by rw [hbx.cell]; exact hcell, withP_mk g 0 rfl (x_flag k1 fun w3 h3 f3 z3 => drewB (Bs.refl w3) fun w4 b4 B4 e4 => withP_mk g 0 rfl (withP_mk x os[i] rfl ⟨f os[i], ?_, ?_⟩))⟩)
    · rw [((hbx.xfr f3 ht1 ht2).below b4).cell]; exact hcell
    · refine (xuint_any (f os[i]) (h3.below b4) (by omega)).mono ?_
      rintro e w5 ⟨rfl, h5, f5⟩
      exact ⟨keepG_nil _ _, rfl, fin w5 h5 (f3.trans ((XFr.ofBelow b4).trans f5))⟩
  · refine br_t rfl (withP_mk g 0 rfl (x_flag k1 fun w3 h3 f3 z3 => drewB (Bs.refl w3) fun w4 b4 B4 e4 => withP_mk g 0 rfl (withP_mk x os[i] rfl ⟨f os[i], ?_, ?_⟩)))
    · rw [((hbx.xfr f3 ht1 ht2).below b4).cell]; exact hcell
    · refine (xuint_any (f os[i]) (h3.below b4) (by omega)).mono ?_
      rintro e w5 ⟨rfl, h5, f5⟩
      exact ⟨keepG_nil _ _, rfl, fin w5 h5 (f3.trans ((XFr.ofBelow b4).trans f5))⟩
theorem xlist_any {pr : Nat → Prop} {g L : Nat} {w : World} {bs : List UInt8} {P : Prop} (h : XS w pr g bs P L) (n : Nat) (most : Int) (hn : n ≤ 9223372036854775807) (hl : L ≤ 1000000) :
    Calls Try.prog 46 #[.pointer (some ⟨g, 0, none⟩), .int .i64 n, .int .i64 most] w (XSd w pr g (bs ++ uintB n) (P ∧ (n : Int) ≤ most) (L + 10)) := by
  refine (GWi.ilist_calls (some ⟨g, 0, none⟩) n most w (fun v w' => v = .tuple #[] ∧ XS w' pr g (bs ++ uintB n) (P ∧ (n : Int) ≤ most) (L + 10) ∧ XFr pr w w') ?_).mono (by rintro e w' ⟨v, rfl, rfl, h1, h2⟩; exact ⟨rfl, h1, h2⟩)
  unfold GWi.ilist_vc
  obtain ⟨⟨bs', bad, r, k1, k2, k3, k4⟩⟩ := h
  have fin : ∀ w5, XAt w5 pr g (bs' ++ ub n) (bad || decide ((n : Int) < 0)) (r || decide ((n : Int) > most)) → XFr pr w w5 → XS w5 pr g (bs ++ uintB n) (P ∧ (n : Int) ≤ most) (L + 10) := fun w5 k5 f5 => by
    have hul := ub_len (n : Int)
    refine ⟨⟨_, _, _, k5, ?_, fun q => by rw [k3 q.1, ub_eq (by omega)], by rw [List.length_append]; omega⟩⟩
    rw [← k2]
    constructor
    · rintro ⟨q1, q2⟩
      rw [Bool.or_eq_false_iff] at q1 q2
      have := of_decide_eq_false q2.2
      exact ⟨⟨q1.1, q2.1⟩, by omega⟩
    · rintro ⟨⟨q1, q2⟩, q3⟩
      exact ⟨Bool.or_eq_false_iff.2 ⟨q1, decide_eq_false (by omega)⟩, Bool.or_eq_false_iff.2 ⟨q2, decide_eq_false (by omega)⟩⟩
  refine withP_mk g 0 rfl ⟨r, k1.c2, ?_⟩
  cases r
  · refine br_f rfl (withP_mk g 0 rfl (x_flag k1 fun w3 h3 f3 z3 => withP_mk g 0 rfl ((xuint_any n h3 (by omega)).mono ?_)))
    rintro e w5 ⟨rfl, h5, f5⟩
    exact ⟨keepG_nil _ _, rfl, rfl, fin w5 h5 (f3.trans f5), f3.trans f5⟩
  · refine br_t rfl (withP_mk g 0 rfl (x_flag k1 fun w3 h3 f3 z3 => withP_mk g 0 rfl ((xuint_any n h3 (by omega)).mono ?_)))
    rintro e w5 ⟨rfl, h5, f5⟩
    exact ⟨keepG_nil _ _, rfl, rfl, fin w5 h5 (f3.trans f5), f3.trans f5⟩
/-- What the bytes come to. -/
theorem xdone_any {pr : Nat → Prop} {g L : Nat} {w : World} {bs : List UInt8} {P : Prop} (h : XS w pr g bs P L) (hl : L ≤ 1000000) :
    Calls Try.prog 26 #[.pointer (some ⟨g, 0, none⟩)] w fun e w' => ∃ a c, ((P ∧ e = .returned (.tuple #[.slice a bs.length c, .int .i64 0]) ∧ Own w' w.heap.size 5 1 (.slice a bs.length c) bs.length (bs.map bV)) ∨ (¬ P ∧ e = .returned (.tuple #[.slice none 0 0, .int .i64 2]))) ∧ Below w.heap.size w w' := by
  refine (GWi.idone_calls (some ⟨g, 0, none⟩) w (fun v w' => ∃ a c, ((P ∧ v = .tuple #[.slice a bs.length c, .int .i64 0] ∧ Own w' w.heap.size 5 1 (.slice a bs.length c) bs.length (bs.map bV)) ∨ (¬ P ∧ v = .tuple #[.slice none 0 0, .int .i64 2])) ∧ Below w.heap.size w w') ?_).mono (by rintro e w' ⟨v, rfl, a, c, ⟨h1, rfl, h2⟩ | ⟨h1, rfl⟩, h3⟩; exact ⟨a, c, .inl ⟨h1, rfl, h2⟩, h3⟩; exact ⟨a, c, .inr ⟨h1, rfl⟩, h3⟩)
  unfold GWi.idone_vc
  obtain ⟨⟨bs', bad, r, k1, k2, k3, k4⟩⟩ := h
  refine withP_mk g 0 rfl ((xbytes_any k1 (by omega)).mono ?_)
  rintro e w2 ⟨a, c, rfl, o, b⟩
  have k5 := k1.below b
  refine ⟨keepG_below b, a, _, c, _, rfl, withP_mk g 0 rfl ⟨r, k5.c2, ?_⟩⟩
  cases r
  · cases bad
    · have p : P := k2.1 ⟨rfl, rfl⟩
      have e := k3 p
      subst e
      exact br_f rfl (br_n (fun h => h rfl) ⟨a, c, .inl ⟨p, rfl, o⟩, b⟩)
    · exact br_f rfl (br_y (by decide) ⟨a, c, .inr ⟨(fun p => by have := (k2.2 p).1; cases this), rfl⟩, b⟩)
  · exact br_t rfl ⟨a, c, .inr ⟨(fun p => by have := (k2.2 p).2; cases this), rfl⟩, b⟩
end Go.Proofs.Ytkggnbabnfhcpaa
end
