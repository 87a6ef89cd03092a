/- Slices that are appended to: what a value owns, and 'append' onto it, from whatever source. No program in sight. -/
import Derived.Test.YtjjmhmbmjpedkaaLib
import Derived.Deep.AppendSrc
import Derived.Lib.SlBytesRow
namespace Go.Proofs.Ytjjmhmbmjpedkaa
open Go.RowKit
/-- v is a slice of n elements of type e (size cells each) whose cells are xs, in a block of its own from base on; or nil. -/
def Own (w : World) (base : Nat) (e : TypeId) (size : Nat) (v : Value) (n : Nat) (xs : List Value) : Prop :=
  xs.length = n * size ∧
  ((v = .slice none 0 0 ∧ n = 0) ∨
   ∃ g off cap cur, v = .slice (some ⟨g, off, none⟩) n cap ∧ base ≤ g ∧ w.heap[g]? = some (.cells cur e (0, 0)) ∧ n ≤ cap ∧ cap ≤ maxLen ∧ off + cap * size ≤ cur.size ∧ (cur.toList.drop off).take (n * size) = xs)
variable {P : Program} {w : World} {base : Nat} {e : TypeId} {size : Nat} {v : Value} {n : Nat} {xs : List Value}
theorem Own.nil (w : World) (base : Nat) (e : TypeId) (size : Nat) : Own w base e size (.slice none 0 0) 0 [] := ⟨by simp, .inl ⟨rfl, rfl⟩⟩
theorem Own.isSlice (h : Own w base e size v n xs) : ∃ a cap, v = .slice a n cap := by
  rcases h.2 with ⟨rfl, rfl⟩ | ⟨g, off, cap, cur, rfl, _⟩
  · exact ⟨_, _, rfl⟩
  · exact ⟨_, _, rfl⟩
theorem Own.lt (h : Own w base e size v n xs) : ∀ k, v.ownBlock = some k → base ≤ k ∧ k < w.heap.size := by
  intro k hk
  rcases h.2 with ⟨rfl, _⟩ | ⟨g, off, cap, cur, rfl, hb, hg, _⟩
  · simp [Value.ownBlock] at hk
  · simp [Value.ownBlock] at hk
    subst hk
    exact ⟨hb, heap_lt hg⟩
theorem Own.keep {w' : World} (h : Own w base e size v n xs) (hk : ∀ k, v.ownBlock = some k → w'.heap[k]? = w.heap[k]?) : Own w' base e size v n xs := by
  refine ⟨h.1, ?_⟩
  rcases h.2 with hn | ⟨g, off, cap, cur, rfl, hb, hg, r⟩
  · exact .inl hn
  · exact .inr ⟨g, off, cap, cur, rfl, hb, (hk g rfl).trans hg, r⟩
theorem Own.kept {w' : World} {row : Option Nat} (h : Own w base e size v n xs) (hg : w.grownBy w' row) (hne : v.ownBlock = none ∨ v.ownBlock ≠ row) : Own w' base e size v n xs :=
  h.keep fun k hk => hg.block k (h.lt k hk).2 (by rw [hk] at hne; simpa using hne)
theorem Own.alloc (h : Own w base e size v n xs) (o : Obj) : Own (w.alloc o) base e size v n xs := h.keep fun k hk => Below.heap_alloc _ _ _ (h.lt k hk).2
theorem Own.below {w' : World} {B : Nat} (h : Own w base e size v n xs) (hb : Below B w w') (hB : w.heap.size ≤ B) : Own w' base e size v n xs := h.keep fun k hk => hb.block k (Nat.lt_of_lt_of_le (h.lt k hk).2 hB)
theorem Own.base_le {b' : Nat} (h : Own w base e size v n xs) (hk : ∀ k, v.ownBlock = some k → b' ≤ k) : Own w b' e size v n xs := by
  refine ⟨h.1, ?_⟩
  rcases h.2 with hn | ⟨g, off, cap, cur, rfl, hb, r⟩
  · exact .inl hn
  · exact .inr ⟨g, off, cap, cur, rfl, hk g rfl, r⟩
theorem Own.row1 (h : Own w base e 1 v n xs) : ∃ a cap, v = .slice a n cap ∧ RowAt w a xs ∧ xs.length = n := by
  have hl := h.1
  rw [Nat.mul_one] at hl
  rcases h.2 with ⟨rfl, rfl⟩ | ⟨g, off, cap, cur, rfl, hb, hg, hn, hm, hs, ht⟩
  · exact ⟨_, _, rfl, .inl (List.eq_nil_of_length_eq_zero hl), hl⟩
  · exact ⟨_, _, rfl, .ofBlock hg (by rw [hl]; rw [Nat.mul_one] at ht; exact ht), hl⟩
/-- The cells of an owned slice, as a source. -/
theorem Own.cells (h : Own w base e size v n xs) : ∀ g off cap, v = .slice (some ⟨g, off, none⟩) n cap → ∀ j u, xs[j]? = some u → w.cell? ⟨g, off + j, none⟩ = some u := by
  intro g off cap hv j u hu
  rcases h.2 with ⟨rfl, _⟩ | ⟨g', off', cap', cur, rfl, hb, hg, hn, hm, hs, ht⟩
  · cases hv
  · injection hv with h1 h2 h3
    injection h1 with h1
    injection h1 with h1 h4
    subst h1; subst h4
    rw [cell_of_row _ _ _ _ _ _ hg, ← Array.getElem?_toList]
    rw [← ht, List.getElem?_take] at hu
    split at hu
    · rw [List.getElem?_drop] at hu; exact hu
    · cases hu
theorem run_app (t tx ty : TypeId) (i : TypeInfo) (z : Value) (bytes : Nat) (ht : P.underlying t = some (.slice e)) (hi : P.info? e = some i) (hz : i.zero = some z) (hsize : i.size = size) (hby : i.bytes = bytes) (hzs : z.cells.size = size)
    (ho : Own w base e size v n xs) (x : Value) (m : Nat) (news : List Value) (hs : Src P size tx x m news w) (h63 : n + m ≤ maxLen) (hbytes : (n + m) * bytes ≤ 140737488355328) (hbase : base ≤ w.heap.size) :
    ∃ v' w', (Builtin.append_ #[t, tx] ty #[v, x]).run P w = .ok v' w' ∧ Own w' base e size v' (n + m) (xs ++ news) ∧ w.grownBy w' v.ownBlock ∧ (v'.ownBlock = v.ownBlock ∨ ∃ g, v'.ownBlock = some g ∧ w.heap.size ≤ g) := by
  subst hsize
  subst hby
  have hsmall : ((n + m : Nat) : Int) ≤ 9223372036854775807 := by simp only [maxLen] at h63; omega
  have hlen : (xs ++ news).length = (n + m) * i.size := by rw [List.length_append, ho.1, hs.newsLen, Nat.add_mul]
  have grown : ∀ (old : Nat) (row : Option Nat),
      Own (w.drew.alloc (.cells ((xs ++ news).toArray ++ Builtin.zeroCells z.cells (grownCap w (n + m) old e - (n + m))) e)) base e i.size
        (.slice (some ⟨w.heap.size, 0, none⟩) (n + m) (grownCap w (n + m) old e)) (n + m) (xs ++ news) ∧
      w.grownBy (w.drew.alloc (.cells ((xs ++ news).toArray ++ Builtin.zeroCells z.cells (grownCap w (n + m) old e - (n + m))) e)) row := by
    intro old row
    have hge := grownCap_ge w (n + m) old e
    have hcm : grownCap w (n + m) old e ≤ maxLen := grownCap_le_maxLen w (n + m) old e h63
    refine ⟨⟨hlen, .inr ⟨w.heap.size, 0, _, _, rfl, hbase, Go.heap_alloc_new w.drew _, hge, hcm, ?_, ?_⟩⟩, ⟨rfl, rfl, rfl, by simp, fun k hk _ => Below.heap_alloc w.drew _ k hk⟩⟩
    · simp only [Array.size_append, List.size_toArray, size_zeroCells, hzs, hlen]
      rw [← Nat.add_mul, Nat.zero_add, Nat.add_sub_cancel' hge]
      exact Nat.le_refl _
    · simp only [Array.toList_append, List.drop_zero]
      rw [← hlen]
      exact List.take_left
  rcases ho.2 with ⟨rfl, rfl⟩ | ⟨g, off, cap, cur, rfl, hb, hg, hn, hm, hcs, htk⟩
  · have hx0 : xs = [] := List.eq_nil_of_length_eq_zero (by simpa using ho.1)
    subst hx0
    by_cases hm0 : m = 0
    · subst hm0
      have hnews : news = [] := List.eq_nil_of_length_eq_zero (by simpa using hs.newsLen)
      subst hnews
      refine ⟨.slice none 0 0, w, ?_, Own.nil _ _ _ _, ⟨rfl, rfl, rfl, Nat.le_refl _, fun _ _ _ => rfl⟩, .inl rfl⟩
      rcases hs.kind with ⟨e', hk⟩ | hk <;> simp [Builtin.append_, run_underlying ht, run_underlying hk, sizeOf, typeInfo, hi, hs.len, hs.cells]
    · have hr := run_append_grow_src (P := P) w t tx ty e i z ht hi hz none 0 0 [] (run_firstCells_none w.drew i.size 0 0 0) x m news hs (by omega) hsmall (growslice_fits (by omega) hbytes)
      exact ⟨_, _, hr, (grown 0 none).1, (grown 0 _).2, .inr ⟨_, rfl, Nat.le_refl _⟩⟩
  · by_cases hr : n + m ≤ cap
    · have hfit : (off + n * i.size) + news.length ≤ cur.size := by
        rw [hs.newsLen]
        have : (n + m) * i.size ≤ cap * i.size := Nat.mul_le_mul_right _ hr
        rw [Nat.add_mul] at this
        omega
      have hst := run_storeCells_at P g (off + n * i.size) e news 0 cur w hg (by simpa using hfit) hs.one
      simp only [Nat.add_zero] at hst
      refine ⟨.slice (some ⟨g, off, none⟩) (n + m) cap, w.setRow g (cur.toList.take (off + n * i.size) ++ news ++ cur.toList.drop (off + n * i.size + news.length)).toArray, ?_, ⟨hlen, .inr ⟨g, off, cap, _, rfl, hb, setRow_heap _ _ _ _ _ _ hg, hr, hm, ?_, ?_⟩⟩, ⟨rfl, rfl, rfl, by simp, fun k _ hk => ?_⟩, .inl rfl⟩
      · rcases hs.kind with ⟨e', hk⟩ | hk <;> simp [Builtin.append_, run_underlying ht, run_underlying hk, sizeOf, typeInfo, hi, hs.len, hr, hs.cells, Addr.add_lit, hst]
      · simp only [List.size_toArray, List.length_append, List.length_take, List.length_drop, Array.length_toList]
        omega
      · have hl2 : off ≤ cur.size := by omega
        have hx := ho.1
        have hlt : (cur.toList.take (off + n * i.size)).drop off = xs := by
          rw [List.drop_take, Nat.add_sub_cancel_left, htk]
        simp only [List.append_assoc]
        rw [List.drop_append_of_le_length (by simp only [List.length_take, Array.length_toList]; omega), hlt, ← List.append_assoc, ← hlen]
        exact List.take_left
      · simp only [World.setRow, Array.getElem?_modify]
        rw [if_neg (fun h => hk (by simp [Value.ownBlock, h]))]
    · have hlast : xs.length = n * i.size := ho.1
      have hcell : ∀ j u, xs[j]? = some u → w.drew.cell? ((⟨g, off, none⟩ : Addr).add j) = some u := by
        intro j u hu
        rw [Addr.add_lit]
        have := ho.cells g off cap rfl j u hu
        simpa using this
      have hr' := run_append_grow_src (P := P) w t tx ty e i z ht hi hz (some ⟨g, off, none⟩) n cap xs (run_firstCells_some w.drew i.size n ⟨g, off, none⟩ n cap xs hlast hcell) x m news hs (by omega) hsmall (growslice_fits (by omega) hbytes)
      exact ⟨_, _, hr', (grown cap none).1, (grown cap _).2, .inr ⟨_, rfl, Nat.le_refl _⟩⟩
/-- 'append', for the walk. -/
theorem wpList_app {ops : Array Oper} {rest : List Oper} {o : Oper} {a : Act} {Q : Exit → Act → World → Prop} (hgd : o.guard = none) (s xo : Operand) (t tx : TypeId)
    (hop : o.op = Op.call { callee := Callee.builtin Builtin.append, args := #[s, xo], argTypes := #[t, tx] })
    (i : TypeInfo) (z : Value) (bytes : Nat) (ht : P.underlying t = some (.slice e)) (hi : P.info? e = some i) (hz : i.zero = some z) (hsize : i.size = size) (hby : i.bytes = bytes) (hzs : z.cells.size = size)
    (hv : a.eval s = v) (ho : Own w base e size v n xs) (x : Value) (hx : a.eval xo = x) (m : Nat) (news : List Value) (hs : Src P size tx x m news w) (h63 : n + m ≤ maxLen) (hbytes : (n + m) * bytes ≤ 140737488355328) (hbase : base ≤ w.heap.size)
    (hK : ∀ v' w', Own w' base e size v' (n + m) (xs ++ news) → w.grownBy w' v.ownBlock → (v'.ownBlock = v.ownBlock ∨ ∃ g, v'.ownBlock = some g ∧ w.heap.size ≤ g) → wpList P ops Q rest (a.put o.dst v') w') :
    wpList P ops Q (o :: rest) a w := by
  refine wpList_plain hgd fun K hK' => ?_
  obtain ⟨v', w', hrun, r1, r2, r3⟩ := run_app (P := P) t tx o.type i z bytes ht hi hz hsize hby hzs ho x m news hs h63 hbytes hbase
  unfold Oper.wp
  simp [execOp, hop, resolve, invoke, builtin, hv, hx, hrun, Result.andThen]
  exact hK' _ _ (hK v' w' r1 r2 r3)
theorem step_app {ops : Array Oper} {o : Oper} {a : Act} {K : Act → World → Prop} {Q : Exit → Act → World → Prop} {E : Prop} (hgd : o.guard = none) (s xo : Operand) (t tx : TypeId)
    (hop : o.op = Op.call { callee := Callee.builtin Builtin.append, args := #[s, xo], argTypes := #[t, tx] })
    (i : TypeInfo) (z : Value) (bytes : Nat) (ht : P.underlying t = some (.slice e)) (hi : P.info? e = some i) (hz : i.zero = some z) (hsize : i.size = size) (hby : i.bytes = bytes) (hzs : z.cells.size = size)
    (hv : a.eval s = v) (ho : Own w base e size v n xs) (x : Value) (hx : a.eval xo = x) (m : Nat) (news : List Value) (hs : Src P size tx x m news w) (h63 : n + m ≤ maxLen) (hbytes : (n + m) * bytes ≤ 140737488355328) (hbase : base ≤ w.heap.size)
    (hK : ∀ v' w', Own w' base e size v' (n + m) (xs ++ news) → w.grownBy w' v.ownBlock → (v'.ownBlock = v.ownBlock ∨ ∃ g, v'.ownBlock = some g ∧ w.heap.size ≤ g) → K (a.put o.dst v') w') :
    if Region.wanted o (yielded ops a.tmps) = true then Oper.wp P o a w K Q else E := by
  have hw : Region.wanted o (yielded ops a.tmps) = true := by simp [Region.wanted, hgd]
  rw [if_pos hw]
  obtain ⟨v', w', hrun, r1, r2, r3⟩ := run_app (P := P) t tx o.type i z bytes ht hi hz hsize hby hzs ho x m news hs h63 hbytes hbase
  unfold Oper.wp
  simp [execOp, hop, resolve, invoke, builtin, hv, hx, hrun, Result.andThen]
  exact hK v' w' r1 r2 r3
theorem Own.fresh0 (hb : base ≤ w.heap.size) : Own (w.alloc (.cells #[] e)) base e size (.slice (some ⟨w.heap.size, 0, none⟩) 0 0) 0 [] :=
  ⟨by simp, .inr ⟨w.heap.size, 0, 0, #[], rfl, hb, al_new rfl, Nat.le_refl _, by decide, by simp, by simp⟩⟩
theorem Own.drew (h : Own w base e size v n xs) : Own w.drew base e size v n xs := h
theorem RowAt.drew {a : Option Addr} {vs : List Value} (h : RowAt w a vs) : RowAt w.drew a vs := h
theorem RowAt.alloc {a : Option Addr} {vs : List Value} (h : RowAt w a vs) (o : Obj) : RowAt (w.alloc o) a vs := h.below (Below_one o) (Nat.le_refl _)
theorem RowAt.take {a : Option Addr} {vs : List Value} (h : RowAt w a vs) (k : Nat) : RowAt w a (vs.take k) := by
  rcases h with rfl | ⟨b, off, ha, h⟩
  · exact .inl (by simp)
  · exact .inr ⟨b, off, ha, fun i v hv => h i v (by rw [List.getElem?_take] at hv; split at hv <;> simp_all)⟩
theorem RowAt.drop {b off : Nat} {vs : List Value} (h : RowAt w (some ⟨b, off, none⟩) vs) (k : Nat) : RowAt w (some ⟨b, off + k, none⟩) (vs.drop k) := by
  rcases h with rfl | ⟨b', off', ha, h⟩
  · exact .inl (by simp)
  · injection ha with ha
    injection ha with h1 h2
    subst h1; subst h2
    exact .inr ⟨b, off + k, rfl, fun i v hv => by rw [Nat.add_assoc]; exact h (k + i) v (by rw [List.getElem?_drop] at hv; exact hv)⟩
theorem Src.ofRow {tx e' : TypeId} (hk : P.underlying tx = some (.slice e')) (a : Option Addr) (c : Nat) (news : List Value) (hr : RowAt w a news) (h1 : ∀ u ∈ news, u.oneCell' = true) : Src P 1 tx (.slice a news.length c) news.length news w := by
  rcases hr with rfl | ⟨b, off, rfl, h⟩
  · cases a with
    | none => exact Src.ofNil w hk c
    | some a => exact Src.ofSlice w hk a 0 c [] rfl (fun _ _ h => by simp at h) h1
  · exact Src.ofSlice w hk ⟨b, off, none⟩ _ c news (by simp) (fun j u hj => by rw [Addr.add_lit]; exact h j u hj) h1
theorem one_bV {bs : List UInt8} : ∀ u ∈ bs.map bV, u.oneCell' = true := by
  intro u hu
  obtain ⟨x, _, rfl⟩ := List.mem_map.1 hu
  rfl
def strOf (bs : List UInt8) : ByteArray := ⟨bs.toArray⟩
theorem strOf_size (bs : List UInt8) : (strOf bs).size = bs.length := by simp [strOf, ByteArray.size]
theorem strOf_list (bs : List UInt8) : (strOf bs).data.toList = bs := by simp [strOf]
theorem strOf_data (s : ByteArray) : strOf s.data.toList = s := by
  apply ByteArray.ext; simp [strOf]
theorem strOf_inj {a b : List UInt8} (h : strOf a = strOf b) : a = b := by rw [← strOf_list a, h, strOf_list]
/-- 'string(b)'. -/
theorem conv_str (src dst : TypeId) {e : TypeId} (hs : P.underlying src = some (.slice e)) (he : P.underlying e = some (.int .u8)) (hd : P.underlying dst = some .string) (w : World) (a : Option Addr) (c : Nat) (bs : List UInt8) (hr : RowAt w a (bs.map bV)) :
    (convert src dst (.slice a bs.length c)).run P w = .ok (.string (strOf bs)) w := by
  rcases hr with h | ⟨b, off, rfl, h⟩
  · rw [List.map_eq_nil_iff] at h
    subst h
    rw [run_convert_bytes_string w src dst e a _ c hs he hd]
    cases a with
    | none => rfl
    | some a => exact run_bytesToString w a 0 c [] rfl
  · have hc : Lib.Bytes w b off (strOf bs) := fun i hi => h i _ (by
      rw [strOf_size] at hi
      rw [List.getElem?_map, List.getElem?_eq_getElem hi]; rfl)
    have := Lib.run_convert_whole (P := P) w src e dst hs he hd b off (strOf bs) hc c
    rw [strOf_size] at this
    exact this
/-- Rows of unlike element types lie in unlike blocks. -/
theorem Own.ne_of_type {b1 b2 e1 e2 s1 s2 n1 n2 : Nat} {v1 v2 : Value} {x1 x2 : List Value} (h1 : Own w b1 e1 s1 v1 n1 x1) (h2 : Own w b2 e2 s2 v2 n2 x2) (hne : e1 ≠ e2) : v1.ownBlock = none ∨ v1.ownBlock ≠ v2.ownBlock := by
  rcases h1.2 with ⟨rfl, _⟩ | ⟨g, off, cap, cur, rfl, hb, hg, _⟩
  · exact .inl rfl
  · rcases h2.2 with ⟨rfl, _⟩ | ⟨g', off', cap', cur', rfl, hb', hg', _⟩
    · exact .inr (by simp [Value.ownBlock])
    · refine .inr fun he => hne ?_
      have : g = g' := Option.some.inj he
      subst this
      rw [hg] at hg'
      injection hg' with h
      injection h
theorem Own.row {a : Option Addr} {c n : Nat} (h : Own w base e 1 (.slice a n c) n xs) : RowAt w a xs := by
  obtain ⟨a', c', he, hr, _⟩ := h.row1
  injection he with h1 h2 h3
  subst h1
  exact hr
theorem Own.cap {a : Option Addr} {c n : Nat} (h : Own w base e size (.slice a n c) n xs) : n ≤ c ∧ n ≤ maxLen := by
  rcases h.2 with ⟨he, hn⟩ | ⟨g, off, cap, cur, he, hb, hg, h1, h2, _⟩
  · injection he with _ _ h3; subst h3; subst hn; exact ⟨Nat.le_refl _, Nat.zero_le _⟩
  · injection he with _ _ h3; subst h3; exact ⟨h1, Nat.le_trans h1 h2⟩
theorem Own.someAddr {n cap : Nat} {a : Option Addr} (h : Own w base e size (.slice a n cap) n xs) (hn : 0 < n) : ∃ g off, a = some ⟨g, off, none⟩ ∧ base ≤ g ∧ g < w.heap.size := by
  rcases h.2 with ⟨_, h0⟩ | ⟨g, off, cap', cur, he, hb, hg, _⟩
  · omega
  · injection he with h1
    exact ⟨g, off, h1, hb, heap_lt hg⟩
theorem Own.notFrozen {n cap g off : Nat} (h : Own w base e size (.slice (some ⟨g, off, none⟩) n cap) n xs) (j : Nat) : w.frozen? ⟨g, j, none⟩ = false := by
  rcases h.2 with ⟨he, _⟩ | ⟨g', off', cap', cur, he, hb, hg, _⟩
  · cases he
  · injection he with h1
    injection h1 with h1
    injection h1 with h1 h2
    subst h1
    exact frozen_of_row _ _ _ _ _ hg
theorem Own.setCell1 {n cap g off : Nat} (h : Own w base e 1 (.slice (some ⟨g, off, none⟩) n cap) n xs) {i : Nat} (u : Value) : Own (w.setCell ⟨g, off + i, none⟩ u) base e 1 (.slice (some ⟨g, off, none⟩) n cap) n (xs.set i u) := by
  rcases h.2 with ⟨he, _⟩ | ⟨g', off', cap', cur, he, hb, hg, hn, hm, hs, ht⟩
  · cases he
  · injection he with h1 _ h3
    injection h1 with h1
    injection h1 with h1 h2
    subst h1; subst h2; subst h3
    refine ⟨by rw [List.length_set]; exact h.1, .inr ⟨g, off, cap, cur.setIfInBounds (off + i) u, rfl, hb, ?_, hn, hm, by simpa using hs, ?_⟩⟩
    · exact heap_setCell_same _ _ _ _ _ _ hg
    · rw [Array.toList_setIfInBounds, List.drop_set, if_neg (by omega), Nat.add_sub_cancel_left, List.take_set, ht]
end Go.Proofs.Ytjjmhmbmjpedkaa
