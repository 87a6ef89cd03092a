import Derived.Test.YtamlgnhnmilbdaaMCrB3
import Derived.Test.YtamlgnhnmilbdaaMCrB1
import Derived.Test.YtamlgnhnmilbdaaProg
import Derived.Test.YtamlgnhnmilbdaaMCrB2
set_option linter.unusedVariables false
section
/- A table: New, find, Add (of a session without grants), End, Ids, Last; walked. -/
namespace Go.Proofs.Ytamlgnhnmilbdaa
open Go.RowKit
theorem sesR_one : ∀ (w : World) (M : List Nat) (e : Ses) (cs : List Value), SesR w M e cs → ∀ v ∈ cs, v.oneCell' = true := by
  rintro w M e cs ⟨a, c, rfl, _⟩ v hv
  simp at hv
  rcases hv with rfl | rfl | rfl | rfl | rfl <;> rfl
theorem tab_ne : (105 : TypeId) ≠ 33 := by decide
theorem cNew_any (m : Int) (w : World) (h1 : 1 ≤ m) (h2 : m ≤ 16) :
    Calls Try.prog 11 #[.int .i64 m] w fun e w' => e = .returned (.tuple #[.pointer (some ⟨w.heap.size, 0, none⟩), .int .i64 0]) ∧ TabAt w' [w.heap.size] w.heap.size m 0 [] ∧ Below w.heap.size w w' := by
  refine (GCred.new_calls m w (fun v w' => v = .tuple #[.pointer (some ⟨w.heap.size, 0, none⟩), .int .i64 0] ∧ TabAt w' [w.heap.size] w.heap.size m 0 [] ∧ Below w.heap.size w w') ?_).mono (by rintro e w' ⟨v, rfl, rfl, h⟩; exact ⟨rfl, h⟩)
  unfold GCred.new_vc
  refine (within_any m 1 16 w).mono ?_
  rintro e w2 ⟨rfl, rfl⟩
  rw [decide_eq_true (show 1 ≤ m ∧ m ≤ 16 from ⟨h1, h2⟩)]
  refine ⟨keepG_nil _ _, _, rfl, br_f rfl (newO_in fun w3 n3 b3 s3 => ⟨rfl, ⟨⟨.slice none 0 0, [], [], n3, Own.nil _ _ _ _, ElsOk.nil, (fun k hk => by cases hk), fun k hk => by simp [Value.ownBlock] at hk⟩, by simp, fun k hk => by rw [List.mem_singleton] at hk; omega⟩, b3⟩)⟩
theorem tab_cell {w : World} {L M : List Nat} {n0 p : Nat} {pl la : Int} {es : List Ses} {kv : Value} {xs : List Value} (h : TabRaw w L n0 p pl la es kv xs M) : w.cell? ⟨p, 0, none⟩ = some (.int .i64 pl) ∧ w.cell? ⟨p, 0 + 1, none⟩ = some (.int .i64 la) ∧ w.cell? ⟨p, 0 + 2, none⟩ = some kv := by
  refine ⟨?_, ?_, ?_⟩ <;> (rw [h.bk.cell]; rfl)
theorem find_any {w : World} {L : List Nat} {p : Nat} {pl la : Int} {es : List Ses} (h : TabAt w L p pl la es) (hl : es.length ≤ 1000) (hs : Ids es) (x : Int) :
    Calls Try.prog 46 #[.pointer (some ⟨p, 0, none⟩), .int .i64 x] w fun e w' => (∃ (i : Nat) (k : Int), e = .returned (.tuple #[.int .i64 i, .int .i64 k]) ∧ ((k = 0 ∧ ∃ s, es[i]? = some s ∧ s.id = x) ∨ (k = 7 ∧ i = 0 ∧ ∀ s ∈ es, s.id ≠ x))) ∧ Below w.heap.size w w' := by
  refine (GCred.find_calls (some ⟨p, 0, none⟩) x w (fun v w' => (∃ (i : Nat) (k : Int), v = .tuple #[.int .i64 i, .int .i64 k] ∧ ((k = 0 ∧ ∃ s, es[i]? = some s ∧ s.id = x) ∨ (k = 7 ∧ i = 0 ∧ ∀ s ∈ es, s.id ≠ x))) ∧ Below w.heap.size w w') ?_).mono (by rintro e w' ⟨v, rfl, ⟨i, k, rfl, h⟩, h2⟩; exact ⟨⟨i, k, rfl, h⟩, h2⟩)
  unfold GCred.find_vc
  obtain ⟨kv, xs, M, hr⟩ := h.raw w.heap.size
  obtain ⟨a, c, rfl⟩ := hr.own.isSlice
  refine br_f rfl ⟨_, _, _, (tab_cell hr).2.2, (search_any hr hl hs x).mono ?_⟩
  rintro e w2 ⟨⟨i, b, rfl, h1, h2⟩, b2⟩
  refine ⟨keepG_nil _ _, _, _, rfl, br_not (br_split.2 ⟨fun hb => ⟨⟨i, 0, rfl, .inl ⟨rfl, h1 hb⟩⟩, b2⟩, fun hb => ⟨⟨0, 7, rfl, .inr ⟨rfl, rfl, h2 hb⟩⟩, b2⟩⟩)⟩
theorem delete_any {w : World} {M : List Nat} {es : List Ses} {a : Option Addr} {c : Nat} {xs : List Value} (hO : Own w 0 33 5 (.slice a es.length c) es.length xs) (hE : ElsOk SesR 5 w M es xs) (hl : es.length ≤ 1000) {i : Nat} (hi : i < es.length) :
    Calls Try.prog 47 #[.slice a es.length c, .int .i64 i, .int .i64 ((i : Int) + 1)] w fun e w' => ∃ a' c', e = .returned (.slice a' (es.length - 1) c') ∧ Own w' 0 33 5 (.slice a' (es.length - 1) c') (es.length - 1) (xs.take (i * 5) ++ xs.drop ((i + 1) * 5)) ∧ (Value.slice a' (es.length - 1) c').ownBlock = (Value.slice a es.length c).ownBlock ∧ Fr (Value.slice a es.length c).ownBlock.toList w w' := by
  refine (GCred.delete_calls a es.length c i ((i : Int) + 1) w (fun v w' => ∃ a' c', v = .slice a' (es.length - 1) c' ∧ Own w' 0 33 5 (.slice a' (es.length - 1) c') (es.length - 1) (xs.take (i * 5) ++ xs.drop ((i + 1) * 5)) ∧ (Value.slice a' (es.length - 1) c').ownBlock = (Value.slice a es.length c).ownBlock ∧ Fr (Value.slice a es.length c).ownBlock.toList w w') ?_).mono (by rintro e w' ⟨v, rfl, a', c', rfl, h⟩; exact ⟨a', c', rfl, h⟩)
  unfold GCred.delete_vc
  obtain ⟨g, off, rfl, hc⟩ := own_somewhere hO (by omega)
  refine ⟨by omega, by omega, by omega, by omega, br_n (by omega) (drewO_in fun w2 b2 _ => ?_)⟩
  have hO2 := hO.below b2 (Nat.le_refl _)
  have h1 := els_one hE sesR_one
  have ei : ((i : Int) + 1).toNat = i + 1 := by omega
  rw [ei, Int.toNat_natCast]
  refine ⟨by omega, by omega, by omega, by omega, _, _, _, hO2.pre (by omega), hO2.tail hi Try.underlying103 h1, by unfold maxLen; omega, by omega, by simp, ?_⟩
  intro a3 c3 w3 o3 g3 _ hfit
  obtain ⟨rfl, q3⟩ := hfit (by omega)
  subst q3
  have hlen : i + (es.length - (i + 1)) = es.length - 1 := by omega
  rw [hlen] at o3 ⊢
  have e1 : sliceBase (some ⟨g, off, none⟩) c3 (((es.length - 1 : Nat) : Int).toNat) 5 = some ⟨g, off + (es.length - 1) * 5, none⟩ := by
    unfold sliceBase
    rw [if_neg (by omega), Int.toNat_natCast]
    simp [Addr.add_lit]
  rw [e1, show ((es.length : Nat) : Int).toNat - (((es.length - 1 : Nat) : Int)).toNat = 1 by omega]
  obtain ⟨k1, k2, k3, k4⟩ := own_beyond [.int .i64 0, .int .i64 0, .int .i64 0, .int .i64 0, .slice none 0 0] ((es.length - 1) * 5) w3 o3 (Nat.le_refl _) (by simp; omega)
  refine ⟨by omega, by omega, by omega, .inr ⟨g, _, rfl, fun x hx => by simp at hx, k1, fun w4 e4 => ?_⟩⟩
  subst e4
  refine ⟨_, _, rfl, k2, rfl, ?_⟩
  exact (((Fr.ofBelow (L := [g]) b2).grown g3 (fun k hk => by injection hk with hk; subst hk; exact .inl (by simp [Value.ownBlock]))).trans k3 (Gr.refl _ _))
theorem ids_erase {es : List Ses} (h : Ids es) (i : Nat) : Ids (es.eraseIdx i) := by
  intro a b s t hab ha hb
  rw [List.getElem?_eraseIdx] at ha hb
  split at ha <;> split at hb
  · exact h _ _ _ _ hab ha hb
  · exact h _ _ _ _ (by omega) ha hb
  · exact h _ _ _ _ (by omega) ha hb
  · exact h _ _ _ _ (by omega) ha hb
theorem end_any {w : World} {L : List Nat} {p : Nat} {pl la : Int} {es : List Ses} (h : TabAt w L p pl la es) (hl : es.length ≤ 1000) (hs : Ids es) (x : Int) :
    Calls Try.prog 13 #[.pointer (some ⟨p, 0, none⟩), .int .i64 x] w fun e w' => ∃ L' es', (if ∃ s ∈ es, s.id = x then e = .returned (.int .i64 0) ∧ ∃ i s, es[i]? = some s ∧ s.id = x ∧ es' = es.eraseIdx i else e = .returned (.int .i64 7) ∧ es' = es) ∧ TabAt w' L' p pl la es' ∧ Fr L w w' ∧ Gr L L' w.heap.size := by
  refine (GCred.tend_calls (some ⟨p, 0, none⟩) x w (fun v w' => ∃ L' es', (if ∃ s ∈ es, s.id = x then v = .int .i64 0 ∧ ∃ i s, es[i]? = some s ∧ s.id = x ∧ es' = es.eraseIdx i else v = .int .i64 7 ∧ es' = es) ∧ TabAt w' L' p pl la es' ∧ Fr L w w' ∧ Gr L L' w.heap.size) ?_).mono (by
    rintro e w' ⟨v, rfl, L', es', h1, h2⟩
    refine ⟨L', es', ?_, h2⟩
    split at h1
    · obtain ⟨rfl, h1⟩ := h1; rw [if_pos (by assumption)]; exact ⟨rfl, h1⟩
    · obtain ⟨rfl, h1⟩ := h1; rw [if_neg (by assumption)]; exact ⟨rfl, h1⟩)
  unfold GCred.tend_vc
  refine (find_any h hl hs x).mono ?_
  rintro e w2 ⟨⟨i, k, rfl, hk⟩, b2⟩
  refine ⟨keepG_nil _ _, _, _, rfl, ?_⟩
  rcases hk with ⟨rfl, s, hsi, hsx⟩ | ⟨rfl, rfl, hno⟩
  · have hex : ∃ s ∈ es, s.id = x := ⟨s, List.mem_of_getElem? hsi, hsx⟩
    have hi : i < es.length := (List.getElem?_eq_some_iff.1 hsi).1
    refine br_n (by simp) ?_
    obtain ⟨kv, xs, M, hr⟩ := (h.below sesR b2).raw w.heap.size
    obtain ⟨a, c, rfl⟩ := hr.own.isSlice
    refine ⟨_, _, _, (tab_cell hr).2.2, ?_⟩
    rw [wr64 (by omega) (by omega)]
    refine (delete_any hr.own hr.els hl hi).mono ?_
    rintro e w3 ⟨a3, c3, rfl, o3, q3, f3⟩
    have hpk : (Value.slice a es.length c).ownBlock ≠ some p := own_apart hr.bk hr.own tab_ne
    have hp3 : w3.heap[p]? = w2.heap[p]? := f3.block p hr.bk.lt (by simpa using fun e => hpk e)
    have hM3 : ∀ b ∈ M, w3.heap[b]? = w2.heap[b]? := fun b hb => f3.block b (hr.under b hb) (by simpa using fun e => (hr.far b hb).2.2 e)
    have b3 := hr.bk.keep hp3
    refine ⟨keepG_nil _ _, _, _, _, rfl, stO_set b3 (by simp [tabF]) (by simp) ?_⟩
    have R := hr.turn sesR tab_ne (n0 := w.heap.size) b2.size (hr.els.erase hi) (w' := w3) (v1 := .slice a3 (es.length - 1) c3) (by rw [List.length_eraseIdx_of_lt hi]; exact o3) hp3 hM3 f3.size (.inl q3) (j := 2) rfl
    obtain ⟨L', hL, hG⟩ := R.at h.mem
    refine ⟨L', es.eraseIdx i, by rw [if_pos hex]; exact ⟨rfl, i, s, hsi, hsx, rfl⟩, hL, ?_, hG⟩
    have F : Fr L w w3 := (Fr.ofBelow (L := L) b2).trans f3 (fun b hb => by
      have := hr.mine b (by simpa using hb)
      exact this)
    exact F.setCell (p := ⟨p, 2, none⟩) (.inl h.mem) _
  · have hex : ¬ ∃ s ∈ es, s.id = x := fun ⟨s, h1, h2⟩ => hno s h1 h2
    refine br_y (by decide) ⟨L, es, by rw [if_neg hex]; exact ⟨rfl, rfl⟩, h.below sesR b2, Fr.ofBelow b2, Gr.refl _ _⟩
end Go.Proofs.Ytamlgnhnmilbdaa
end
section
/- Rows of ints. No program in sight. -/
namespace Go.Proofs.Ytamlgnhnmilbdaa
open Go.RowKit Go.ChangeShapes
def iV (z : Int) : Value := .int .i64 z
def ints (zs : List Int) : Prop := ∀ z ∈ zs, -9223372036854775808 ≤ z ∧ z ≤ 9223372036854775807
theorem RowAt.int {w : World} {a : Option Addr} {zs : List Int} (h : RowAt w a (zs.map iV)) {k : Nat} (hk : k < zs.length) : ∃ b off, a = some ⟨b, off, none⟩ ∧ w.cell? ⟨b, off + k, none⟩ = some (.int .i64 zs[k]) := by
  rcases h with h | ⟨b, off, ha, h⟩
  · rw [List.map_eq_nil_iff] at h; subst h; simp at hk
  · exact ⟨b, off, ha, h k _ (by rw [List.getElem?_map, List.getElem?_eq_getElem hk]; rfl)⟩
theorem one_iV {zs : List Int} : ∀ u ∈ zs.map iV, u.oneCell' = true := by
  intro u hu
  obtain ⟨x, _, rfl⟩ := List.mem_map.1 hu
  rfl
theorem min_takeI (zs : List Int) (n : Nat) : min (zs.length : Int) (n : Int) = ((zs.take n).length : Int) := by
  rw [List.length_take]; omega
variable {P : Program} {W : World} {H : Type} {enc : TypeId × Value → H}
theorem row_of_ints {a : Addr} {zs : List Int} {len : Nat} (hl : len ≤ zs.length) (hc : ∀ i, i < zs.length → W.cell? (a.add i) = some (.int .i64 (zs.getD i 0))) : (zs.take len).length = len ∧ RowAt W (some a) ((zs.take len).map iV) := by
  refine ⟨by simp; omega, ?_⟩
  cases hz : zs with
  | nil => exact .inl (by simp)
  | cons z0 r =>
    rw [← hz]
    have h0 := hc 0 (by rw [hz]; simp)
    have ha := addr_plain h0
    refine .inr ⟨a.block, a.off, by rw [← ha], fun i v hv => ?_⟩
    rw [List.getElem?_map, List.getElem?_take] at hv
    split at hv
    · rcases hq : zs[i]? with _ | z
      · rw [hq] at hv; cases hv
      · rw [hq] at hv
        simp only [Option.map_some, Option.some.injEq] at hv
        have hi : i < zs.length := (List.getElem?_eq_some_iff.1 hq).1
        have h1 := hc i hi
        rw [ha, Addr.add_lit, List.getD_eq_getElem?_getD, hq] at h1
        rw [← hv]
        exact h1
    · cases hv
theorem open_i64s {t e : TypeId} {v : Value} {d : DataW H} {p : List MemPlace} (ht : P.underlying t = some (.slice e)) (he : P.underlying e = some (.int .i64)) (hc : P.cellsOf e = 1)
    (hv : ∃ a l c, v = .slice a l c) (h : DataW.Trod enc P W 0 (fun _ => true) true t v d p) : ∃ (zs : List Int) (a : Option Addr) (c : Nat), v = .slice a zs.length c ∧ zs.length ≤ c ∧ c ≤ maxLen ∧ RowAt W a (zs.map iV) ∧ ints zs := by
  obtain ⟨a, l, c, rfl⟩ := hv
  obtain ⟨fuel, hf⟩ := h
  rcases open_ints ht he hc hf with ⟨hcs, _⟩ | ⟨x, l', c', zs, hcs, _, hl, hm, hz, _, hcell, hwz⟩
  · simp [Value.cells] at hcs
    obtain ⟨rfl, rfl, rfl⟩ := hcs
    exact ⟨[], none, 0, rfl, Nat.le_refl _, by decide, .inl rfl, fun _ h => by cases h⟩
  · simp [Value.cells] at hcs
    obtain ⟨rfl, rfl, rfl⟩ := hcs
    simp only [if_true] at hz
    obtain ⟨h1, h2⟩ := row_of_ints (len := l) (by omega) hcell
    exact ⟨zs.take l, some x, c, by rw [h1], by rw [h1]; exact hl, hm, h2, fun z hz => i64_range (hwz z (List.mem_of_mem_take hz))⟩
end Go.Proofs.Ytamlgnhnmilbdaa
end
section
/- A table: Add of a session without grants, Ids, Last; and the check of the law; walked. -/
namespace Go.Proofs.Ytamlgnhnmilbdaa
open Go.RowKit
theorem grants_nil (w : World) : Calls Try.prog 101 #[.slice none 0 0] w fun e w' => e = .returned (.bool true) ∧ w = w' := by
  refine (GCred.grants_calls none 0 0 w (fun v w' => v = .bool true ∧ w = w') ?_).mono (by rintro e w' ⟨v, rfl, rfl, rfl⟩; exact ⟨rfl, rfl⟩)
  unfold GCred.grants_vc
  refine ⟨fun x wx => x = 0 ∧ w = wx, fun _ _ => 0, ⟨rfl, rfl⟩, ?_⟩
  rintro x wx ⟨rfl, rfl⟩
  exact br_n (by decide) ⟨rfl, rfl⟩
theorem right_nil (id node : Int) (w : World) : Calls Try.prog 48 #[.agg #[.int .i64 id, .int .i64 node, .int .i64 0, .int .i64 0, .slice none 0 0]] w fun e w' => e = .returned (.bool (decide ((1 ≤ id ∧ id ≤ 4611686018427387904) ∧ 1 ≤ node ∧ node ≤ 32))) ∧ Below w.heap.size w w' := by
  refine (GCred.right_calls id node 0 0 none 0 0 w (fun v w' => v = .bool (decide ((1 ≤ id ∧ id ≤ 4611686018427387904) ∧ 1 ≤ node ∧ node ≤ 32)) ∧ Below w.heap.size w w') ?_).mono (by rintro e w' ⟨v, rfl, rfl, h⟩; exact ⟨rfl, h⟩)
  unfold GCred.right_vc
  refine newO_in fun w2 n2 b2 s2 => (within_any id _ _ w2).mono ?_
  rintro e w3 ⟨rfl, rfl⟩
  refine ⟨fun _ _ _ => rfl, _, rfl, br_dec (fun h1 => (within_any node _ _ w2).mono ?_) fun h1 => ⟨by rw [decide_eq_false (fun h => h1 h.1)], b2⟩⟩
  rintro e w3 ⟨rfl, rfl⟩
  refine ⟨fun _ _ _ => rfl, _, rfl, br_dec (fun h2 => (within_any 0 _ _ w2).mono ?_) fun h2 => ⟨by rw [decide_eq_false (fun h => h2 h.2)], b2⟩⟩
  rintro e w3 ⟨rfl, rfl⟩
  refine ⟨fun _ _ _ => rfl, _, rfl, br_t rfl ((within_any 0 _ _ w2).mono ?_)⟩
  rintro e w3 ⟨rfl, rfl⟩
  refine ⟨fun _ _ _ => rfl, _, rfl, br_t rfl ((grants_nil w2).mono ?_)⟩
  rintro e w3 ⟨rfl, rfl⟩
  exact ⟨fun _ _ _ => rfl, _, rfl, by rw [decide_eq_true ⟨h1, h2⟩], b2⟩
theorem clone_nil (w : World) : Calls Try.prog 102 #[.slice none 0 0] w fun e w' => e = .returned (.slice none 0 0) ∧ w = w' := by
  refine (GCred.clone_calls none 0 0 w (fun v w' => v = .slice none 0 0 ∧ w = w') ?_).mono (by rintro e w' ⟨v, rfl, rfl, rfl⟩; exact ⟨rfl, rfl⟩)
  exact br_t rfl ⟨rfl, rfl⟩
theorem copied_nil (id node : Int) (w : World) : Calls Try.prog 49 #[.agg #[.int .i64 id, .int .i64 node, .int .i64 0, .int .i64 0, .slice none 0 0]] w fun e w' => e = .returned (.agg #[.int .i64 id, .int .i64 node, .int .i64 0, .int .i64 0, .slice none 0 0]) ∧ Below w.heap.size w w' := by
  refine (GCred.copied_calls id node 0 0 none 0 0 w (fun v w' => v = .agg #[.int .i64 id, .int .i64 node, .int .i64 0, .int .i64 0, .slice none 0 0] ∧ Below w.heap.size w w') ?_).mono (by rintro e w' ⟨v, rfl, rfl, h⟩; exact ⟨rfl, h⟩)
  unfold GCred.copied_vc
  refine newO_in fun w2 n2 b2 s2 => newO_in fun w3 n3 b3 s3 => (clone_nil w3).mono ?_
  rintro e w4 ⟨rfl, rfl⟩
  refine ⟨fun _ _ _ => rfl, _, _, _, rfl, fun w5 h5 w6 h6 => ⟨rfl, ?_⟩⟩
  exact box_below (box_below (b2.trans (b3.mono b2.size)) (Nat.le_refl _) h5) b2.size h6
theorem add_nil {w : World} {L : List Nat} {p : Nat} {pl la : Int} {es : List Ses} (h : TabAt w L p pl la es) (hl : es.length ≤ 1000) (id node : Int) (hi : 1 ≤ id ∧ id ≤ 4611686018427387904) (hn : 1 ≤ node ∧ node ≤ 32) :
    Calls Try.prog 14 #[.pointer (some ⟨p, 0, none⟩), .agg #[.int .i64 id, .int .i64 node, .int .i64 0, .int .i64 0, .slice none 0 0]] w fun e w' => ∃ L', TabAt w' L' p pl (if id ≤ la then la else if (es.length : Int) = pl then la else id) (if id ≤ la then es else if (es.length : Int) = pl then es else es ++ [⟨id, node, 0, 0, []⟩]) ∧ e = .returned (.int .i64 (if id ≤ la then 13 else if (es.length : Int) = pl then 10 else 0)) ∧ Fr L w w' ∧ Gr L L' w.heap.size := by
  refine (GCred.add_calls (some ⟨p, 0, none⟩) id node 0 0 none 0 0 w (fun v w' => ∃ L', TabAt w' L' p pl (if id ≤ la then la else if (es.length : Int) = pl then la else id) (if id ≤ la then es else if (es.length : Int) = pl then es else es ++ [⟨id, node, 0, 0, []⟩]) ∧ v = .int .i64 (if id ≤ la then 13 else if (es.length : Int) = pl then 10 else 0) ∧ Fr L w w' ∧ Gr L L' w.heap.size) ?_).mono (by rintro e w' ⟨v, rfl, L', h1, rfl, h2⟩; exact ⟨L', h1, rfl, h2⟩)
  unfold GCred.add_vc
  have hpl := h.under p h.mem
  refine newO_in fun w2 n2 b2 s2 => br_f rfl ((right_nil id node w2).mono ?_)
  rintro e w3 ⟨rfl, b3⟩
  rw [decide_eq_true ⟨hi, hn⟩]
  have B3 := b2.trans (b3.mono b2.size)
  have b3s := b3.size
  refine ⟨keepG_below b3, _, rfl, br_f rfl (drewO_in fun w4 b4 _ => ?_)⟩
  have B4 := B3.trans (b4.mono B3.size)
  have b4s := b4.size
  obtain ⟨kv, xs, M, hr⟩ := h.raw w.heap.size
  obtain ⟨a, c, rfl⟩ := hr.own.isSlice
  have hr4 := hr.below sesR B4
  refine ⟨_, (tab_cell hr4).2.1, br_dec (fun h13 => ?_) fun h13 => ?_⟩
  · simp only [if_pos h13]
    exact ⟨L, h.below sesR B4, trivial, Fr.ofBelow B4, Gr.refl _ _⟩
  simp only [if_neg h13]
  refine drewO_in fun w5 b5 _ => ?_
  have B5 := B4.trans (b5.mono B4.size)
  have b5s := b5.size
  have hr5 := hr4.below sesR b5
  refine ⟨_, _, _, (tab_cell hr5).2.2, _, (tab_cell hr5).1, br_dec (fun h10 => ?_) fun h10 => ?_⟩
  · simp only [if_pos h10]
    exact ⟨L, h.below sesR B5, trivial, Fr.ofBelow B5, Gr.refl _ _⟩
  simp only [if_neg h10]
  refine drewO_in fun w6 b6 _ => ?_
  have B6 := B5.trans (b6.mono B5.size)
  have b6s := b6.size
  have hr6 := hr5.below sesR b6
  refine ⟨_, _, _, (tab_cell hr6).2.2, (copied_nil id node w6).mono ?_⟩
  rintro e w7 ⟨rfl, b7⟩
  have B7 := B6.trans (b7.mono B6.size)
  have b7s := b7.size
  have hr7 := hr6.below sesR b7
  refine ⟨keepG_below b7, _, _, _, _, _, _, _, rfl, (tab_cell hr7).2.2, newO_in fun w8 n8 b8 s8 => ?_⟩
  have B8 := B7.trans (b8.mono B7.size)
  have hr8 := hr7.below sesR b8
  have hown : ∀ k, (Value.slice a es.length c).ownBlock = some k → k < w.heap.size := fun k hk => (hr.own.lt k hk).2
  refine ⟨(tab_cell hr8).2.2, 1, xs, [.int .i64 id, .int .i64 node, .int .i64 0, .int .i64 0, .slice none 0 0], hr8.own, src_block Try.underlying103 (n := 1) (size := 5) n8 rfl rfl, by unfold maxLen; omega, by omega, fun g hg e => ?_, ?_⟩
  · rw [List.mem_singleton] at hg; subst hg
    exact absurd (hown _ e) (Nat.lt_irrefl _)
  intro a9 c9 w9 o9 g9 hor _
  have hpk : (Value.slice a es.length c).ownBlock ≠ some p := own_apart hr8.bk hr8.own tab_ne
  have hp9 : w9.heap[p]? = w8.heap[p]? := g9.block p hr8.bk.lt fun e => hpk e.symm
  have hM9 : ∀ b ∈ M, w9.heap[b]? = w8.heap[b]? := fun b hb => g9.block b (hr8.under b hb) fun e => (hr8.far b hb).2.2 e.symm
  have hE := hr8.els.app sesR (e := ⟨id, node, 0, 0, []⟩) (cs := [.int .i64 id, .int .i64 node, .int .i64 0, .int .i64 0, .slice none 0 0]) ⟨none, 0, rfl, .inl rfl, Nat.le_refl _⟩
  have R := hr8.turn sesR tab_ne B8.size hE (w' := w9) (v1 := .slice a9 (es.length + 1) c9) (by rw [List.length_append]; exact o9) hp9 hM9 g9.size hor (j := 2) rfl
  have R2 := R.cell sesR tab_ne (j := 1) (v := .int .i64 id) (f' := tabF pl id) rfl
  have hgp : w.heap.size ≠ p := by omega
  refine stO_set (hr8.bk.keep hp9) (by simp [tabF]) (by simpa using hgp) (stO_set R.bk (by simp [tabF]) (by simpa using hgp) ?_)
  obtain ⟨L', hL, hG⟩ := R2.at h.mem
  refine ⟨L', hL, trivial, ?_, hG⟩
  exact (((Fr.ofBelow (L := L) B8).grown g9 hr8.mine).setCell (p := ⟨p, 2, none⟩) (.inl h.mem) _).setCell (p := ⟨p, 1, none⟩) (.inl h.mem) _
theorem last_any {w : World} {L : List Nat} {p : Nat} {pl la : Int} {es : List Ses} (h : TabAt w L p pl la es) : Calls Try.prog 17 #[.pointer (some ⟨p, 0, none⟩)] w fun e w' => e = .returned (.int .i64 la) ∧ w = w' := by
  refine (GCred.last_calls (some ⟨p, 0, none⟩) w (fun v w' => v = .int .i64 la ∧ w = w') ?_).mono (by rintro e w' ⟨v, rfl, rfl, rfl⟩; exact ⟨rfl, rfl⟩)
  obtain ⟨kv, xs, M, hr⟩ := h.raw w.heap.size
  exact br_f rfl ⟨_, (tab_cell hr).2.1, rfl, rfl⟩
end Go.Proofs.Ytamlgnhnmilbdaa
end
section
/- Sessions with grants: are they sessions, their copies; walked. -/
namespace Go.Proofs.Ytamlgnhnmilbdaa
open Go.RowKit
theorem flat_len {α : Type} {f : α → List Value} {k : Nat} (hk : ∀ x, (f x).length = k) : ∀ es : List α, (es.flatMap f).length = es.length * k
  | [] => by simp
  | e :: r => by rw [List.flatMap_cons, List.length_append, flat_len hk r, hk, List.length_cons, Nat.add_mul]; omega
theorem flat_get {α : Type} {f : α → List Value} {k : Nat} (hk : ∀ x, (f x).length = k) : ∀ (es : List α) (i : Nat) (e : α) (j : Nat), es[i]? = some e → j < k → (es.flatMap f)[i * k + j]? = (f e)[j]?
  | x :: r, 0, e, j, h, hj => by
    cases h
    rw [List.flatMap_cons, List.getElem?_append_left (by rw [hk]; omega)]
    congr 1; omega
  | x :: r, i + 1, e, j, h, hj => by
    have e1 : (i + 1) * k = i * k + k := by rw [Nat.add_mul, Nat.one_mul]
    rw [List.flatMap_cons, List.getElem?_append_right (by rw [hk]; omega), hk, show (i + 1) * k + j - k = i * k + j by omega]
    exact flat_get hk r i e j (by simpa using h) hj
theorem g4_len (g : Gr4) : (g4Cells g).length = 4 := rfl
theorem g4_one : ∀ (gs : List Gr4), ∀ v ∈ gs.flatMap g4Cells, v.oneCell' = true := by
  intro gs v hv
  obtain ⟨g, _, hg⟩ := List.mem_flatMap.1 hv
  simp [g4Cells] at hg
  rcases hg with rfl | rfl | rfl | rfl <;> rfl
/-- Grants that lie anywhere. -/
def GrAt (w : World) (a : Option Addr) (gs : List Gr4) : Prop := RowsAt (fun w b off g => cellsAt w b off (g4Cells g)) 4 w a gs
theorem GrAt.below {w w' : World} {a : Option Addr} {gs : List Gr4} (h : GrAt w a gs) (hb : Below w.heap.size w w') : GrAt w' a gs := RowsAt.mono h fun _ _ _ h => cellsAt_below h hb (Nat.le_refl _)
theorem GrIn.anywhere {w : World} {M : List Nat} {a : Option Addr} {gs : List Gr4} (h : GrIn w M a gs) : GrAt w a gs := by
  rcases h with h | ⟨b, off, ha, _, h⟩
  · exact .inl h
  · exact .inr ⟨b, off, ha, h⟩
theorem GrIn.ofOwn {w : World} {b0 : Nat} {a : Option Addr} {c : Nat} {gs : List Gr4} (h : Own w b0 115 4 (.slice a gs.length c) gs.length (gs.flatMap g4Cells)) : GrIn w (Value.slice a gs.length c).ownBlock.toList a gs := by
  by_cases h0 : gs = []
  · exact .inl h0
  · obtain ⟨g, off, rfl, _⟩ := own_somewhere h (List.length_pos_iff.2 h0)
    refine .inr ⟨g, off, rfl, by simp [Value.ownBlock], fun i x hx => cellsAt_list fun j v hv => ?_⟩
    have hj : j < 4 := (List.getElem?_eq_some_iff.1 hv).1
    have := flat_get g4_len gs i x j hx hj
    rw [Nat.add_assoc]
    exact h.cells g off c rfl _ v (by rw [this]; exact hv)
theorem gr_src {w : World} {ad : Addr} {c : Nat} {gs : List Gr4} (h : GrAt w (some ad) gs) : Src Try.prog 4 31 (.slice (some ad) gs.length c) gs.length (gs.flatMap g4Cells) w := by
  refine Src.ofSlice w Try.underlying31 ad _ _ _ (flat_len g4_len gs) (fun j u hu => ?_) (g4_one gs)
  rcases h with rfl | ⟨b, off, ha, h⟩
  · cases hu
  · injection ha with ha; subst ha
    have hlt := (List.getElem?_eq_some_iff.1 hu).1
    rw [flat_len g4_len] at hlt
    have hi : j / 4 < gs.length := by omega
    have hx := List.getElem?_eq_getElem hi
    have h1 := flat_get g4_len gs (j / 4) _ (j % 4) hx (by omega)
    rw [show j / 4 * 4 + j % 4 = j by omega, hu] at h1
    have := cellsAt_get (h _ _ hx) (j % 4) u h1.symm
    rw [Addr.add_lit]
    rwa [show off + j / 4 * 4 + j % 4 = off + j by omega] at this
def grIn (g : Gr4) : Prop := (1 ≤ g.grp ∧ g.grp ≤ 8) ∧ (0 ≤ g.units ∧ g.units ≤ 1073741824) ∧ 0 ≤ g.amount ∧ g.amount ≤ 9007199254740992
instance (g : Gr4) : Decidable (grIn g) := by unfold grIn; infer_instance
def GrsOk (gs : List Gr4) : Prop := (∀ g ∈ gs, grIn g) ∧ (gs.map (·.grp)).Nodup ∧ gs.length ≤ 4
instance (gs : List Gr4) : Decidable (GrsOk gs) := by unfold GrsOk; infer_instance
def SesOk (s : Ses) : Prop := (1 ≤ s.id ∧ s.id ≤ 4611686018427387904) ∧ (1 ≤ s.node ∧ s.node ≤ 32) ∧ (0 ≤ s.num ∧ s.num ≤ 4611686018427387904) ∧ (0 ≤ s.dl ∧ s.dl ≤ 4611686018427387904) ∧ GrsOk s.gs
instance (s : Ses) : Decidable (SesOk s) := by unfold SesOk; infer_instance
theorem gr1_any (y : Gr4) (g : Nat) (x : Int) (w : World) (hc : w.cell? ⟨g, 0, none⟩ = some (.int .i64 x)) (hg : g < w.heap.size) :
    Calls Try.prog 124 #[.agg #[.int .i64 y.grp, .int .i64 y.units, .int .i64 y.amount, .bool y.fin], .pointer (some ⟨g, 0, none⟩)] w fun e w' => e = .returned (.bool (decide (y.grp = x))) ∧ Below w.heap.size w w' := by
  refine (GCred.grants1_calls y.grp y.units y.amount y.fin (some ⟨g, 0, none⟩) w (fun v w' => v = .bool (decide (y.grp = x)) ∧ Below w.heap.size w w') ?_).mono (by rintro e w' ⟨v, rfl, rfl, h⟩; exact ⟨rfl, h⟩)
  unfold GCred.grants1_vc
  exact newO_in fun w2 n2 b2 s2 => ⟨x, (cell_keep (b2.block g hg) 0).trans hc, rfl, b2⟩
theorem index_any (a : Option Addr) (n c g : Nat) (gs : List Gr4) (x : Int) (w : World) (h : GrAt w a gs) (hn : n ≤ gs.length) (hl : gs.length ≤ maxLen) (hc : w.cell? ⟨g, 0, none⟩ = some (.int .i64 x)) (hg : g < w.heap.size) :
    Calls Try.prog 133 #[.slice a n c, .func (.func 124) #[] #[.pointer (some ⟨g, 0, none⟩)]] w fun e w' => (∃ r : Int, e = .returned (.int .i64 r) ∧ (0 ≤ r ↔ x ∈ (gs.take n).map (·.grp))) ∧ Below w.heap.size w w' := by
  refine (GCred.index_calls a n c (some ⟨g, 0, none⟩) w (fun v w' => (∃ r : Int, v = .int .i64 r ∧ (0 ≤ r ↔ x ∈ (gs.take n).map (·.grp))) ∧ Below w.heap.size w w') ?_).mono (by rintro e w' ⟨v, rfl, ⟨r, rfl, h⟩, h2⟩; exact ⟨⟨r, rfl, h⟩, h2⟩)
  unfold GCred.index_vc
  unfold maxLen at hl
  refine ⟨fun y wx => ∃ i : Nat, y = i ∧ i ≤ n ∧ x ∉ (gs.take i).map (·.grp) ∧ Below w.heap.size w wx, fun y _ => n - y.toNat, ⟨0, rfl, by omega, by simp, Below.refl _ _⟩, ?_⟩
  rintro y wx ⟨i, rfl, hi, hno, hb⟩
  refine br_dec (fun hlt => ?_) fun hge => ?_
  · have hil : i < gs.length := by omega
    obtain ⟨b, off, rfl, hc4⟩ := RowsAt.get (h.below hb) hil
    refine ⟨by omega, by omega, gs[i].grp, gs[i].units, gs[i].amount, gs[i].fin, by rw [Int.toNat_natCast]; exact hc4, (gr1_any gs[i] g x wx ((cell_keep (hb.block g hg) 0).trans hc) (by have := hb.size; omega)).mono ?_⟩
    rintro e w3 ⟨rfl, b3⟩
    have B3 := hb.trans (b3.mono hb.size)
    refine ⟨keepG_nil _ _, _, rfl, br_dec (fun he => ⟨⟨i, rfl, ?_⟩, B3⟩) fun he => ?_⟩
    · refine ⟨fun _ => List.mem_map.2 ⟨gs[i], ?_, he⟩, fun _ => by omega⟩
      rw [List.mem_iff_getElem?]
      exact ⟨i, by rw [List.getElem?_take, if_pos (by omega), List.getElem?_eq_getElem hil]⟩
    · rw [wr64 (by omega) (by omega)]
      refine ⟨⟨i + 1, by omega, by omega, ?_, B3⟩, by dsimp only; omega⟩
      rw [List.take_add_one, List.getElem?_eq_getElem hil, List.map_append, List.mem_append]
      rintro (h1 | h1)
      · exact hno h1
      · simp at h1; exact he h1.symm
  · obtain rfl : i = n := by omega
    exact ⟨⟨-1, rfl, ⟨fun h => by omega, fun h => absurd h hno⟩⟩, hb⟩
theorem contains_any (a : Option Addr) (n c g : Nat) (gs : List Gr4) (x : Int) (w : World) (h : GrAt w a gs) (hn : n ≤ gs.length) (hl : gs.length ≤ maxLen) (hc : w.cell? ⟨g, 0, none⟩ = some (.int .i64 x)) (hg : g < w.heap.size) :
    Calls Try.prog 123 #[.slice a n c, .func (.func 124) #[] #[.pointer (some ⟨g, 0, none⟩)]] w fun e w' => e = .returned (.bool (decide (x ∈ (gs.take n).map (·.grp)))) ∧ Below w.heap.size w w' := by
  refine (GCred.contains_calls a n c (some ⟨g, 0, none⟩) w (fun v w' => v = .bool (decide (x ∈ (gs.take n).map (·.grp))) ∧ Below w.heap.size w w') ?_).mono (by rintro e w' ⟨v, rfl, rfl, h⟩; exact ⟨rfl, h⟩)
  unfold GCred.contains_vc
  refine (index_any a n c g gs x w h hn hl hc hg).mono ?_
  rintro e w2 ⟨⟨r, rfl, hr⟩, b2⟩
  refine ⟨keepG_nil _ _, _, rfl, ?_, b2⟩
  congr 1
  exact decide_eq_decide.2 hr
theorem stO_4 {gs : List Nat} {w : World} {g : Nat} {c0 c1 c2 c3 v0 v1 v2 v3 : Value} {t : TypeId} {K : World → Prop} (h : Bk w g #[c0, c1, c2, c3] t) (hg : ∀ x ∈ gs, x ≠ g) (hk : ∀ w1, Bk w1 g #[v0, v1, v2, v3] t → Fr [g] w w1 → w1.heap.size = w.heap.size → K w1) : stO gs w g 0 [v0, v1, v2, v3] K :=
  ⟨hg, h.there (by simp), fun w1 e => by
    subst e
    exact hk _ ((((h.setCell 0 v0).setCell 1 v1).setCell 2 v2).setCell 3 v3) (((((Fr.refl [g] w).setCell (p := ⟨g, 0, none⟩) (.inl (by simp)) v0).setCell (p := ⟨g, 1, none⟩) (.inl (by simp)) v1).setCell (p := ⟨g, 2, none⟩) (.inl (by simp)) v2).setCell (p := ⟨g, 3, none⟩) (.inl (by simp)) v3) (by simp [World.setCells, World.setCell])⟩
theorem grants_any (a : Option Addr) (c : Nat) (gs : List Gr4) (w : World) (h : GrAt w a gs) (hl : gs.length ≤ c) (hm : gs.length ≤ maxLen) :
    Calls Try.prog 101 #[.slice a gs.length c] w fun e w' => e = .returned (.bool (decide (GrsOk gs))) ∧ Below w.heap.size w w' := by
  refine (GCred.grants_calls a gs.length c w (fun v w' => v = .bool (decide (GrsOk gs)) ∧ Below w.heap.size w w') ?_).mono (by rintro e w' ⟨v, rfl, rfl, h⟩; exact ⟨rfl, h⟩)
  unfold GCred.grants_vc
  have hm' : gs.length ≤ 9223372036854775807 := by unfold maxLen at hm; omega
  refine ⟨fun y wx => ∃ i : Nat, y = i ∧ i ≤ gs.length ∧ (∀ g ∈ gs.take i, grIn g) ∧ ((gs.take i).map (·.grp)).Nodup ∧ Below w.heap.size w wx, fun y _ => gs.length - y.toNat, ⟨0, rfl, by omega, by simp, by simp, Below.refl _ _⟩, ?_⟩
  rintro y wx ⟨i, rfl, hi, hin, hnd, hb⟩
  refine br_dec (fun hlt => ?_) fun hge => ?_
  · have hil : i < gs.length := by omega
    have hx := List.getElem?_eq_getElem hil
    obtain ⟨b, off, ha, hc4⟩ := RowsAt.get (h.below hb) hil
    have hmem := List.getElem_mem hil
    have no : ¬ grIn gs[i] → ¬ GrsOk gs := fun h1 h2 => h1 (h2.1 _ hmem)
    subst ha
    refine ⟨by omega, by omega, gs[i].grp, gs[i].units, gs[i].amount, gs[i].fin, by rw [Int.toNat_natCast]; exact hc4, newO_in fun w3 n3 b3 s3 => ?_⟩
    refine stO_4 (show Bk w3 wx.heap.size _ 115 from n3) (by simp) fun w4 B4 f4 z4 => ?_
    have k0 : ∀ {wy : World}, Bk wy wx.heap.size #[.int .i64 gs[i].grp, .int .i64 gs[i].units, .int .i64 gs[i].amount, .bool gs[i].fin] 115 → wy.cell? ⟨wx.heap.size, 0, none⟩ = some (.int .i64 gs[i].grp) ∧ wy.cell? ⟨wx.heap.size, 1, none⟩ = some (.int .i64 gs[i].units) ∧ wy.cell? ⟨wx.heap.size, 2, none⟩ = some (.int .i64 gs[i].amount) := fun B => by
      refine ⟨?_, ?_, ?_⟩ <;> (rw [B.cell]; rfl)
    have B4w : Below w.heap.size w w4 := hb.trans ((b3.mono hb.size).trans (f4.below (fun k hk => by rw [List.mem_singleton] at hk; have := hb.size; omega) (by have := hb.size; have := b3.size; omega)))
    refine ⟨_, (k0 B4).1, (within_any _ _ _ w4).mono ?_⟩
    rintro e w5 ⟨rfl, rfl⟩
    refine ⟨keepG_nil _ _, _, rfl, br_not (br_dec (fun h1 => ?_) fun h1 => ⟨by rw [decide_eq_false (no fun h => h1 h.1)], B4w⟩)⟩
    refine ⟨_, (k0 B4).2.1, (within_any _ _ _ w4).mono ?_⟩
    rintro e w5 ⟨rfl, rfl⟩
    refine ⟨keepG_nil _ _, _, rfl, br_not (br_dec (fun h2 => ?_) fun h2 => ⟨by rw [decide_eq_false (no fun h => h2 h.2.1)], B4w⟩)⟩
    refine ⟨_, (k0 B4).2.2, (within_any _ _ _ w4).mono ?_⟩
    rintro e w5 ⟨rfl, rfl⟩
    refine ⟨keepG_nil _ _, _, rfl, br_not (br_dec (fun h3 => ?_) fun h3 => ⟨by rw [decide_eq_false (no fun h => h3 h.2.2)], B4w⟩)⟩
    rw [Int.toNat_natCast]
    refine ⟨by omega, by omega, (contains_any _ i c wx.heap.size gs gs[i].grp w4 (h.below B4w) hi hm (k0 B4).1 B4.lt).mono ?_⟩
    rintro e w6 ⟨rfl, b6⟩
    have B6 := B4w.trans (b6.mono B4w.size)
    have htk : gs.take (i + 1) = gs.take i ++ [gs[i]] := by rw [List.take_add_one, hx]; rfl
    refine ⟨keepG_nil _ _, _, rfl, br_dec (fun h4 => ⟨?_, B6⟩) fun h4 => ?_⟩
    · rw [decide_eq_false]
      intro hk
      have h5 : ((gs.take (i + 1)).map (·.grp)).Nodup := by rw [List.map_take]; exact hk.2.1.sublist (List.take_sublist _ _)
      rw [htk, List.map_append, List.nodup_append] at h5
      exact h5.2.2 _ h4 _ (by simp) rfl
    · rw [wr64 (by omega) (by omega)]
      refine ⟨⟨i + 1, by omega, by omega, ?_, ?_, B6⟩, by dsimp only; omega⟩
      · rw [htk]
        intro g hg
        rcases List.mem_append.1 hg with hg | hg
        · exact hin g hg
        · rw [List.mem_singleton] at hg; subst hg; exact ⟨h1, h2, h3⟩
      · rw [htk, List.map_append, List.nodup_append]
        refine ⟨hnd, by simp, ?_⟩
        intro u hu v hv
        simp at hv
        rintro rfl
        exact h4 (hv ▸ hu)
  · obtain rfl : i = gs.length := by omega
    rw [List.take_length] at hin hnd
    refine ⟨?_, hb⟩
    congr 1
    exact decide_eq_decide.2 ⟨fun h1 => ⟨hin, hnd, by omega⟩, fun h1 => by have := h1.2.2; omega⟩
end Go.Proofs.Ytamlgnhnmilbdaa
end
section
/- Conditions of functions, printed by a program of this claim's own (vcgen.py) out of the loaded code; each is proved to be enough. -/
set_option maxRecDepth 100000
namespace Go.Proofs.Ytamlgnhnmilbdaa
open Go.RowKit
namespace GCred2
def env : Env := ⟨[(3, ⟨.int .i64, 1, .int .i64 0, 8, [.int .i64]⟩), (4, ⟨.bool, 1, .bool false, 1, [.bool]⟩), (22, ⟨.slice 3, 1, .slice none 0 0, 24, [.slice]⟩), (23, ⟨.int .u64, 1, .int .u64 0, 8, [.int .u64]⟩), (24, ⟨.ptr, 1, .pointer none, 8, [.ptr]⟩), (31, ⟨.slice 115, 1, .slice none 0 0, 24, [.slice]⟩), (33, ⟨.struct [(0, 3), (1, 3), (2, 3), (3, 3), (4, 31)], 5, .agg #[.int .i64 0, .int .i64 0, .int .i64 0, .int .i64 0, .slice none 0 0], 56, [.int .i64, .int .i64, .int .i64, .int .i64, .slice]⟩), (38, ⟨.slice 55, 1, .slice none 0 0, 24, [.slice]⟩), (42, ⟨.slice 5, 1, .slice none 0 0, 24, [.slice]⟩), (48, ⟨.slice 53, 1, .slice none 0 0, 24, [.slice]⟩), (50, ⟨.struct [(0, 3), (1, 3), (2, 48)], 3, .agg #[.int .i64 0, .int .i64 0, .slice none 0 0], 40, [.int .i64, .int .i64, .slice]⟩), (51, ⟨.slice 161, 1, .slice none 0 0, 24, [.slice]⟩), (53, ⟨.struct [(0, 3), (1, 3), (2, 3), (3, 3), (4, 51)], 5, .agg #[.int .i64 0, .int .i64 0, .int .i64 0, .int .i64 0, .slice none 0 0], 56, [.int .i64, .int .i64, .int .i64, .int .i64, .slice]⟩), (55, ⟨.struct [(0, 3), (1, 53), (6, 3)], 7, .agg #[.int .i64 0, .int .i64 0, .int .i64 0, .int .i64 0, .int .i64 0, .slice none 0 0, .int .i64 0], 72, [.int .i64, .int .i64, .int .i64, .int .i64, .int .i64, .slice, .int .i64]⟩), (103, ⟨.slice 33, 1, .slice none 0 0, 24, [.slice]⟩), (105, ⟨.struct [(0, 3), (1, 3), (2, 103)], 3, .agg #[.int .i64 0, .int .i64 0, .slice none 0 0], 40, [.int .i64, .int .i64, .slice]⟩), (112, ⟨.struct [(0, 42), (1, 4)], 2, .agg #[.slice none 0 0, .bool false], 32, [.slice, .bool]⟩), (115, ⟨.struct [(0, 3), (1, 3), (2, 3), (3, 4)], 4, .agg #[.int .i64 0, .int .i64 0, .int .i64 0, .bool false], 32, [.int .i64, .int .i64, .int .i64, .bool]⟩), (121, ⟨.arr 33 51, 33, .agg #[.slice none 0 0, .slice none 0 0, .slice none 0 0, .slice none 0 0, .slice none 0 0, .slice none 0 0, .slice none 0 0, .slice none 0 0, .slice none 0 0, .slice none 0 0, .slice none 0 0, .slice none 0 0, .slice none 0 0, .slice none 0 0, .slice none 0 0, .slice none 0 0, .slice none 0 0, .slice none 0 0, .slice none 0 0, .slice none 0 0, .slice none 0 0, .slice none 0 0, .slice none 0 0, .slice none 0 0, .slice none 0 0, .slice none 0 0, .slice none 0 0, .slice none 0 0, .slice none 0 0, .slice none 0 0, .slice none 0 0, .slice none 0 0, .slice none 0 0], 792, [.slice, .slice, .slice, .slice, .slice, .slice, .slice, .slice, .slice, .slice, .slice, .slice, .slice, .slice, .slice, .slice, .slice, .slice, .slice, .slice, .slice, .slice, .slice, .slice, .slice, .slice, .slice, .slice, .slice, .slice, .slice, .slice, .slice]⟩), (161, ⟨.struct [(0, 3), (1, 3), (2, 3), (3, 4)], 4, .agg #[.int .i64 0, .int .i64 0, .int .i64 0, .bool false], 32, [.int .i64, .int .i64, .int .i64, .bool]⟩)], [(11, [.lf (.ptr), .lf (.int .i64)]), (12, [.lf (.bool)]), (13, [.lf (.int .i64)]), (14, [.lf (.int .i64)]), (15, [.lf (.bool)]), (16, [.lf (.slice)]), (17, [.lf (.int .i64)]), (18, [.lf (.ptr)]), (19, [.agg [.int .i64, .int .i64, .int .i64, .int .i64, .slice], .lf (.int .i64)]), (20, [.lf (.slice), .lf (.int .i64)]), (21, [.lf (.int .i64)]), (22, [.lf (.int .i64)]), (23, [.lf (.int .i64)]), (24, [.lf (.bool)]), (25, [.lf (.bool)]), (26, [.lf (.int .i64)]), (46, [.lf (.int .i64), .lf (.int .i64)]), (48, [.lf (.bool)]), (49, [.agg [.int .i64, .int .i64, .int .i64, .int .i64, .slice]]), (50, []), (51, []), (52, [.lf (.slice), .lf (.int .i64)]), (53, [.lf (.int .i64)]), (54, [.agg [.int .i64, .int .i64, .int .i64, .int .i64, .slice]]), (55, [.agg [.int .i64, .int .i64, .int .i64, .int .i64, .slice]]), (56, [.lf (.int .i64)]), (57, [.lf (.int .i64)]), (58, [.lf (.int .i64)]), (59, [.lf (.int .i64)]), (60, [.lf (.bool)]), (61, [.agg [.int .i64, .int .i64, .int .i64, .int .i64, .slice]]), (62, [.lf (.int .i64)]), (87, [.lf (.bool)]), (89, [.lf (.bool)]), (105, [.lf (.int .i64), .lf (.bool)]), (106, [.lf (.int .i64), .lf (.bool)])], [161]⟩
theorem ty3 : TyOk Try.prog 3 ⟨.int .i64, 1, .int .i64 0, 8, [.int .i64]⟩ := tyok (by kernel_rfl) (by kernel_rfl)
theorem ty4 : TyOk Try.prog 4 ⟨.bool, 1, .bool false, 1, [.bool]⟩ := tyok (by kernel_rfl) (by kernel_rfl)
theorem ty22 : TyOk Try.prog 22 ⟨.slice 3, 1, .slice none 0 0, 24, [.slice]⟩ := tyok (by kernel_rfl) (by kernel_rfl)
theorem ty23 : TyOk Try.prog 23 ⟨.int .u64, 1, .int .u64 0, 8, [.int .u64]⟩ := tyok (by kernel_rfl) (by kernel_rfl)
theorem ty24 : TyOk Try.prog 24 ⟨.ptr, 1, .pointer none, 8, [.ptr]⟩ := tyok (by kernel_rfl) (by kernel_rfl)
theorem ty31 : TyOk Try.prog 31 ⟨.slice 115, 1, .slice none 0 0, 24, [.slice]⟩ := tyok (by kernel_rfl) (by kernel_rfl)
theorem ty33 : TyOk Try.prog 33 ⟨.struct [(0, 3), (1, 3), (2, 3), (3, 3), (4, 31)], 5, .agg #[.int .i64 0, .int .i64 0, .int .i64 0, .int .i64 0, .slice none 0 0], 56, [.int .i64, .int .i64, .int .i64, .int .i64, .slice]⟩ := tyok (by kernel_rfl) (by kernel_rfl)
theorem ty38 : TyOk Try.prog 38 ⟨.slice 55, 1, .slice none 0 0, 24, [.slice]⟩ := tyok (by kernel_rfl) (by kernel_rfl)
theorem ty42 : TyOk Try.prog 42 ⟨.slice 5, 1, .slice none 0 0, 24, [.slice]⟩ := tyok (by kernel_rfl) (by kernel_rfl)
theorem ty48 : TyOk Try.prog 48 ⟨.slice 53, 1, .slice none 0 0, 24, [.slice]⟩ := tyok (by kernel_rfl) (by kernel_rfl)
theorem ty50 : TyOk Try.prog 50 ⟨.struct [(0, 3), (1, 3), (2, 48)], 3, .agg #[.int .i64 0, .int .i64 0, .slice none 0 0], 40, [.int .i64, .int .i64, .slice]⟩ := tyok (by kernel_rfl) (by kernel_rfl)
theorem ty51 : TyOk Try.prog 51 ⟨.slice 161, 1, .slice none 0 0, 24, [.slice]⟩ := tyok (by kernel_rfl) (by kernel_rfl)
theorem ty53 : TyOk Try.prog 53 ⟨.struct [(0, 3), (1, 3), (2, 3), (3, 3), (4, 51)], 5, .agg #[.int .i64 0, .int .i64 0, .int .i64 0, .int .i64 0, .slice none 0 0], 56, [.int .i64, .int .i64, .int .i64, .int .i64, .slice]⟩ := tyok (by kernel_rfl) (by kernel_rfl)
theorem ty55 : TyOk Try.prog 55 ⟨.struct [(0, 3), (1, 53), (6, 3)], 7, .agg #[.int .i64 0, .int .i64 0, .int .i64 0, .int .i64 0, .int .i64 0, .slice none 0 0, .int .i64 0], 72, [.int .i64, .int .i64, .int .i64, .int .i64, .int .i64, .slice, .int .i64]⟩ := tyok (by kernel_rfl) (by kernel_rfl)
theorem ty103 : TyOk Try.prog 103 ⟨.slice 33, 1, .slice none 0 0, 24, [.slice]⟩ := tyok (by kernel_rfl) (by kernel_rfl)
theorem ty105 : TyOk Try.prog 105 ⟨.struct [(0, 3), (1, 3), (2, 103)], 3, .agg #[.int .i64 0, .int .i64 0, .slice none 0 0], 40, [.int .i64, .int .i64, .slice]⟩ := tyok (by kernel_rfl) (by kernel_rfl)
theorem ty112 : TyOk Try.prog 112 ⟨.struct [(0, 42), (1, 4)], 2, .agg #[.slice none 0 0, .bool false], 32, [.slice, .bool]⟩ := tyok (by kernel_rfl) (by kernel_rfl)
theorem ty115 : TyOk Try.prog 115 ⟨.struct [(0, 3), (1, 3), (2, 3), (3, 4)], 4, .agg #[.int .i64 0, .int .i64 0, .int .i64 0, .bool false], 32, [.int .i64, .int .i64, .int .i64, .bool]⟩ := tyok (by kernel_rfl) (by kernel_rfl)
theorem ty121 : TyOk Try.prog 121 ⟨.arr 33 51, 33, .agg #[.slice none 0 0, .slice none 0 0, .slice none 0 0, .slice none 0 0, .slice none 0 0, .slice none 0 0, .slice none 0 0, .slice none 0 0, .slice none 0 0, .slice none 0 0, .slice none 0 0, .slice none 0 0, .slice none 0 0, .slice none 0 0, .slice none 0 0, .slice none 0 0, .slice none 0 0, .slice none 0 0, .slice none 0 0, .slice none 0 0, .slice none 0 0, .slice none 0 0, .slice none 0 0, .slice none 0 0, .slice none 0 0, .slice none 0 0, .slice none 0 0, .slice none 0 0, .slice none 0 0, .slice none 0 0, .slice none 0 0, .slice none 0 0, .slice none 0 0], 792, [.slice, .slice, .slice, .slice, .slice, .slice, .slice, .slice, .slice, .slice, .slice, .slice, .slice, .slice, .slice, .slice, .slice, .slice, .slice, .slice, .slice, .slice, .slice, .slice, .slice, .slice, .slice, .slice, .slice, .slice, .slice, .slice, .slice]⟩ := tyok (by kernel_rfl) (by kernel_rfl)
theorem ty161 : TyOk Try.prog 161 ⟨.struct [(0, 3), (1, 3), (2, 3), (3, 4)], 4, .agg #[.int .i64 0, .int .i64 0, .int .i64 0, .bool false], 32, [.int .i64, .int .i64, .int .i64, .bool]⟩ := tyok (by kernel_rfl) (by kernel_rfl)
theorem fn11 : FnOk Try.prog 11 := fnok Try.func11 (by kernel_rfl) (by kernel_rfl)
theorem fn12 : FnOk Try.prog 12 := fnok Try.func12 (by kernel_rfl) (by kernel_rfl)
theorem fn13 : FnOk Try.prog 13 := fnok Try.func13 (by kernel_rfl) (by kernel_rfl)
theorem fn14 : FnOk Try.prog 14 := fnok Try.func14 (by kernel_rfl) (by kernel_rfl)
theorem fn15 : FnOk Try.prog 15 := fnok Try.func15 (by kernel_rfl) (by kernel_rfl)
theorem fn16 : FnOk Try.prog 16 := fnok Try.func16 (by kernel_rfl) (by kernel_rfl)
theorem fn17 : FnOk Try.prog 17 := fnok Try.func17 (by kernel_rfl) (by kernel_rfl)
theorem fn18 : FnOk Try.prog 18 := fnok Try.func18 (by kernel_rfl) (by kernel_rfl)
theorem fn19 : FnOk Try.prog 19 := fnok Try.func19 (by kernel_rfl) (by kernel_rfl)
theorem fn20 : FnOk Try.prog 20 := fnok Try.func20 (by kernel_rfl) (by kernel_rfl)
theorem fn21 : FnOk Try.prog 21 := fnok Try.func21 (by kernel_rfl) (by kernel_rfl)
theorem fn22 : FnOk Try.prog 22 := fnok Try.func22 (by kernel_rfl) (by kernel_rfl)
theorem fn23 : FnOk Try.prog 23 := fnok Try.func23 (by kernel_rfl) (by kernel_rfl)
theorem fn24 : FnOk Try.prog 24 := fnok Try.func24 (by kernel_rfl) (by kernel_rfl)
theorem fn25 : FnOk Try.prog 25 := fnok Try.func25 (by kernel_rfl) (by kernel_rfl)
theorem fn26 : FnOk Try.prog 26 := fnok Try.func26 (by kernel_rfl) (by kernel_rfl)
theorem fn46 : FnOk Try.prog 46 := fnok Try.func46 (by kernel_rfl) (by kernel_rfl)
theorem fn48 : FnOk Try.prog 48 := fnok Try.func48 (by kernel_rfl) (by kernel_rfl)
theorem fn49 : FnOk Try.prog 49 := fnok Try.func49 (by kernel_rfl) (by kernel_rfl)
theorem fn50 : FnOk Try.prog 50 := fnok Try.func50 (by kernel_rfl) (by kernel_rfl)
theorem fn51 : FnOk Try.prog 51 := fnok Try.func51 (by kernel_rfl) (by kernel_rfl)
theorem fn52 : FnOk Try.prog 52 := fnok Try.func52 (by kernel_rfl) (by kernel_rfl)
theorem fn53 : FnOk Try.prog 53 := fnok Try.func53 (by kernel_rfl) (by kernel_rfl)
theorem fn54 : FnOk Try.prog 54 := fnok Try.func54 (by kernel_rfl) (by kernel_rfl)
theorem fn55 : FnOk Try.prog 55 := fnok Try.func55 (by kernel_rfl) (by kernel_rfl)
theorem fn56 : FnOk Try.prog 56 := fnok Try.func56 (by kernel_rfl) (by kernel_rfl)
theorem fn57 : FnOk Try.prog 57 := fnok Try.func57 (by kernel_rfl) (by kernel_rfl)
theorem fn58 : FnOk Try.prog 58 := fnok Try.func58 (by kernel_rfl) (by kernel_rfl)
theorem fn59 : FnOk Try.prog 59 := fnok Try.func59 (by kernel_rfl) (by kernel_rfl)
theorem fn60 : FnOk Try.prog 60 := fnok Try.func60 (by kernel_rfl) (by kernel_rfl)
theorem fn61 : FnOk Try.prog 61 := fnok Try.func61 (by kernel_rfl) (by kernel_rfl)
theorem fn62 : FnOk Try.prog 62 := fnok Try.func62 (by kernel_rfl) (by kernel_rfl)
theorem fn87 : FnOk Try.prog 87 := fnok Try.func87 (by kernel_rfl) (by kernel_rfl)
theorem fn89 : FnOk Try.prog 89 := fnok Try.func89 (by kernel_rfl) (by kernel_rfl)
theorem fn105 : FnOk Try.prog 105 := fnok Try.func105 (by kernel_rfl) (by kernel_rfl)
theorem fn106 : FnOk Try.prog 106 := fnok Try.func106 (by kernel_rfl) (by kernel_rfl)
theorem eqt161 : EqTy Try.prog 161 := ⟨by kernel_rfl, by kernel_rfl, by kernel_rfl⟩
theorem envOk : EOk Try.prog env := ⟨(by simp only [env, List.forall_mem_cons, List.not_mem_nil, false_implies, implies_true, and_true]; exact ⟨ty3, ty4, ty22, ty23, ty24, ty31, ty33, ty38, ty42, ty48, ty50, ty51, ty53, ty55, ty103, ty105, ty112, ty115, ty121, ty161⟩), (by simp only [env, List.forall_mem_cons, List.not_mem_nil, false_implies, implies_true, and_true]; exact ⟨fn11, fn12, fn13, fn14, fn15, fn16, fn17, fn18, fn19, fn20, fn21, fn22, fn23, fn24, fn25, fn26, fn46, fn48, fn49, fn50, fn51, fn52, fn53, fn54, fn55, fn56, fn57, fn58, fn59, fn60, fn61, fn62, fn87, fn89, fn105, fn106⟩), by kernel_rfl, (by simp only [env, List.forall_mem_cons, List.not_mem_nil, false_implies, implies_true, and_true]; exact eqt161)⟩
/-- (*purser/credit.Table).Get -/
def get_vc (p0 : Option Addr) (x1 : Int) (w : World) (K : Value → World → Prop) : Prop :=
  newO w (.cells #[.int .i64 0, .int .i64 0, .int .i64 0, .int .i64 0, .slice none 0 0] 33) fun g w_2 =>
  Calls Try.prog 46 #[.pointer p0, .int .i64 x1] w_2 fun e w_3 => KeepG [g] w_2 w_3 ∧
  ∃ (x11_0 : Int) (x11_1 : Int),
  e = .returned (.tuple #[.int .i64 x11_0, .int .i64 x11_1]) ∧
  br (decide (x11_1 ≠ 0)) (
    ∀ w_4 : World, BoxSt g w_3 w_4 →
    K (.tuple #[.agg #[.int .i64 0, .int .i64 0, .int .i64 0, .int .i64 0, .slice none 0 0], .int .i64 x11_1]) w_4
  ) (
    withP p0 fun g19 o19 =>
    ∃ (a21 : Option Addr) (n21 : Nat) (c21 : Nat), w_3.cell? ⟨g19, o19 + 2, none⟩ = some (.slice a21 n21 c21) ∧
    withP a21 fun g23 o23 =>
    (0 : Int) ≤ x11_0 ∧ x11_0 < (((n21 : Nat) : Int) : Int) ∧
    ∃ (x24_0 : Int) (x24_1 : Int) (x24_2 : Int) (x24_3 : Int) (a24_4 : Option Addr) (n24_4 : Nat) (c24_4 : Nat),
    cellsAt w_3 g23 (o23 + x11_0.toNat * 5) [.int .i64 x24_0, .int .i64 x24_1, .int .i64 x24_2, .int .i64 x24_3, .slice a24_4 n24_4 c24_4] ∧
    Calls Try.prog 49 #[.agg #[.int .i64 x24_0, .int .i64 x24_1, .int .i64 x24_2, .int .i64 x24_3, .slice a24_4 n24_4 c24_4]] w_3 fun e_2 w_5 => KeepG [g] w_3 w_5 ∧
    ∃ (x25_0 : Int) (x25_1 : Int) (x25_2 : Int) (x25_3 : Int) (a25_4 : Option Addr) (n25_4 : Nat) (c25_4 : Nat),
    e_2 = .returned (.agg #[.int .i64 x25_0, .int .i64 x25_1, .int .i64 x25_2, .int .i64 x25_3, .slice a25_4 n25_4 c25_4]) ∧
    ∀ w_6 : World, BoxSt g w_5 w_6 →
    K (.tuple #[.agg #[.int .i64 x25_0, .int .i64 x25_1, .int .i64 x25_2, .int .i64 x25_3, .slice a25_4 n25_4 c25_4], .int .i64 0]) w_6
  )
def get_notes : Notes := ⟨[], [], []⟩
theorem get_calls (p0 : Option Addr) (x1 : Int) (w : World) (K : Value → World → Prop) (h : get_vc p0 x1 w K) : Calls Try.prog 19 #[.pointer p0, .int .i64 x1] w fun e w' => ∃ v, e = .returned v ∧ K v w' :=
  calls_of_fvc envOk Try.func19 get_notes [4] [.pointer p0, .int .i64 x1] w K (use_vc h (by as_aux_lemma => kernel_rfl))
/-- (*purser/credit.Table).Set -/
def set_vc (p0 : Option Addr) (x1_0 : Int) (x1_1 : Int) (x1_2 : Int) (x1_3 : Int) (a1_4 : Option Addr) (n1_4 : Nat) (c1_4 : Nat) (w : World) (K : Value → World → Prop) : Prop :=
  newO w (.cells #[.int .i64 x1_0, .int .i64 x1_1, .int .i64 x1_2, .int .i64 x1_3, .slice a1_4 n1_4 c1_4] 33) fun g w_2 =>
  Calls Try.prog 48 #[.agg #[.int .i64 x1_0, .int .i64 x1_1, .int .i64 x1_2, .int .i64 x1_3, .slice a1_4 n1_4 c1_4]] w_2 fun e w_3 => KeepG [g] w_2 w_3 ∧
  ∃ (b8 : Bool),
  e = .returned (.bool b8) ∧
  br (!b8) (
    K (.int .i64 1) w_3
  ) (
    Calls Try.prog 46 #[.pointer p0, .int .i64 x1_0] w_3 fun e_2 w_4 => KeepG [g] w_3 w_4 ∧
    ∃ (x14_0 : Int) (x14_1 : Int),
    e_2 = .returned (.tuple #[.int .i64 x14_0, .int .i64 x14_1]) ∧
    br (decide (x14_1 ≠ 0)) (
      K (.int .i64 x14_1) w_4
    ) (
      drewO w_4 fun w_5 =>
      withP p0 fun g21 o21 =>
      ∃ (a23 : Option Addr) (n23 : Nat) (c23 : Nat), w_5.cell? ⟨g21, o21 + 2, none⟩ = some (.slice a23 n23 c23) ∧
      Calls Try.prog 49 #[.agg #[.int .i64 x1_0, .int .i64 x1_1, .int .i64 x1_2, .int .i64 x1_3, .slice a1_4 n1_4 c1_4]] w_5 fun e_3 w_6 => KeepG [g] w_5 w_6 ∧
      ∃ (x26_0 : Int) (x26_1 : Int) (x26_2 : Int) (x26_3 : Int) (a26_4 : Option Addr) (n26_4 : Nat) (c26_4 : Nat),
      e_3 = .returned (.agg #[.int .i64 x26_0, .int .i64 x26_1, .int .i64 x26_2, .int .i64 x26_3, .slice a26_4 n26_4 c26_4]) ∧
      w_6.cell? ⟨g21, o21 + 2, none⟩ = some (.slice a23 n23 c23) ∧
      withP a23 fun g27 o27 =>
      (0 : Int) ≤ x14_0 ∧ x14_0 < (((n23 : Nat) : Int) : Int) ∧
      stO [g] w_6 g27 (o27 + x14_0.toNat * 5) [.int .i64 x26_0, .int .i64 x26_1, .int .i64 x26_2, .int .i64 x26_3, .slice a26_4 n26_4 c26_4] fun w_7 =>
      K (.int .i64 0) w_7
    )
  )
def set_notes : Notes := ⟨[(6, ⟨[0, 1, 3, 7, 0, 0, 32, 127, 255], [6, 8], [0, 1, 2, 3, 4, 5, 7]⟩)], [], []⟩
theorem set_calls (p0 : Option Addr) (x1_0 : Int) (x1_1 : Int) (x1_2 : Int) (x1_3 : Int) (a1_4 : Option Addr) (n1_4 : Nat) (c1_4 : Nat) (w : World) (K : Value → World → Prop) (h : set_vc p0 x1_0 x1_1 x1_2 x1_3 a1_4 n1_4 c1_4 w K) : Calls Try.prog 21 #[.pointer p0, .agg #[.int .i64 x1_0, .int .i64 x1_1, .int .i64 x1_2, .int .i64 x1_3, .slice a1_4 n1_4 c1_4]] w fun e w' => ∃ v, e = .returned v ∧ K v w' :=
  calls_of_fvc envOk Try.func21 set_notes [3] [.pointer p0, .agg #[.int .i64 x1_0, .int .i64 x1_1, .int .i64 x1_2, .int .i64 x1_3, .slice a1_4 n1_4 c1_4]] w K (use_vc h (by as_aux_lemma => kernel_rfl))
/-- (*purser/credit.Table).Step -/
def step_vc (p0 : Option Addr) (x1 : Int) (x2 : Int) (w : World) (K : Value → World → Prop) : Prop :=
  Calls Try.prog 46 #[.pointer p0, .int .i64 x1] w fun e w_2 => KeepG [] w w_2 ∧
  ∃ (x12_0 : Int) (x12_1 : Int),
  e = .returned (.tuple #[.int .i64 x12_0, .int .i64 x12_1]) ∧
  br (decide (x12_1 ≠ 0)) (
    K (.int .i64 x12_1) w_2
  ) (
    withP p0 fun g22 o22 =>
    ∃ (a24 : Option Addr) (n24 : Nat) (c24 : Nat), w_2.cell? ⟨g22, o22 + 2, none⟩ = some (.slice a24 n24 c24) ∧
    withP a24 fun g26 o26 =>
    (0 : Int) ≤ x12_0 ∧ x12_0 < (((n24 : Nat) : Int) : Int) ∧
    ∃ (x28 : Int), w_2.cell? ⟨g26, o26 + x12_0.toNat * 5 + 2, none⟩ = some (.int .i64 x28) ∧
    br (decide (x2 ≠ (IntKind.i64.wrap (x28 + 1)))) (
      K (.int .i64 15) w_2
    ) (
      K (.int .i64 0) w_2
    )
  )
def step_notes : Notes := ⟨[], [], []⟩
theorem step_calls (p0 : Option Addr) (x1 : Int) (x2 : Int) (w : World) (K : Value → World → Prop) (h : step_vc p0 x1 x2 w K) : Calls Try.prog 22 #[.pointer p0, .int .i64 x1, .int .i64 x2] w fun e w' => ∃ v, e = .returned v ∧ K v w' :=
  calls_of_fvc envOk Try.func22 step_notes [] [.pointer p0, .int .i64 x1, .int .i64 x2] w K (use_vc h (by as_aux_lemma => kernel_rfl))
/-- (*purser/credit.Table).Held -/
def held_vc (p0 : Option Addr) (x1 : Int) (w : World) (K : Value → World → Prop) : Prop :=
  br (Option.isNone p0) (
    K (.int .i64 0) w
  ) (
    withP p0 fun g11 o11 =>
    ∃ (a13 : Option Addr) (n13 : Nat) (c13 : Nat), w.cell? ⟨g11, o11 + 2, none⟩ = some (.slice a13 n13 c13) ∧
    ∃ (I : Option Addr → Nat → Nat → Int → World → Prop) (μ : Option Addr → Nat → Nat → Int → World → Nat),
    I none 0 0 0 w ∧
    ∀ (a5 : Option Addr) (n5 : Nat) (c5 : Nat) (x15 : Int) (w_2 : World), I a5 n5 c5 x15 w_2 →
    br (decide (x15 < ((n13 : Nat) : Int))) (
      withP a13 fun g17 o17 =>
      (0 : Int) ≤ x15 ∧ x15 < (((n13 : Nat) : Int) : Int) ∧
      ∃ (x18_0 : Int) (x18_1 : Int) (x18_2 : Int) (x18_3 : Int) (a18_4 : Option Addr) (n18_4 : Nat) (c18_4 : Nat),
      cellsAt w_2 g17 (o17 + x15.toNat * 5) [.int .i64 x18_0, .int .i64 x18_1, .int .i64 x18_2, .int .i64 x18_3, .slice a18_4 n18_4 c18_4] ∧
      newO w_2 (.cells #[.int .i64 0, .int .i64 0, .int .i64 0, .int .i64 0, .slice none 0 0] 33) fun g w_3 =>
      ∀ w_4 : World, BoxSt g w_3 w_4 →
      br (decide (x18_1 = x1)) (
        appO Try.prog [g] w_4 115 4 32 31 a5 n5 c5 (.slice a18_4 n18_4 c18_4) fun m26 a26 c26 w_5 =>
        I a26 (n5 + m26) c26 (IntKind.i64.wrap (x15 + 1)) w_5 ∧ μ a26 (n5 + m26) c26 (IntKind.i64.wrap (x15 + 1)) w_5 < μ a5 n5 c5 x15 w_2
      ) (
        I a5 n5 c5 (IntKind.i64.wrap (x15 + 1)) w_4 ∧ μ a5 n5 c5 (IntKind.i64.wrap (x15 + 1)) w_4 < μ a5 n5 c5 x15 w_2
      )
    ) (
      Calls Try.prog 53 #[.slice a5 n5 c5] w_2 fun e w_6 => KeepG [] w_2 w_6 ∧
      ∃ (x29 : Int),
      e = .returned (.int .i64 x29) ∧
      K (.int .i64 x29) w_6
    )
  )
def held_notes : Notes := ⟨[], [(5, ⟨[(5, .lf (.slice)), (15, .lf (.int .i64))], [], [16, 17, 18, 7, 19, 20, 21, 22, 23, 24, 25, 26, 5, 27, 15], [7]⟩)], []⟩
theorem held_calls (p0 : Option Addr) (x1 : Int) (w : World) (K : Value → World → Prop) (h : held_vc p0 x1 w K) : Calls Try.prog 23 #[.pointer p0, .int .i64 x1] w fun e w' => ∃ v, e = .returned v ∧ K v w' :=
  calls_of_fvc envOk Try.func23 held_notes [7] [.pointer p0, .int .i64 x1] w K (use_vc h (by as_aux_lemma => kernel_rfl))
/-- purser/grant.Held -/
def gHeld_vc (a0 : Option Addr) (n0 : Nat) (c0 : Nat) (w : World) (K : Value → World → Prop) : Prop :=
  ∃ (I : Option Addr → Nat → Nat → Int → World → Prop) (μ : Option Addr → Nat → Nat → Int → World → Nat),
  I none 0 0 0 w ∧
  ∀ (a3 : Option Addr) (n3 : Nat) (c3 : Nat) (x10 : Int) (w_2 : World), I a3 n3 c3 x10 w_2 →
  br (decide (x10 < ((n0 : Nat) : Int))) (
    withP a0 fun g12 o12 =>
    (0 : Int) ≤ x10 ∧ x10 < (((n0 : Nat) : Int) : Int) ∧
    ∃ (x13_0 : Int) (x13_1 : Int) (x13_2 : Int) (b13_3 : Bool),
    cellsAt w_2 g12 (o12 + x10.toNat * 4) [.int .i64 x13_0, .int .i64 x13_1, .int .i64 x13_2, .bool b13_3] ∧
    newO w_2 (.cells #[.int .i64 0, .int .i64 0, .int .i64 0, .bool false] 115) fun g w_3 =>
    ∀ w_4 : World, BoxSt g w_3 w_4 →
    newO w_4 (.cells #[.int .i64 x13_2] 3) fun g_2 w_5 =>
    appO Try.prog [g] w_5 3 1 8 22 a3 n3 c3 (.slice (some ⟨g_2, 0, none⟩) 1 1) fun m18 a18 c18 w_6 =>
    I a18 (n3 + m18) c18 (IntKind.i64.wrap (x10 + 1)) w_6 ∧ μ a18 (n3 + m18) c18 (IntKind.i64.wrap (x10 + 1)) w_6 < μ a3 n3 c3 x10 w_2
  ) (
    Calls Try.prog 105 #[.slice a3 n3 c3] w_2 fun e w_7 => KeepG [] w_2 w_7 ∧
    ∃ (x22_0 : Int) (b22_1 : Bool),
    e = .returned (.tuple #[.int .i64 x22_0, .bool b22_1]) ∧
    K (.int .i64 x22_0) w_7
  )
def gHeld_notes : Notes := ⟨[], [(3, ⟨[(3, .lf (.slice)), (10, .lf (.int .i64))], [], [11, 12, 13, 5, 14, 15, 16, 17, 18, 3, 19, 10], [5]⟩)], []⟩
theorem gHeld_calls (a0 : Option Addr) (n0 : Nat) (c0 : Nat) (w : World) (K : Value → World → Prop) (h : gHeld_vc a0 n0 c0 w K) : Calls Try.prog 53 #[.slice a0 n0 c0] w fun e w' => ∃ v, e = .returned v ∧ K v w' :=
  calls_of_fvc envOk Try.func53 gHeld_notes [5] [.slice a0 n0 c0] w K (use_vc h (by as_aux_lemma => kernel_rfl))
/-- purser/purserref17.between -/
def between_vc (x0 : Int) (x1 : Int) (x2 : Int) (w : World) (K : Value → World → Prop) : Prop :=
  br (decide (x0 ≥ x1)) (
    K (.bool (decide (x0 ≤ x2))) w
  ) (
    K (.bool false) w
  )
def between_notes : Notes := ⟨[], [], []⟩
theorem between_calls (x0 : Int) (x1 : Int) (x2 : Int) (w : World) (K : Value → World → Prop) (h : between_vc x0 x1 x2 w K) : Calls Try.prog 87 #[.int .i64 x0, .int .i64 x1, .int .i64 x2] w fun e w' => ∃ v, e = .returned v ∧ K v w' :=
  calls_of_fvc envOk Try.func87 between_notes [] [.int .i64 x0, .int .i64 x1, .int .i64 x2] w K (use_vc h (by as_aux_lemma => kernel_rfl))
/-- purser/purserref17.Right -/
def rRight_vc (x0_0 : Int) (x0_1 : Int) (x0_2 : Int) (x0_3 : Int) (a0_4 : Option Addr) (n0_4 : Nat) (c0_4 : Nat) (w : World) (K : Value → World → Prop) : Prop :=
  newO w (.cells #[.int .i64 x0_0, .int .i64 x0_1, .int .i64 x0_2, .int .i64 x0_3, .slice a0_4 n0_4 c0_4] 53) fun g w_2 =>
  Calls Try.prog 87 #[.int .i64 x0_0, .int .i64 1, .int .i64 4611686018427387904] w_2 fun e w_3 => KeepG [g] w_2 w_3 ∧
  ∃ (b8 : Bool),
  e = .returned (.bool b8) ∧
  br (!b8) (
    K (.bool false) w_3
  ) (
    Calls Try.prog 87 #[.int .i64 x0_1, .int .i64 1, .int .i64 32] w_3 fun e_2 w_4 => KeepG [g] w_3 w_4 ∧
    ∃ (b13 : Bool),
    e_2 = .returned (.bool b13) ∧
    br (!b13) (
      K (.bool false) w_4
    ) (
      Calls Try.prog 87 #[.int .i64 x0_2, .int .i64 0, .int .i64 4611686018427387904] w_4 fun e_3 w_5 => KeepG [g] w_4 w_5 ∧
      ∃ (b19 : Bool),
      e_3 = .returned (.bool b19) ∧
      br (!b19) (
        K (.bool false) w_5
      ) (
        Calls Try.prog 87 #[.int .i64 x0_3, .int .i64 0, .int .i64 4611686018427387904] w_5 fun e_4 w_6 => KeepG [g] w_5 w_6 ∧
        ∃ (b25 : Bool),
        e_4 = .returned (.bool b25) ∧
        br (!b25) (
          K (.bool false) w_6
        ) (
          br (decide (((n0_4 : Nat) : Int) > 4)) (
            K (.bool false) w_6
          ) (
            ∃ (I : Int → World → Prop) (μ : Int → World → Nat),
            I 0 w_6 ∧
            ∀ (x3 : Int) (w_7 : World), I x3 w_7 →
            br (decide (x3 < ((n0_4 : Nat) : Int))) (
              withP a0_4 fun g44 o44 =>
              (0 : Int) ≤ x3 ∧ x3 < (((n0_4 : Nat) : Int) : Int) ∧
              ∃ (x45_0 : Int) (x45_1 : Int) (x45_2 : Int) (b45_3 : Bool),
              cellsAt w_7 g44 (o44 + x3.toNat * 4) [.int .i64 x45_0, .int .i64 x45_1, .int .i64 x45_2, .bool b45_3] ∧
              newO w_7 (.cells #[.int .i64 0, .int .i64 0, .int .i64 0, .bool false] 161) fun g_2 w_8 =>
              ∀ w_9 : World, BoxSt g_2 w_8 w_9 →
              Calls Try.prog 87 #[.int .i64 x45_0, .int .i64 1, .int .i64 8] w_9 fun e_5 w_10 => KeepG [g_2, g] w_9 w_10 ∧
              ∃ (b48 : Bool),
              e_5 = .returned (.bool b48) ∧
              br (!b48) (
                K (.bool false) w_10
              ) (
                Calls Try.prog 87 #[.int .i64 x45_1, .int .i64 0, .int .i64 1073741824] w_10 fun e_6 w_11 => KeepG [g_2, g] w_10 w_11 ∧
                ∃ (b53 : Bool),
                e_6 = .returned (.bool b53) ∧
                br (!b53) (
                  K (.bool false) w_11
                ) (
                  Calls Try.prog 87 #[.int .i64 x45_2, .int .i64 0, .int .i64 9007199254740992] w_11 fun e_7 w_12 => KeepG [g_2, g] w_11 w_12 ∧
                  ∃ (b59 : Bool),
                  e_7 = .returned (.bool b59) ∧
                  br (!b59) (
                    K (.bool false) w_12
                  ) (
                    ∃ (I_2 : Int → World → Prop) (μ_2 : Int → World → Nat),
                    I_2 0 w_12 ∧
                    ∀ (x5 : Int) (w_13 : World), I_2 x5 w_13 →
                    br (decide (x5 < x3)) (
                      drewO w_13 fun w_14 =>
                      withP a0_4 fun g70 o70 =>
                      (0 : Int) ≤ x5 ∧ x5 < (((n0_4 : Nat) : Int) : Int) ∧
                      ∃ (x72 : Int), w_14.cell? ⟨g70, o70 + x5.toNat * 4, none⟩ = some (.int .i64 x72) ∧
                      br (decide (x72 = x45_0)) (
                        K (.bool false) w_14
                      ) (
                        I_2 (IntKind.i64.wrap (x5 + 1)) w_14 ∧ μ_2 (IntKind.i64.wrap (x5 + 1)) w_14 < μ_2 x5 w_13
                      )
                    ) (
                      I (IntKind.i64.wrap (x3 + 1)) w_13 ∧ μ (IntKind.i64.wrap (x3 + 1)) w_13 < μ x3 w_7
                    )
                  )
                )
              )
            ) (
              K (.bool true) w_7
            )
          )
        )
      )
    )
  )
def rRight_notes : Notes := ⟨[(12, ⟨[0, 1, 0, 7, 15, 31, 0, 64, 255], [], [0, 1, 2, 3, 4, 5, 6, 7, 8]⟩)], [(4, ⟨[(3, .lf (.int .i64))], [], [34, 35, 36, 37, 38, 41, 42, 43, 44, 45, 4, 46, 47, 48, 49, 50, 51, 52, 53, 54, 55, 56, 57, 58, 59, 60, 61, 2, 5, 62, 63, 64, 67, 68, 69, 70, 71, 72, 73, 74, 75, 65, 66, 39, 40, 3], [4]⟩), (10, ⟨[(5, .lf (.int .i64))], [], [62, 63, 64, 67, 68, 69, 70, 71, 72, 73, 74, 75, 2, 65, 66, 5], []⟩)], []⟩
theorem rRight_calls (x0_0 : Int) (x0_1 : Int) (x0_2 : Int) (x0_3 : Int) (a0_4 : Option Addr) (n0_4 : Nat) (c0_4 : Nat) (w : World) (K : Value → World → Prop) (h : rRight_vc x0_0 x0_1 x0_2 x0_3 a0_4 n0_4 c0_4 w K) : Calls Try.prog 89 #[.agg #[.int .i64 x0_0, .int .i64 x0_1, .int .i64 x0_2, .int .i64 x0_3, .slice a0_4 n0_4 c0_4]] w fun e w' => ∃ v, e = .returned v ∧ K v w' :=
  calls_of_fvc envOk Try.func89 rRight_notes [1, 4] [.agg #[.int .i64 x0_0, .int .i64 x0_1, .int .i64 x0_2, .int .i64 x0_3, .slice a0_4 n0_4 c0_4]] w K (use_vc h (by as_aux_lemma => kernel_rfl))
/-- (*purser/purserref17.Table).Find -/
def rFind_vc (p0 : Option Addr) (x1 : Int) (w : World) (K : Value → World → Prop) : Prop :=
  ∃ (I : Int → World → Prop) (μ : Int → World → Nat),
  I 0 w ∧
  ∀ (x5 : Int) (w_2 : World), I x5 w_2 →
  withP p0 fun g8 o8 =>
  ∃ (a10 : Option Addr) (n10 : Nat) (c10 : Nat), w_2.cell? ⟨g8, o8 + 2, none⟩ = some (.slice a10 n10 c10) ∧
  br (decide (x5 < ((n10 : Nat) : Int))) (
    withP p0 fun g16 o16 =>
    ∃ (a18 : Option Addr) (n18 : Nat) (c18 : Nat), w_2.cell? ⟨g16, o16 + 2, none⟩ = some (.slice a18 n18 c18) ∧
    withP a18 fun g20 o20 =>
    (0 : Int) ≤ x5 ∧ x5 < (((n18 : Nat) : Int) : Int) ∧
    ∃ (x22 : Int), w_2.cell? ⟨g20, o20 + x5.toNat * 5, none⟩ = some (.int .i64 x22) ∧
    br (decide (x22 = x1)) (
      K (.int .i64 x5) w_2
    ) (
      I (IntKind.i64.wrap (x5 + 1)) w_2 ∧ μ (IntKind.i64.wrap (x5 + 1)) w_2 < μ x5 w_2
    )
  ) (
    K (.int .i64 (-1)) w_2
  )
def rFind_notes : Notes := ⟨[], [(2, ⟨[(5, .lf (.int .i64))], [], [6, 7, 8, 9, 10, 11, 12, 15, 16, 17, 18, 19, 20, 21, 22, 23, 24, 25, 4, 13, 14, 5], []⟩)], []⟩
theorem rFind_calls (p0 : Option Addr) (x1 : Int) (w : World) (K : Value → World → Prop) (h : rFind_vc p0 x1 w K) : Calls Try.prog 26 #[.pointer p0, .int .i64 x1] w fun e w' => ∃ v, e = .returned v ∧ K v w' :=
  calls_of_fvc envOk Try.func26 rFind_notes [] [.pointer p0, .int .i64 x1] w K (use_vc h (by as_aux_lemma => kernel_rfl))
/-- (*purser/purserref17.Table).DocAdd -/
def rAdd_vc (p0 : Option Addr) (x1_0 : Int) (x1_1 : Int) (x1_2 : Int) (x1_3 : Int) (a1_4 : Option Addr) (n1_4 : Nat) (c1_4 : Nat) (w : World) (K : Value → World → Prop) : Prop :=
  newO w (.cells #[.int .i64 x1_0, .int .i64 x1_1, .int .i64 x1_2, .int .i64 x1_3, .slice a1_4 n1_4 c1_4] 53) fun g w_2 =>
  Calls Try.prog 89 #[.agg #[.int .i64 x1_0, .int .i64 x1_1, .int .i64 x1_2, .int .i64 x1_3, .slice a1_4 n1_4 c1_4]] w_2 fun e w_3 => KeepG [g] w_2 w_3 ∧
  ∃ (b6 : Bool),
  e = .returned (.bool b6) ∧
  br (!b6) (
    K (.int .i64 1) w_3
  ) (
    drewO w_3 fun w_4 =>
    withP p0 fun g11 o11 =>
    ∃ (x13 : Int), w_4.cell? ⟨g11, o11 + 1, none⟩ = some (.int .i64 x13) ∧
    br (decide (x1_0 ≤ x13)) (
      K (.int .i64 13) w_4
    ) (
      drewO w_4 fun w_5 =>
      withP p0 fun g16 o16 =>
      ∃ (a18 : Option Addr) (n18 : Nat) (c18 : Nat), w_5.cell? ⟨g16, o16 + 2, none⟩ = some (.slice a18 n18 c18) ∧
      withP p0 fun g21 o21 =>
      ∃ (x23 : Int), w_5.cell? ⟨g21, o21, none⟩ = some (.int .i64 x23) ∧
      br (decide (((n18 : Nat) : Int) ≥ x23)) (
        K (.int .i64 10) w_5
      ) (
        drewO w_5 fun w_6 =>
        withP p0 fun g28 o28 =>
        ∃ (a30 : Option Addr) (n30 : Nat) (c30 : Nat), w_6.cell? ⟨g28, o28 + 2, none⟩ = some (.slice a30 n30 c30) ∧
        newO w_6 (.cells #[.int .i64 x1_0, .int .i64 x1_1, .int .i64 x1_2, .int .i64 x1_3, .slice a1_4 n1_4 c1_4] 53) fun g_2 w_7 =>
        w_7.cell? ⟨g28, o28 + 2, none⟩ = some (.slice a30 n30 c30) ∧
        appO Try.prog [g] w_7 53 5 56 48 a30 n30 c30 (.slice (some ⟨g_2, 0, none⟩) 1 1) fun m33 a33 c33 w_8 =>
        withP p0 fun g36 o36 =>
        stO [g] w_8 g36 (o36 + 2) [.slice a33 (n30 + m33) c33] fun w_9 =>
        withP p0 fun g38 o38 =>
        stO [g] w_9 g38 (o38 + 1) [.int .i64 x1_0] fun w_10 =>
        K (.int .i64 0) w_10
      )
    )
  )
def rAdd_notes : Notes := ⟨[(3, ⟨[0, 1, 0, 4, 12, 28, 63], [], [0, 1, 2, 3, 4, 5, 6]⟩), (5, ⟨[0, 1, 3, 7, 15, 0, 32, 96, 224, 511], [], [0, 1, 2, 3, 4, 5, 6, 7, 8, 9]⟩), (7, ⟨[0, 0, 0, 4, 12, 28, 0, 64, 252, 0, 512, 509, 2557, 6653, 16383, 32767, 65535], [7, 8, 13, 16], [0, 1, 2, 3, 4, 5, 6, 9, 10, 11, 12, 14, 15]⟩)], [], []⟩
theorem rAdd_calls (p0 : Option Addr) (x1_0 : Int) (x1_1 : Int) (x1_2 : Int) (x1_3 : Int) (a1_4 : Option Addr) (n1_4 : Nat) (c1_4 : Nat) (w : World) (K : Value → World → Prop) (h : rAdd_vc p0 x1_0 x1_1 x1_2 x1_3 a1_4 n1_4 c1_4 w K) : Calls Try.prog 56 #[.pointer p0, .agg #[.int .i64 x1_0, .int .i64 x1_1, .int .i64 x1_2, .int .i64 x1_3, .slice a1_4 n1_4 c1_4]] w fun e w' => ∃ v, e = .returned v ∧ K v w' :=
  calls_of_fvc envOk Try.func56 rAdd_notes [3] [.pointer p0, .agg #[.int .i64 x1_0, .int .i64 x1_1, .int .i64 x1_2, .int .i64 x1_3, .slice a1_4 n1_4 c1_4]] w K (use_vc h (by as_aux_lemma => kernel_rfl))
/-- (*purser/purserref17.Table).DocSet -/
def rSet_vc (p0 : Option Addr) (x1_0 : Int) (x1_1 : Int) (x1_2 : Int) (x1_3 : Int) (a1_4 : Option Addr) (n1_4 : Nat) (c1_4 : Nat) (w : World) (K : Value → World → Prop) : Prop :=
  newO w (.cells #[.int .i64 x1_0, .int .i64 x1_1, .int .i64 x1_2, .int .i64 x1_3, .slice a1_4 n1_4 c1_4] 53) fun g w_2 =>
  Calls Try.prog 89 #[.agg #[.int .i64 x1_0, .int .i64 x1_1, .int .i64 x1_2, .int .i64 x1_3, .slice a1_4 n1_4 c1_4]] w_2 fun e w_3 => KeepG [g] w_2 w_3 ∧
  ∃ (b7 : Bool),
  e = .returned (.bool b7) ∧
  br (!b7) (
    K (.int .i64 1) w_3
  ) (
    Calls Try.prog 26 #[.pointer p0, .int .i64 x1_0] w_3 fun e_2 w_4 => KeepG [g] w_3 w_4 ∧
    ∃ (x12 : Int),
    e_2 = .returned (.int .i64 x12) ∧
    br (decide (x12 < 0)) (
      K (.int .i64 7) w_4
    ) (
      drewO w_4 fun w_5 =>
      withP p0 fun g16 o16 =>
      ∃ (a18 : Option Addr) (n18 : Nat) (c18 : Nat), w_5.cell? ⟨g16, o16 + 2, none⟩ = some (.slice a18 n18 c18) ∧
      withP a18 fun g21 o21 =>
      (0 : Int) ≤ x12 ∧ x12 < (((n18 : Nat) : Int) : Int) ∧
      stO [g] w_5 g21 (o21 + x12.toNat * 5) [.int .i64 x1_0, .int .i64 x1_1, .int .i64 x1_2, .int .i64 x1_3, .slice a1_4 n1_4 c1_4] fun w_6 =>
      K (.int .i64 0) w_6
    )
  )
def rSet_notes : Notes := ⟨[(6, ⟨[0, 1, 3, 7, 0, 0, 63, 127], [7], [0, 1, 2, 3, 4, 5, 6]⟩)], [], []⟩
theorem rSet_calls (p0 : Option Addr) (x1_0 : Int) (x1_1 : Int) (x1_2 : Int) (x1_3 : Int) (a1_4 : Option Addr) (n1_4 : Nat) (c1_4 : Nat) (w : World) (K : Value → World → Prop) (h : rSet_vc p0 x1_0 x1_1 x1_2 x1_3 a1_4 n1_4 c1_4 w K) : Calls Try.prog 57 #[.pointer p0, .agg #[.int .i64 x1_0, .int .i64 x1_1, .int .i64 x1_2, .int .i64 x1_3, .slice a1_4 n1_4 c1_4]] w fun e w' => ∃ v, e = .returned v ∧ K v w' :=
  calls_of_fvc envOk Try.func57 rSet_notes [3] [.pointer p0, .agg #[.int .i64 x1_0, .int .i64 x1_1, .int .i64 x1_2, .int .i64 x1_3, .slice a1_4 n1_4 c1_4]] w K (use_vc h (by as_aux_lemma => kernel_rfl))
/-- (*purser/purserref17.Table).DocEnd -/
def rEnd_vc (p0 : Option Addr) (x1 : Int) (w : World) (K : Value → World → Prop) : Prop :=
  Calls Try.prog 26 #[.pointer p0, .int .i64 x1] w fun e w_2 => KeepG [] w w_2 ∧
  ∃ (x8 : Int),
  e = .returned (.int .i64 x8) ∧
  br (decide (x8 < 0)) (
    K (.int .i64 7) w_2
  ) (
    drewO w_2 fun w_3 =>
    withP p0 fun g14 o14 =>
    ∃ (a16 : Option Addr) (n16 : Nat) (c16 : Nat), w_3.cell? ⟨g14, o14 + 2, none⟩ = some (.slice a16 n16 c16) ∧
    (0 : Int) ≤ x8 ∧ x8 ≤ (((c16 : Nat) : Int) : Int) ∧
    withP p0 fun g21 o21 =>
    ∃ (a23 : Option Addr) (n23 : Nat) (c23 : Nat), w_3.cell? ⟨g21, o21 + 2, none⟩ = some (.slice a23 n23 c23) ∧
    (0 : Int) ≤ IntKind.i64.wrap (x8 + 1) ∧ IntKind.i64.wrap (x8 + 1) ≤ (((n23 : Nat) : Int) : Int) ∧
    newO w_3 (.cells #[] 53) fun g w_4 =>
    w_4.cell? ⟨g14, o14 + 2, none⟩ = some (.slice a16 n16 c16) ∧
    w_4.cell? ⟨g21, o21 + 2, none⟩ = some (.slice a23 n23 c23) ∧
    appO Try.prog [] w_4 53 5 56 48 (some ⟨g, 0, none⟩) 0 0 (.slice a16 x8.toNat c16) fun m19 a19 c19 w_5 =>
    w_5.cell? ⟨g21, o21 + 2, none⟩ = some (.slice a23 n23 c23) ∧
    appO Try.prog [] w_5 53 5 56 48 a19 (0 + m19) c19 (.slice (sliceBase a23 c23 ((IntKind.i64.wrap (x8 + 1)).toNat) 5) (n23 - (IntKind.i64.wrap (x8 + 1)).toNat) (c23 - (IntKind.i64.wrap (x8 + 1)).toNat)) fun m27 a27 c27 w_6 =>
    withP p0 fun g28 o28 =>
    stO [] w_6 g28 (o28 + 2) [.slice a27 ((0 + m19) + m27) c27] fun w_7 =>
    K (.int .i64 0) w_7
  )
def rEnd_notes : Notes := ⟨[(4, ⟨[0, 0, 0, 4, 12, 28, 0, 124, 254, 0, 512, 1536, 3584, 0, 8192, 32256, 65534, 131071, 262143, 524287], [1, 8, 16, 19], [0, 2, 3, 4, 5, 6, 7, 9, 10, 11, 12, 13, 14, 15, 17, 18]⟩)], [], []⟩
theorem rEnd_calls (p0 : Option Addr) (x1 : Int) (w : World) (K : Value → World → Prop) (h : rEnd_vc p0 x1 w K) : Calls Try.prog 58 #[.pointer p0, .int .i64 x1] w fun e w' => ∃ v, e = .returned v ∧ K v w' :=
  calls_of_fvc envOk Try.func58 rEnd_notes [] [.pointer p0, .int .i64 x1] w K (use_vc h (by as_aux_lemma => kernel_rfl))
/-- (*purser/purserref17.Table).DocStep -/
def rStep_vc (p0 : Option Addr) (x1 : Int) (x2 : Int) (w : World) (K : Value → World → Prop) : Prop :=
  Calls Try.prog 26 #[.pointer p0, .int .i64 x1] w fun e w_2 => KeepG [] w w_2 ∧
  ∃ (x10 : Int),
  e = .returned (.int .i64 x10) ∧
  br (decide (x10 < 0)) (
    K (.int .i64 7) w_2
  ) (
    withP p0 fun g15 o15 =>
    ∃ (a17 : Option Addr) (n17 : Nat) (c17 : Nat), w_2.cell? ⟨g15, o15 + 2, none⟩ = some (.slice a17 n17 c17) ∧
    withP a17 fun g19 o19 =>
    (0 : Int) ≤ x10 ∧ x10 < (((n17 : Nat) : Int) : Int) ∧
    ∃ (x21 : Int), w_2.cell? ⟨g19, o19 + x10.toNat * 5 + 2, none⟩ = some (.int .i64 x21) ∧
    br (decide (x2 ≠ (IntKind.i64.wrap (x21 + 1)))) (
      K (.int .i64 15) w_2
    ) (
      K (.int .i64 0) w_2
    )
  )
def rStep_notes : Notes := ⟨[], [], []⟩
theorem rStep_calls (p0 : Option Addr) (x1 : Int) (x2 : Int) (w : World) (K : Value → World → Prop) (h : rStep_vc p0 x1 x2 w K) : Calls Try.prog 59 #[.pointer p0, .int .i64 x1, .int .i64 x2] w fun e w' => ∃ v, e = .returned v ∧ K v w' :=
  calls_of_fvc envOk Try.func59 rStep_notes [] [.pointer p0, .int .i64 x1, .int .i64 x2] w K (use_vc h (by as_aux_lemma => kernel_rfl))
/-- purser/purserref17.Same -/
def rSame_vc (x0_0 : Int) (x0_1 : Int) (x0_2 : Int) (x0_3 : Int) (a0_4 : Option Addr) (n0_4 : Nat) (c0_4 : Nat) (x1_0 : Int) (x1_1 : Int) (x1_2 : Int) (x1_3 : Int) (a1_4 : Option Addr) (n1_4 : Nat) (c1_4 : Nat) (w : World) (K : Value → World → Prop) : Prop :=
  newO w (.cells #[.int .i64 x0_0, .int .i64 x0_1, .int .i64 x0_2, .int .i64 x0_3, .slice a0_4 n0_4 c0_4] 53) fun g w_2 =>
  newO w_2 (.cells #[.int .i64 x1_0, .int .i64 x1_1, .int .i64 x1_2, .int .i64 x1_3, .slice a1_4 n1_4 c1_4] 53) fun g_2 w_3 =>
  br (decide (x0_0 ≠ x1_0)) (
    K (.bool false) w_3
  ) (
    br (decide (x0_1 ≠ x1_1)) (
      K (.bool false) w_3
    ) (
      br (decide (x0_2 ≠ x1_2)) (
        K (.bool false) w_3
      ) (
        br (decide (x0_3 ≠ x1_3)) (
          K (.bool false) w_3
        ) (
          br (decide (((n0_4 : Nat) : Int) ≠ ((n1_4 : Nat) : Int))) (
            K (.bool false) w_3
          ) (
            ∃ (I : Int → World → Prop) (μ : Int → World → Nat),
            I 0 w_3 ∧
            ∀ (x5 : Int) (w_4 : World), I x5 w_4 →
            br (decide (x5 < ((n0_4 : Nat) : Int))) (
              drewO w_4 fun w_5 =>
              withP a0_4 fun g51 o51 =>
              (0 : Int) ≤ x5 ∧ x5 < (((n0_4 : Nat) : Int) : Int) ∧
              ∃ (x52_0 : Int) (x52_1 : Int) (x52_2 : Int) (b52_3 : Bool),
              cellsAt w_5 g51 (o51 + x5.toNat * 4) [.int .i64 x52_0, .int .i64 x52_1, .int .i64 x52_2, .bool b52_3] ∧
              withP a1_4 fun g56 o56 =>
              (0 : Int) ≤ x5 ∧ x5 < (((n1_4 : Nat) : Int) : Int) ∧
              ∃ (x57_0 : Int) (x57_1 : Int) (x57_2 : Int) (b57_3 : Bool),
              cellsAt w_5 g56 (o56 + x5.toNat * 4) [.int .i64 x57_0, .int .i64 x57_1, .int .i64 x57_2, .bool b57_3] ∧
              br (!((decide (x52_0 = x57_0)) && ((decide (x52_1 = x57_1)) && ((decide (x52_2 = x57_2)) && ((decide (b52_3 = b57_3)) && true))))) (
                K (.bool false) w_5
              ) (
                I (IntKind.i64.wrap (x5 + 1)) w_5 ∧ μ (IntKind.i64.wrap (x5 + 1)) w_5 < μ x5 w_4
              )
            ) (
              K (.bool true) w_4
            )
          )
        )
      )
    )
  )
def rSame_notes : Notes := ⟨[(6, ⟨[0, 1, 0, 7, 15, 0, 32, 0, 224, 480, 1023], [], [0, 1, 2, 3, 4, 5, 6, 7, 8, 9, 10]⟩)], [(4, ⟨[(5, .lf (.int .i64))], [], [41, 42, 43, 44, 45, 48, 49, 50, 51, 52, 53, 54, 55, 56, 57, 58, 4, 46, 47, 5], []⟩)], []⟩
theorem rSame_calls (x0_0 : Int) (x0_1 : Int) (x0_2 : Int) (x0_3 : Int) (a0_4 : Option Addr) (n0_4 : Nat) (c0_4 : Nat) (x1_0 : Int) (x1_1 : Int) (x1_2 : Int) (x1_3 : Int) (a1_4 : Option Addr) (n1_4 : Nat) (c1_4 : Nat) (w : World) (K : Value → World → Prop) (h : rSame_vc x0_0 x0_1 x0_2 x0_3 a0_4 n0_4 c0_4 x1_0 x1_1 x1_2 x1_3 a1_4 n1_4 c1_4 w K) : Calls Try.prog 60 #[.agg #[.int .i64 x0_0, .int .i64 x0_1, .int .i64 x0_2, .int .i64 x0_3, .slice a0_4 n0_4 c0_4], .agg #[.int .i64 x1_0, .int .i64 x1_1, .int .i64 x1_2, .int .i64 x1_3, .slice a1_4 n1_4 c1_4]] w fun e w' => ∃ v, e = .returned v ∧ K v w' :=
  calls_of_fvc envOk Try.func60 rSame_notes [2, 3] [.agg #[.int .i64 x0_0, .int .i64 x0_1, .int .i64 x0_2, .int .i64 x0_3, .slice a0_4 n0_4 c0_4], .agg #[.int .i64 x1_0, .int .i64 x1_1, .int .i64 x1_2, .int .i64 x1_3, .slice a1_4 n1_4 c1_4]] w K (use_vc h (by as_aux_lemma => kernel_rfl))
/-- purser/purserref16.Held -/
def rHeld_vc (a0 : Option Addr) (n0 : Nat) (c0 : Nat) (w : World) (K : Value → World → Prop) : Prop :=
  ∃ (I : Option Addr → Nat → Nat → Int → World → Prop) (μ : Option Addr → Nat → Nat → Int → World → Nat),
  I none 0 0 0 w ∧
  ∀ (a3 : Option Addr) (n3 : Nat) (c3 : Nat) (x4 : Int) (w_2 : World), I a3 n3 c3 x4 w_2 →
  br (decide (x4 < ((n0 : Nat) : Int))) (
    withP a0 fun g16 o16 =>
    (0 : Int) ≤ x4 ∧ x4 < (((n0 : Nat) : Int) : Int) ∧
    ∃ (x18 : Int), w_2.cell? ⟨g16, o16 + x4.toNat * 4 + 2, none⟩ = some (.int .i64 x18) ∧
    newO w_2 (.cells #[.int .i64 x18] 3) fun g w_3 =>
    appO Try.prog [] w_3 3 1 8 22 a3 n3 c3 (.slice (some ⟨g, 0, none⟩) 1 1) fun m20 a20 c20 w_4 =>
    I a20 (n3 + m20) c20 (IntKind.i64.wrap (x4 + 1)) w_4 ∧ μ a20 (n3 + m20) c20 (IntKind.i64.wrap (x4 + 1)) w_4 < μ a3 n3 c3 x4 w_2
  ) (
    Calls Try.prog 106 #[.slice a3 n3 c3] w_2 fun e w_5 => KeepG [] w_2 w_5 ∧
    ∃ (x23_0 : Int) (b23_1 : Bool),
    e = .returned (.tuple #[.int .i64 x23_0, .bool b23_1]) ∧
    K (.int .i64 x23_0) w_5
  )
def rHeld_notes : Notes := ⟨[], [(3, ⟨[(3, .lf (.slice)), (4, .lf (.int .i64))], [], [7, 8, 9, 10, 13, 14, 15, 16, 17, 18, 19, 20, 3, 11, 12, 4], []⟩)], []⟩
theorem rHeld_calls (a0 : Option Addr) (n0 : Nat) (c0 : Nat) (w : World) (K : Value → World → Prop) (h : rHeld_vc a0 n0 c0 w K) : Calls Try.prog 62 #[.slice a0 n0 c0] w fun e w' => ∃ v, e = .returned v ∧ K v w' :=
  calls_of_fvc envOk Try.func62 rHeld_notes [] [.slice a0 n0 c0] w K (use_vc h (by as_aux_lemma => kernel_rfl))
/-- purser/purserlaw17.to -/
def lto_vc (x0_0 : Int) (x0_1 : Int) (x0_2 : Int) (x0_3 : Int) (a0_4 : Option Addr) (n0_4 : Nat) (c0_4 : Nat) (w : World) (K : Value → World → Prop) : Prop :=
  newO w (.cells #[.int .i64 x0_0, .int .i64 x0_1, .int .i64 x0_2, .int .i64 x0_3, .slice a0_4 n0_4 c0_4] 53) fun g w_2 =>
  newO w_2 (.cells #[.int .i64 0, .int .i64 0, .int .i64 0, .int .i64 0, .slice none 0 0] 33) fun g_2 w_3 =>
  newO w_3 (.cells #[.int .i64 0, .int .i64 0, .int .i64 0, .int .i64 0, .slice none 0 0] 33) fun g_3 w_4 =>
  ∀ w_5 : World, BoxSt g_3 w_4 w_5 →
  ∃ (I : Int → Int → Int → Int → Int → Option Addr → Nat → Nat → World → Prop) (μ : Int → Int → Int → Int → Int → Option Addr → Nat → Nat → World → Nat),
  I 0 x0_0 x0_1 x0_2 x0_3 none 0 0 w_5 ∧
  ∀ (x4 : Int) (x3_0 : Int) (x3_1 : Int) (x3_2 : Int) (x3_3 : Int) (a3_4 : Option Addr) (n3_4 : Nat) (c3_4 : Nat) (w_6 : World), I x4 x3_0 x3_1 x3_2 x3_3 a3_4 n3_4 c3_4 w_6 →
  br (decide (x4 < ((n0_4 : Nat) : Int))) (
    withP a0_4 fun g25 o25 =>
    (0 : Int) ≤ x4 ∧ x4 < (((n0_4 : Nat) : Int) : Int) ∧
    ∃ (x26_0 : Int) (x26_1 : Int) (x26_2 : Int) (b26_3 : Bool),
    cellsAt w_6 g25 (o25 + x4.toNat * 4) [.int .i64 x26_0, .int .i64 x26_1, .int .i64 x26_2, .bool b26_3] ∧
    newO w_6 (.cells #[.int .i64 0, .int .i64 0, .int .i64 0, .bool false] 161) fun g_4 w_7 =>
    ∀ w_8 : World, BoxSt g_4 w_7 w_8 →
    newO w_8 (.cells #[.int .i64 x26_0, .int .i64 x26_1, .int .i64 x26_2, .bool b26_3] 115) fun g_5 w_9 =>
    appO Try.prog [g_4, g_3, g_2, g] w_9 115 4 32 31 a3_4 n3_4 c3_4 (.slice (some ⟨g_5, 0, none⟩) 1 1) fun m39 a39 c39 w_10 =>
    ∀ w_11 : World, BoxSt g_3 w_10 w_11 →
    I (IntKind.i64.wrap (x4 + 1)) x3_0 x3_1 x3_2 x3_3 a39 (n3_4 + m39) c39 w_11 ∧ μ (IntKind.i64.wrap (x4 + 1)) x3_0 x3_1 x3_2 x3_3 a39 (n3_4 + m39) c39 w_11 < μ x4 x3_0 x3_1 x3_2 x3_3 a3_4 n3_4 c3_4 w_6
  ) (
    ∀ w_12 : World, BoxSt g_2 w_6 w_12 →
    K (.agg #[.int .i64 x3_0, .int .i64 x3_1, .int .i64 x3_2, .int .i64 x3_3, .slice a3_4 n3_4 c3_4]) w_12
  )
def lto_notes : Notes := ⟨[], [(3, ⟨[(4, .lf (.int .i64))], [(3, [.int .i64, .int .i64, .int .i64, .int .i64, .slice])], [15, 16, 17, 18, 19, 22, 23, 24, 25, 26, 5, 27, 28, 29, 30, 31, 32, 33, 34, 35, 36, 37, 38, 39, 40, 20, 21, 4], [5, 3]⟩)], []⟩
theorem lto_calls (x0_0 : Int) (x0_1 : Int) (x0_2 : Int) (x0_3 : Int) (a0_4 : Option Addr) (n0_4 : Nat) (c0_4 : Nat) (w : World) (K : Value → World → Prop) (h : lto_vc x0_0 x0_1 x0_2 x0_3 a0_4 n0_4 c0_4 w K) : Calls Try.prog 55 #[.agg #[.int .i64 x0_0, .int .i64 x0_1, .int .i64 x0_2, .int .i64 x0_3, .slice a0_4 n0_4 c0_4]] w fun e w' => ∃ v, e = .returned v ∧ K v w' :=
  calls_of_fvc envOk Try.func55 lto_notes [1, 2, 3, 5] [.agg #[.int .i64 x0_0, .int .i64 x0_1, .int .i64 x0_2, .int .i64 x0_3, .slice a0_4 n0_4 c0_4]] w K (use_vc h (by as_aux_lemma => kernel_rfl))
/-- purser/purserlaw17.from -/
def lfrom_vc (x0_0 : Int) (x0_1 : Int) (x0_2 : Int) (x0_3 : Int) (a0_4 : Option Addr) (n0_4 : Nat) (c0_4 : Nat) (w : World) (K : Value → World → Prop) : Prop :=
  newO w (.cells #[.int .i64 x0_0, .int .i64 x0_1, .int .i64 x0_2, .int .i64 x0_3, .slice a0_4 n0_4 c0_4] 33) fun g w_2 =>
  newO w_2 (.cells #[.int .i64 0, .int .i64 0, .int .i64 0, .int .i64 0, .slice none 0 0] 53) fun g_2 w_3 =>
  newO w_3 (.cells #[.int .i64 0, .int .i64 0, .int .i64 0, .int .i64 0, .slice none 0 0] 53) fun g_3 w_4 =>
  ∀ w_5 : World, BoxSt g_3 w_4 w_5 →
  ∃ (I : Int → Int → Int → Int → Int → Option Addr → Nat → Nat → World → Prop) (μ : Int → Int → Int → Int → Int → Option Addr → Nat → Nat → World → Nat),
  I 0 x0_0 x0_1 x0_2 x0_3 none 0 0 w_5 ∧
  ∀ (x4 : Int) (x3_0 : Int) (x3_1 : Int) (x3_2 : Int) (x3_3 : Int) (a3_4 : Option Addr) (n3_4 : Nat) (c3_4 : Nat) (w_6 : World), I x4 x3_0 x3_1 x3_2 x3_3 a3_4 n3_4 c3_4 w_6 →
  br (decide (x4 < ((n0_4 : Nat) : Int))) (
    withP a0_4 fun g25 o25 =>
    (0 : Int) ≤ x4 ∧ x4 < (((n0_4 : Nat) : Int) : Int) ∧
    ∃ (x26_0 : Int) (x26_1 : Int) (x26_2 : Int) (b26_3 : Bool),
    cellsAt w_6 g25 (o25 + x4.toNat * 4) [.int .i64 x26_0, .int .i64 x26_1, .int .i64 x26_2, .bool b26_3] ∧
    newO w_6 (.cells #[.int .i64 0, .int .i64 0, .int .i64 0, .bool false] 115) fun g_4 w_7 =>
    ∀ w_8 : World, BoxSt g_4 w_7 w_8 →
    newO w_8 (.cells #[.int .i64 x26_0, .int .i64 x26_1, .int .i64 x26_2, .bool b26_3] 161) fun g_5 w_9 =>
    appO Try.prog [g_4, g_3, g_2, g] w_9 161 4 32 51 a3_4 n3_4 c3_4 (.slice (some ⟨g_5, 0, none⟩) 1 1) fun m39 a39 c39 w_10 =>
    ∀ w_11 : World, BoxSt g_3 w_10 w_11 →
    I (IntKind.i64.wrap (x4 + 1)) x3_0 x3_1 x3_2 x3_3 a39 (n3_4 + m39) c39 w_11 ∧ μ (IntKind.i64.wrap (x4 + 1)) x3_0 x3_1 x3_2 x3_3 a39 (n3_4 + m39) c39 w_11 < μ x4 x3_0 x3_1 x3_2 x3_3 a3_4 n3_4 c3_4 w_6
  ) (
    ∀ w_12 : World, BoxSt g_2 w_6 w_12 →
    K (.agg #[.int .i64 x3_0, .int .i64 x3_1, .int .i64 x3_2, .int .i64 x3_3, .slice a3_4 n3_4 c3_4]) w_12
  )
def lfrom_notes : Notes := ⟨[], [(3, ⟨[(4, .lf (.int .i64))], [(3, [.int .i64, .int .i64, .int .i64, .int .i64, .slice])], [15, 16, 17, 18, 19, 22, 23, 24, 25, 26, 5, 27, 28, 29, 30, 31, 32, 33, 34, 35, 36, 37, 38, 39, 40, 20, 21, 4], [5, 3]⟩)], []⟩
theorem lfrom_calls (x0_0 : Int) (x0_1 : Int) (x0_2 : Int) (x0_3 : Int) (a0_4 : Option Addr) (n0_4 : Nat) (c0_4 : Nat) (w : World) (K : Value → World → Prop) (h : lfrom_vc x0_0 x0_1 x0_2 x0_3 a0_4 n0_4 c0_4 w K) : Calls Try.prog 61 #[.agg #[.int .i64 x0_0, .int .i64 x0_1, .int .i64 x0_2, .int .i64 x0_3, .slice a0_4 n0_4 c0_4]] w fun e w' => ∃ v, e = .returned v ∧ K v w' :=
  calls_of_fvc envOk Try.func61 lfrom_notes [1, 2, 3, 5] [.agg #[.int .i64 x0_0, .int .i64 x0_1, .int .i64 x0_2, .int .i64 x0_3, .slice a0_4 n0_4 c0_4]] w K (use_vc h (by as_aux_lemma => kernel_rfl))
/-- purser/purserlaw17.tame -/
def tame_vc (x0_0 : Int) (x0_1 : Int) (x0_2 : Int) (x0_3 : Int) (a0_4 : Option Addr) (n0_4 : Nat) (c0_4 : Nat) (w : World) (K : Value → World → Prop) : Prop :=
  newO w (.cells #[.int .i64 x0_0, .int .i64 x0_1, .int .i64 x0_2, .int .i64 x0_3, .slice a0_4 n0_4 c0_4] 53) fun g w_2 =>
  newO w_2 (.cells #[.int .i64 0, .int .i64 0, .int .i64 0, .int .i64 0, .slice none 0 0] 53) fun g_2 w_3 =>
  newO w_3 (.cells #[] 161) fun g_3 w_4 =>
  (0 : Int) ≤ min ((n0_4 : Nat) : Int) 6 ∧ min ((n0_4 : Nat) : Int) 6 ≤ (((c0_4 : Nat) : Int) : Int) ∧
  appO Try.prog [g_2, g] w_4 161 4 32 51 (some ⟨g_3, 0, none⟩) 0 0 (.slice a0_4 ((min ((n0_4 : Nat) : Int) 6).toNat) c0_4) fun m11 a11 c11 w_5 =>
  ∀ w_6 : World, BoxSt g w_5 w_6 →
  ∀ w_7 : World, BoxSt g_2 w_6 w_7 →
  K (.agg #[.int .i64 x0_0, .int .i64 x0_1, .int .i64 x0_2, .int .i64 x0_3, .slice a11 (0 + m11) c11]) w_7
def tame_notes : Notes := ⟨[], [], []⟩
theorem tame_calls (x0_0 : Int) (x0_1 : Int) (x0_2 : Int) (x0_3 : Int) (a0_4 : Option Addr) (n0_4 : Nat) (c0_4 : Nat) (w : World) (K : Value → World → Prop) (h : tame_vc x0_0 x0_1 x0_2 x0_3 a0_4 n0_4 c0_4 w K) : Calls Try.prog 54 #[.agg #[.int .i64 x0_0, .int .i64 x0_1, .int .i64 x0_2, .int .i64 x0_3, .slice a0_4 n0_4 c0_4]] w fun e w' => ∃ v, e = .returned v ∧ K v w' :=
  calls_of_fvc envOk Try.func54 tame_notes [1, 2] [.agg #[.int .i64 x0_0, .int .i64 x0_1, .int .i64 x0_2, .int .i64 x0_3, .slice a0_4 n0_4 c0_4]] w K (use_vc h (by as_aux_lemma => kernel_rfl))
/-- (purser/purserlaw17.Act).do -/
def ado_vc (x0_0 : Int) (x0_1 : Int) (x0_2 : Int) (x0_3 : Int) (x0_4 : Int) (a0_5 : Option Addr) (n0_5 : Nat) (c0_5 : Nat) (x0_6 : Int) (p1 : Option Addr) (p2 : Option Addr) (w : World) (K : Value → World → Prop) : Prop :=
  newO w (.cells #[.int .i64 x0_0, .int .i64 x0_1, .int .i64 x0_2, .int .i64 x0_3, .int .i64 x0_4, .slice a0_5 n0_5 c0_5, .int .i64 x0_6] 55) fun g w_2 =>
  Calls Try.prog 54 #[.agg #[.int .i64 x0_1, .int .i64 x0_2, .int .i64 x0_3, .int .i64 x0_4, .slice a0_5 n0_5 c0_5]] w_2 fun e w_3 => KeepG [g] w_2 w_3 ∧
  ∃ (x13_0 : Int) (x13_1 : Int) (x13_2 : Int) (x13_3 : Int) (a13_4 : Option Addr) (n13_4 : Nat) (c13_4 : Nat),
  e = .returned (.agg #[.int .i64 x13_0, .int .i64 x13_1, .int .i64 x13_2, .int .i64 x13_3, .slice a13_4 n13_4 c13_4]) ∧
  newO w_3 (.cells #[.int .i64 0, .int .i64 0, .int .i64 0, .int .i64 0, .slice none 0 0] 53) fun g_2 w_4 =>
  ∀ w_5 : World, BoxSt g_2 w_4 w_5 →
  (4 : Int) ≠ 0 ∧
  br (decide ((IntKind.i64.wrap (Int.tmod (IntKind.u64.wrap x0_0) 4)) = 0)) (
    Calls Try.prog 55 #[.agg #[.int .i64 x13_0, .int .i64 x13_1, .int .i64 x13_2, .int .i64 x13_3, .slice a13_4 n13_4 c13_4]] w_5 fun e_2 w_6 => KeepG [g_2, g] w_5 w_6 ∧
    ∃ (x22_0 : Int) (x22_1 : Int) (x22_2 : Int) (x22_3 : Int) (a22_4 : Option Addr) (n22_4 : Nat) (c22_4 : Nat),
    e_2 = .returned (.agg #[.int .i64 x22_0, .int .i64 x22_1, .int .i64 x22_2, .int .i64 x22_3, .slice a22_4 n22_4 c22_4]) ∧
    newO w_6 (.cells #[.int .i64 0, .int .i64 0, .int .i64 0, .int .i64 0, .slice none 0 0] 33) fun g_3 w_7 =>
    ∀ w_8 : World, BoxSt g_3 w_7 w_8 →
    Calls Try.prog 14 #[.pointer p1, .agg #[.int .i64 x22_0, .int .i64 x22_1, .int .i64 x22_2, .int .i64 x22_3, .slice a22_4 n22_4 c22_4]] w_8 fun e_3 w_9 => KeepG [g_3, g_2, g] w_8 w_9 ∧
    ∃ (x25 : Int),
    e_3 = .returned (.int .i64 x25) ∧
    ∃ (I : Int → World → Prop) (μ : Int → World → Nat),
    I 0 w_9 ∧
    ∀ (x10 : Int) (w_10 : World), I x10 w_10 →
    br (decide (x10 < ((n22_4 : Nat) : Int))) (
      withP a22_4 fun g36 o36 =>
      (0 : Int) ≤ x10 ∧ x10 < (((n22_4 : Nat) : Int) : Int) ∧
      ∃ (x38 : Int), w_10.cell? ⟨g36, o36 + x10.toNat * 4 + 1, none⟩ = some (.int .i64 x38) ∧
      withP a22_4 fun g40 o40 =>
      (0 : Int) ≤ x10 ∧ x10 < (((n22_4 : Nat) : Int) : Int) ∧
      stO [g_3, g_2, g] w_10 g40 (o40 + x10.toNat * 4 + 1) [.int .i64 (bitsV .xor .i64 x38 1)] fun w_11 =>
      I (IntKind.i64.wrap (x10 + 1)) w_11 ∧ μ (IntKind.i64.wrap (x10 + 1)) w_11 < μ x10 w_10
    ) (
      Calls Try.prog 56 #[.pointer p2, .agg #[.int .i64 x13_0, .int .i64 x13_1, .int .i64 x13_2, .int .i64 x13_3, .slice a13_4 n13_4 c13_4]] w_10 fun e_4 w_12 => KeepG [g_3, g_2, g] w_10 w_12 ∧
      ∃ (x45 : Int),
      e_4 = .returned (.int .i64 x45) ∧
      K (.bool (decide (x25 = x45))) w_12
    )
  ) (
    br (decide ((IntKind.i64.wrap (Int.tmod (IntKind.u64.wrap x0_0) 4)) = 1)) (
      drewO w_5 fun w_13 =>
      Calls Try.prog 55 #[.agg #[.int .i64 x13_0, .int .i64 x13_1, .int .i64 x13_2, .int .i64 x13_3, .slice a13_4 n13_4 c13_4]] w_13 fun e_5 w_14 => KeepG [g_2, g] w_13 w_14 ∧
      ∃ (x51_0 : Int) (x51_1 : Int) (x51_2 : Int) (x51_3 : Int) (a51_4 : Option Addr) (n51_4 : Nat) (c51_4 : Nat),
      e_5 = .returned (.agg #[.int .i64 x51_0, .int .i64 x51_1, .int .i64 x51_2, .int .i64 x51_3, .slice a51_4 n51_4 c51_4]) ∧
      Calls Try.prog 21 #[.pointer p1, .agg #[.int .i64 x51_0, .int .i64 x51_1, .int .i64 x51_2, .int .i64 x51_3, .slice a51_4 n51_4 c51_4]] w_14 fun e_6 w_15 => KeepG [g_2, g] w_14 w_15 ∧
      ∃ (x52 : Int),
      e_6 = .returned (.int .i64 x52) ∧
      Calls Try.prog 57 #[.pointer p2, .agg #[.int .i64 x13_0, .int .i64 x13_1, .int .i64 x13_2, .int .i64 x13_3, .slice a13_4 n13_4 c13_4]] w_15 fun e_7 w_16 => KeepG [g_2, g] w_15 w_16 ∧
      ∃ (x55 : Int),
      e_7 = .returned (.int .i64 x55) ∧
      K (.bool (decide (x52 = x55))) w_16
    ) (
      br (decide ((IntKind.i64.wrap (Int.tmod (IntKind.u64.wrap x0_0) 4)) = 2)) (
        drewO w_5 fun w_17 =>
        Calls Try.prog 13 #[.pointer p1, .int .i64 x13_0] w_17 fun e_8 w_18 => KeepG [g_2, g] w_17 w_18 ∧
        ∃ (x62 : Int),
        e_8 = .returned (.int .i64 x62) ∧
        Calls Try.prog 58 #[.pointer p2, .int .i64 x13_0] w_18 fun e_9 w_19 => KeepG [g_2, g] w_18 w_19 ∧
        ∃ (x66 : Int),
        e_9 = .returned (.int .i64 x66) ∧
        K (.bool (decide (x62 = x66))) w_19
      ) (
        drewO w_5 fun w_20 =>
        Calls Try.prog 22 #[.pointer p1, .int .i64 x13_0, .int .i64 x0_6] w_20 fun e_10 w_21 => KeepG [g_2, g] w_20 w_21 ∧
        ∃ (x73 : Int),
        e_10 = .returned (.int .i64 x73) ∧
        Calls Try.prog 59 #[.pointer p2, .int .i64 x13_0, .int .i64 x0_6] w_21 fun e_11 w_22 => KeepG [g_2, g] w_21 w_22 ∧
        ∃ (x79 : Int),
        e_11 = .returned (.int .i64 x79) ∧
        K (.bool (decide (x73 = x79))) w_22
      )
    )
  )
def ado_notes : Notes := ⟨[(12, ⟨[0, 0, 2, 7, 0, 0, 63, 127, 255], [2, 3, 6], [0, 1, 4, 5, 7, 8]⟩), (14, ⟨[0, 0, 2, 7, 0, 0, 32, 127, 255, 511], [3, 7], [0, 1, 2, 4, 5, 6, 8, 9]⟩), (15, ⟨[0, 0, 2, 0, 8, 31, 0, 0, 128, 0, 512, 2047, 4095, 8191], [5, 11], [0, 1, 2, 3, 4, 6, 7, 8, 9, 10, 12, 13]⟩)], [(7, ⟨[(10, .lf (.int .i64))], [], [26, 27, 28, 29, 30, 33, 34, 35, 36, 37, 38, 39, 40, 41, 31, 32, 10], []⟩)], []⟩
theorem ado_calls (x0_0 : Int) (x0_1 : Int) (x0_2 : Int) (x0_3 : Int) (x0_4 : Int) (a0_5 : Option Addr) (n0_5 : Nat) (c0_5 : Nat) (x0_6 : Int) (p1 : Option Addr) (p2 : Option Addr) (w : World) (K : Value → World → Prop) (h : ado_vc x0_0 x0_1 x0_2 x0_3 x0_4 a0_5 n0_5 c0_5 x0_6 p1 p2 w K) : Calls Try.prog 24 #[.agg #[.int .i64 x0_0, .int .i64 x0_1, .int .i64 x0_2, .int .i64 x0_3, .int .i64 x0_4, .slice a0_5 n0_5 c0_5, .int .i64 x0_6], .pointer p1, .pointer p2] w fun e w' => ∃ v, e = .returned v ∧ K v w' :=
  calls_of_fvc envOk Try.func24 ado_notes [3, 7, 8] [.agg #[.int .i64 x0_0, .int .i64 x0_1, .int .i64 x0_2, .int .i64 x0_3, .int .i64 x0_4, .slice a0_5 n0_5 c0_5, .int .i64 x0_6], .pointer p1, .pointer p2] w K (use_vc h (by as_aux_lemma => kernel_rfl))
/-- purser/purserlaw17.like -/
def like_vc (p0 : Option Addr) (p1 : Option Addr) (w : World) (K : Value → World → Prop) : Prop :=
  newO w (.cells #[.slice none 0 0, .slice none 0 0, .slice none 0 0, .slice none 0 0, .slice none 0 0, .slice none 0 0, .slice none 0 0, .slice none 0 0, .slice none 0 0, .slice none 0 0, .slice none 0 0, .slice none 0 0, .slice none 0 0, .slice none 0 0, .slice none 0 0, .slice none 0 0, .slice none 0 0, .slice none 0 0, .slice none 0 0, .slice none 0 0, .slice none 0 0, .slice none 0 0, .slice none 0 0, .slice none 0 0, .slice none 0 0, .slice none 0 0, .slice none 0 0, .slice none 0 0, .slice none 0 0, .slice none 0 0, .slice none 0 0, .slice none 0 0, .slice none 0 0] 121) fun g w_2 =>
  ∃ (I : Option Addr → Nat → Nat → Int → World → Prop) (μ : Option Addr → Nat → Nat → Int → World → Nat),
  I none 0 0 0 w_2 ∧
  ∀ (a5 : Option Addr) (n5 : Nat) (c5 : Nat) (x7 : Int) (w_3 : World), I a5 n5 c5 x7 w_3 →
  withP p1 fun g13 o13 =>
  ∃ (a15 : Option Addr) (n15 : Nat) (c15 : Nat), w_3.cell? ⟨g13, o13 + 2, none⟩ = some (.slice a15 n15 c15) ∧
  br (decide (x7 < ((n15 : Nat) : Int))) (
    withP p1 fun g23 o23 =>
    ∃ (a25 : Option Addr) (n25 : Nat) (c25 : Nat), w_3.cell? ⟨g23, o23 + 2, none⟩ = some (.slice a25 n25 c25) ∧
    withP a25 fun g27 o27 =>
    (0 : Int) ≤ x7 ∧ x7 < (((n25 : Nat) : Int) : Int) ∧
    ∃ (x29 : Int), w_3.cell? ⟨g27, o27 + x7.toNat * 5, none⟩ = some (.int .i64 x29) ∧
    Calls Try.prog 19 #[.pointer p0, .int .i64 x29] w_3 fun e w_4 => KeepG [] w_3 w_4 ∧
    ∃ (x30_0_0 : Int) (x30_0_1 : Int) (x30_0_2 : Int) (x30_0_3 : Int) (a30_0_4 : Option Addr) (n30_0_4 : Nat) (c30_0_4 : Nat) (x30_1 : Int),
    e = .returned (.tuple #[.agg #[.int .i64 x30_0_0, .int .i64 x30_0_1, .int .i64 x30_0_2, .int .i64 x30_0_3, .slice a30_0_4 n30_0_4 c30_0_4], .int .i64 x30_1]) ∧
    newO w_4 (.cells #[.int .i64 0, .int .i64 0, .int .i64 0, .int .i64 0, .slice none 0 0] 33) fun g_2 w_5 =>
    ∀ w_6 : World, BoxSt g_2 w_5 w_6 →
    drewO w_6 fun w_7 =>
    br (decide (x30_1 ≠ 0)) (
      K (.bool false) w_7
    ) (
      withP p1 fun g39 o39 =>
      ∃ (a41 : Option Addr) (n41 : Nat) (c41 : Nat), w_7.cell? ⟨g39, o39 + 2, none⟩ = some (.slice a41 n41 c41) ∧
      withP a41 fun g43 o43 =>
      (0 : Int) ≤ x7 ∧ x7 < (((n41 : Nat) : Int) : Int) ∧
      ∃ (x44_0 : Int) (x44_1 : Int) (x44_2 : Int) (x44_3 : Int) (a44_4 : Option Addr) (n44_4 : Nat) (c44_4 : Nat),
      cellsAt w_7 g43 (o43 + x7.toNat * 5) [.int .i64 x44_0, .int .i64 x44_1, .int .i64 x44_2, .int .i64 x44_3, .slice a44_4 n44_4 c44_4] ∧
      Calls Try.prog 61 #[.agg #[.int .i64 x30_0_0, .int .i64 x30_0_1, .int .i64 x30_0_2, .int .i64 x30_0_3, .slice a30_0_4 n30_0_4 c30_0_4]] w_7 fun e_2 w_8 => KeepG [g_2] w_7 w_8 ∧
      ∃ (x37_0 : Int) (x37_1 : Int) (x37_2 : Int) (x37_3 : Int) (a37_4 : Option Addr) (n37_4 : Nat) (c37_4 : Nat),
      e_2 = .returned (.agg #[.int .i64 x37_0, .int .i64 x37_1, .int .i64 x37_2, .int .i64 x37_3, .slice a37_4 n37_4 c37_4]) ∧
      w_8.cell? ⟨g39, o39 + 2, none⟩ = some (.slice a41 n41 c41) ∧
      cellsAt w_8 g43 (o43 + x7.toNat * 5) [.int .i64 x44_0, .int .i64 x44_1, .int .i64 x44_2, .int .i64 x44_3, .slice a44_4 n44_4 c44_4] ∧
      Calls Try.prog 60 #[.agg #[.int .i64 x37_0, .int .i64 x37_1, .int .i64 x37_2, .int .i64 x37_3, .slice a37_4 n37_4 c37_4], .agg #[.int .i64 x44_0, .int .i64 x44_1, .int .i64 x44_2, .int .i64 x44_3, .slice a44_4 n44_4 c44_4]] w_8 fun e_3 w_9 => KeepG [g_2] w_8 w_9 ∧
      ∃ (b45 : Bool),
      e_3 = .returned (.bool b45) ∧
      br (!b45) (
        K (.bool false) w_9
      ) (
        withP p1 fun g50 o50 =>
        ∃ (a52 : Option Addr) (n52 : Nat) (c52 : Nat), w_9.cell? ⟨g50, o50 + 2, none⟩ = some (.slice a52 n52 c52) ∧
        withP a52 fun g54 o54 =>
        (0 : Int) ≤ x7 ∧ x7 < (((n52 : Nat) : Int) : Int) ∧
        ∃ (x56 : Int), w_9.cell? ⟨g54, o54 + x7.toNat * 5, none⟩ = some (.int .i64 x56) ∧
        newO w_9 (.cells #[.int .i64 x56] 3) fun g_3 w_10 =>
        appO Try.prog [g_2] w_10 3 1 8 22 a5 n5 c5 (.slice (some ⟨g_3, 0, none⟩) 1 1) fun m58 a58 c58 w_11 =>
        drewO w_11 fun w_12 =>
        withP p1 fun g60 o60 =>
        ∃ (a62 : Option Addr) (n62 : Nat) (c62 : Nat), w_12.cell? ⟨g60, o60 + 2, none⟩ = some (.slice a62 n62 c62) ∧
        withP a62 fun g64 o64 =>
        (0 : Int) ≤ x7 ∧ x7 < (((n62 : Nat) : Int) : Int) ∧
        ∃ (x66 : Int), w_12.cell? ⟨g64, o64 + x7.toNat * 5 + 1, none⟩ = some (.int .i64 x66) ∧
        withP p1 fun g68 o68 =>
        ∃ (a70 : Option Addr) (n70 : Nat) (c70 : Nat), w_12.cell? ⟨g68, o68 + 2, none⟩ = some (.slice a70 n70 c70) ∧
        withP a70 fun g72 o72 =>
        (0 : Int) ≤ x7 ∧ x7 < (((n70 : Nat) : Int) : Int) ∧
        ∃ (x74 : Int), w_12.cell? ⟨g72, o72 + x7.toNat * 5 + 1, none⟩ = some (.int .i64 x74) ∧
        (0 : Int) ≤ x74 ∧ x74 < ((33 : Nat) : Int) ∧
        ∃ (a76 : Option Addr) (n76 : Nat) (c76 : Nat), w_12.cell? ⟨g, 0 + x74.toNat * 1, none⟩ = some (.slice a76 n76 c76) ∧
        withP p1 fun g78 o78 =>
        ∃ (a80 : Option Addr) (n80 : Nat) (c80 : Nat), w_12.cell? ⟨g78, o78 + 2, none⟩ = some (.slice a80 n80 c80) ∧
        withP a80 fun g82 o82 =>
        (0 : Int) ≤ x7 ∧ x7 < (((n80 : Nat) : Int) : Int) ∧
        ∃ (a84 : Option Addr) (n84 : Nat) (c84 : Nat), w_12.cell? ⟨g82, o82 + x7.toNat * 5 + 4, none⟩ = some (.slice a84 n84 c84) ∧
        appO Try.prog [g_2] w_12 161 4 32 51 a76 n76 c76 (.slice a84 n84 c84) fun m85 a85 c85 w_13 =>
        w_13.cell? ⟨g60, o60 + 2, none⟩ = some (.slice a62 n62 c62) ∧
        w_13.cell? ⟨g64, o64 + x7.toNat * 5 + 1, none⟩ = some (.int .i64 x66) ∧
        (0 : Int) ≤ x66 ∧ x66 < ((33 : Nat) : Int) ∧
        stO [g_2] w_13 g (0 + x66.toNat * 1) [.slice a85 (n76 + m85) c85] fun w_14 =>
        I a58 (n5 + m58) c58 (IntKind.i64.wrap (x7 + 1)) w_14 ∧ μ a58 (n5 + m58) c58 (IntKind.i64.wrap (x7 + 1)) w_14 < μ a5 n5 c5 x7 w_3
      )
    )
  ) (
    ∃ (I_2 : Int → World → Prop) (μ_2 : Int → World → Nat),
    I_2 0 w_3 ∧
    ∀ (x10 : Int) (w_15 : World), I_2 x10 w_15 →
    br (decide (x10 ≤ 32)) (
      drewO w_15 fun w_16 =>
      (0 : Int) ≤ x10 ∧ x10 < ((33 : Nat) : Int) ∧
      ∃ (a96 : Option Addr) (n96 : Nat) (c96 : Nat), w_16.cell? ⟨g, 0 + x10.toNat * 1, none⟩ = some (.slice a96 n96 c96) ∧
      Calls Try.prog 23 #[.pointer p0, .int .i64 x10] w_16 fun e_4 w_17 => KeepG [] w_16 w_17 ∧
      ∃ (x93 : Int),
      e_4 = .returned (.int .i64 x93) ∧
      w_17.cell? ⟨g, 0 + x10.toNat * 1, none⟩ = some (.slice a96 n96 c96) ∧
      Calls Try.prog 62 #[.slice a96 n96 c96] w_17 fun e_5 w_18 => KeepG [] w_17 w_18 ∧
      ∃ (x97 : Int),
      e_5 = .returned (.int .i64 x97) ∧
      br (decide (x93 ≠ x97)) (
        K (.bool false) w_18
      ) (
        I_2 (IntKind.i64.wrap (x10 + 1)) w_18 ∧ μ_2 (IntKind.i64.wrap (x10 + 1)) w_18 < μ_2 x10 w_15
      )
    ) (
      drewO w_15 fun w_19 =>
      Calls Try.prog 16 #[.pointer p0] w_19 fun e_6 w_20 => KeepG [] w_19 w_20 ∧
      ∃ (a100 : Option Addr) (n100 : Nat) (c100 : Nat),
      e_6 = .returned (.slice a100 n100 c100) ∧
      Calls Try.prog 15 #[.slice a100 n100 c100, .slice a5 n5 c5] w_20 fun e_7 w_21 => KeepG [] w_20 w_21 ∧
      ∃ (b102 : Bool),
      e_7 = .returned (.bool b102) ∧
      br b102 (
        withP p1 fun g107 o107 =>
        ∃ (x109 : Int), w_21.cell? ⟨g107, o107 + 1, none⟩ = some (.int .i64 x109) ∧
        Calls Try.prog 17 #[.pointer p0] w_21 fun e_8 w_22 => KeepG [] w_21 w_22 ∧
        ∃ (x105 : Int),
        e_8 = .returned (.int .i64 x105) ∧
        w_22.cell? ⟨g107, o107 + 1, none⟩ = some (.int .i64 x109) ∧
        K (.bool (decide (x105 = x109))) w_22
      ) (
        K (.bool false) w_21
      )
    )
  )
def like_notes : Notes := ⟨[(7, ⟨[0, 1, 3, 7, 15, 7, 39, 103, 231, 7, 999, 2023, 4095, 8191, 16383], [4, 12], [0, 1, 2, 3, 5, 6, 7, 8, 9, 10, 11, 13, 14]⟩), (10, ⟨[0, 1, 3, 7, 0, 31, 63, 127, 0, 256, 768, 1792, 0, 7936, 16128, 32512, 65280, 130816, 0, 262144, 786432, 1835008, 0, 8126464, 16515072, 33292288, 67108608, 134217727, 268435455], [26, 28], [0, 1, 2, 3, 4, 5, 6, 7, 8, 9, 10, 11, 12, 13, 14, 15, 16, 17, 18, 19, 20, 21, 22, 23, 24, 25, 27]⟩), (14, ⟨[0, 0, 3, 0, 8, 24, 63, 127], [2, 6], [0, 1, 3, 4, 5, 7]⟩), (16, ⟨[0, 1, 0, 7, 15, 31, 63, 31, 159, 415, 927, 2047, 4095, 8191], [1, 3, 6], [0, 2, 4, 5, 7, 8, 9, 10, 11, 12, 13]⟩)], [(4, ⟨[(5, .lf (.slice)), (7, .lf (.int .i64))], [], [11, 12, 13, 14, 15, 16, 17, 21, 22, 23, 24, 25, 26, 27, 28, 29, 30, 20, 31, 32, 8, 9, 33, 34, 35, 36, 37, 38, 39, 40, 41, 42, 43, 44, 45, 46, 47, 4, 48, 49, 50, 51, 52, 53, 54, 55, 56, 57, 58, 5, 59, 60, 61, 62, 63, 64, 65, 66, 67, 68, 69, 70, 71, 72, 73, 74, 75, 76, 77, 78, 79, 80, 81, 82, 83, 84, 85, 86, 18, 19, 7], [8]⟩), (12, ⟨[(10, .lf (.int .i64))], [], [87, 88, 91, 92, 93, 94, 95, 96, 97, 98, 4, 89, 90, 10], []⟩)], []⟩
theorem like_calls (p0 : Option Addr) (p1 : Option Addr) (w : World) (K : Value → World → Prop) (h : like_vc p0 p1 w K) : Calls Try.prog 25 #[.pointer p0, .pointer p1] w fun e w' => ∃ v, e = .returned v ∧ K v w' :=
  calls_of_fvc envOk Try.func25 like_notes [8] [.pointer p0, .pointer p1] w K (use_vc h (by as_aux_lemma => kernel_rfl))
/-- purser/purserlaw17.none -/
def lnone_vc  (w : World) (K : Value → World → Prop) : Prop :=
  K (.pointer none) w
def lnone_notes : Notes := ⟨[], [], []⟩
theorem lnone_calls  (w : World) (K : Value → World → Prop) (h : lnone_vc  w K) : Calls Try.prog 18 #[] w fun e w' => ∃ v, e = .returned v ∧ K v w' :=
  calls_of_fvc envOk Try.func18 lnone_notes [] [] w K (use_vc h (by as_aux_lemma => kernel_rfl))
/-- (*purser/credit.Table).Write -/
def tWrite_vc (p0 : Option Addr) (w : World) (K : Value → World → Prop) : Prop :=
  br (Option.isNone p0) (
    K (.tuple #[.slice none 0 0, .int .i64 1]) w
  ) (
    newO w (.cells #[.slice none 0 0, .bool false] 112) fun g w_2 =>
    withP p0 fun g17 o17 =>
    ∃ (x19 : Int), w_2.cell? ⟨g17, o17, none⟩ = some (.int .i64 x19) ∧
    Calls Try.prog 50 #[.pointer (some ⟨g, 0, none⟩), .int .i64 x19] w_2 fun e w_3 => KeepG [] w_2 w_3 ∧
    e = .returned (.tuple #[]) ∧
    withP p0 fun g23 o23 =>
    ∃ (x25 : Int), w_3.cell? ⟨g23, o23 + 1, none⟩ = some (.int .i64 x25) ∧
    Calls Try.prog 50 #[.pointer (some ⟨g, 0, none⟩), .int .i64 x25] w_3 fun e_2 w_4 => KeepG [] w_3 w_4 ∧
    e_2 = .returned (.tuple #[]) ∧
    withP p0 fun g29 o29 =>
    ∃ (a31 : Option Addr) (n31 : Nat) (c31 : Nat), w_4.cell? ⟨g29, o29 + 2, none⟩ = some (.slice a31 n31 c31) ∧
    Calls Try.prog 50 #[.pointer (some ⟨g, 0, none⟩), .int .i64 ((n31 : Nat) : Int)] w_4 fun e_3 w_5 => KeepG [] w_4 w_5 ∧
    e_3 = .returned (.tuple #[]) ∧
    withP p0 fun g35 o35 =>
    ∃ (a37 : Option Addr) (n37 : Nat) (c37 : Nat), w_5.cell? ⟨g35, o35 + 2, none⟩ = some (.slice a37 n37 c37) ∧
    ∃ (I : Int → World → Prop) (μ : Int → World → Nat),
    I 0 w_5 ∧
    ∀ (x39 : Int) (w_6 : World), I x39 w_6 →
    br (decide (x39 < ((n37 : Nat) : Int))) (
      withP a37 fun g41 o41 =>
      (0 : Int) ≤ x39 ∧ x39 < (((n37 : Nat) : Int) : Int) ∧
      ∃ (x42_0 : Int) (x42_1 : Int) (x42_2 : Int) (x42_3 : Int) (a42_4 : Option Addr) (n42_4 : Nat) (c42_4 : Nat),
      cellsAt w_6 g41 (o41 + x39.toNat * 5) [.int .i64 x42_0, .int .i64 x42_1, .int .i64 x42_2, .int .i64 x42_3, .slice a42_4 n42_4 c42_4] ∧
      newO w_6 (.cells #[.int .i64 0, .int .i64 0, .int .i64 0, .int .i64 0, .slice none 0 0] 33) fun g_2 w_7 =>
      ∀ w_8 : World, BoxSt g_2 w_7 w_8 →
      newO w_8 (.cells #[.int .i64 x42_0, .int .i64 x42_1, .int .i64 x42_2, .int .i64 x42_3, .int .i64 ((n42_4 : Nat) : Int)] 3) fun g_3 w_9 =>
      ∃ (I_2 : Int → World → Prop) (μ_2 : Int → World → Nat),
      I_2 0 w_9 ∧
      ∀ (x56 : Int) (w_10 : World), I_2 x56 w_10 →
      br (decide (x56 < ((5 : Nat) : Int))) (
        (0 : Int) ≤ x56 ∧ x56 < (((5 : Nat) : Int) : Int) ∧
        ∃ (x59 : Int), w_10.cell? ⟨g_3, 0 + x56.toNat * 1, none⟩ = some (.int .i64 x59) ∧
        Calls Try.prog 50 #[.pointer (some ⟨g, 0, none⟩), .int .i64 x59] w_10 fun e_4 w_11 => KeepG [g_2] w_10 w_11 ∧
        e_4 = .returned (.tuple #[]) ∧
        I_2 (IntKind.i64.wrap (x56 + 1)) w_11 ∧ μ_2 (IntKind.i64.wrap (x56 + 1)) w_11 < μ_2 x56 w_10
      ) (
        ∃ (I_3 : Int → World → Prop) (μ_3 : Int → World → Nat),
        I_3 0 w_10 ∧
        ∀ (x67 : Int) (w_12 : World), I_3 x67 w_12 →
        br (decide (x67 < ((n42_4 : Nat) : Int))) (
          withP a42_4 fun g69 o69 =>
          (0 : Int) ≤ x67 ∧ x67 < (((n42_4 : Nat) : Int) : Int) ∧
          ∃ (x70_0 : Int) (x70_1 : Int) (x70_2 : Int) (b70_3 : Bool),
          cellsAt w_12 g69 (o69 + x67.toNat * 4) [.int .i64 x70_0, .int .i64 x70_1, .int .i64 x70_2, .bool b70_3] ∧
          newO w_12 (.cells #[.int .i64 0, .int .i64 0, .int .i64 0, .bool false] 115) fun g_4 w_13 =>
          ∀ w_14 : World, BoxSt g_4 w_13 w_14 →
          Calls Try.prog 50 #[.pointer (some ⟨g, 0, none⟩), .int .i64 x70_0] w_14 fun e_5 w_15 => KeepG [g_4, g_2] w_14 w_15 ∧
          e_5 = .returned (.tuple #[]) ∧
          Calls Try.prog 50 #[.pointer (some ⟨g, 0, none⟩), .int .i64 x70_1] w_15 fun e_6 w_16 => KeepG [g_4, g_2] w_15 w_16 ∧
          e_6 = .returned (.tuple #[]) ∧
          Calls Try.prog 50 #[.pointer (some ⟨g, 0, none⟩), .int .i64 x70_2] w_16 fun e_7 w_17 => KeepG [g_4, g_2] w_16 w_17 ∧
          e_7 = .returned (.tuple #[]) ∧
          Calls Try.prog 51 #[.pointer (some ⟨g, 0, none⟩), .bool b70_3] w_17 fun e_8 w_18 => KeepG [g_4, g_2] w_17 w_18 ∧
          e_8 = .returned (.tuple #[]) ∧
          I_3 (IntKind.i64.wrap (x67 + 1)) w_18 ∧ μ_3 (IntKind.i64.wrap (x67 + 1)) w_18 < μ_3 x67 w_12
        ) (
          I (IntKind.i64.wrap (x39 + 1)) w_12 ∧ μ (IntKind.i64.wrap (x39 + 1)) w_12 < μ x39 w_6
        )
      )
    ) (
      Calls Try.prog 52 #[.pointer (some ⟨g, 0, none⟩)] w_6 fun e_9 w_19 => KeepG [] w_6 w_19 ∧
      ∃ (a90_0 : Option Addr) (n90_0 : Nat) (c90_0 : Nat) (x90_1 : Int),
      e_9 = .returned (.tuple #[.slice a90_0 n90_0 c90_0, .int .i64 x90_1]) ∧
      K (.tuple #[.slice a90_0 n90_0 c90_0, .int .i64 x90_1]) w_19
    )
  )
def tWrite_notes : Notes := ⟨[], [(8, ⟨[(39, .lf (.int .i64))], [], [40, 41, 42, 6, 43, 44, 45, 46, 47, 48, 49, 50, 51, 52, 53, 54, 55, 56, 57, 58, 59, 8, 60, 61, 62, 63, 64, 65, 66, 67, 68, 69, 70, 10, 71, 72, 73, 74, 75, 76, 77, 78, 79, 80, 81, 82, 83, 84, 85, 86, 87, 88, 39], [6, 10]⟩), (11, ⟨[(56, .lf (.int .i64))], [], [57, 58, 59, 8, 60, 61, 62, 63, 56], []⟩), (16, ⟨[(67, .lf (.int .i64))], [], [68, 69, 70, 10, 71, 72, 73, 74, 75, 76, 77, 78, 79, 80, 81, 82, 83, 84, 85, 86, 87, 67], [10]⟩)], []⟩
theorem tWrite_calls (p0 : Option Addr) (w : World) (K : Value → World → Prop) (h : tWrite_vc p0 w K) : Calls Try.prog 20 #[.pointer p0] w fun e w' => ∃ v, e = .returned v ∧ K v w' :=
  calls_of_fvc envOk Try.func20 tWrite_notes [6, 10] [.pointer p0] w K (use_vc h (by as_aux_lemma => kernel_rfl))
/-- purser/purserlaw17.CreditActs -/
def lActs_vc (x0 : Int) (a1 : Option Addr) (n1 : Nat) (c1 : Nat) (x2 : Int) (w : World) (K : Value → World → Prop) : Prop :=
  Calls Try.prog 18 #[] w fun e w_2 => KeepG [] w w_2 ∧
  ∃ (p15 : Option Addr),
  e = .returned (.pointer p15) ∧
  Calls Try.prog 19 #[.pointer p15, .int .i64 1] w_2 fun e_2 w_3 => KeepG [] w_2 w_3 ∧
  ∃ (x16_0_0 : Int) (x16_0_1 : Int) (x16_0_2 : Int) (x16_0_3 : Int) (a16_0_4 : Option Addr) (n16_0_4 : Nat) (c16_0_4 : Nat) (x16_1 : Int),
  e_2 = .returned (.tuple #[.agg #[.int .i64 x16_0_0, .int .i64 x16_0_1, .int .i64 x16_0_2, .int .i64 x16_0_3, .slice a16_0_4 n16_0_4 c16_0_4], .int .i64 x16_1]) ∧
  newO w_3 (.cells #[.int .i64 0, .int .i64 0, .int .i64 0, .int .i64 0, .slice none 0 0] 33) fun g w_4 =>
  ∀ w_5 : World, BoxSt g w_4 w_5 →
  Calls Try.prog 18 #[] w_5 fun e_3 w_6 => KeepG [g] w_5 w_6 ∧
  ∃ (p20 : Option Addr),
  e_3 = .returned (.pointer p20) ∧
  Calls Try.prog 20 #[.pointer p20] w_6 fun e_4 w_7 => KeepG [g] w_6 w_7 ∧
  ∃ (a21_0 : Option Addr) (n21_0 : Nat) (c21_0 : Nat) (x21_1 : Int),
  e_4 = .returned (.tuple #[.slice a21_0 n21_0 c21_0, .int .i64 x21_1]) ∧
  Calls Try.prog 12 #[] w_7 fun e_5 w_8 => KeepG [g] w_7 w_8 ∧
  ∃ (b24 : Bool),
  e_5 = .returned (.bool b24) ∧
  br (!b24) (
    K (.bool false) w_8
  ) (
    br (decide (x16_1 ≠ 1)) (
      K (.bool false) w_8
    ) (
      br (decide (x21_1 ≠ 1)) (
        K (.bool false) w_8
      ) (
        Calls Try.prog 18 #[] w_8 fun e_6 w_9 => KeepG [g] w_8 w_9 ∧
        ∃ (p35 : Option Addr),
        e_6 = .returned (.pointer p35) ∧
        Calls Try.prog 14 #[.pointer p35, .agg #[.int .i64 0, .int .i64 0, .int .i64 0, .int .i64 0, .slice none 0 0]] w_9 fun e_7 w_10 => KeepG [g] w_9 w_10 ∧
        ∃ (x37 : Int),
        e_7 = .returned (.int .i64 x37) ∧
        br (decide (x37 ≠ 1)) (
          K (.bool false) w_10
        ) (
          Calls Try.prog 18 #[] w_10 fun e_8 w_11 => KeepG [g] w_10 w_11 ∧
          ∃ (p41 : Option Addr),
          e_8 = .returned (.pointer p41) ∧
          Calls Try.prog 21 #[.pointer p41, .agg #[.int .i64 0, .int .i64 0, .int .i64 0, .int .i64 0, .slice none 0 0]] w_11 fun e_9 w_12 => KeepG [g] w_11 w_12 ∧
          ∃ (x43 : Int),
          e_9 = .returned (.int .i64 x43) ∧
          br (decide (x43 ≠ 1)) (
            K (.bool false) w_12
          ) (
            Calls Try.prog 18 #[] w_12 fun e_10 w_13 => KeepG [g] w_12 w_13 ∧
            ∃ (p47 : Option Addr),
            e_10 = .returned (.pointer p47) ∧
            Calls Try.prog 13 #[.pointer p47, .int .i64 1] w_13 fun e_11 w_14 => KeepG [g] w_13 w_14 ∧
            ∃ (x48 : Int),
            e_11 = .returned (.int .i64 x48) ∧
            br (decide (x48 ≠ 1)) (
              K (.bool false) w_14
            ) (
              Calls Try.prog 18 #[] w_14 fun e_12 w_15 => KeepG [g] w_14 w_15 ∧
              ∃ (p52 : Option Addr),
              e_12 = .returned (.pointer p52) ∧
              Calls Try.prog 22 #[.pointer p52, .int .i64 1, .int .i64 1] w_15 fun e_13 w_16 => KeepG [g] w_15 w_16 ∧
              ∃ (x53 : Int),
              e_13 = .returned (.int .i64 x53) ∧
              br (decide (x53 ≠ 1)) (
                K (.bool false) w_16
              ) (
                Calls Try.prog 18 #[] w_16 fun e_14 w_17 => KeepG [g] w_16 w_17 ∧
                ∃ (p57 : Option Addr),
                e_14 = .returned (.pointer p57) ∧
                Calls Try.prog 16 #[.pointer p57] w_17 fun e_15 w_18 => KeepG [g] w_17 w_18 ∧
                ∃ (a58 : Option Addr) (n58 : Nat) (c58 : Nat),
                e_15 = .returned (.slice a58 n58 c58) ∧
                br (decide (((n58 : Nat) : Int) ≠ 0)) (
                  K (.bool false) w_18
                ) (
                  Calls Try.prog 18 #[] w_18 fun e_16 w_19 => KeepG [g] w_18 w_19 ∧
                  ∃ (p63 : Option Addr),
                  e_16 = .returned (.pointer p63) ∧
                  Calls Try.prog 17 #[.pointer p63] w_19 fun e_17 w_20 => KeepG [g] w_19 w_20 ∧
                  ∃ (x64 : Int),
                  e_17 = .returned (.int .i64 x64) ∧
                  br (decide (x64 ≠ 0)) (
                    K (.bool false) w_20
                  ) (
                    Calls Try.prog 18 #[] w_20 fun e_18 w_21 => KeepG [g] w_20 w_21 ∧
                    ∃ (p68 : Option Addr),
                    e_18 = .returned (.pointer p68) ∧
                    Calls Try.prog 23 #[.pointer p68, .int .i64 1] w_21 fun e_19 w_22 => KeepG [g] w_21 w_22 ∧
                    ∃ (x69 : Int),
                    e_19 = .returned (.int .i64 x69) ∧
                    br (decide (x69 ≠ 0)) (
                      K (.bool false) w_22
                    ) (
                      Calls Try.prog 11 #[.int .i64 x0] w_22 fun e_20 w_23 => KeepG [g] w_22 w_23 ∧
                      ∃ (p74_0 : Option Addr) (x74_1 : Int),
                      e_20 = .returned (.tuple #[.pointer p74_0, .int .i64 x74_1]) ∧
                      br (decide (x0 < 1)) (
                        br (Option.isNone p74_0) (
                          K (.bool (decide (x74_1 = 1))) w_23
                        ) (
                          K (.bool false) w_23
                        )
                      ) (
                        br (decide (x0 > 16)) (
                          br (Option.isNone p74_0) (
                            K (.bool (decide (x74_1 = 1))) w_23
                          ) (
                            K (.bool false) w_23
                          )
                        ) (
                          newO w_23 (.cells #[.int .i64 x0, .int .i64 0, .slice none 0 0] 50) fun g_2 w_24 =>
                          ∃ (I : Int → World → Prop) (μ : Int → World → Nat),
                          I 0 w_24 ∧
                          ∀ (x13 : Int) (w_25 : World), I x13 w_25 →
                          ∃ (J : Bool → World → Prop), (
                            br (decide (x13 < ((n1 : Nat) : Int))) (
                              J (decide (x13 < 40)) w_25
                            ) (
                              J false w_25
                            )
                          ) ∧
                          ∀ (b99 : Bool) (w_26 : World), J b99 w_26 →
                          br b99 (
                            withP a1 fun g104 o104 =>
                            (0 : Int) ≤ x13 ∧ x13 < (((n1 : Nat) : Int) : Int) ∧
                            ∃ (x105_0 : Int) (x105_1 : Int) (x105_2 : Int) (x105_3 : Int) (x105_4 : Int) (a105_5 : Option Addr) (n105_5 : Nat) (c105_5 : Nat) (x105_6 : Int),
                            cellsAt w_26 g104 (o104 + x13.toNat * 7) [.int .i64 x105_0, .int .i64 x105_1, .int .i64 x105_2, .int .i64 x105_3, .int .i64 x105_4, .slice a105_5 n105_5 c105_5, .int .i64 x105_6] ∧
                            Calls Try.prog 24 #[.agg #[.int .i64 x105_0, .int .i64 x105_1, .int .i64 x105_2, .int .i64 x105_3, .int .i64 x105_4, .slice a105_5 n105_5 c105_5, .int .i64 x105_6], .pointer p74_0, .pointer (some ⟨g_2, 0, none⟩)] w_26 fun e_21 w_27 => KeepG [g] w_26 w_27 ∧
                            ∃ (b108 : Bool),
                            e_21 = .returned (.bool b108) ∧
                            br (!b108) (
                              K (.bool false) w_27
                            ) (
                              I (IntKind.i64.wrap (x13 + 1)) w_27 ∧ μ (IntKind.i64.wrap (x13 + 1)) w_27 < μ x13 w_25
                            )
                          ) (
                            Calls Try.prog 19 #[.pointer p74_0, .int .i64 x2] w_26 fun e_22 w_28 => KeepG [g] w_26 w_28 ∧
                            ∃ (x113_0_0 : Int) (x113_0_1 : Int) (x113_0_2 : Int) (x113_0_3 : Int) (a113_0_4 : Option Addr) (n113_0_4 : Nat) (c113_0_4 : Nat) (x113_1 : Int),
                            e_22 = .returned (.tuple #[.agg #[.int .i64 x113_0_0, .int .i64 x113_0_1, .int .i64 x113_0_2, .int .i64 x113_0_3, .slice a113_0_4 n113_0_4 c113_0_4], .int .i64 x113_1]) ∧
                            br (decide (x74_1 = 0)) (
                              Calls Try.prog 25 #[.pointer p74_0, .pointer (some ⟨g_2, 0, none⟩)] w_28 fun e_23 w_29 => KeepG [g] w_28 w_29 ∧
                              ∃ (b121 : Bool),
                              e_23 = .returned (.bool b121) ∧
                              br b121 (
                                Calls Try.prog 26 #[.pointer (some ⟨g_2, 0, none⟩), .int .i64 x2] w_29 fun e_24 w_30 => KeepG [g] w_29 w_30 ∧
                                ∃ (x128 : Int),
                                e_24 = .returned (.int .i64 x128) ∧
                                br (decide ((decide (x113_1 = 0)) = (decide (x128 ≥ 0)))) (
                                  br (decide (x113_1 = 0)) (
                                    K (.bool true) w_30
                                  ) (
                                    K (.bool (decide (x113_1 = 7))) w_30
                                  )
                                ) (
                                  K (.bool false) w_30
                                )
                              ) (
                                K (.bool false) w_29
                              )
                            ) (
                              K (.bool false) w_28
                            )
                          )
                        )
                      )
                    )
                  )
                )
              )
            )
          )
        )
      )
    )
  )
def lActs_notes : Notes := ⟨[], [(10, ⟨[(13, .lf (.int .i64))], [], [92, 93, 94, 95, 96, 97, 98, 99, 102, 103, 104, 105, 106, 107, 108, 109, 6, 100, 101, 13], []⟩)], [((0, 10), ⟨[(99, .lf (.bool))], [], [92, 93, 94, 95, 96, 97, 98, 99], []⟩)]⟩
theorem lActs_calls (x0 : Int) (a1 : Option Addr) (n1 : Nat) (c1 : Nat) (x2 : Int) (w : World) (K : Value → World → Prop) (h : lActs_vc x0 a1 n1 c1 x2 w K) : Calls Try.prog 4 #[.int .i64 x0, .slice a1 n1 c1, .int .i64 x2] w fun e w' => ∃ v, e = .returned v ∧ K v w' :=
  calls_of_fvc envOk Try.func4 lActs_notes [7] [.int .i64 x0, .slice a1 n1 c1, .int .i64 x2] w K (use_vc h (by as_aux_lemma => kernel_rfl))
end GCred2
end Go.Proofs.Ytamlgnhnmilbdaa
end
section
/- A table with sessions that have grants: Add, Set, Get, Step; walked. -/
namespace Go.Proofs.Ytamlgnhnmilbdaa
open Go.RowKit
def sesV (s : Ses) (a : Option Addr) (c : Nat) : Value := .agg #[.int .i64 s.id, .int .i64 s.node, .int .i64 s.num, .int .i64 s.dl, .slice a s.gs.length c]
theorem right_any (s : Ses) (a : Option Addr) (c : Nat) (w : World) (h : GrAt w a s.gs) (hl : s.gs.length ≤ c) (hm : s.gs.length ≤ maxLen) :
    Calls Try.prog 48 #[sesV s a c] w fun e w' => e = .returned (.bool (decide (SesOk s))) ∧ Below w.heap.size w w' := by
  refine (GCred.right_calls s.id s.node s.num s.dl a s.gs.length c w (fun v w' => v = .bool (decide (SesOk s)) ∧ Below w.heap.size w w') ?_).mono (by rintro e w' ⟨v, rfl, rfl, h⟩; exact ⟨rfl, h⟩)
  unfold GCred.right_vc
  refine newO_in fun w2 n2 b2 s2 => (within_any s.id _ _ w2).mono ?_
  rintro e w3 ⟨rfl, rfl⟩
  refine ⟨fun _ _ _ => rfl, _, rfl, br_dec (fun h1 => (within_any s.node _ _ w2).mono ?_) fun h1 => ⟨by rw [decide_eq_false (fun h => h1 h.1)], b2⟩⟩
  rintro e w3 ⟨rfl, rfl⟩
  refine ⟨fun _ _ _ => rfl, _, rfl, br_dec (fun h2 => (within_any s.num _ _ w2).mono ?_) fun h2 => ⟨by rw [decide_eq_false (fun h => h2 h.2.1)], b2⟩⟩
  rintro e w3 ⟨rfl, rfl⟩
  refine ⟨fun _ _ _ => rfl, _, rfl, br_dec (fun h3 => (within_any s.dl _ _ w2).mono ?_) fun h3 => ⟨by rw [decide_eq_false (fun h => h3 h.2.2.1)], b2⟩⟩
  rintro e w3 ⟨rfl, rfl⟩
  refine ⟨fun _ _ _ => rfl, _, rfl, br_dec (fun h4 => (grants_any a c s.gs w2 (h.below b2) hl hm).mono ?_) fun h4 => ⟨by rw [decide_eq_false (fun h => h4 h.2.2.2.1)], b2⟩⟩
  rintro e w3 ⟨rfl, b3⟩
  refine ⟨keepG_below b3, _, rfl, ?_, b2.trans (b3.mono b2.size)⟩
  congr 1
  exact decide_eq_decide.2 ⟨fun h5 => ⟨h1, h2, h3, h4, h5⟩, fun h5 => h5.2.2.2.2⟩
theorem clone_any (a : Option Addr) (c : Nat) (gs : List Gr4) (w : World) (h : GrAt w a gs) (hl : gs.length ≤ 100000) :
    Calls Try.prog 102 #[.slice a gs.length c] w fun e w' => ∃ a' c', e = .returned (.slice a' gs.length c') ∧ Own w' w.heap.size 115 4 (.slice a' gs.length c') gs.length (gs.flatMap g4Cells) ∧ Below w.heap.size w w' := by
  refine (GCred.clone_calls a gs.length c w (fun v w' => ∃ a' c', v = .slice a' gs.length c' ∧ Own w' w.heap.size 115 4 (.slice a' gs.length c') gs.length (gs.flatMap g4Cells) ∧ Below w.heap.size w w') ?_).mono (by rintro e w' ⟨v, rfl, a', c', rfl, h⟩; exact ⟨a', c', rfl, h⟩)
  unfold GCred.clone_vc
  cases a with
  | none =>
    have h0 : gs = [] := by
      rcases h with h | ⟨b, off, ha, _⟩
      · exact h
      · cases ha
    subst h0
    exact br_t rfl ⟨none, 0, rfl, Own.nil _ _ _ _, Below.refl _ _⟩
  | some ad =>
    refine br_f rfl (newO_in fun w2 n2 b2 s2 => ?_)
    refine ⟨gs.length, [], gs.flatMap g4Cells, own_empty 4 n2, gr_src (h.below b2), by unfold maxLen; omega, by omega, by simp, ?_⟩
    intro a' c' w3 o3 g3 hor _
    rw [Nat.zero_add] at o3 hor ⊢
    refine ⟨a', c', rfl, o3.base_le fun k hk => ?_, ?_⟩
    · rcases hor with h1 | ⟨g, h1, hg⟩
      · rw [h1] at hk; simp [Value.ownBlock] at hk; omega
      · rw [h1] at hk; injection hk with hk; omega
    · exact ⟨g3.os.trans b2.os, g3.tape.trans b2.tape, g3.output.trans b2.output, Nat.le_trans b2.size g3.size, fun k hk => (g3.block k (by omega) (by simp [Value.ownBlock]; omega)).trans (b2.block k hk)⟩
theorem copied_any (s : Ses) (a : Option Addr) (c : Nat) (w : World) (h : GrAt w a s.gs) (hl : s.gs.length ≤ 100000) :
    Calls Try.prog 49 #[sesV s a c] w fun e w' => ∃ a' c', e = .returned (sesV s a' c') ∧ Own w' w.heap.size 115 4 (.slice a' s.gs.length c') s.gs.length (s.gs.flatMap g4Cells) ∧ Below w.heap.size w w' := by
  refine (GCred.copied_calls s.id s.node s.num s.dl a s.gs.length c w (fun v w' => ∃ a' c', v = sesV s a' c' ∧ Own w' w.heap.size 115 4 (.slice a' s.gs.length c') s.gs.length (s.gs.flatMap g4Cells) ∧ Below w.heap.size w w') ?_).mono (by rintro e w' ⟨v, rfl, a', c', rfl, h⟩; exact ⟨a', c', rfl, h⟩)
  unfold GCred.copied_vc
  refine newO_in fun w2 n2 b2 s2 => newO_in fun w3 n3 b3 s3 => ?_
  have B3 := b2.trans (b3.mono b2.size)
  refine (clone_any a c s.gs w3 (h.below B3) hl).mono ?_
  rintro e w4 ⟨a4, c4, rfl, o4, b4⟩
  have B4 := B3.trans (b4.mono B3.size)
  refine ⟨keepG_below b4, _, _, _, rfl, fun w5 h5 w6 h6 => ⟨a4, c4, rfl, ?_, box_below (box_below B4 (Nat.le_refl _) h5) b2.size h6⟩⟩
  have k5 := o4.keep (w' := w5) fun k hk => h5.1.block k (o4.lt k hk).2 (by rw [List.mem_singleton]; have := (o4.lt k hk).1; omega)
  have z5 := h5.2
  exact (k5.keep (w' := w6) fun k hk => h6.1.block k (by have := (o4.lt k hk).2; omega) (by rw [List.mem_singleton]; have := (o4.lt k hk).1; omega)).base_le fun k hk => by have := (o4.lt k hk).1; have := B3.size; omega
theorem add_any {w : World} {L : List Nat} {p : Nat} {pl la : Int} {es : List Ses} (h : TabAt w L p pl la es) (hl : es.length ≤ 1000) (s : Ses) (a : Option Addr) (c : Nat) (hg : GrAt w a s.gs) (hc : s.gs.length ≤ c) (hgl : s.gs.length ≤ 100000) :
    Calls Try.prog 14 #[.pointer (some ⟨p, 0, none⟩), sesV s a c] w fun e w' => ∃ L', TabAt w' L' p pl (if SesOk s ∧ la < s.id ∧ (es.length : Int) ≠ pl then s.id else la) (if SesOk s ∧ la < s.id ∧ (es.length : Int) ≠ pl then es ++ [s] else es) ∧ e = .returned (.int .i64 (if ¬ SesOk s then 1 else if s.id ≤ la then 13 else if (es.length : Int) = pl then 10 else 0)) ∧ Fr L w w' ∧ Gr L L' w.heap.size := by
  refine (GCred.add_calls (some ⟨p, 0, none⟩) s.id s.node s.num s.dl a s.gs.length c w (fun v w' => ∃ L', TabAt w' L' p pl (if SesOk s ∧ la < s.id ∧ (es.length : Int) ≠ pl then s.id else la) (if SesOk s ∧ la < s.id ∧ (es.length : Int) ≠ pl then es ++ [s] else es) ∧ v = .int .i64 (if ¬ SesOk s then 1 else if s.id ≤ la then 13 else if (es.length : Int) = pl then 10 else 0) ∧ Fr L w w' ∧ Gr L L' w.heap.size) ?_).mono (by rintro e w' ⟨v, rfl, L', h1, rfl, h2⟩; exact ⟨L', h1, rfl, h2⟩)
  unfold GCred.add_vc
  have hpl := h.under p h.mem
  refine newO_in fun w2 n2 b2 s2 => br_f rfl ((right_any s a c w2 (hg.below b2) hc (by unfold maxLen; omega)).mono ?_)
  rintro e w3 ⟨rfl, b3⟩
  have B3 := b2.trans (b3.mono b2.size)
  have b3s := b3.size
  refine ⟨keepG_below b3, _, rfl, br_not (br_dec (fun hok => ?_) fun hok => ?_)⟩
  rotate_left
  · simp only [if_neg (fun h : SesOk s ∧ la < s.id ∧ (es.length : Int) ≠ pl => hok h.1), if_pos hok]
    exact ⟨L, h.below sesR B3, trivial, Fr.ofBelow B3, Gr.refl _ _⟩
  refine drewO_in fun w4 b4 _ => ?_
  have B4 := B3.trans (b4.mono B3.size)
  have b4s := b4.size
  obtain ⟨kv, xs, M, hr⟩ := h.raw w.heap.size
  obtain ⟨ka, kc, rfl⟩ := hr.own.isSlice
  have hr4 := hr.below sesR B4
  refine ⟨_, (tab_cell hr4).2.1, br_dec (fun h13 => ?_) fun h13 => ?_⟩
  · simp only [if_neg (fun h : SesOk s ∧ la < s.id ∧ (es.length : Int) ≠ pl => by omega), if_neg (not_not_intro hok), if_pos h13]
    exact ⟨L, h.below sesR B4, trivial, Fr.ofBelow B4, Gr.refl _ _⟩
  refine drewO_in fun w5 b5 _ => ?_
  have B5 := B4.trans (b5.mono B4.size)
  have b5s := b5.size
  have hr5 := hr4.below sesR b5
  refine ⟨_, _, _, (tab_cell hr5).2.2, _, (tab_cell hr5).1, br_dec (fun h10 => ?_) fun h10 => ?_⟩
  · simp only [if_neg (fun h : SesOk s ∧ la < s.id ∧ (es.length : Int) ≠ pl => h.2.2 h10), if_neg (not_not_intro hok), if_neg h13, if_pos h10]
    exact ⟨L, h.below sesR B5, trivial, Fr.ofBelow B5, Gr.refl _ _⟩
  simp only [if_pos (show SesOk s ∧ la < s.id ∧ (es.length : Int) ≠ pl from ⟨hok, by omega, h10⟩), if_neg (not_not_intro hok), if_neg h13, if_neg h10]
  refine drewO_in fun w6 b6 _ => ?_
  have B6 := B5.trans (b6.mono B5.size)
  have b6s := b6.size
  have hr6 := hr5.below sesR b6
  refine ⟨_, _, _, (tab_cell hr6).2.2, (copied_any s a c w6 (hg.below B6) hgl).mono ?_⟩
  rintro e w7 ⟨a7, c7, rfl, o7, b7⟩
  have B7 := B6.trans (b7.mono B6.size)
  have b7s := b7.size
  have hr7 := hr6.below sesR b7
  refine ⟨keepG_below b7, _, _, _, _, _, _, _, rfl, (tab_cell hr7).2.2, newO_in fun w8 n8 b8 s8 => ?_⟩
  have B8 := B7.trans (b8.mono B7.size)
  have hr8 := hr7.below sesR b8
  have hown : ∀ k, (Value.slice ka es.length kc).ownBlock = some k → k < w.heap.size := fun k hk => (hr.own.lt k hk).2
  have o8 := o7.below b8 (Nat.le_refl _)
  have hm8 := hr8.more sesR (Value.slice a7 s.gs.length c7).ownBlock.toList fun b hb => by
    have := o8.lt b (by simpa using hb)
    refine ⟨.inr (by have := B6.size; omega), this.2, by have := B6.size; omega, fun e => by have := hown b e; have := B6.size; omega⟩
  refine ⟨(tab_cell hr8).2.2, 1, xs, [.int .i64 s.id, .int .i64 s.node, .int .i64 s.num, .int .i64 s.dl, .slice a7 s.gs.length c7], hr8.own, src_block Try.underlying103 (n := 1) (size := 5) n8 rfl rfl, by unfold maxLen; omega, by omega, fun g hg e => ?_, ?_⟩
  · rw [List.mem_singleton] at hg; subst hg
    exact absurd (hown _ e) (Nat.lt_irrefl _)
  intro a9 c9 w9 o9 g9 hor _
  have hpk : (Value.slice ka es.length kc).ownBlock ≠ some p := own_apart hr8.bk hr8.own tab_ne
  have hp9 : w9.heap[p]? = w8.heap[p]? := g9.block p hr8.bk.lt fun e => hpk e.symm
  have hM9 : ∀ b ∈ M ++ (Value.slice a7 s.gs.length c7).ownBlock.toList, w9.heap[b]? = w8.heap[b]? := fun b hb => g9.block b (hm8.under b hb) fun e => (hm8.far b hb).2.2 e.symm
  have hE := hm8.els.app sesR (e := s) (cs := [.int .i64 s.id, .int .i64 s.node, .int .i64 s.num, .int .i64 s.dl, .slice a7 s.gs.length c7]) (sesR.mono (M := (Value.slice a7 s.gs.length c7).ownBlock.toList) ⟨a7, c7, rfl, GrIn.ofOwn o8, (Own.cap o8).1⟩ (by simp +contextual))
  have R := hm8.turn sesR tab_ne B8.size hE (w' := w9) (v1 := .slice a9 (es.length + 1) c9) (by rw [List.length_append]; exact o9) hp9 hM9 g9.size hor (j := 2) rfl
  have R2 := R.cell sesR tab_ne (j := 1) (v := .int .i64 s.id) (f' := tabF pl s.id) rfl
  have hgp : w.heap.size ≠ p := by omega
  refine stO_set (hr8.bk.keep hp9) (by simp [tabF]) (by simpa using hgp) (stO_set R.bk (by simp [tabF]) (by simpa using hgp) ?_)
  obtain ⟨L', hL, hG⟩ := R2.at h.mem
  refine ⟨L', hL, trivial, ?_, hG⟩
  exact (((Fr.ofBelow (L := L) B8).grown g9 hr8.mine).setCell (p := ⟨p, 2, none⟩) (.inl h.mem) _).setCell (p := ⟨p, 1, none⟩) (.inl h.mem) _
end Go.Proofs.Ytamlgnhnmilbdaa
end
section
/- A table: Set, Get, Step; walked. -/
namespace Go.Proofs.Ytamlgnhnmilbdaa
open Go.RowKit
/-- Where a number stands. -/
def At (es : List Ses) (x : Int) (i : Nat) (s : Ses) : Prop := es[i]? = some s ∧ s.id = x
theorem step_any {w : World} {L : List Nat} {p : Nat} {pl la : Int} {es : List Ses} (h : TabAt w L p pl la es) (hl : es.length ≤ 1000) (hs : Ids es) (hnum : ∀ s ∈ es, 0 ≤ s.num ∧ s.num ≤ 4611686018427387904) (x n : Int) :
    Calls Try.prog 22 #[.pointer (some ⟨p, 0, none⟩), .int .i64 x, .int .i64 n] w fun e w' => ((∃ i s, At es x i s ∧ e = .returned (.int .i64 (if n ≠ s.num + 1 then 15 else 0))) ∨ ((∀ s ∈ es, s.id ≠ x) ∧ e = .returned (.int .i64 7))) ∧ Below w.heap.size w w' := by
  refine (GCred2.step_calls (some ⟨p, 0, none⟩) x n w (fun v w' => ((∃ i s, At es x i s ∧ v = .int .i64 (if n ≠ s.num + 1 then 15 else 0)) ∨ ((∀ s ∈ es, s.id ≠ x) ∧ v = .int .i64 7)) ∧ Below w.heap.size w w') ?_).mono (by
    rintro e w' ⟨v, rfl, h, hb⟩
    refine ⟨?_, hb⟩
    rcases h with ⟨i, s, h1, rfl⟩ | ⟨h1, rfl⟩
    · exact .inl ⟨i, s, h1, rfl⟩
    · exact .inr ⟨h1, rfl⟩)
  unfold GCred2.step_vc
  refine (find_any h hl hs x).mono ?_
  rintro e w2 ⟨⟨i, k, rfl, hk⟩, b2⟩
  refine ⟨keepG_nil _ _, _, _, rfl, ?_⟩
  rcases hk with ⟨rfl, s, hsi, hsx⟩ | ⟨rfl, rfl, hno⟩
  · refine br_n (by simp) ?_
    obtain ⟨kv, xs, M, hr⟩ := (h.below sesR b2).raw w.heap.size
    obtain ⟨a, c, rfl⟩ := hr.own.isSlice
    obtain ⟨cs, ⟨a', c', rfl, _, _⟩, b, off, rfl, _, hc⟩ := hr.els.cells sesR hr.own hsi
    have hi : i < es.length := (List.getElem?_eq_some_iff.1 hsi).1
    refine ⟨_, _, _, (tab_cell hr).2.2, by omega, by omega, s.num, by rw [Int.toNat_natCast]; exact cellsAt_get hc 2 _ rfl, ?_⟩
    have hn := hnum s (List.mem_of_getElem? hsi)
    rw [wr64 (by omega) (by omega)]
    refine br_dec (fun hne => ⟨.inl ⟨i, s, ⟨hsi, hsx⟩, by rw [if_pos hne]⟩, b2⟩) fun he => ⟨.inl ⟨i, s, ⟨hsi, hsx⟩, by rw [if_neg he]⟩, b2⟩
  · exact br_y (by decide) ⟨.inr ⟨hno, rfl⟩, b2⟩
theorem get_any {w : World} {L : List Nat} {p : Nat} {pl la : Int} {es : List Ses} (h : TabAt w L p pl la es) (hl : es.length ≤ 1000) (hs : Ids es) (hg : ∀ s ∈ es, s.gs.length ≤ 100000) (x : Int) :
    Calls Try.prog 19 #[.pointer (some ⟨p, 0, none⟩), .int .i64 x] w fun e w' => ((∃ i s a c, At es x i s ∧ e = .returned (.tuple #[sesV s a c, .int .i64 0]) ∧ Own w' w.heap.size 115 4 (.slice a s.gs.length c) s.gs.length (s.gs.flatMap g4Cells)) ∨ ((∀ s ∈ es, s.id ≠ x) ∧ e = .returned (.tuple #[sesV ⟨0, 0, 0, 0, []⟩ none 0, .int .i64 7]))) ∧ Below w.heap.size w w' := by
  refine (GCred2.get_calls (some ⟨p, 0, none⟩) x w (fun v w' => ((∃ i s a c, At es x i s ∧ v = .tuple #[sesV s a c, .int .i64 0] ∧ Own w' w.heap.size 115 4 (.slice a s.gs.length c) s.gs.length (s.gs.flatMap g4Cells)) ∨ ((∀ s ∈ es, s.id ≠ x) ∧ v = .tuple #[sesV ⟨0, 0, 0, 0, []⟩ none 0, .int .i64 7])) ∧ Below w.heap.size w w') ?_).mono (by
    rintro e w' ⟨v, rfl, h, hb⟩
    refine ⟨?_, hb⟩
    rcases h with ⟨i, s, a, c, h1, rfl, h2⟩ | ⟨h1, rfl⟩
    · exact .inl ⟨i, s, a, c, h1, rfl, h2⟩
    · exact .inr ⟨h1, rfl⟩)
  unfold GCred2.get_vc
  refine newO_in fun w2 n2 b2 s2 => (find_any (h.below sesR b2) hl hs x).mono ?_
  rintro e w3 ⟨⟨i, k, rfl, hk⟩, b3⟩
  have B3 := b2.trans (b3.mono b2.size)
  refine ⟨keepG_below b3, _, _, rfl, ?_⟩
  rcases hk with ⟨rfl, s, hsi, hsx⟩ | ⟨rfl, rfl, hno⟩
  · refine br_n (by simp) ?_
    obtain ⟨kv, xs, M, hr⟩ := (h.below sesR B3).raw w.heap.size
    obtain ⟨a, c, rfl⟩ := hr.own.isSlice
    obtain ⟨cs, ⟨a', c', rfl, hgr, _⟩, b, off, rfl, _, hc⟩ := hr.els.cells sesR hr.own hsi
    have hi : i < es.length := (List.getElem?_eq_some_iff.1 hsi).1
    have hsm := List.mem_of_getElem? hsi
    refine ⟨_, _, _, (tab_cell hr).2.2, by omega, by omega, _, _, _, _, _, _, _, by rw [Int.toNat_natCast]; exact hc, (copied_any s a' c' w3 hgr.anywhere (hg s hsm)).mono ?_⟩
    rintro e w5 ⟨a5, c5, rfl, o5, b5⟩
    have B5 := B3.trans (b5.mono B3.size)
    refine ⟨keepG_below b5, _, _, _, _, _, _, _, rfl, fun w6 h6 => ⟨.inl ⟨i, s, a5, c5, ⟨hsi, hsx⟩, rfl, ?_⟩, box_below B5 (Nat.le_refl _) h6⟩⟩
    have z3 := b3.size
    exact (o5.keep (w' := w6) fun k hk => h6.1.block k (o5.lt k hk).2 (by rw [List.mem_singleton]; have := (o5.lt k hk).1; omega)).base_le fun k hk => by have := (o5.lt k hk).1; omega
  · exact br_y (by decide) fun w4 h4 => ⟨.inr ⟨hno, rfl⟩, box_below B3 (Nat.le_refl _) h4⟩
theorem set_any {w : World} {L : List Nat} {p : Nat} {pl la : Int} {es : List Ses} (h : TabAt w L p pl la es) (hl : es.length ≤ 1000) (hs : Ids es) (s : Ses) (a : Option Addr) (c : Nat) (hg : GrAt w a s.gs) (hc : s.gs.length ≤ c) (hgl : s.gs.length ≤ 100000) :
    Calls Try.prog 21 #[.pointer (some ⟨p, 0, none⟩), sesV s a c] w fun e w' => ∃ L' es', TabAt w' L' p pl la es' ∧ ((¬ SesOk s ∧ e = .returned (.int .i64 1) ∧ es' = es) ∨ (SesOk s ∧ (∃ i t, At es s.id i t ∧ es' = es.set i s) ∧ e = .returned (.int .i64 0)) ∨ (SesOk s ∧ (∀ t ∈ es, t.id ≠ s.id) ∧ es' = es ∧ e = .returned (.int .i64 7))) ∧ Fr L w w' ∧ Gr L L' w.heap.size := by
  refine (GCred2.set_calls (some ⟨p, 0, none⟩) s.id s.node s.num s.dl a s.gs.length c w (fun v w' => ∃ L' es', TabAt w' L' p pl la es' ∧ ((¬ SesOk s ∧ v = .int .i64 1 ∧ es' = es) ∨ (SesOk s ∧ (∃ i t, At es s.id i t ∧ es' = es.set i s) ∧ v = .int .i64 0) ∨ (SesOk s ∧ (∀ t ∈ es, t.id ≠ s.id) ∧ es' = es ∧ v = .int .i64 7)) ∧ Fr L w w' ∧ Gr L L' w.heap.size) ?_).mono (by
    rintro e w' ⟨v, rfl, L', es', h1, h2, h3⟩
    refine ⟨L', es', h1, ?_, h3⟩
    rcases h2 with ⟨k1, rfl, k2⟩ | ⟨k1, k2, rfl⟩ | ⟨k1, k2, k3, rfl⟩
    · exact .inl ⟨k1, rfl, k2⟩
    · exact .inr (.inl ⟨k1, k2, rfl⟩)
    · exact .inr (.inr ⟨k1, k2, k3, rfl⟩))
  unfold GCred2.set_vc
  have hpl := h.under p h.mem
  refine newO_in fun w2 n2 b2 s2 => (right_any s a c w2 (hg.below b2) hc (by unfold maxLen; omega)).mono ?_
  rintro e w3 ⟨rfl, b3⟩
  have B3 := b2.trans (b3.mono b2.size)
  refine ⟨keepG_below b3, _, rfl, br_not (br_dec (fun hok => ?_) fun hok => ⟨L, es, h.below sesR B3, .inl ⟨hok, rfl, rfl⟩, Fr.ofBelow B3, Gr.refl _ _⟩)⟩
  refine (find_any (h.below sesR B3) hl hs s.id).mono ?_
  rintro e w4 ⟨⟨i, k, rfl, hk⟩, b4⟩
  have B4 := B3.trans (b4.mono B3.size)
  refine ⟨keepG_below b4, _, _, rfl, ?_⟩
  rcases hk with ⟨rfl, t, hti, htx⟩ | ⟨rfl, rfl, hno⟩
  rotate_left
  · exact br_y (by decide) ⟨L, es, h.below sesR B4, .inr (.inr ⟨hok, hno, rfl, rfl⟩), Fr.ofBelow B4, Gr.refl _ _⟩
  refine br_n (by simp) (drewO_in fun w5 b5 _ => ?_)
  have B5 := B4.trans (b5.mono B4.size)
  obtain ⟨kv, xs, M, hr⟩ := h.raw w.heap.size
  obtain ⟨ka, kc, rfl⟩ := hr.own.isSlice
  have hr5 := hr.below sesR B5
  have hi : i < es.length := (List.getElem?_eq_some_iff.1 hti).1
  obtain ⟨g, off, rfl, _⟩ := own_somewhere hr.own (by omega)
  refine ⟨_, _, _, (tab_cell hr5).2.2, (copied_any s a c w5 (hg.below B5) hgl).mono ?_⟩
  rintro e w6 ⟨a6, c6, rfl, o6, b6⟩
  have B6 := B5.trans (b6.mono B5.size)
  have b6s := b6.size
  have hr6 := hr.below sesR B6
  have hgl2 : g < w.heap.size := (hr.own.lt g rfl).2
  have hgp : g ≠ p := fun e => own_apart hr.bk hr.own tab_ne (by rw [← e]; rfl)
  have B5s := B5.size
  have hm6 := hr6.more sesR (Value.slice a6 s.gs.length c6).ownBlock.toList fun b hb => by
    have := o6.lt b (by simpa using hb)
    refine ⟨.inr (by omega), this.2, by omega, fun e => ?_⟩
    have h2 := (hr.own.lt b e).2
    omega
  refine ⟨keepG_below b6, _, _, _, _, _, _, _, rfl, (tab_cell hr6).2.2, by omega, by omega, ?_⟩
  rw [Int.toNat_natCast]
  refine Own.storeK hr6.own hi (vs := [.int .i64 s.id, .int .i64 s.node, .int .i64 s.num, .int .i64 s.dl, .slice a6 s.gs.length c6]) rfl (by simp; omega) fun w7 o7 f7 z7 => ?_
  have kp : ∀ b, b < w6.heap.size → b ≠ g → w7.heap[b]? = w6.heap[b]? := fun b hb hne => f7.block b hb (by rw [List.mem_singleton]; exact hne)
  have hM7 : ∀ b ∈ M ++ (Value.slice a6 s.gs.length c6).ownBlock.toList, w7.heap[b]? = w6.heap[b]? := fun b hb => kp b (hm6.under b hb) fun e => (hm6.far b hb).2.2 (by rw [e]; rfl)
  have hE := hm6.els.set sesR hi (x := s) (cs := [.int .i64 s.id, .int .i64 s.node, .int .i64 s.num, .int .i64 s.dl, .slice a6 s.gs.length c6]) (sesR.mono (M := (Value.slice a6 s.gs.length c6).ownBlock.toList) ⟨a6, c6, rfl, GrIn.ofOwn o6, (Own.cap o6).1⟩ (by simp +contextual))
  have R : TabRaw w7 L w.heap.size p pl la (es.set i s) (.slice (some ⟨g, off, none⟩) es.length kc) (setL xs (i * 5) [.int .i64 s.id, .int .i64 s.node, .int .i64 s.num, .int .i64 s.dl, .slice a6 s.gs.length c6]) (M ++ (Value.slice a6 s.gs.length c6).ownBlock.toList) :=
    ⟨hm6.bk.keep (kp p (by omega) (fun e => hgp e.symm)), by rw [List.length_set]; exact o7, hE.keep sesR hM7, hm6.far, hm6.mine, hm6.under.mono (by omega)⟩
  obtain ⟨L', hL, hG⟩ := R.at h.mem
  exact ⟨L', _, hL, .inr (.inl ⟨hok, ⟨i, t, ⟨hti, htx⟩, rfl⟩, rfl⟩), (Fr.ofBelow (L := L) B6).trans f7 (fun b hb => hr.mine b (by rw [List.mem_singleton] at hb; rw [hb]; rfl)), hG⟩
end Go.Proofs.Ytamlgnhnmilbdaa
end
section
/- The document's table: is it a session, Find, DocStep; walked. -/
namespace Go.Proofs.Ytamlgnhnmilbdaa
open Go.RowKit
abbrev RTabAt (w : World) (L : List Nat) (p : Nat) (pl la : Int) (es : List Ses) : Prop := LAt SesR 5 53 50 w L p (tabF pl la) es
abbrev RTabRaw (w : World) (L : List Nat) (n0 p : Nat) (pl la : Int) (es : List Ses) (kv : Value) (xs : List Value) (M : List Nat) : Prop := LRaw SesR 5 53 50 w L n0 p (tabF pl la) es kv xs M
theorem rtab_ne : (50 : TypeId) ≠ 53 := by decide
theorem rtab_cell {w : World} {L M : List Nat} {n0 p : Nat} {pl la : Int} {es : List Ses} {kv : Value} {xs : List Value} (h : RTabRaw w L n0 p pl la es kv xs M) : w.cell? ⟨p, 0, none⟩ = some (.int .i64 pl) ∧ w.cell? ⟨p, 0 + 1, none⟩ = some (.int .i64 la) ∧ w.cell? ⟨p, 0 + 2, none⟩ = some kv := by
  refine ⟨?_, ?_, ?_⟩ <;> (rw [h.bk.cell]; rfl)
theorem between_any (x lo hi : Int) (w : World) : Calls Try.prog 87 #[.int .i64 x, .int .i64 lo, .int .i64 hi] w fun e w' => e = .returned (.bool (decide (lo ≤ x ∧ x ≤ hi))) ∧ w = w' := by
  refine (GCred2.between_calls x lo hi w (fun v w' => v = .bool (decide (lo ≤ x ∧ x ≤ hi)) ∧ w = w') ?_).mono (by rintro e w' ⟨v, rfl, rfl, rfl⟩; exact ⟨rfl, rfl⟩)
  unfold GCred2.between_vc
  refine br_dec (fun h => ⟨?_, rfl⟩) fun h => ⟨?_, rfl⟩
  · congr 1; exact decide_eq_decide.2 (by omega)
  · congr 1; exact (decide_eq_false (by omega)).symm
theorem rRight_any (s : Ses) (a : Option Addr) (c : Nat) (w : World) (h : GrAt w a s.gs) (hm : s.gs.length ≤ 100000) :
    Calls Try.prog 89 #[sesV s a c] w fun e w' => e = .returned (.bool (decide (SesOk s))) ∧ Below w.heap.size w w' := by
  refine (GCred2.rRight_calls s.id s.node s.num s.dl a s.gs.length c w (fun v w' => v = .bool (decide (SesOk s)) ∧ Below w.heap.size w w') ?_).mono (by rintro e w' ⟨v, rfl, rfl, h⟩; exact ⟨rfl, h⟩)
  unfold GCred2.rRight_vc
  have no : ∀ {wx : World}, Below w.heap.size w wx → ¬ SesOk s → (Value.bool false = .bool (decide (SesOk s)) ∧ Below w.heap.size w wx) := fun hb hn => ⟨by rw [decide_eq_false hn], hb⟩
  refine newO_in fun w2 n2 b2 s2 => (between_any s.id _ _ w2).mono ?_
  rintro e w3 ⟨rfl, rfl⟩
  refine ⟨fun _ _ _ => rfl, _, rfl, br_not (br_dec (fun h1 => (between_any s.node _ _ w2).mono ?_) fun h1 => no b2 fun h => h1 h.1)⟩
  rintro e w3 ⟨rfl, rfl⟩
  refine ⟨fun _ _ _ => rfl, _, rfl, br_not (br_dec (fun h2 => (between_any s.num _ _ w2).mono ?_) fun h2 => no b2 fun h => h2 h.2.1)⟩
  rintro e w3 ⟨rfl, rfl⟩
  refine ⟨fun _ _ _ => rfl, _, rfl, br_not (br_dec (fun h3 => (between_any s.dl _ _ w2).mono ?_) fun h3 => no b2 fun h => h3 h.2.2.1)⟩
  rintro e w3 ⟨rfl, rfl⟩
  refine ⟨fun _ _ _ => rfl, _, rfl, br_not (br_dec (fun h4 => ?_) fun h4 => no b2 fun h => h4 h.2.2.2.1)⟩
  refine br_dec (fun h5 => no b2 fun h => by have := h.2.2.2.2.2.2; omega) fun h5 => ?_
  generalize hgs : s.gs = gs at *
  refine ⟨fun y wx => ∃ i : Nat, y = i ∧ i ≤ gs.length ∧ (∀ g ∈ gs.take i, grIn g) ∧ ((gs.take i).map (·.grp)).Nodup ∧ Below w.heap.size w wx, fun y _ => gs.length - y.toNat, ⟨0, rfl, by omega, by simp, by simp, b2⟩, ?_⟩
  rintro y wx ⟨i, rfl, hi, hin, hnd, hb⟩
  refine br_dec (fun hlt => ?_) fun hge => ?_
  · have hil : i < gs.length := by omega
    have hx := List.getElem?_eq_getElem hil
    obtain ⟨b, off, ha, hc4⟩ := RowsAt.get (h.below hb) hil
    have hmem := List.getElem_mem hil
    have nog : ¬ grIn gs[i] → ¬ SesOk s := fun h1 h2 => h1 (h2.2.2.2.2.1 _ (by rw [hgs]; exact hmem))
    subst ha
    refine ⟨by omega, by omega, gs[i].grp, gs[i].units, gs[i].amount, gs[i].fin, by rw [Int.toNat_natCast]; exact hc4, newO_in fun w8 n8 b8 s8 w9 bs9 => ?_⟩
    have B9 : Below w.heap.size w w9 := hb.trans ((box_below b8 (Nat.le_refl _) bs9).mono hb.size)
    refine (between_any _ _ _ w9).mono ?_
    rintro e w10 ⟨rfl, rfl⟩
    refine ⟨fun _ _ _ => rfl, _, rfl, br_not (br_dec (fun k1 => (between_any _ _ _ w9).mono ?_) fun k1 => no B9 (nog fun h => k1 h.1))⟩
    rintro e w10 ⟨rfl, rfl⟩
    refine ⟨fun _ _ _ => rfl, _, rfl, br_not (br_dec (fun k2 => (between_any _ _ _ w9).mono ?_) fun k2 => no B9 (nog fun h => k2 h.2.1))⟩
    rintro e w10 ⟨rfl, rfl⟩
    refine ⟨fun _ _ _ => rfl, _, rfl, br_not (br_dec (fun k3 => ?_) fun k3 => no B9 (nog fun h => k3 h.2.2))⟩
    have htk : gs.take (i + 1) = gs.take i ++ [gs[i]] := by rw [List.take_add_one, hx]; rfl
    refine ⟨fun y wy => ∃ j : Nat, y = j ∧ j ≤ i ∧ gs[i].grp ∉ (gs.take j).map (·.grp) ∧ Below w.heap.size w wy, fun y _ => i - y.toNat, ⟨0, rfl, by omega, by simp, B9⟩, ?_⟩
    rintro y wy ⟨j, rfl, hj, hno, hbj⟩
    refine br_dec (fun hltj => drewO_in fun w14 b14 _ => ?_) fun hgej => ?_
    · have B14 := hbj.trans (b14.mono hbj.size)
      have hjl : j < gs.length := by omega
      have hxj := List.getElem?_eq_getElem hjl
      obtain ⟨b', off', ha', hc'⟩ := RowsAt.get (h.below B14) hjl
      injection ha' with ha'; injection ha' with q1 q2; subst q1; subst q2
      refine ⟨by omega, by omega, gs[j].grp, by rw [Int.toNat_natCast]; exact cellsAt_get hc' 0 _ rfl, br_dec (fun he => no B14 fun hk => ?_) fun he => ?_⟩
      · have hnd2 := hk.2.2.2.2.2.1
        rw [hgs] at hnd2
        have : ((gs.take (i + 1)).map (·.grp)).Nodup := by rw [List.map_take]; exact hnd2.sublist (List.take_sublist _ _)
        rw [htk, List.map_append, List.nodup_append] at this
        refine this.2.2 gs[j].grp (List.mem_map.2 ⟨gs[j], ?_, rfl⟩) gs[i].grp (by simp) he
        rw [List.mem_iff_getElem?]
        exact ⟨j, by rw [List.getElem?_take, if_pos (by omega), hxj]⟩
      · rw [wr64 (by omega) (by omega)]
        refine ⟨⟨j + 1, by omega, by omega, ?_, B14⟩, by dsimp only; omega⟩
        rw [List.take_add_one, hxj, List.map_append, List.mem_append]
        rintro (h1 | h1)
        · exact hno h1
        · simp at h1; exact he h1.symm
    · obtain rfl : j = i := by omega
      rw [wr64 (by omega) (by omega)]
      refine ⟨⟨j + 1, by omega, by omega, ?_, ?_, hbj⟩, by dsimp only; omega⟩
      · rw [htk]
        intro g hg
        rcases List.mem_append.1 hg with hg | hg
        · exact hin g hg
        · rw [List.mem_singleton] at hg; subst hg; exact ⟨k1, k2, k3⟩
      · rw [htk, List.map_append, List.nodup_append]
        refine ⟨hnd, by simp, ?_⟩
        intro u hu v hv
        simp at hv
        rintro rfl
        exact hno (hv ▸ hu)
  · obtain rfl : i = gs.length := by omega
    rw [List.take_length] at hin hnd
    refine ⟨?_, hb⟩
    congr 1
    symm
    rw [decide_eq_true_eq]
    exact ⟨h1, h2, h3, h4, by rw [hgs]; exact ⟨hin, hnd, by omega⟩⟩
theorem rFind_any {w : World} {L : List Nat} {p : Nat} {pl la : Int} {es : List Ses} (h : RTabAt w L p pl la es) (hl : es.length ≤ 1000) (x : Int) :
    Calls Try.prog 26 #[.pointer (some ⟨p, 0, none⟩), .int .i64 x] w fun e w' => ((∃ (i : Nat) (s : Ses), e = .returned (.int .i64 i) ∧ At es x i s) ∨ ((∀ s ∈ es, s.id ≠ x) ∧ e = .returned (.int .i64 (-1)))) ∧ w = w' := by
  refine (GCred2.rFind_calls (some ⟨p, 0, none⟩) x w (fun v w' => ((∃ (i : Nat) (s : Ses), v = .int .i64 i ∧ At es x i s) ∨ ((∀ s ∈ es, s.id ≠ x) ∧ v = .int .i64 (-1))) ∧ w = w') ?_).mono (by
    rintro e w' ⟨v, rfl, h, rfl⟩
    refine ⟨?_, rfl⟩
    rcases h with ⟨i, s, rfl, h1⟩ | ⟨h1, rfl⟩
    · exact .inl ⟨i, s, rfl, h1⟩
    · exact .inr ⟨h1, rfl⟩)
  unfold GCred2.rFind_vc
  obtain ⟨kv, xs, M, hr⟩ := h.raw w.heap.size
  obtain ⟨a, c, rfl⟩ := hr.own.isSlice
  refine ⟨fun y wx => ∃ i : Nat, y = i ∧ i ≤ es.length ∧ (∀ (j : Nat) s, j < i → es[j]? = some s → s.id ≠ x) ∧ w = wx, fun y _ => es.length - y.toNat, ⟨0, rfl, by omega, fun j s hj => by omega, rfl⟩, ?_⟩
  rintro y wx ⟨i, rfl, hi, hno, rfl⟩
  refine ⟨_, _, _, (rtab_cell hr).2.2, br_dec (fun hlt => ?_) fun hge => ⟨.inr ⟨fun s hs => ?_, rfl⟩, rfl⟩⟩
  · have hil : i < es.length := by omega
    have hx := List.getElem?_eq_getElem hil
    obtain ⟨cs, ⟨a', c', rfl, _, _⟩, b, off, rfl, _, hc⟩ := hr.els.cells sesR hr.own hx
    refine ⟨_, _, _, (rtab_cell hr).2.2, by omega, by omega, es[i].id, by rw [Int.toNat_natCast]; exact cellsAt_get hc 0 _ rfl, br_dec (fun he => ⟨.inl ⟨i, es[i], rfl, hx, he⟩, rfl⟩) fun he => ?_⟩
    rw [wr64 (by omega) (by omega)]
    refine ⟨⟨i + 1, by omega, by omega, fun j s hj hs => ?_, rfl⟩, by dsimp only; omega⟩
    by_cases hji : j = i
    · subst hji; rw [hx] at hs; injection hs with hs; subst hs; exact he
    · exact hno j s (by omega) hs
  · obtain ⟨j, hj⟩ := List.getElem?_of_mem hs
    have := (List.getElem?_eq_some_iff.1 hj).1
    exact hno j s (by omega) hj
end Go.Proofs.Ytamlgnhnmilbdaa
end
section
/- The document's table: DocAdd, DocSet, DocEnd, DocStep; walked. -/
namespace Go.Proofs.Ytamlgnhnmilbdaa
open Go.RowKit
theorem own_src {P : Program} {w : World} {b : Nat} {e tx e' : TypeId} {k n c : Nat} {a : Option Addr} {xs : List Value} (h : Own w b e k (.slice a n c) n xs) (hk : P.underlying tx = some (.slice e')) (h1 : ∀ v ∈ xs, v.oneCell' = true) : Src P k tx (.slice a n c) n xs w := by
  have hl := h.1
  cases a with
  | none =>
    rcases h.2 with ⟨h0, h2⟩ | ⟨g, off, cap, cur, hv, _⟩
    · injection h0 with q1 q2 q3
      subst q3; subst h2
      obtain rfl : xs = [] := List.eq_nil_of_length_eq_zero (by omega)
      exact Src.ofNil w hk 0
    · cases hv
  | some ad =>
    refine Src.ofSlice w hk ad n c xs hl (fun j u hu => ?_) h1
    rcases h.2 with ⟨h0, h2⟩ | ⟨g, off, cap, cur, hv, _⟩
    · cases h0
    · injection hv with q1 q2 q3
      injection q1 with q1
      subst q1
      rw [Addr.add_lit]
      exact h.cells g off c rfl j u hu
theorem rDocStep_any {w : World} {L : List Nat} {p : Nat} {pl la : Int} {es : List Ses} (h : RTabAt w L p pl la es) (hl : es.length ≤ 1000) (hnum : ∀ s ∈ es, 0 ≤ s.num ∧ s.num ≤ 4611686018427387904) (x n : Int) :
    Calls Try.prog 59 #[.pointer (some ⟨p, 0, none⟩), .int .i64 x, .int .i64 n] w fun e w' => ((∃ i s, At es x i s ∧ e = .returned (.int .i64 (if n ≠ s.num + 1 then 15 else 0))) ∨ ((∀ s ∈ es, s.id ≠ x) ∧ e = .returned (.int .i64 7))) ∧ w = w' := by
  refine (GCred2.rStep_calls (some ⟨p, 0, none⟩) x n w (fun v w' => ((∃ i s, At es x i s ∧ v = .int .i64 (if n ≠ s.num + 1 then 15 else 0)) ∨ ((∀ s ∈ es, s.id ≠ x) ∧ v = .int .i64 7)) ∧ w = w') ?_).mono (by
    rintro e w' ⟨v, rfl, h, rfl⟩
    refine ⟨?_, rfl⟩
    rcases h with ⟨i, s, h1, rfl⟩ | ⟨h1, rfl⟩
    · exact .inl ⟨i, s, h1, rfl⟩
    · exact .inr ⟨h1, rfl⟩)
  unfold GCred2.rStep_vc
  refine (rFind_any h hl x).mono ?_
  rintro e w2 ⟨hf, rfl⟩
  obtain ⟨kv, xs, M, hr⟩ := h.raw w.heap.size
  obtain ⟨a, c, rfl⟩ := hr.own.isSlice
  rcases hf with ⟨i, s, rfl, hsi, hsx⟩ | ⟨hno, rfl⟩
  · obtain ⟨cs, ⟨a', c', rfl, _, _⟩, b, off, rfl, _, hc⟩ := hr.els.cells sesR hr.own hsi
    have hi : i < es.length := (List.getElem?_eq_some_iff.1 hsi).1
    have hn := hnum s (List.mem_of_getElem? hsi)
    refine ⟨keepG_nil _ _, _, rfl, br_n (by omega) ⟨_, _, _, (rtab_cell hr).2.2, by omega, by omega, s.num, by rw [Int.toNat_natCast]; exact cellsAt_get hc 2 _ rfl, ?_⟩⟩
    rw [wr64 (by omega) (by omega)]
    exact br_dec (fun hne => ⟨.inl ⟨i, s, ⟨hsi, hsx⟩, by rw [if_pos hne]⟩, rfl⟩) fun he => ⟨.inl ⟨i, s, ⟨hsi, hsx⟩, by rw [if_neg he]⟩, rfl⟩
  · exact ⟨keepG_nil _ _, _, rfl, br_y (by decide) ⟨.inr ⟨hno, rfl⟩, rfl⟩⟩
theorem rDocAdd_any {w : World} {L B : List Nat} {p : Nat} {pl la : Int} {es : List Ses} (h : RTabAt w L p pl la es) (hl : es.length ≤ 1000) (s : Ses) (a : Option Addr) (c : Nat) (hg : GrIn w B a s.gs) (hc : s.gs.length ≤ c) (hgl : s.gs.length ≤ 100000) (hBu : Under B w.heap.size) (hBL : Apart B L) :
    Calls Try.prog 56 #[.pointer (some ⟨p, 0, none⟩), sesV s a c] w fun e w' => ∃ L', RTabAt w' L' p pl (if SesOk s ∧ la < s.id ∧ (es.length : Int) < pl then s.id else la) (if SesOk s ∧ la < s.id ∧ (es.length : Int) < pl then es ++ [s] else es) ∧ e = .returned (.int .i64 (if ¬ SesOk s then 1 else if s.id ≤ la then 13 else if (es.length : Int) ≥ pl then 10 else 0)) ∧ Fr L w w' ∧ Gr (L ++ B) L' w.heap.size := by
  refine (GCred2.rAdd_calls (some ⟨p, 0, none⟩) s.id s.node s.num s.dl a s.gs.length c w (fun v w' => ∃ L', RTabAt w' L' p pl (if SesOk s ∧ la < s.id ∧ (es.length : Int) < pl then s.id else la) (if SesOk s ∧ la < s.id ∧ (es.length : Int) < pl then es ++ [s] else es) ∧ v = .int .i64 (if ¬ SesOk s then 1 else if s.id ≤ la then 13 else if (es.length : Int) ≥ pl then 10 else 0) ∧ Fr L w w' ∧ Gr (L ++ B) L' w.heap.size) ?_).mono (by rintro e w' ⟨v, rfl, L', h1, rfl, h2⟩; exact ⟨L', h1, rfl, h2⟩)
  unfold GCred2.rAdd_vc
  have hpl := h.under p h.mem
  have gr0 : Gr (L ++ B) L w.heap.size := fun b hb => .inl (List.mem_append_left _ hb)
  refine newO_in fun w2 n2 b2 s2 => ((rRight_any s a c w2 (hg.anywhere.below b2) hgl).mono ?_)
  rintro e w3 ⟨rfl, b3⟩
  have B3 := b2.trans (b3.mono b2.size)
  have b3s := b3.size
  refine ⟨keepG_below b3, _, rfl, br_not (br_dec (fun hok => ?_) fun hok => ?_)⟩
  rotate_left
  · simp only [if_neg (fun h : SesOk s ∧ la < s.id ∧ (es.length : Int) < pl => hok h.1), if_pos hok]
    exact ⟨L, h.below sesR B3, trivial, Fr.ofBelow B3, gr0⟩
  refine drewO_in fun w4 b4 _ => ?_
  have B4 := B3.trans (b4.mono B3.size)
  have b4s := b4.size
  obtain ⟨kv, xs, M, hr⟩ := h.raw w.heap.size
  obtain ⟨ka, kc, rfl⟩ := hr.own.isSlice
  have hr4 := hr.below sesR B4
  refine ⟨_, (rtab_cell hr4).2.1, br_dec (fun h13 => ?_) fun h13 => ?_⟩
  · simp only [if_neg (fun h : SesOk s ∧ la < s.id ∧ (es.length : Int) < pl => by omega), if_neg (not_not_intro hok), if_pos h13]
    exact ⟨L, h.below sesR B4, trivial, Fr.ofBelow B4, gr0⟩
  refine drewO_in fun w5 b5 _ => ?_
  have B5 := B4.trans (b5.mono B4.size)
  have b5s := b5.size
  have hr5 := hr4.below sesR b5
  refine ⟨_, _, _, (rtab_cell hr5).2.2, _, (rtab_cell hr5).1, br_dec (fun h10 => ?_) fun h10 => ?_⟩
  · simp only [if_neg (fun h : SesOk s ∧ la < s.id ∧ (es.length : Int) < pl => by omega), if_neg (not_not_intro hok), if_neg h13, if_pos h10]
    exact ⟨L, h.below sesR B5, trivial, Fr.ofBelow B5, gr0⟩
  simp only [if_pos (show SesOk s ∧ la < s.id ∧ (es.length : Int) < pl from ⟨hok, by omega, by omega⟩), if_neg (not_not_intro hok), if_neg h13, if_neg h10]
  refine drewO_in fun w6 b6 _ => ?_
  have B6 := B5.trans (b6.mono B5.size)
  have b6s := b6.size
  have hr6 := hr5.below sesR b6
  refine ⟨_, _, _, (rtab_cell hr6).2.2, newO_in fun w8 n8 b8 s8 => ?_⟩
  have B8 := B6.trans (b8.mono B6.size)
  have hr8 := hr6.below sesR b8
  have hown : ∀ k, (Value.slice ka es.length kc).ownBlock = some k → k < w.heap.size := fun k hk => (hr.own.lt k hk).2
  have hownL : ∀ k, (Value.slice ka es.length kc).ownBlock = some k → k ∈ L := fun k hk => (hr.mine k hk).elim id fun h => by have := hown k hk; omega
  have hg8 := hg.keep (w' := w8) fun b hb => B8.block b (hBu b hb)
  have hm8 := (hr8.wider (K := L ++ B) fun b hb => List.mem_append_left _ hb).more sesR B fun b hb => ⟨.inl (List.mem_append_right _ hb), by have := hBu b hb; have := B8.size; omega, fun e => hBL b hb (e ▸ h.mem), fun e => hBL b hb (hownL b e)⟩
  refine ⟨(rtab_cell hr8).2.2, 1, xs, [.int .i64 s.id, .int .i64 s.node, .int .i64 s.num, .int .i64 s.dl, .slice a s.gs.length c], hr8.own, src_block Try.underlying48 (n := 1) (size := 5) n8 rfl rfl, by unfold maxLen; omega, by omega, fun g hg e => ?_, ?_⟩
  · rw [List.mem_singleton] at hg; subst hg
    exact absurd (hown _ e) (Nat.lt_irrefl _)
  intro a9 c9 w9 o9 g9 hor _
  have hpk : (Value.slice ka es.length kc).ownBlock ≠ some p := own_apart hr8.bk hr8.own rtab_ne
  have hp9 : w9.heap[p]? = w8.heap[p]? := g9.block p hr8.bk.lt fun e => hpk e.symm
  have hM9 : ∀ b ∈ M ++ B, w9.heap[b]? = w8.heap[b]? := fun b hb => g9.block b (hm8.under b hb) fun e => (hm8.far b hb).2.2 e.symm
  have hE := hm8.els.app sesR (e := s) (cs := [.int .i64 s.id, .int .i64 s.node, .int .i64 s.num, .int .i64 s.dl, .slice a s.gs.length c]) (sesR.mono (M := B) ⟨a, c, rfl, hg8, hc⟩ (by simp +contextual))
  have R := hm8.turn sesR rtab_ne B8.size hE (w' := w9) (v1 := .slice a9 (es.length + 1) c9) (by rw [List.length_append]; exact o9) hp9 hM9 g9.size hor (j := 2) rfl
  have R2 := R.cell sesR rtab_ne (j := 1) (v := .int .i64 s.id) (f' := tabF pl s.id) rfl
  have hgp : w.heap.size ≠ p := by omega
  refine stO_set (hr8.bk.keep hp9) (by simp [tabF]) (by simpa using hgp) (stO_set R.bk (by simp [tabF]) (by simpa using hgp) ?_)
  obtain ⟨L', hL, hG⟩ := R2.at (List.mem_append_left _ h.mem)
  refine ⟨L', hL, trivial, ?_, hG⟩
  exact (((Fr.ofBelow (L := L) B8).grown g9 hr8.mine).setCell (p := ⟨p, 2, none⟩) (.inl h.mem) _).setCell (p := ⟨p, 1, none⟩) (.inl h.mem) _
end Go.Proofs.Ytamlgnhnmilbdaa
end
section
/- The document's table: DocSet, DocEnd; walked. -/
namespace Go.Proofs.Ytamlgnhnmilbdaa
open Go.RowKit
theorem rDocSet_any {w : World} {L B : List Nat} {p : Nat} {pl la : Int} {es : List Ses} (h : RTabAt w L p pl la es) (hl : es.length ≤ 1000) (s : Ses) (a : Option Addr) (c : Nat) (hg : GrIn w B a s.gs) (hc : s.gs.length ≤ c) (hgl : s.gs.length ≤ 100000) (hBu : Under B w.heap.size) (hBL : Apart B L) :
    Calls Try.prog 57 #[.pointer (some ⟨p, 0, none⟩), sesV s a c] w fun e w' => ∃ L' es', RTabAt w' L' p pl la es' ∧ ((¬ SesOk s ∧ e = .returned (.int .i64 1) ∧ es' = es) ∨ (SesOk s ∧ (∃ i t, At es s.id i t ∧ es' = es.set i s) ∧ e = .returned (.int .i64 0)) ∨ (SesOk s ∧ (∀ t ∈ es, t.id ≠ s.id) ∧ es' = es ∧ e = .returned (.int .i64 7))) ∧ Fr L w w' ∧ Gr (L ++ B) L' w.heap.size := by
  refine (GCred2.rSet_calls (some ⟨p, 0, none⟩) s.id s.node s.num s.dl a s.gs.length c w (fun v w' => ∃ L' es', RTabAt w' L' p pl la es' ∧ ((¬ SesOk s ∧ v = .int .i64 1 ∧ es' = es) ∨ (SesOk s ∧ (∃ i t, At es s.id i t ∧ es' = es.set i s) ∧ v = .int .i64 0) ∨ (SesOk s ∧ (∀ t ∈ es, t.id ≠ s.id) ∧ es' = es ∧ v = .int .i64 7)) ∧ Fr L w w' ∧ Gr (L ++ B) L' w.heap.size) ?_).mono (by
    rintro e w' ⟨v, rfl, L', es', h1, h2, h3⟩
    refine ⟨L', es', h1, ?_, h3⟩
    rcases h2 with ⟨k1, rfl, k2⟩ | ⟨k1, k2, rfl⟩ | ⟨k1, k2, k3, rfl⟩
    · exact .inl ⟨k1, rfl, k2⟩
    · exact .inr (.inl ⟨k1, k2, rfl⟩)
    · exact .inr (.inr ⟨k1, k2, k3, rfl⟩))
  unfold GCred2.rSet_vc
  have hpl := h.under p h.mem
  have gr0 : Gr (L ++ B) L w.heap.size := fun b hb => .inl (List.mem_append_left _ hb)
  refine newO_in fun w2 n2 b2 s2 => (rRight_any s a c w2 (hg.anywhere.below b2) hgl).mono ?_
  rintro e w3 ⟨rfl, b3⟩
  have B3 := b2.trans (b3.mono b2.size)
  refine ⟨keepG_below b3, _, rfl, br_not (br_dec (fun hok => ?_) fun hok => ⟨L, es, h.below sesR B3, .inl ⟨hok, rfl, rfl⟩, Fr.ofBelow B3, gr0⟩)⟩
  refine (rFind_any (h.below sesR B3) hl s.id).mono ?_
  rintro e w4 ⟨hf, rfl⟩
  refine ⟨fun _ _ _ => rfl, ?_⟩
  rcases hf with ⟨i, t, rfl, hti, htx⟩ | ⟨hno, rfl⟩
  rotate_left
  · exact ⟨_, rfl, br_y (by decide) ⟨L, es, h.below sesR B3, .inr (.inr ⟨hok, hno, rfl, rfl⟩), Fr.ofBelow B3, gr0⟩⟩
  refine ⟨_, rfl, br_n (by omega) (drewO_in fun w5 b5 _ => ?_)⟩
  have B5 := B3.trans (b5.mono B3.size)
  obtain ⟨kv, xs, M, hr⟩ := h.raw w.heap.size
  obtain ⟨ka, kc, rfl⟩ := hr.own.isSlice
  have hr5 := hr.below sesR B5
  have hi : i < es.length := (List.getElem?_eq_some_iff.1 hti).1
  obtain ⟨g, off, rfl, _⟩ := own_somewhere hr.own (by omega)
  have hgl2 : g < w.heap.size := (hr.own.lt g rfl).2
  have hgL : g ∈ L := (hr.mine g rfl).elim id fun h => by omega
  have hgp : g ≠ p := fun e => own_apart hr.bk hr.own rtab_ne (by rw [← e]; rfl)
  have B5s := B5.size
  have hg5 := hg.keep (w' := w5) fun b hb => B5.block b (hBu b hb)
  have hm5 := (hr5.wider (K := L ++ B) fun b hb => List.mem_append_left _ hb).more sesR B fun b hb => by
    refine ⟨.inl (List.mem_append_right _ hb), by have := hBu b hb; omega, fun e => hBL b hb (e ▸ h.mem), fun e => ?_⟩
    have h2 : g = b := by injection e
    exact hBL b hb (h2 ▸ hgL)
  refine ⟨_, _, _, (rtab_cell hr5).2.2, by omega, by omega, ?_⟩
  rw [Int.toNat_natCast]
  refine Own.storeK hr5.own hi (vs := [.int .i64 s.id, .int .i64 s.node, .int .i64 s.num, .int .i64 s.dl, .slice a s.gs.length c]) rfl (by simp; omega) fun w7 o7 f7 z7 => ?_
  have kp : ∀ b, b < w5.heap.size → b ≠ g → w7.heap[b]? = w5.heap[b]? := fun b hb hne => f7.block b hb (by rw [List.mem_singleton]; exact hne)
  have hM7 : ∀ b ∈ M ++ B, w7.heap[b]? = w5.heap[b]? := fun b hb => kp b (hm5.under b hb) fun e => (hm5.far b hb).2.2 (by rw [e]; rfl)
  have hE := hm5.els.set sesR hi (x := s) (cs := [.int .i64 s.id, .int .i64 s.node, .int .i64 s.num, .int .i64 s.dl, .slice a s.gs.length c]) (sesR.mono (M := B) ⟨a, c, rfl, hg5, hc⟩ (by simp +contextual))
  have R : RTabRaw w7 (L ++ B) w.heap.size p pl la (es.set i s) (.slice (some ⟨g, off, none⟩) es.length kc) (setL xs (i * 5) [.int .i64 s.id, .int .i64 s.node, .int .i64 s.num, .int .i64 s.dl, .slice a s.gs.length c]) (M ++ B) :=
    ⟨hm5.bk.keep (kp p (by omega) (fun e => hgp e.symm)), by rw [List.length_set]; exact o7, hE.keep sesR hM7, hm5.far, hm5.mine, hm5.under.mono (by omega)⟩
  obtain ⟨L', hL, hG⟩ := R.at (List.mem_append_left _ h.mem)
  exact ⟨L', _, hL, .inr (.inl ⟨hok, ⟨i, t, ⟨hti, htx⟩, rfl⟩, rfl⟩), (Fr.ofBelow (L := L) B5).trans f7 (fun b hb => by rw [List.mem_singleton] at hb; rw [hb]; exact .inl hgL), hG⟩
theorem rDocEnd_any {w : World} {L : List Nat} {p : Nat} {pl la : Int} {es : List Ses} (h : RTabAt w L p pl la es) (hl : es.length ≤ 1000) (x : Int) :
    Calls Try.prog 58 #[.pointer (some ⟨p, 0, none⟩), .int .i64 x] w fun e w' => ∃ L' es', RTabAt w' L' p pl la es' ∧ ((∃ i s, At es x i s ∧ es' = es.eraseIdx i ∧ e = .returned (.int .i64 0)) ∨ ((∀ s ∈ es, s.id ≠ x) ∧ es' = es ∧ e = .returned (.int .i64 7))) ∧ Fr L w w' ∧ Gr L L' w.heap.size := by
  refine (GCred2.rEnd_calls (some ⟨p, 0, none⟩) x w (fun v w' => ∃ L' es', RTabAt w' L' p pl la es' ∧ ((∃ i s, At es x i s ∧ es' = es.eraseIdx i ∧ v = .int .i64 0) ∨ ((∀ s ∈ es, s.id ≠ x) ∧ es' = es ∧ v = .int .i64 7)) ∧ Fr L w w' ∧ Gr L L' w.heap.size) ?_).mono (by
    rintro e w' ⟨v, rfl, L', es', h1, h2, h3⟩
    refine ⟨L', es', h1, ?_, h3⟩
    rcases h2 with ⟨i, s, k1, k2, rfl⟩ | ⟨k1, k2, rfl⟩
    · exact .inl ⟨i, s, k1, k2, rfl⟩
    · exact .inr ⟨k1, k2, rfl⟩)
  unfold GCred2.rEnd_vc
  refine (rFind_any h hl x).mono ?_
  rintro e w2 ⟨hf, rfl⟩
  refine ⟨keepG_nil _ _, ?_⟩
  rcases hf with ⟨i, s, rfl, hsi, hsx⟩ | ⟨hno, rfl⟩
  rotate_left
  · exact ⟨_, rfl, br_y (by decide) ⟨L, es, h, .inr ⟨hno, rfl, rfl⟩, Fr.refl _ _, Gr.refl _ _⟩⟩
  have hi : i < es.length := (List.getElem?_eq_some_iff.1 hsi).1
  obtain ⟨kv, xs, M, hr⟩ := h.raw w.heap.size
  obtain ⟨ka, kc, rfl⟩ := hr.own.isSlice
  obtain ⟨hcap, _⟩ := Own.cap hr.own
  refine ⟨_, rfl, br_n (by omega) (drewO_in fun w3 b3 _ => ?_)⟩
  have hr3 := hr.below sesR b3
  rw [wr64 (by omega) (by omega), show ((i : Int) + 1).toNat = i + 1 by omega, Int.toNat_natCast]
  refine ⟨_, _, _, (rtab_cell hr3).2.2, by omega, by omega, _, _, _, (rtab_cell hr3).2.2, by omega, by omega, newO_in fun w4 n4 b4 s4 => ?_⟩
  have B4 := b3.trans (b4.mono b3.size)
  have hr4 := hr3.below sesR b4
  have z3 := b3.size
  have one := els_one hr4.els sesR_one
  refine ⟨(rtab_cell hr4).2.2, (rtab_cell hr4).2.2, i, [], xs.take (i * 5), own_empty 5 n4, own_src (hr4.own.pre (by omega)) Try.underlying48 (fun v hv => one v (List.mem_of_mem_take hv)), by unfold maxLen; omega, by omega, by simp, ?_⟩
  intro a5 c5 w5 o5 g5 or5 _
  rw [List.nil_append] at o5
  simp only [Nat.zero_add] at o5 or5 ⊢
  have kp5 : ∀ b, b < w3.heap.size → w5.heap[b]? = w4.heap[b]? := fun b hb => g5.block b (by omega) (by simp [Value.ownBlock]; omega)
  have hown : ∀ k, (Value.slice ka es.length kc).ownBlock = some k → k < w.heap.size := fun k hk => (hr.own.lt k hk).2
  have hMu : ∀ b ∈ M, b < w.heap.size := hr.under
  have hpl := hr.bk.lt
  have hr5 := hr4.keep sesR (w' := w5) (fun b hb => kp5 b (by
    rcases hb with rfl | hb | hb
    · omega
    · have := hown b hb; omega
    · have := hMu b hb; omega)) g5.size
  have z5 := g5.size
  have far5 : ∀ b, (Value.slice a5 i c5).ownBlock = some b → w3.heap.size ≤ b := fun b hb => by
    rcases or5 with h1 | ⟨g, h1, hg⟩
    · rw [h1] at hb; simp [Value.ownBlock] at hb; omega
    · rw [h1] at hb; injection hb with hb; omega
  refine ⟨(rtab_cell hr5).2.2, es.length - (i + 1), xs.take (i * 5), xs.drop ((i + 1) * 5), o5, hr5.own.tail hi Try.underlying48 one, by unfold maxLen; omega, by omega, by simp, ?_⟩
  intro a6 c6 w6 o6 g6 or6 _
  have kp6 : ∀ b, b < w3.heap.size → w6.heap[b]? = w5.heap[b]? := fun b hb => g6.block b (by omega) fun e => by have := far5 b e.symm; omega
  have z6 := g6.size
  have hlen' : (es.eraseIdx i).length = es.length - 1 := List.length_eraseIdx_of_lt hi
  rw [show i + (es.length - (i + 1)) = (es.eraseIdx i).length by rw [hlen']; omega] at o6 or6 ⊢
  have hor : (Value.slice a6 (es.eraseIdx i).length c6).ownBlock = (Value.slice ka es.length kc).ownBlock ∨ ∃ g, (Value.slice a6 (es.eraseIdx i).length c6).ownBlock = some g ∧ w3.heap.size ≤ g := by
    right
    have hne : ∀ q : Option Nat, (q = none → False) → ∃ g, q = some g := fun q hq => by cases q with
      | none => exact (hq rfl).elim
      | some g => exact ⟨g, rfl⟩
    rcases or6 with h1 | ⟨g, h1, hg⟩
    · rcases or5 with h2 | ⟨g, h2, hg⟩
      · exact ⟨w3.heap.size, by rw [h2] at h1; exact h1, Nat.le_refl _⟩
      · exact ⟨g, h1.trans h2, by omega⟩
    · exact ⟨g, h1, by omega⟩
  have R := hr3.turn sesR rtab_ne (n0 := w.heap.size) (by omega) (hr3.els.erase hi) (w' := w6) (v1 := .slice a6 (es.eraseIdx i).length c6) o6 (by rw [kp6 p (by omega), kp5 p (by omega)]; exact b4.block p (by omega)) (fun b hb => by have := hMu b hb; rw [kp6 b (by omega), kp5 b (by omega)]; exact b4.block b (by omega)) (by omega) hor (j := 2) rfl
  have b6 := hr5.bk.keep (kp6 p (by omega))
  refine stO_set b6 (by simp [tabF]) (by simp) ?_
  obtain ⟨L', hL, hG⟩ := R.at h.mem
  refine ⟨L', _, hL, .inl ⟨i, s, ⟨hsi, hsx⟩, rfl, trivial⟩, ?_, hG⟩
  have F : Fr L w w6 := ((Fr.ofBelow (L := L) B4).grown g5 (fun k hk => by simp [Value.ownBlock] at hk; exact .inr (by omega))).grown g6 (fun k hk => .inr (by have := far5 k hk; omega))
  exact F.setCell (p := ⟨p, 2, none⟩) (.inl h.mem) _
end Go.Proofs.Ytamlgnhnmilbdaa
end
section
/- CreditActs: sessions handed to both tables: tame, to; walked. -/
namespace Go.Proofs.Ytamlgnhnmilbdaa
open Go.RowKit
theorem gr_take {w : World} {a : Option Addr} {gs : List Gr4} (h : GrAt w a gs) (n : Nat) : GrAt w a (gs.take n) := by
  rcases h with rfl | ⟨b, off, ha, h⟩
  · exact .inl (by simp)
  · refine .inr ⟨b, off, ha, fun i x hx => h i x ?_⟩
    rw [List.getElem?_take] at hx
    split at hx
    · exact hx
    · cases hx
theorem gr_srcs {P : Program} {w : World} {a : Option Addr} {c : Nat} {gs : List Gr4} {tx e' : TypeId} (hk : P.underlying tx = some (.slice e')) (h : GrAt w a gs) : Src P 4 tx (.slice a gs.length c) gs.length (gs.flatMap g4Cells) w := by
  cases a with
  | none =>
    have h0 : gs = [] := by
      rcases h with h | ⟨b, off, ha, _⟩
      · exact h
      · cases ha
    subst h0
    exact Src.ofNil w hk c
  | some ad =>
    refine Src.ofSlice w hk ad _ _ _ (flat_len g4_len gs) (fun j u hu => ?_) (g4_one gs)
    rcases h with rfl | ⟨b, off, ha, h⟩
    · cases hu
    · injection ha with ha; subst ha
      have hlt := (List.getElem?_eq_some_iff.1 hu).1
      rw [flat_len g4_len] at hlt
      have hi : j / 4 < gs.length := by omega
      have hx := List.getElem?_eq_getElem hi
      have h1 := flat_get g4_len gs (j / 4) _ (j % 4) hx (by omega)
      rw [show j / 4 * 4 + j % 4 = j by omega, hu] at h1
      have := cellsAt_get (h _ _ hx) (j % 4) u h1.symm
      rw [Addr.add_lit]
      rwa [show off + j / 4 * 4 + j % 4 = off + j by omega] at this
/-- Grants in a list of one's own. -/
theorem gr_own {w : World} {b0 : Nat} {t : TypeId} {a : Option Addr} {c : Nat} {gs : List Gr4} (h : Own w b0 t 4 (.slice a gs.length c) gs.length (gs.flatMap g4Cells)) : GrIn w (Value.slice a gs.length c).ownBlock.toList a gs := by
  by_cases h0 : gs = []
  · exact .inl h0
  · obtain ⟨g, off, rfl, _⟩ := own_somewhere h (List.length_pos_iff.2 h0)
    refine .inr ⟨g, off, rfl, by simp [Value.ownBlock], fun i x hx => cellsAt_list fun j v hv => ?_⟩
    have hj : j < 4 := (List.getElem?_eq_some_iff.1 hv).1
    have := flat_get g4_len gs i x j hx hj
    rw [Nat.add_assoc]
    exact h.cells g off c rfl _ v (by rw [this]; exact hv)
theorem below_gr {n : Nat} {w w1 w2 : World} {row : Option Nat} (h : Below n w w1) (hn : n ≤ w1.heap.size) (hg : w1.grownBy w2 row) (hr : ∀ k, row = some k → n ≤ k) : Below n w w2 :=
  ⟨hg.os.trans h.os, hg.tape.trans h.tape, hg.output.trans h.output, Nat.le_trans h.size hg.size, fun k hk => (hg.block k (by omega) fun e => by have := hr k e.symm; omega).trans (h.block k hk)⟩
def tamed (s : Ses) : Ses := { s with gs := s.gs.take 6 }
theorem tame_any (s : Ses) (a : Option Addr) (c : Nat) (w : World) (h : GrAt w a s.gs) (hc : s.gs.length ≤ c) :
    Calls Try.prog 54 #[sesV s a c] w fun e w' => ∃ a' c', e = .returned (sesV (tamed s) a' c') ∧ Own w' w.heap.size 161 4 (.slice a' (tamed s).gs.length c') (tamed s).gs.length ((tamed s).gs.flatMap g4Cells) ∧ Below w.heap.size w w' := by
  refine (GCred2.tame_calls s.id s.node s.num s.dl a s.gs.length c w (fun v w' => ∃ a' c', v = sesV (tamed s) a' c' ∧ Own w' w.heap.size 161 4 (.slice a' (tamed s).gs.length c') (tamed s).gs.length ((tamed s).gs.flatMap g4Cells) ∧ Below w.heap.size w w') ?_).mono (by rintro e w' ⟨v, rfl, a', c', rfl, h⟩; exact ⟨a', c', rfl, h⟩)
  unfold GCred2.tame_vc
  have hm : (min ((s.gs.length : Nat) : Int) 6).toNat = (s.gs.take 6).length := by rw [List.length_take]; omega
  have hlt : (s.gs.take 6).length ≤ 6 := by rw [List.length_take]; omega
  refine newO_in fun w2 n2 b2 s2 => newO_in fun w3 n3 b3 s3 => newO_in fun w4 n4 b4 s4 => ⟨by omega, by omega, ?_⟩
  rw [hm]
  have B4 := (b2.trans (b3.mono b2.size)).trans (b4.mono (by omega))
  refine ⟨(s.gs.take 6).length, [], (s.gs.take 6).flatMap g4Cells, own_empty 4 n4, gr_srcs Try.underlying51 (gr_take (h.below B4) 6), by unfold maxLen; omega, by omega, fun g hg e => ?_, ?_⟩
  · simp [Value.ownBlock] at hg e; omega
  intro a5 c5 w5 o5 g5 or5 _
  have kp : ∀ w6, BoxSt w.heap.size w5 w6 → ∀ w7, BoxSt w2.heap.size w6 w7 → ∃ a' c', sesV (tamed s) a5 c5 = sesV (tamed s) a' c' ∧ Own w7 w.heap.size 161 4 (.slice a' (tamed s).gs.length c') (tamed s).gs.length ((tamed s).gs.flatMap g4Cells) ∧ Below w.heap.size w w7 := by
    intro w6 h6 w7 h7
    simp only [Nat.zero_add, List.nil_append] at o5 or5
    have far : ∀ k, (Value.slice a5 (s.gs.take 6).length c5).ownBlock = some k → w3.heap.size ≤ k := fun k hk => by
      rcases or5 with h1 | ⟨g, h1, hg⟩
      · rw [h1] at hk; simp [Value.ownBlock] at hk; omega
      · rw [h1] at hk; injection hk with hk; omega
    have z6 := h6.2
    have z5 := g5.size
    have o6 := o5.keep (w' := w6) fun k hk => h6.1.block k (o5.lt k hk).2 (by rw [List.mem_singleton]; have := far k hk; omega)
    have o7 := o6.keep (w' := w7) fun k hk => h7.1.block k (by have := (o5.lt k hk).2; omega) (by rw [List.mem_singleton]; have := far k hk; omega)
    have B5 : Below w.heap.size w w5 := ⟨g5.os.trans B4.os, g5.tape.trans B4.tape, g5.output.trans B4.output, Nat.le_trans B4.size g5.size, fun k hk => (g5.block k (by omega) (by simp [Value.ownBlock]; omega)).trans (B4.block k hk)⟩
    exact ⟨a5, c5, rfl, o7.base_le fun k hk => by have := far k hk; omega, box_below (box_below B5 (Nat.le_refl _) h6) b2.size h7⟩
  intro w6 h6 w7 h7
  simp only [Nat.zero_add]
  exact kp w6 h6 w7 h7
theorem to_any (s : Ses) (a : Option Addr) (c : Nat) (w : World) (h : GrAt w a s.gs) (hm : s.gs.length ≤ 100000) :
    Calls Try.prog 55 #[sesV s a c] w fun e w' => ∃ a' c', e = .returned (sesV s a' c') ∧ Own w' w.heap.size 115 4 (.slice a' s.gs.length c') s.gs.length (s.gs.flatMap g4Cells) ∧ Below w.heap.size w w' := by
  refine (GCred2.lto_calls s.id s.node s.num s.dl a s.gs.length c w (fun v w' => ∃ a' c', v = sesV s a' c' ∧ Own w' w.heap.size 115 4 (.slice a' s.gs.length c') s.gs.length (s.gs.flatMap g4Cells) ∧ Below w.heap.size w w') ?_).mono (by rintro e w' ⟨v, rfl, a', c', rfl, h⟩; exact ⟨a', c', rfl, h⟩)
  unfold GCred2.lto_vc
  refine newO_in fun w2 n2 b2 s2 => newO_in fun w3 n3 b3 s3 => newO_in fun w4 n4 b4 s4 w5 h5 => ?_
  have B4 := (b2.trans (b3.mono b2.size)).trans (b4.mono (by omega))
  have B5 := box_below B4 (by omega) h5
  have z5 := h5.2
  refine ⟨fun x4 y0 y1 y2 y3 a3 n3 c3 wx => ∃ i : Nat, x4 = i ∧ y0 = s.id ∧ y1 = s.node ∧ y2 = s.num ∧ y3 = s.dl ∧ i ≤ s.gs.length ∧ i = n3 ∧ Own wx (w.heap.size + 3) 115 4 (.slice a3 i c3) i ((s.gs.take i).flatMap g4Cells) ∧ Below w.heap.size w wx ∧ w.heap.size + 3 ≤ wx.heap.size, fun x4 _ _ _ _ _ _ _ _ => s.gs.length - x4.toNat, ⟨0, rfl, rfl, rfl, rfl, rfl, by omega, rfl, Own.nil _ _ _ _, B5, by omega⟩, ?_⟩
  rintro x4 y0 y1 y2 y3 a3 n3 c3 wx ⟨i, rfl, rfl, rfl, rfl, rfl, hi, rfl, hO, hb, hsz⟩
  refine br_dec (fun hlt => ?_) fun hge => ?_
  · have hil : i < s.gs.length := by omega
    obtain ⟨b, off, ha, hc4⟩ := RowsAt.get (h.below hb) hil
    subst ha
    refine ⟨by omega, by omega, s.gs[i].grp, s.gs[i].units, s.gs[i].amount, s.gs[i].fin, by rw [Int.toNat_natCast]; exact hc4, newO_in fun w7 n7 b7 s7 w8 h8 => newO_in fun w9 n9 b9 s9 => ?_⟩
    have hlx : ∀ k, (Value.slice a3 i c3).ownBlock = some k → w.heap.size + 3 ≤ k ∧ k < wx.heap.size := fun k hk => hO.lt k hk
    have z8 := h8.2
    have o8 := (hO.below b7 (Nat.le_refl _)).keep (w' := w8) fun k hk => h8.1.block k (by have := hlx k hk; omega) (by rw [List.mem_singleton]; have := hlx k hk; omega)
    have o9 := o8.below b9 (Nat.le_refl _)
    refine ⟨1, (s.gs.take i).flatMap g4Cells, g4Cells s.gs[i], o9.base_le fun _ _ => Nat.zero_le _, src_block Try.underlying31 (n := 1) (size := 4) n9 rfl rfl, by unfold maxLen; omega, by omega, fun g hg e => ?_, ?_⟩
    · have := hlx g e
      simp at hg
      omega
    intro a10 c10 w10 o10 g10 or10 _ w11 h11
    have z10 := g10.size
    have far : ∀ k, (Value.slice a10 (i + 1) c10).ownBlock = some k → w.heap.size + 3 ≤ k := fun k hk => by
      rcases or10 with h1 | ⟨g, h1, hg⟩
      · exact (hlx k (h1 ▸ hk)).1
      · rw [h1] at hk; injection hk with hk; omega
    have o11 := (o10.keep (w' := w11) fun k hk => h11.1.block k (o10.lt k hk).2 (by rw [List.mem_singleton]; have := far k hk; omega)).base_le far
    have B8 : Below w.heap.size w w8 := hb.trans ((box_below b7 (Nat.le_refl _) h8).mono hb.size)
    have B9 := B8.trans (b9.mono B8.size)
    have B10 : Below w.heap.size w w10 := below_gr B9 B9.size g10 fun k hk => by have := hlx k hk; omega
    have B11 := box_below B10 (by omega) h11
    rw [wr64 (by omega) (by omega)]
    refine ⟨⟨i + 1, by omega, rfl, rfl, rfl, rfl, by omega, rfl, ?_, B11, by have := h11.2; omega⟩, by dsimp only; omega⟩
    rw [List.take_add_one, List.getElem?_eq_getElem hil, List.flatMap_append]
    simpa using o11
  · obtain rfl : i = s.gs.length := by omega
    intro w12 h12
    rw [List.take_length] at hO
    have o12 := hO.keep (w' := w12) fun k hk => h12.1.block k (hO.lt k hk).2 (by rw [List.mem_singleton]; have := (hO.lt k hk).1; omega)
    exact ⟨a3, c3, rfl, o12.base_le fun k hk => by have := (hO.lt k hk).1; omega, box_below hb (by omega) h12⟩
end Go.Proofs.Ytamlgnhnmilbdaa
end
section
/- CreditTurns: sessions that open and end one behind the other always find a place, as long as no more are open than there are; none opens twice. -/
namespace Go.Proofs.Ytamlgnhnmilbdaa
open Go.RowKit
/-- A list of ints of our own grows by what is behind an address. -/
theorem app_ints {gs : List Nat} {w : World} {b : Nat} {a : Option Addr} {n c m : Nat} {zs ys : List Int} {x : Value} (hO : Own w b 3 1 (.slice a n c) n (zs.map iV)) (hS : Src Try.prog 1 22 x m (ys.map iV) w) (hn : n + m ≤ 1000000) (hb : b ≤ w.heap.size) (hgs : ∀ g ∈ gs, (Value.slice a n c).ownBlock ≠ some g) {K : Nat → Option Addr → Nat → World → Prop}
    (hk : ∀ a' c' w1, Own w1 b 3 1 (.slice a' (n + m) c') (n + m) ((zs ++ ys).map iV) → Fr (Value.slice a n c).ownBlock.toList w w1 → ((Value.slice a' (n + m) c').ownBlock = (Value.slice a n c).ownBlock ∨ ∃ g, (Value.slice a' (n + m) c').ownBlock = some g ∧ w.heap.size ≤ g) → K m a' c' w1) :
    appO Try.prog gs w 3 1 8 22 a n c x K := by
  refine ⟨m, zs.map iV, ys.map iV, hO.base_le fun _ _ => Nat.zero_le _, hS, by unfold maxLen; omega, by omega, hgs, ?_⟩
  intro a' c' w1 h1 h2 h3 _
  refine hk a' c' w1 ?_ ((Fr.refl _ _).grown h2 fun k hk => .inl (by simp [hk])) h3
  rw [List.map_append]
  refine h1.base_le fun k hk => ?_
  rcases h3 with h | ⟨g, h, hg⟩
  · exact (hO.lt k (h ▸ hk)).1
  · rw [h] at hk; injection hk with hk; omega
theorem src_int {w : World} {g : Nat} {z : Int} {t : TypeId} {fr : Nat × Nat} (h : w.heap[g]? = some (.cells #[.int .i64 z] t fr)) (c : Nat) : Src Try.prog 1 22 (.slice (some ⟨g, 0, none⟩) 1 c) 1 ([z].map iV) w :=
  src_block Try.underlying22 (n := 1) (size := 1) (cs := [.int .i64 z]) h rfl rfl
theorem ids_any {w : World} {L : List Nat} {p : Nat} {pl la : Int} {es : List Ses} (h : TabAt w L p pl la es) (hl : es.length ≤ 1000) :
    Calls Try.prog 16 #[.pointer (some ⟨p, 0, none⟩)] w fun e w' => ∃ a c, e = .returned (.slice a es.length c) ∧ Own w' w.heap.size 3 1 (.slice a es.length c) es.length ((es.map (·.id)).map iV) ∧ Below w.heap.size w w' := by
  refine (GCred.ids_calls (some ⟨p, 0, none⟩) w (fun v w' => ∃ a c, v = .slice a es.length c ∧ Own w' w.heap.size 3 1 (.slice a es.length c) es.length ((es.map (·.id)).map iV) ∧ Below w.heap.size w w') ?_).mono (by rintro e w' ⟨v, rfl, a, c, rfl, h⟩; exact ⟨a, c, rfl, h⟩)
  obtain ⟨kv, xs, M, hr⟩ := h.raw w.heap.size
  obtain ⟨a, c, rfl⟩ := hr.own.isSlice
  unfold GCred.ids_vc
  refine br_f rfl ⟨_, _, _, (tab_cell hr).2.2, fun a3 n3 c3 x wx => ∃ i : Nat, x = i ∧ i ≤ es.length ∧ i = n3 ∧ Own wx w.heap.size 3 1 (.slice a3 i c3) i (((es.take i).map (·.id)).map iV) ∧ Below w.heap.size w wx, fun _ _ _ x _ => es.length - x.toNat, ⟨0, rfl, by omega, rfl, Own.nil _ _ _ _, Below.refl _ _⟩, ?_⟩
  rintro a3 n3 c3 x wx ⟨i, rfl, hi, rfl, hO, hb⟩
  refine br_dec (fun hlt => ?_) fun hge => ?_
  · have hil : i < es.length := by omega
    have hw := hr.below sesR hb
    obtain ⟨cs, ⟨a', c', rfl, _, _⟩, b, off, rfl, _, hc⟩ := hw.els.cells sesR hw.own (List.getElem?_eq_getElem hil)
    have hbs := hb.size
    refine ⟨by omega, by omega, _, _, _, _, _, _, _, by rw [Int.toNat_natCast]; exact hc, newO_in fun w4 n4 b4 s4 w5 bs5 => newO_in fun w6 n6 b6 s6 => ?_⟩
    have hlt4 : ∀ k, (Value.slice a3 i c3).ownBlock = some k → k < wx.heap.size := fun k hk => (hO.lt k hk).2
    have z5 := bs5.2
    have O5 := (hO.below b4 (Nat.le_refl _)).keep (w' := w5) fun k hk => bs5.1.block k (by have := hlt4 k hk; omega) (by rw [List.mem_singleton]; have := hlt4 k hk; omega)
    have O6 := O5.below b6 (Nat.le_refl _)
    refine app_ints O6 (src_int n6 1) (by omega) (by omega) (fun g hg e => by rw [List.mem_singleton] at hg; subst hg; have := hlt4 _ e; omega) fun a7 c7 w7 o7 f7 _ => ?_
    have B6 : Below w.heap.size w w6 := (hb.trans ((box_below (Below.trans (Below.refl _ _) b4) (Nat.le_refl _) bs5).mono (by omega))).trans (b6.mono (by omega))
    have B7 := B6.trans (f7.below (b := w.heap.size) (fun k hk => (hO.lt k (by simpa using hk)).1) (by omega))
    rw [wr64 (by omega) (by omega)]
    refine ⟨⟨i + 1, by omega, by omega, rfl, ?_, B7⟩, by dsimp only; omega⟩
    rw [List.take_add_one, List.getElem?_eq_getElem hil, List.map_append]
    exact o7
  · obtain rfl : i = es.length := by omega
    rw [List.take_length] at hO
    exact ⟨_, _, rfl, hO, hb⟩
theorem same_eq {w : World} {a a2 : Option Addr} {c c2 b b2 : Nat} {zs : List Int} (hl : zs.length ≤ 1000) (h1 : Own w b 3 1 (.slice a zs.length c) zs.length (zs.map iV)) (h2 : Own w b2 3 1 (.slice a2 zs.length c2) zs.length (zs.map iV)) :
    Calls Try.prog 15 #[.slice a zs.length c, .slice a2 zs.length c2] w fun e w' => e = .returned (.bool true) ∧ Below w.heap.size w w' := by
  refine (GCred.same_calls a zs.length c a2 zs.length c2 w (fun v w' => v = .bool true ∧ Below w.heap.size w w') ?_).mono (by rintro e w' ⟨v, rfl, rfl, h⟩; exact ⟨rfl, h⟩)
  unfold GCred.same_vc
  refine br_n (by simp) ⟨fun x wx => ∃ i : Nat, x = i ∧ i ≤ zs.length ∧ Below w.heap.size w wx, fun x _ => zs.length - x.toNat, ⟨0, rfl, by omega, Below.refl _ _⟩, ?_⟩
  rintro x wx ⟨i, rfl, hi, hb⟩
  refine br_dec (fun hlt => drewO_in fun w3 b3 _ => ?_) fun hge => ⟨rfl, hb⟩
  have B3 := hb.trans (b3.mono hb.size)
  have hil : i < zs.length := by omega
  have hg : (zs.map iV)[i]? = some (iV zs[i]) := by rw [List.getElem?_map, List.getElem?_eq_getElem hil]; rfl
  obtain ⟨g, off, rfl, hc⟩ := own_cell (h1.below B3 (Nat.le_refl _)) hg
  obtain ⟨g2, off2, rfl, hc2⟩ := own_cell (h2.below B3 (Nat.le_refl _)) hg
  refine ⟨by omega, by omega, zs[i], by rw [Int.toNat_natCast]; exact hc, by omega, by omega, zs[i], by rw [Int.toNat_natCast]; exact hc2, br_n (by simp) ?_⟩
  rw [wr64 (by omega) (by omega)]
  exact ⟨⟨i + 1, by omega, by omega, B3⟩, by dsimp only; omega⟩
theorem credits_any (w : World) : Calls Try.prog 12 #[] w fun e w' => e = .returned (.bool true) ∧ Below w.heap.size w w' := by
  refine (GCred.credits_calls w (fun v w' => v = .bool true ∧ Below w.heap.size w w') ?_).mono (by rintro e w' ⟨v, rfl, rfl, h⟩; exact ⟨rfl, h⟩)
  unfold GCred.credits_vc
  refine (cNew_any 2 w (by decide) (by decide)).mono ?_
  rintro e w2 ⟨rfl, h2, b2⟩
  refine ⟨keepG_nil _ _, _, _, rfl, br_y rfl ((add_nil h2 (by simp) 5 1 (by decide) (by decide)).mono ?_)⟩
  rintro e w3 ⟨L3, h3, rfl, f3, g3⟩
  have fr2 : From w.heap.size [w.heap.size] := fun k hk => by rw [List.mem_singleton] at hk; omega
  have b3 := f3.below fr2 b2.size
  have fr3 := g3.from fr2 b2.size
  have z3 := f3.size
  have z2 := b2.size
  refine ⟨keepG_nil _ _, _, rfl, br_y rfl ((end_any h3 (by simp) (fun i j s t hij hs ht => ?_) 5).mono ?_)⟩
  · have h1 := (List.getElem?_eq_some_iff.1 hs).1
    have h2 := (List.getElem?_eq_some_iff.1 ht).1
    simp at h1 h2
    omega
  rintro e w4 ⟨L4, es4, h4, h4t, f4, g4⟩
  rw [if_pos ⟨⟨5, 1, 0, 0, []⟩, by simp, rfl⟩] at h4
  obtain ⟨rfl, i, s, hs, hx, rfl⟩ := h4
  have hi : i = 0 := by
    have := (List.getElem?_eq_some_iff.1 hs).1
    simp at this; omega
  subst hi
  have b4 := f4.below fr3 (by omega)
  have fr4 := g4.from fr3 (by omega)
  have z4 := f4.size
  refine ⟨keepG_nil _ _, _, rfl, br_y rfl ((add_nil h4t (by simp) 5 1 (by decide) (by decide)).mono ?_)⟩
  rintro e w5 ⟨L5, h5, rfl, f5, g5⟩
  have b5 := f5.below fr4 (by omega)
  refine ⟨keepG_nil _ _, _, rfl, br_y (by simp) ((last_any h5).mono ?_)⟩
  rintro e w6 ⟨rfl, rfl⟩
  refine ⟨keepG_nil _ _, _, rfl, ?_, ((b2.trans b3).trans b4).trans b5⟩
  simp
end Go.Proofs.Ytamlgnhnmilbdaa
end
section
/- CreditTurns, walked. -/
namespace Go.Proofs.Ytamlgnhnmilbdaa
open Go.RowKit
structure TurnAt (w0 w : World) (p : Nat) (m la : Int) (a : Option Addr) (c : Nat) (es : List Ses) : Prop where
  ex : ∃ L, TabAt w L p m la es ∧ (∀ k, (Value.slice a es.length c).ownBlock = some k → k ∉ L) ∧ From w0.heap.size L
  own : Own w w0.heap.size 3 1 (.slice a es.length c) es.length ((es.map (·.id)).map iV)
  ids : Ids es
  le : ∀ s ∈ es, 1 ≤ s.id ∧ s.id ≤ la
  len : (es.length : Int) ≤ m
  below : Below w0.heap.size w0 w
theorem block_len (a : Option Addr) (n n' c c' : Nat) : (Value.slice a n c).ownBlock = (Value.slice a n' c').ownBlock := by cases a <;> rfl
theorem src_own {w : World} {b : Nat} {a : Option Addr} {n c : Nat} {zs : List Int} (h : Own w b 3 1 (.slice a n c) n (zs.map iV)) : Src Try.prog 1 22 (.slice a n c) n (zs.map iV) w := by
  have hs := Src.ofRow (P := Try.prog) (w := w) Try.underlying22 a c (zs.map iV) h.row one_iV
  have hl := h.1
  rw [Nat.mul_one] at hl
  rw [hl] at hs
  exact hs
theorem ids_inj {es : List Ses} (h : Ids es) {i j : Nat} {s t : Ses} (hi : es[i]? = some s) (hj : es[j]? = some t) (he : s.id = t.id) : i = j := by
  rcases Nat.lt_trichotomy i j with h1 | h1 | h1
  · have := h i j s t h1 hi hj; omega
  · exact h1
  · have := h j i t s h1 hj hi; omega
theorem ids_push {es : List Ses} (h : Ids es) {s : Ses} (hs : ∀ t ∈ es, t.id < s.id) : Ids (es ++ [s]) := by
  intro i j a b hij ha hb
  by_cases hj : j < es.length
  · rw [List.getElem?_append_left hj] at hb
    rw [List.getElem?_append_left (by omega)] at ha
    exact h i j a b hij ha hb
  · have hlt := (List.getElem?_eq_some_iff.1 hb).1
    rw [List.length_append, List.length_singleton] at hlt
    obtain rfl : j = es.length := by omega
    rw [List.getElem?_append_right (Nat.le_refl _), Nat.sub_self] at hb
    injection hb with hb; subst hb
    rw [List.getElem?_append_left (by omega)] at ha
    exact hs a (List.mem_of_getElem? ha)
theorem erase_ids (es : List Ses) (k : Nat) : ((es.map (·.id)).take k ++ (es.map (·.id)).drop (k + 1)) = (es.eraseIdx k).map (·.id) := by
  rw [List.eraseIdx_eq_take_drop_succ, List.map_append, List.map_take, List.map_drop]
set_option maxRecDepth 10000 in
theorem lTurns_walk (z : Int) (a1 : Option Addr) (c1 : Nat) (zs : List Int) (w : World) (hl : zs.length ≤ maxLen) (hr : RowAt w a1 (zs.map iV)) :
    Calls Try.prog 3 #[.int .i64 z, .slice a1 zs.length c1] w fun e w' => e = .returned (.bool true) ∧ Below w.heap.size w w' := by
  refine (GCred.lTurns_calls z a1 zs.length c1 w (fun v w' => v = .bool true ∧ Below w.heap.size w w') ?_).mono (by rintro e w' ⟨v, rfl, rfl, h⟩; exact ⟨rfl, h⟩)
  unfold GCred.lTurns_vc
  obtain ⟨m0, hm0, hmm⟩ := u64_mod z 16 (by decide)
  have hm1 : IntKind.i64.wrap (1 + IntKind.i64.wrap (Int.tmod (IntKind.u64.wrap z) 16)) = ((m0 + 1 : Nat) : Int) := by
    rw [show Int.tmod (IntKind.u64.wrap z) 16 = (m0 : Int) from hmm, wr64 (z := (m0 : Int)) (by omega) (by omega), wr64 (by omega) (by omega)]; omega
  rw [hm1]
  have hm16 : m0 + 1 ≤ 16 := by omega
  have hm1' : 1 ≤ m0 + 1 := by omega
  generalize m0 + 1 = m at *
  refine ⟨by decide, (cNew_any m w (by omega) (by omega)).mono ?_⟩
  rintro e w2 ⟨rfl, h2, b2⟩
  refine ⟨keepG_nil _ _, _, _, rfl, (credits_any w2).mono ?_⟩
  rintro e w3 ⟨rfl, b3⟩
  have B3 := b2.trans (b3.mono b2.size)
  refine ⟨keepG_nil _ _, _, rfl, br_f rfl (br_n (by decide) ?_)⟩
  generalize hp : w.heap.size = p at *
  refine ⟨fun x7 a8 n8 c8 x9 wx => ∃ (i : Nat) (la : Int) (es : List Ses), la = x7 ∧ x9 = i ∧ i ≤ zs.length ∧ i ≤ 60 ∧ es.length = n8 ∧ 0 ≤ la ∧ la ≤ 4 * i ∧ TurnAt w wx p m la a8 c8 es, fun _ _ _ _ x9 _ => 60 - x9.toNat, ⟨0, 0, [], rfl, rfl, by omega, by omega, rfl, by omega, by omega, ⟨[p], h2.below sesR b3, (fun k hk => by simp [Value.ownBlock] at hk), fun k hk => by rw [List.mem_singleton] at hk; omega⟩, Own.nil _ _ _ _, (fun i j s t _ h => by cases h), (fun s h => by cases h), by simp, by rw [hp]; exact B3⟩, ?_⟩
  rintro x7 a8 n8 c8 x9 wx ⟨i, la, es, rfl, rfl, hi, hi60, rfl, hla0, hla, hT⟩
  refine ⟨fun b wy => b = decide (i < zs.length ∧ i < 60) ∧ wx = wy, ?_, ?_⟩
  · exact br_dec (fun h => ⟨decide_eq_decide.2 (by omega), rfl⟩) fun h => ⟨(decide_eq_false (by omega)).symm, rfl⟩
  rintro b wy ⟨rfl, rfl⟩
  have hlen := hT.len
  have hrx := hr.below hT.below (by omega)
  have hbs := hT.below.size
  refine br_dec (fun hlt => ?_) fun hge => ?_
  · obtain ⟨b1, off1, rfl, hc1⟩ := hrx.int hlt.1
    have hcell : wx.cell? ⟨b1, off1 + (i : Int).toNat * 1, none⟩ = some (.int .i64 zs[i]) := by rw [Int.toNat_natCast, Nat.mul_one]; exact hc1
    refine ⟨fun b wy => wx = wy ∧ (b = true → 1 ≤ es.length) ∧ (b = false → (es.length : Int) < m), ?_, ?_⟩
    · refine br_dec (fun h => ⟨rfl, fun _ => by omega, fun h2 => by cases h2⟩) fun h => br_dec (fun h2 => ⟨by omega, by omega, zs[i], hcell, by decide, rfl, fun _ => by omega, fun _ => by omega⟩) fun h2 => ⟨rfl, (fun h3 => by cases h3), fun _ => by omega⟩
    rintro b wy ⟨rfl, hb1, hb2⟩
    refine br_split.2 ⟨fun hb => ?_, fun hb => ?_⟩
    · have hpos := hb1 hb
      refine ⟨fun x wy => ∃ k : Nat, x = k ∧ k < es.length ∧ wx = wy, ?_, ?_⟩
      · obtain ⟨k, hk, hkk⟩ := u64_mod zs[i] es.length hpos
        rw [wru64 (z := (es.length : Int)) (by omega) (by omega)]
        refine ⟨by omega, by omega, zs[i], hcell, by omega, k, ?_, hk, rfl⟩
        rw [hkk, wr64 (by omega) (by omega)]
      rintro x wy ⟨k, rfl, hk, rfl⟩
      obtain ⟨⟨L, hTab, hap, hL⟩, hO, hids, hle, _, hB⟩ := hT
      have hg : ((es.map (·.id)).map iV)[k]? = some (iV es[k].id) := by rw [List.getElem?_map, List.getElem?_map, List.getElem?_eq_getElem hk]; rfl
      obtain ⟨g8, off8, rfl, hc8⟩ := own_cell hO hg
      have hkr := hle _ (List.getElem_mem hk)
      refine ⟨by omega, by omega, es[k].id, by rw [Int.toNat_natCast]; exact hc8, (end_any hTab (by omega) hids es[k].id).mono ?_⟩
      rintro e w8 ⟨L', es', he, hTab', f8, gr8⟩
      rw [if_pos ⟨es[k], List.getElem_mem hk, rfl⟩] at he
      obtain ⟨rfl, j, s, hj, hsj, rfl⟩ := he
      obtain rfl : j = k := ids_inj hids hj (List.getElem?_eq_getElem hk) hsj
      have z8 := f8.size
      have hO8 := hO.keep (w' := w8) fun b hb => f8.block b (hO.lt b hb).2 (hap b hb)
      have hB8 := hB.trans (f8.below hL hB.size)
      have hL' := gr8.from hL hB.size
      have hap' : ∀ b, (Value.slice (some ⟨g8, off8, none⟩) es.length c8).ownBlock = some b → b ∉ L' := fun b hb hm => (gr8 b hm).elim (hap b hb) fun h => by have := (hO.lt b hb).2; omega
      obtain ⟨g9, off9, e9, hc9⟩ := own_cell hO8 hg
      injection e9 with e9; injection e9 with q1 q2; subst q1; subst q2
      have hlen' : (es.eraseIdx j).length = es.length - 1 := List.length_eraseIdx_of_lt hk
      refine ⟨keepG_nil _ _, _, rfl, br_n (by simp) ⟨by omega, by omega, es[j].id, by rw [Int.toNat_natCast]; exact hc9, (add_nil hTab' (by omega) es[j].id 1 (by omega) (by omega)).mono ?_⟩⟩
      rintro e w9 ⟨L2, hTab2, rfl, f9, gr9⟩
      rw [if_pos hkr.2] at hTab2
      rw [if_pos hkr.2] at hTab2
      have z9 := f9.size
      have hO9 := hO8.keep (w' := w9) fun b hb => f9.block b (hO8.lt b hb).2 (hap' b hb)
      have hB9 := hB8.trans (f9.below hL' hB8.size)
      have hL2 := gr9.from hL' hB8.size
      refine ⟨keepG_nil _ _, _, rfl, br_n (by rw [if_pos hkr.2]; simp) (drewO_in fun w10 b10 _ => ?_)⟩
      have z10 := b10.size
      obtain ⟨hcap, _⟩ := Own.cap hO9
      rw [wr64 (z := (j : Int) + 1) (by omega) (by omega), show ((j : Int) + 1).toNat = j + 1 by omega, Int.toNat_natCast]
      refine ⟨by omega, by omega, by omega, by omega, newO_in fun w11 n11 b11 s11 => ?_⟩
      have b911 : Below w9.heap.size w9 w11 := b10.trans (b11.mono b10.size)
      have hO11 := hO9.below b911 (Nat.le_refl _)
      have hpre := hO11.pre (i := j) (by omega)
      rw [Nat.mul_one, ← List.map_take] at hpre
      have hnew : Own w11 w.heap.size 3 1 (.slice (some ⟨w10.heap.size, 0, none⟩) 0 0) 0 (([] : List Int).map iV) := (own_empty 1 n11).base_le fun k hk => by simp [Value.ownBlock] at hk; omega
      refine app_ints hnew (src_own hpre) (by omega) (by omega) (by simp) fun a12 c12 w12 o12 f12 or12 => ?_
      have z12 := f12.size
      have hO12 := hO11.keep (w' := w12) fun b hb => f12.block b (hO11.lt b hb).2 (by simp [Value.ownBlock]; have := (hO9.lt b hb).2; omega)
      have htl := hO12.tail (P := Try.prog) hk Try.underlying22 one_iV
      rw [Nat.mul_one, ← List.map_drop] at htl
      refine app_ints o12 htl (by omega) (by omega) (by simp) fun a13 c13 w13 o13 f13 or13 => ?_
      rw [List.nil_append, erase_ids, show 0 + j + (es.length - (j + 1)) = (es.eraseIdx j).length by rw [hlen']; omega] at o13
      have far12 : ∀ b, (Value.slice a12 (0 + j) c12).ownBlock = some b → w10.heap.size ≤ b := fun b hb => by
        rcases or12 with h | ⟨g, h, hg⟩
        · rw [h] at hb; simp [Value.ownBlock] at hb; omega
        · rw [h] at hb; injection hb with hb; omega
      have far13 : ∀ b, (Value.slice a13 (0 + j + (es.length - (j + 1))) c13).ownBlock = some b → w10.heap.size ≤ b := fun b hb => by
        rcases or13 with h | ⟨g, h, hg⟩
        · exact far12 b (h ▸ hb)
        · rw [h] at hb; injection hb with hb; omega
      have B13 : Below w9.heap.size w9 w13 := (b911.trans (f12.below (b := w9.heap.size) (fun b hb => by simp [Value.ownBlock] at hb; omega) (by omega))).trans (f13.below (b := w9.heap.size) (fun b hb => by have := far12 b (by simpa using hb); omega) (by omega))
      rw [wr64 (z := (i : Int) + 1) (by omega) (by omega)]
      refine ⟨⟨i + 1, la, es.eraseIdx j, rfl, by omega, by omega, by omega, by rw [hlen']; omega, hla0, by omega, ⟨⟨L2, hTab2.below sesR B13, ?_, hL2⟩, o13, ids_erase hids j, fun s hs => hle s (List.mem_of_mem_eraseIdx hs), by rw [hlen']; omega, hB9.trans (B13.mono hB9.size)⟩⟩, by dsimp only; omega⟩
      intro b hb hm
      have h1 := far13 b ((block_len a13 _ _ c13 c13).trans hb)
      have := hTab2.under b hm
      omega
    · have hltm := hb2 hb
      obtain ⟨⟨L, hTab, hap, hL⟩, hO, hids, hle, _, hB⟩ := hT
      obtain ⟨q, hq, hqq⟩ := u64_mod zs[i] 4 (by decide)
      have hid : IntKind.i64.wrap (IntKind.i64.wrap (la + 1) + IntKind.i64.wrap (Int.tmod (IntKind.u64.wrap zs[i]) 4)) = la + 1 + q := by
        rw [show Int.tmod (IntKind.u64.wrap zs[i]) 4 = (q : Int) from hqq, wr64 (z := la + 1) (by omega) (by omega), wr64 (z := (q : Int)) (by omega) (by omega), wr64 (by omega) (by omega)]
      have hnode : IntKind.i64.wrap (1 + Int.tmod (i : Int) 32) = ((i % 32 + 1 : Nat) : Int) := by
        rw [Int.tmod_eq_emod_of_nonneg (by omega), wr64 (by omega) (by omega)]; omega
      refine ⟨by omega, by omega, zs[i], hcell, by decide, by decide, ?_⟩
      rw [hid, hnode]
      refine (add_nil hTab (by omega) (la + 1 + q) ((i % 32 + 1 : Nat) : Int) (by omega) (by omega)).mono ?_
      rintro e w14 ⟨L', hTab', rfl, f14, gr14⟩
      rw [if_neg (by omega), if_neg (by omega)] at hTab'
      rw [if_neg (by omega), if_neg (by omega)] at hTab'
      have z14 := f14.size
      have hO14 := hO.keep (w' := w14) fun b hb => f14.block b (hO.lt b hb).2 (hap b hb)
      have hB14 := hB.trans (f14.below hL hB.size)
      have hL' := gr14.from hL hB.size
      have hap' : ∀ b, (Value.slice a8 es.length c8).ownBlock = some b → b ∉ L' := fun b hb hm => (gr14 b hm).elim (hap b hb) fun h => by have := (hO.lt b hb).2; omega
      refine ⟨keepG_nil _ _, _, rfl, br_n (by rw [if_neg (by omega), if_neg (by omega)]; simp) (newO_in fun w15 n15 b15 s15 => ?_)⟩
      have hO15 := hO14.below b15 (Nat.le_refl _)
      refine app_ints hO15 (src_int n15 1) (by omega) (by omega) (by simp) fun a16 c16 w16 o16 f16 or16 => ?_
      have z16 := f16.size
      have hTab16 : TabAt w16 L' p m (la + 1 + q) (es ++ [⟨la + 1 + q, ((i % 32 + 1 : Nat) : Int), 0, 0, []⟩]) := (hTab'.below sesR b15).fr sesR f16 fun b hb hb2 => hap' b (by simpa using hb2) hb
      have hB16 := (hB14.trans (b15.mono hB14.size)).trans (f16.below (b := w.heap.size) (fun b hb => (hO.lt b (by simpa using hb)).1) (by omega))
      rw [wr64 (z := (i : Int) + 1) (by omega) (by omega)]
      refine ⟨⟨i + 1, la + 1 + q, es ++ [⟨la + 1 + q, ((i % 32 + 1 : Nat) : Int), 0, 0, []⟩], rfl, by omega, by omega, by omega, by simp, by omega, by omega, ⟨⟨L', hTab16, ?_, hL'⟩, ?_, ids_push hids fun t ht => ?_, fun s hs => ?_, by rw [List.length_append, List.length_singleton]; omega, hB16⟩⟩, by dsimp only; omega⟩
      · intro b hb hm
        replace hb := (block_len a16 (es.length + 1) _ c16 c16).trans hb
        rcases or16 with h | ⟨g, h, hg⟩
        · exact hap' b (h ▸ hb) hm
        · have h2 : some g = some b := h ▸ hb
          injection h2 with h2
          have := hTab'.under b hm
          omega
      · rw [List.length_append, List.length_singleton, List.map_append]
        exact o16
      · have := (hle t ht).2
        show t.id < la + 1 + q
        omega
      · rcases List.mem_append.1 hs with hs | hs
        · have := hle s hs; omega
        · rw [List.mem_singleton] at hs; subst hs
          show 1 ≤ la + 1 + (q : Int) ∧ la + 1 + (q : Int) ≤ la + 1 + q
          omega
  · obtain ⟨⟨L, hTab, hap, hL⟩, hO, hids, hle, _, hB⟩ := hT
    refine (ids_any hTab (by omega)).mono ?_
    rintro e w17 ⟨a17, c17, rfl, o17, b17⟩
    have hlm : (es.map (·.id)).length = es.length := List.length_map _
    refine ⟨keepG_nil _ _, _, _, _, rfl, ?_⟩
    have hO17 := hO.below b17 (Nat.le_refl _)
    have hsame := same_eq (zs := es.map (·.id)) (c := c17) (c2 := c8) (by omega) (by rw [hlm]; exact o17) (by rw [hlm]; exact hO17)
    rw [hlm] at hsame
    refine hsame.mono ?_
    rintro e w18 ⟨rfl, b18⟩
    have b1718 := b17.trans (b18.mono b17.size)
    refine ⟨keepG_nil _ _, _, rfl, br_t rfl ((last_any (hTab.below sesR b1718)).mono ?_)⟩
    rintro e w19 ⟨rfl, rfl⟩
    refine ⟨keepG_nil _ _, _, rfl, by simp, ?_⟩
    have := hB.trans (b1718.mono hB.size)
    rwa [hp] at this
end Go.Proofs.Ytamlgnhnmilbdaa
end
section
/- CreditActs: both tables, call by call: End, Step, Set; walked. -/
namespace Go.Proofs.Ytamlgnhnmilbdaa
open Go.RowKit
/-- Both tables, the same sessions. -/
structure CBoth (w : World) (B p r : Nat) (pl la : Int) (es : List Ses) : Prop where
  ex : ∃ L M, TabAt w L p pl la es ∧ RTabAt w M r pl la es ∧ Apart L M ∧ From B L ∧ From B M
  ids : Ids es
  ok : ∀ s ∈ es, SesOk s ∧ s.id ≤ la
  len : (es.length : Int) ≤ pl
  pl16 : pl ≤ 16
theorem CBoth.below {w w' : World} {B p r : Nat} {pl la : Int} {es : List Ses} (h : CBoth w B p r pl la es) (hb : Below w.heap.size w w') : CBoth w' B p r pl la es := by
  obtain ⟨⟨L, M, h1, h2, h3⟩, k1, k2, k3, k4⟩ := h
  exact ⟨⟨L, M, h1.below sesR hb, h2.below sesR hb, h3⟩, k1, k2, k3, k4⟩
theorem ids_set {es : List Ses} (h : Ids es) {i : Nat} {s t : Ses} (ht : es[i]? = some t) (he : t.id = s.id) : Ids (es.set i s) := by
  have hi := (List.getElem?_eq_some_iff.1 ht).1
  intro a b x y hab hx hy
  by_cases ha : i = a
  · subst ha
    rw [List.getElem?_set_self hi] at hx; injection hx with hx; subst hx
    rw [List.getElem?_set_ne (by omega)] at hy
    have := h i b t y hab ht hy; omega
  · rw [List.getElem?_set_ne ha] at hx
    by_cases hb : i = b
    · subst hb
      rw [List.getElem?_set_self hi] at hy; injection hy with hy; subst hy
      have := h a i x t hab hx ht; omega
    · rw [List.getElem?_set_ne hb] at hy
      exact h a b x y hab hx hy
theorem step_both {w : World} {B p r : Nat} {pl la : Int} {es : List Ses} (h : CBoth w B p r pl la es) (x n : Int) : ∃ k : Int,
    Calls Try.prog 22 #[.pointer (some ⟨p, 0, none⟩), .int .i64 x, .int .i64 n] w (fun e w' => e = .returned (.int .i64 k) ∧ Below w.heap.size w w') ∧
    ∀ w', Below w.heap.size w w' → Calls Try.prog 59 #[.pointer (some ⟨r, 0, none⟩), .int .i64 x, .int .i64 n] w' fun e w'' => e = .returned (.int .i64 k) ∧ w' = w'' := by
  obtain ⟨⟨L, M, hT, hR, hap, hL, hM⟩, hids, hok, hlen, hpl⟩ := h
  have hnum : ∀ s ∈ es, 0 ≤ s.num ∧ s.num ≤ 4611686018427387904 := fun s hs => (hok s hs).1.2.2.1
  by_cases hx : ∃ i s, At es x i s
  · obtain ⟨i, s, hi⟩ := hx
    refine ⟨if n ≠ s.num + 1 then 15 else 0, (step_any hT (by omega) hids hnum x n).mono ?_, fun w' hb => (rDocStep_any (hR.below sesR hb) (by omega) hnum x n).mono ?_⟩
    · rintro e w' ⟨h1 | h1, hb⟩
      · obtain ⟨j, t, hj, rfl⟩ := h1
        obtain rfl : i = j := ids_inj hids hi.1 hj.1 (hi.2.trans hj.2.symm)
        have := hi.1.symm.trans hj.1; injection this with this; subst this
        exact ⟨rfl, hb⟩
      · exact absurd hi.2 (h1.1 s (List.mem_of_getElem? hi.1))
    · rintro e w'' ⟨h1 | h1, hb⟩
      · obtain ⟨j, t, hj, rfl⟩ := h1
        obtain rfl : i = j := ids_inj hids hi.1 hj.1 (hi.2.trans hj.2.symm)
        have := hi.1.symm.trans hj.1; injection this with this; subst this
        exact ⟨rfl, hb⟩
      · exact absurd hi.2 (h1.1 s (List.mem_of_getElem? hi.1))
  · refine ⟨7, (step_any hT (by omega) hids hnum x n).mono ?_, fun w' hb => (rDocStep_any (hR.below sesR hb) (by omega) hnum x n).mono ?_⟩
    · rintro e w' ⟨h1 | h1, hb⟩
      · obtain ⟨j, t, hj, rfl⟩ := h1; exact absurd ⟨j, t, hj⟩ hx
      · exact ⟨h1.2, hb⟩
    · rintro e w'' ⟨h1 | h1, hb⟩
      · obtain ⟨j, t, hj, rfl⟩ := h1; exact absurd ⟨j, t, hj⟩ hx
      · exact ⟨h1.2, hb⟩
/-- Both end a session: the same answer. -/
theorem ends_pair {w : World} {B p r : Nat} {pl la : Int} {es : List Ses} {L M : List Nat} (hT : TabAt w L p pl la es) (hR : RTabAt w M r pl la es) (hap : Apart L M) (hL : From B L) (hM : From B M) (hids : Ids es) (hok : ∀ s ∈ es, SesOk s ∧ s.id ≤ la) (hlen : (es.length : Int) ≤ pl) (hpl : pl ≤ 16) (hB : B ≤ w.heap.size) (x : Int) : ∃ k : Int,
    Calls Try.prog 13 #[.pointer (some ⟨p, 0, none⟩), .int .i64 x] w fun e w' => e = .returned (.int .i64 k) ∧ Fr L w w' ∧ Calls Try.prog 58 #[.pointer (some ⟨r, 0, none⟩), .int .i64 x] w' fun e w'' => e = .returned (.int .i64 k) ∧ Fr M w' w'' ∧ ∃ es', CBoth w'' B p r pl la es' := by
  by_cases hx : ∃ i s, At es x i s
  · obtain ⟨i, s, hi⟩ := hx
    have hil : i < es.length := (List.getElem?_eq_some_iff.1 hi.1).1
    refine ⟨0, (end_any hT (by omega) hids x).mono ?_⟩
    rintro e w' ⟨L', es', he, hT', f, g⟩
    rw [if_pos ⟨s, List.mem_of_getElem? hi.1, hi.2⟩] at he
    obtain ⟨rfl, j, t, hj1, hj2, rfl⟩ := he
    obtain rfl : i = j := ids_inj hids hi.1 hj1 (hi.2.trans hj2.symm)
    refine ⟨rfl, f, (rDocEnd_any (hR.fr sesR f hap.symm) (by omega) x).mono ?_⟩
    rintro e w'' ⟨M', es2, hR', h2, f2, g2⟩
    rcases h2 with ⟨j, t, hj, rfl, rfl⟩ | ⟨hno, _⟩
    · obtain rfl : i = j := ids_inj hids hi.1 hj.1 (hi.2.trans hj.2.symm)
      have hsz := f.size
      have hap' : Apart L' M := hap.gr g hR.under
      refine ⟨rfl, f2, es.eraseIdx i, ⟨⟨L', M', hT'.fr sesR f2 hap', hR', (hap'.symm.gr g2 hT'.under).symm, g.from hL hB, g2.from hM (by omega)⟩, ids_erase hids i, fun s hs => hok s (List.mem_of_mem_eraseIdx hs), by rw [List.length_eraseIdx_of_lt hil]; omega, hpl⟩⟩
    · exact absurd hi.2 (hno s (List.mem_of_getElem? hi.1))
  · have hno : ∀ s ∈ es, s.id ≠ x := fun s hs he => by
      obtain ⟨i, hi⟩ := List.getElem?_of_mem hs
      exact hx ⟨i, s, hi, he⟩
    refine ⟨7, (end_any hT (by omega) hids x).mono ?_⟩
    rintro e w' ⟨L', es', he, hT', f, g⟩
    rw [if_neg (fun ⟨s, h1, h2⟩ => hno s h1 h2)] at he
    obtain ⟨rfl, rfl⟩ := he
    refine ⟨rfl, f, (rDocEnd_any (hR.fr sesR f hap.symm) (by omega) x).mono ?_⟩
    rintro e w'' ⟨M', es2, hR', h2, f2, g2⟩
    rcases h2 with ⟨j, t, hj, _⟩ | ⟨_, rfl, rfl⟩
    · exact absurd ⟨j, t, hj⟩ hx
    · have hsz := f.size
      have hap' : Apart L' M := hap.gr g hR.under
      exact ⟨rfl, f2, _, ⟨⟨L', M', hT'.fr sesR f2 hap', hR', (hap'.symm.gr g2 hT'.under).symm, g.from hL hB, g2.from hM (by omega)⟩, hids, hok, hlen, hpl⟩⟩
end Go.Proofs.Ytamlgnhnmilbdaa
end
