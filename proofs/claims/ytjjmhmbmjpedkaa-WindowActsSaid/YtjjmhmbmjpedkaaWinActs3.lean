/- WindowActs: in every row of calls a window answers what the chapter says; of none nothing is told. -/
import Derived.Test.YtjjmhmbmjpedkaaWinActs2
import Derived.Test.YtjjmhmbmjpedkaaLibRows
namespace Go.Proofs.Ytjjmhmbmjpedkaa
open Go.RowKit Go.WideShapes Go.ChangeShapes
structure ActD where
  kp : Bool
  by' : Int
  raw : Bool
  q : List UInt8
  a : List UInt8
def ActAt (w : World) (b off : Nat) (x : ActD) : Prop := ∃ a3 c3 a4 c4, cellsAt w b off [.bool x.kp, .int .i64 x.by', .bool x.raw, .slice a3 x.q.length c3, .slice a4 x.a.length c4] ∧ RowAt w a3 (x.q.map bV) ∧ x.q.length ≤ c3 ∧ RowAt w a4 (x.a.map bV) ∧ x.a.length ≤ c4
theorem ActAt.below {w w' : World} {b off : Nat} {x : ActD} (h : ActAt w b off x) {B : Nat} (hb : Below B w w') (hB : w.heap.size ≤ B) : ActAt w' b off x := by
  obtain ⟨a3, c3, a4, c4, h1, h2, h3, h4, h5⟩ := h
  exact ⟨a3, c3, a4, c4, cellsAt_below h1 hb hB, h2.below hb hB, h3, h4.below hb hB, h5⟩
def shAct : Sh := .agg (.fcons 0 1 .bool (.fcons 1 1 (.int .i64) (.fcons 2 1 .bool (.fcons 3 1 shBytes (.fcons 4 1 shBytes .fnil)))))
theorem act_elem {w : World} (cs' : List Value) (b off : Nat) (hl : cs'.length = 5) (hc : cellsAt w b off cs') (h : shAct.Has w cs') : ∃ x, ActAt w b off x := by
  obtain ⟨⟨k, hk⟩, ⟨z, hz, _⟩, ⟨y, hy⟩, hq, hr, _⟩ := h
  obtain ⟨q, a3, c3, hq1, hq2, _, hq3⟩ := has_bytes hq
  obtain ⟨r, a4, c4, hr1, hr2, _, hr3⟩ := has_bytes hr
  match cs', hl with
  | [v0, v1, v2, v3, v4], _ =>
    simp at hk hz hy hq1 hr1
    subst hk; subst hz; subst hy; subst hq1; subst hr1
    exact ⟨⟨k, z, y, q, r⟩, a3, c3, a4, c4, hc, hq3, hq2, hr3, hr2⟩
theorem open_acts {H : Type} {enc : TypeId × Value → H} {W : World} {t : TypeId} {v : Value} {d : DataW H} {p : List MemPlace} (hf : fitsB Try.prog (.slice shAct 5) t = true) (hv : ∃ a l c, v = .slice a l c) (h : DataW.Trod enc Try.prog W 0 (fun _ => true) true t v d p) :
    ∃ (xs : List ActD) (a : Option Addr) (c : Nat), v = .slice a xs.length c ∧ RowsAt ActAt 5 W a xs ∧ xs.length ≤ c ∧ c ≤ maxLen := open_rows (by decide) act_elem hf hv h
theorem wLook_nil (n : Int) (a : Option Addr) (m c : Nat) (w : World) : Calls Try.prog 16 #[.pointer none, .int .i64 n, .slice a m c] w fun e w' => e = .returned (.tuple #[.slice none 0 0, .int .i64 1]) ∧ Below w.heap.size w w' := by
  refine (GWin.wLook_calls none n a m c w (fun v w' => v = .tuple #[.slice none 0 0, .int .i64 1] ∧ Below w.heap.size w w') ?_).mono (by rintro e w' ⟨v, rfl, rfl, hb⟩; exact ⟨rfl, hb⟩)
  unfold GWin.wLook_vc
  exact newO_in fun w2 h2 b2 s2 => br_t rfl ⟨rfl, b2⟩
theorem wKeep_nil (n : Int) (a a2 : Option Addr) (m c m2 c2 : Nat) (w : World) : Calls Try.prog 15 #[.pointer none, .int .i64 n, .slice a m c, .slice a2 m2 c2] w fun e w' => e = .returned (.int .i64 1) ∧ Below w.heap.size w w' := by
  refine (GWin.wKeep_calls none n a m c a2 m2 c2 w (fun v w' => v = .int .i64 1 ∧ Below w.heap.size w w') ?_).mono (by rintro e w' ⟨v, rfl, rfl, hb⟩; exact ⟨rfl, hb⟩)
  unfold GWin.wKeep_vc
  refine (wLook_nil n a m c w).mono ?_
  rintro e w2 ⟨rfl, b2⟩
  exact ⟨keepG_nil _ _, _, _, _, _, rfl, br_n (by decide) (br_y (by decide) ⟨rfl, b2⟩)⟩
theorem wLast_nil (w : World) : Calls Try.prog 17 #[.pointer none] w fun e w' => e = .returned (.int .i64 0) ∧ w = w' := by
  refine (GWin.wLast_calls none w (fun v w' => v = .int .i64 0 ∧ w = w') ?_).mono (by rintro e w' ⟨v, rfl, rfl, rfl⟩; exact ⟨rfl, rfl⟩)
  exact br_t rfl ⟨rfl, rfl⟩
theorem wLen_nil (w : World) : Calls Try.prog 31 #[.pointer none] w fun e w' => e = .returned (.int .i64 0) ∧ w = w' := by
  refine (GWin.wLen_calls none w (fun v w' => v = .int .i64 0 ∧ w = w') ?_).mono (by rintro e w' ⟨v, rfl, rfl, rfl⟩; exact ⟨rfl, rfl⟩)
  exact br_t rfl ⟨rfl, rfl⟩
theorem wWrite_nil (w : World) : Calls Try.prog 30 #[.pointer none] w fun e w' => e = .returned (.tuple #[.slice none 0 0, .int .i64 1]) ∧ w = w' := by
  refine (GWinActs.wWrite_calls none w (fun v w' => v = .tuple #[.slice none 0 0, .int .i64 1] ∧ w = w') ?_).mono (by rintro e w' ⟨v, rfl, rfl, rfl⟩; exact ⟨rfl, rfl⟩)
  exact br_t rfl ⟨rfl, rfl⟩
theorem lNone_any (w : World) : Calls Try.prog 29 #[] w fun e w' => e = .returned (.pointer none) ∧ w = w' := by
  refine (GWinActs.lNone_calls w (fun v w' => v = .pointer none ∧ w = w') ?_).mono (by rintro e w' ⟨v, rfl, rfl, rfl⟩; exact ⟨rfl, rfl⟩)
  exact ⟨rfl, rfl⟩
theorem refWin_len {m : Nat} {st : Bool} {es : List Ent} : ((refWin m st es).ents.length : Int) = (((es.drop (es.length - m)).length : Nat) : Int) := rfl
theorem refWin_last {m : Nat} {st : Bool} {es : List Ent} : (refWin m st es).last = lastNum es := rfl
theorem lActs_walk (z : Int) (st : Bool) (a : Option Addr) (ca : Nat) (xs : List ActD) (w : World) (hl : xs.length ≤ maxLen) (hr : RowsAt ActAt 5 w a xs) :
    Calls Try.prog 7 #[.int .i64 z, .bool st, .slice a xs.length ca] w fun e w' => e = .returned (.bool true) ∧ Below w.heap.size w w' := by
  refine (GWinActs.lActs_calls z st a xs.length ca w (fun v w' => v = .bool true ∧ Below w.heap.size w w') ?_).mono (by rintro e w' ⟨v, rfl, rfl, hb⟩; exact ⟨rfl, hb⟩)
  unfold GWinActs.lActs_vc
  refine (lNone_any w).mono ?_
  rintro e w' ⟨rfl, rfl⟩
  refine ⟨keepG_nil _ _, _, rfl, (wLook_nil 0 none 0 0 w).mono ?_⟩
  rintro e w2 ⟨rfl, b2⟩
  refine ⟨keepG_nil _ _, _, _, _, _, rfl, (lNone_any w2).mono ?_⟩
  rintro e w' ⟨rfl, rfl⟩
  refine ⟨keepG_nil _ _, _, rfl, (wWrite_nil w2).mono ?_⟩
  rintro e w'' ⟨rfl, rfl⟩
  refine ⟨keepG_nil _ _, _, _, _, _, rfl, (windows_any w2).mono ?_⟩
  rintro e w3 ⟨rfl, b3⟩
  have B3 := b2.trans (b3.mono b2.size)
  refine ⟨keepG_nil _ _, _, rfl, br_f rfl (br_n (by decide) (br_n (by decide) ?_))⟩
  refine (lNone_any w3).mono ?_
  rintro e w4 ⟨rfl, rfl⟩
  refine ⟨keepG_nil _ _, _, rfl, (wKeep_nil 0 none none 0 0 0 0 w3).mono ?_⟩
  rintro e w5 ⟨rfl, b5⟩
  have B5 := B3.trans (b5.mono B3.size)
  refine ⟨keepG_nil _ _, _, rfl, br_n (by decide) ((lNone_any w5).mono ?_)⟩
  rintro e w6 ⟨rfl, rfl⟩
  refine ⟨keepG_nil _ _, _, rfl, (wLast_nil w5).mono ?_⟩
  rintro e w7 ⟨rfl, rfl⟩
  refine ⟨keepG_nil _ _, _, rfl, br_n (by decide) ((lNone_any w5).mono ?_)⟩
  rintro e w8 ⟨rfl, rfl⟩
  refine ⟨keepG_nil _ _, _, rfl, (wLen_nil w5).mono ?_⟩
  rintro e w9 ⟨rfl, rfl⟩
  refine ⟨keepG_nil _ _, _, rfl, br_n (by decide) ?_⟩
  by_cases hz : z < 1 ∨ 64 < z
  · refine (wNew_bad z st w5 hz).mono ?_
    rintro e w10 ⟨rfl, rfl⟩
    refine ⟨keepG_nil _ _, _, _, rfl, br_dec (fun h1 => br_t rfl ⟨rfl, B5⟩) fun h1 => br_y (by omega) (br_t rfl ⟨rfl, B5⟩)⟩
  · obtain ⟨m, rfl⟩ : ∃ m : Nat, z = m := ⟨z.toNat, by omega⟩
    refine (wNew_any m st w5 (by omega) (by omega)).mono ?_
    rintro e w10 ⟨rfl, hw10, b10⟩
    have B10 := B5.trans (b10.mono B5.size)
    refine ⟨keepG_nil _ _, _, _, rfl, br_n (by omega) (br_n (by omega) ?_)⟩
    refine newO_in fun w11 h11 b11 s11 => ?_
    have B11 := B10.trans (b11.mono B10.size)
    have hp10 := hw10.under w5.heap.size (by simp)
    have hs5 := B5.size
    refine ⟨fun x wx => ∃ (i : Nat) (es : List Ent) (L M : List Nat), x = i ∧ i ≤ xs.length ∧ i ≤ 100 ∧ es.length ≤ i ∧ WinAt wx L w5.heap.size (refWin m st es) ∧ RefAt wx M w10.heap.size m st es ∧ Apart L M ∧ From w.heap.size L ∧ From w.heap.size M ∧ Below w.heap.size w wx, fun x _ => 100 - x.toNat, ?_, ?_⟩
    · refine ⟨0, [], [w5.heap.size], [w10.heap.size], rfl, by omega, by omega, by simp, ?_, ?_, fun k h1 h2 => ?_, fun k h1 => ?_, fun k h1 => ?_, B11⟩
      · rw [show refWin m st [] = (⟨m, st, -1, []⟩ : Win) by simp [refWin, lastWin, lastNum]]
        exact hw10.below b11
      · exact ⟨⟨none, 0, h11, Own.nil _ _ _ _, (by simp [Value.ownBlock]), fun k hk => by simp [Value.ownBlock] at hk⟩, by simp, fun k hk => by rw [List.mem_singleton] at hk; omega, by simp, by omega, by omega, by simp⟩
      · rw [List.mem_singleton] at h1 h2; omega
      · rw [List.mem_singleton] at h1; omega
      · rw [List.mem_singleton] at h1; have := B10.size; omega
    rintro x wx ⟨i, es, L, M, rfl, hi, hi2, hes, hW, hR, hap, hfL, hfM, hb⟩
    have fin : (Value.bool (decide ((0 : Int) = 0)) = .bool true) ∧ Below w.heap.size w wx := ⟨rfl, hb⟩
    refine br_dec (fun hlt => br_dec (fun hlt2 => ?_) fun _ => fin) fun _ => fin
    have hil : i < xs.length := by omega
    obtain ⟨b, off, rfl, a3, c3, a4, c4, hc, r3, l3, r4, l4⟩ := RowsAt.get (RowsAt.mono hr fun b off x h => h.below hb (Nat.le_refl _)) hil
    refine ⟨by omega, by omega, _, _, _, _, _, _, _, _, _, hc, ?_⟩
    refine (aDo_any _ _ _ a3 a4 c3 c4 _ _ _ _ m st es L M wx hW hR hap (by omega) r3 l3 r4 l4).mono ?_
    rintro e w16 ⟨rfl, L', M', es', hW', hR', hap', hlen, hF, hG1, hG2⟩
    have B16 : Below w.heap.size w w16 := hb.trans (hF.below (fun k hk => (List.mem_append.1 hk).elim (hfL k) (hfM k)) hb.size)
    refine ⟨keepG_nil _ _, _, rfl, br_f rfl ?_⟩
    refine (wLast_any _ _ L' w16 hW').mono ?_
    rintro e w17 ⟨rfl, rfl⟩
    refine ⟨keepG_nil _ _, _, rfl, (rLast_any _ m st es' M' w17 hR').mono ?_⟩
    rintro e w18 ⟨rfl, b18⟩
    have B18 := B16.trans (b18.mono B16.size)
    refine ⟨keepG_nil _ _, _, rfl, br_n (by rw [refWin_last]; simp) ?_⟩
    refine (wLen_any _ _ L' w18 (hW'.below b18)).mono ?_
    rintro e w19 ⟨rfl, rfl⟩
    refine ⟨keepG_nil _ _, _, rfl, (rKept_any _ m st es' M' w19 (hR'.below b18)).mono ?_⟩
    rintro e w20 ⟨⟨a100, c100, rfl, _⟩, b20⟩
    refine ⟨keepG_nil _ _, _, _, _, rfl, br_n (by rw [refWin_len]; simp) ?_⟩
    rw [wr64 (by omega) (by omega)]
    exact ⟨⟨i + 1, es', L', M', by omega, by omega, by omega, by omega, (hW'.below b18).below b20, (hR'.below b18).below b20, hap', hG1.from hfL hb.size, hG2.from hfM hb.size, B18.trans (b20.mono B18.size)⟩, by dsimp only; omega⟩
end Go.Proofs.Ytjjmhmbmjpedkaa
