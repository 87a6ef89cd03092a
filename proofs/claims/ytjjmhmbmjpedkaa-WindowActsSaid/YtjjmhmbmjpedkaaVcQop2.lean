/- The operations that only read, one by one: the rest; each of them yields. No program in sight. -/
import Derived.Test.YtjjmhmbmjpedkaaVcQop
import Derived.Lib.ConvBytes
namespace Go.Proofs.Ytjjmhmbmjpedkaa
open Go.RowKit
variable {P : Program} {E : Env}
section
variable {n : Nat} {ρ : SFr} {σ : List LB} {a : Act} {w : World} {o : Oper} {K : SV → SFact → Prop}
theorem evv (hr : Rep n ρ σ a w) {x : Operand} {v : Value} (h : ev ρ x = some (.v v)) : a.eval x = v := by
  obtain ⟨y, h1, h2⟩ := hr.ev h
  cases h1; exact h2
theorem q_nil (hr : Rep n ρ σ a w) {x : Operand} (ho : o.op = .nilCheck x) (h : qop E o.op ρ σ w K) : Yields P o a σ w K := by
  rw [ho] at h
  simp only [qop] at h
  split at h
  · rename_i id off hx
    obtain ⟨b, hb, hev⟩ := hr.evP hx
    exact ⟨_, _, .pointer (some ⟨b.g, off, none⟩), h, by simp [den, hb], trivial, fun wx _ => by simp [execOp, ho, hev], fun b hb => by cases hb⟩
  · rename_i p hx
    have hev := evv hr hx
    obtain ⟨b, off, rfl, h⟩ := withP_get h
    exact yields_tt h fun wx => by simp [execOp, ho, hev]
  · rename_i f fs cs hx
    have hev := evv hr hx
    exact yields_tt h fun wx => by simp [execOp, ho, hev]
  · exact h.elim
theorem q_bin (hE : EOk P E) (hr : Rep n ρ σ a w) {op : BinOp} {t u : TypeId} {x y : Operand} (ho : o.op = .binOp op t x y u) (h : qop E o.op ρ σ w K) : Yields P o a σ w K := by
  rw [ho] at h
  simp only [qop] at h
  split at h
  · rename_i id off hx hy
    obtain ⟨b, hb, hev⟩ := hr.evP hx
    have hev2 := evv hr hy
    split at h
    · rename_i i hi
      split at h
      · rename_i hk
        obtain ⟨e, hu⟩ := hE.ptr hi hk
        cases op <;> simp only [nilCmp] at h
        case eql =>
          refine yields_tt h fun wx => ?_
          have e1 : (eqGuard .eql t x y (.pointer (some ⟨b.g, off, none⟩)) (.pointer none)).run P wx = .ok () wx := rfl
          have e2 : (binOp .eql t (.pointer (some ⟨b.g, off, none⟩)) (.pointer none)).run P wx = .ok (.bool false) wx := by simp [binOp, run_eq_ptr hu]
          simp [execOp, ho, hev, hev2, e1, e2]
        case neq =>
          refine yields_tt h fun wx => ?_
          have e1 : (eqGuard .neq t x y (.pointer (some ⟨b.g, off, none⟩)) (.pointer none)).run P wx = .ok () wx := rfl
          have e2 : (binOp .neq t (.pointer (some ⟨b.g, off, none⟩)) (.pointer none)).run P wx = .ok (.bool true) wx := by simp [binOp, run_eq_ptr hu]
          simp [execOp, ho, hev, hev2, e1, e2]
      · exact h.elim
    · exact h.elim
  · rename_i vx vy hx hy
    have hev := evv hr hx
    have hev2 := evv hr hy
    obtain ⟨v, h1, h2⟩ := qbin_sound hE x y h
    refine yields_tt h1 fun wx => ?_
    have := h2 wx
    simp only [execOp, ho, hev, hev2, Sem.run_bind] at this ⊢
    rw [this]
    rfl
  · exact h.elim
theorem q_un (hr : Rep n ρ σ a w) {op : UnOp} {t : TypeId} {x : Operand} (ho : o.op = .unOp op t x) (h : qop E o.op ρ σ w K) : Yields P o a σ w K := by
  rw [ho] at h
  simp only [qop] at h
  replace h := hr.evV h
  split at h
  · rename_i b hb
    exact yields_tt h fun wx => by simp [execOp, ho, hb, Op.unary]
  · rename_i k z hz
    exact yields_tt h fun wx => by simp [execOp, ho, hz, Op.unary, Op.intArith]
  · exact h.elim
theorem run_conv_str (t u e : TypeId) (ht : P.underlying t = some (.slice e)) (he : P.underlying e = some (.int .u8)) (hu : P.underlying u = some .string) (w : World) (a : Option Addr) (c : Nat) (bs : List UInt8) (h : RowAt w a (bs.map bV)) :
    (convert t u (.slice a bs.length c)).run P w = .ok (.string (strOf bs)) w := conv_str (P := P) t u ht he hu w a c bs h
theorem q_convert (hE : EOk P E) (hr : Rep n ρ σ a w) {t u : TypeId} {x : Operand} (ho : o.op = .convert t u x) (h : qop E o.op ρ σ w K) : Yields P o a σ w K := by
  rw [ho] at h
  simp only [qop] at h
  replace h := hr.evV h
  split at h
  · rename_i s d hs hd
    split at h
    · rename_i k k' k'' z hk hk' hz
      have h1 := hE.int hs hk
      have h2 := hE.int hd hk'
      exact yields_tt h fun wx => by simp [execOp, ho, hz, convert, run_underlying h1, run_underlying h2, Conv.intToInt]
    · rename_i b hk hk' hz
      have h1 := hE.str hs hk
      have h2 := hE.str hd hk'
      exact yields_tt h fun wx => by simp [execOp, ho, hz, convert, run_underlying h1, run_underlying h2]
    · rename_i e ad m c hk hk' hz
      split at h
      · rename_i ei hei
        split at h
        · rename_i hek
          obtain ⟨bs, rfl, hrow, h⟩ := h
          refine ⟨_, _, _, h, rfl, hrow, fun wx hx => ?_, fun b hb => by cases hb⟩
          have := run_conv_str (P := P) t u e (hE.slice hs hk) (hE.int hei hek) (hE.str hd hk') wx ad c bs hx
          simp [execOp, ho, hz, this]
        · exact h.elim
      · exact h.elim
    · exact h.elim
  · exact h.elim
theorem q_func (hr : Rep n ρ σ a w) {f : Fn} {x y : Array Operand} (ho : o.op = .makeFunc f x y) (h : qop E o.op ρ σ w K) : Yields P o a σ w K := by
  rw [ho] at h
  simp only [qop] at h
  replace h := evL_get hr (evL_get hr h)
  refine yields_tt h fun wx => ?_
  simp only [execOp, ho, Instr.makeFunc, Sem.run_bind, Sem.run_pure, Result.andThen_ok, List.nil_append]
  congr 2
  congr 1 <;> apply Array.ext' <;> simp
theorem sliced_base (ad : Option Addr) (l h m s : Nat) : sliced ad l h m s = .slice (sliceBase ad m l s) (h - l) (m - l) := rfl
theorem sliceBase_zero (ad : Option Addr) (c s : Nat) : sliceBase ad c 0 s = ad := by
  unfold sliceBase
  split
  · rfl
  · cases ad with
    | none => rfl
    | some a => simp [Addr.add]
theorem sliceQ_get {t e : TypeId} {ei : TI} (hE : EOk P E) (hu : P.underlying t = some (.slice e)) (hei : lkT E.tys e = some ei) {ad : Option Addr} {m c : Nat} {lo hi : Option Value} {K : Value → Prop} (h : sliceQ ad m c ei.size lo hi K) :
    ∃ v, K v ∧ ∀ wx, (Instr.sliceAt t (.slice ad m c) lo hi none).run P wx = .ok v wx := by
  have he : P.elem t = e := by simp [Program.elem, hu]
  have hu' : P.underlying t = some (.slice (P.elem t)) := by rw [he]; exact hu
  unfold sliceQ at h
  split at h
  · refine ⟨_, h, fun wx => ?_⟩
    rw [run_sliceAt_slice _ _ _ _ _ _ hu', run_slice_all _ _ _ _ _ hu', he, hE.sizeOf hei, Result.andThen_ok, sliced_base, sliceBase_zero, Nat.sub_zero, Nat.sub_zero]
  · obtain ⟨h0, h1, h⟩ := h
    refine ⟨_, h, fun wx => ?_⟩
    rw [run_sliceAt_slice _ _ _ _ _ _ hu', run_slice_h _ _ _ _ _ hu' _ _ h0 h1, he, hE.sizeOf hei, Result.andThen_ok, sliced_base, sliceBase_zero, Nat.sub_zero, Nat.sub_zero]
  · obtain ⟨h0, h1, h⟩ := h
    refine ⟨_, h, fun wx => ?_⟩
    rw [run_sliceAt_slice _ _ _ _ _ _ hu', run_slice_l _ _ _ _ _ hu' _ _ h0 h1, he, hE.sizeOf hei, Result.andThen_ok, sliced_base]
  · obtain ⟨h0, h1, h2, h⟩ := h
    refine ⟨_, h, fun wx => ?_⟩
    rw [run_sliceAt_slice _ _ _ _ _ _ hu', run_slice_lh _ _ _ _ _ hu' _ _ _ _ h0 h1 h2, he, hE.sizeOf hei, Result.andThen_ok, sliced_base]
  · exact h.elim
theorem sliceS_get {t : TypeId} (hu : P.underlying t = some .string) {s : ByteArray} {lo hi : Option Value} {K : Value → Prop} (h : sliceS s lo hi K) :
    ∃ v, K v ∧ ∀ wx, (Instr.sliceAt t (.string s) lo hi none).run P wx = .ok v wx := by
  unfold sliceS at h
  split at h
  · refine ⟨_, h, fun wx => ?_⟩
    rw [run_sliceAt_string _ _ _ _ _ _ hu]
    simp [Instr.slice, run_underlying hu, Instr.sliceBounds]
  · obtain ⟨h0, h1, h⟩ := h
    refine ⟨_, h, fun wx => ?_⟩
    rw [run_sliceAt_string _ _ _ _ _ _ hu]
    simp [Instr.slice, run_underlying hu, Instr.sliceBounds, run_sliceBound, h0, h1]
  · obtain ⟨h0, h1, h⟩ := h
    refine ⟨_, h, fun wx => ?_⟩
    rw [run_sliceAt_string _ _ _ _ _ _ hu]
    simp [Instr.slice, run_underlying hu, Instr.sliceBounds, run_sliceBound, h0, h1]
  · rename_i kl l kh hh
    obtain ⟨h0, h1, h2, h⟩ := h
    refine ⟨_, h, fun wx => ?_⟩
    rw [run_sliceAt_string _ _ _ _ _ _ hu]
    have eh : (hh.toNat : Int) = hh := Int.toNat_of_nonneg (by omega)
    simp [Instr.slice, run_underlying hu, Instr.sliceBounds, run_sliceBound, h0, h1, h2, eh, show 0 ≤ hh by omega]
  · exact h.elim
theorem q_slice (hE : EOk P E) (hr : Rep n ρ σ a w) {t : TypeId} {x : Operand} {lo hi mx : Option Operand} (ho : o.op = .slice t x lo hi mx) (h : qop E o.op ρ σ w K) : Yields P o a σ w K := by
  rw [ho] at h
  cases mx with
  | some m => exact h.elim
  | none =>
    simp only [qop] at h
    split at h
    · rename_i i hi'
      replace h := hr.evV (evO_get hr (evO_get hr h))
      split at h
      · rename_i e ad m c hk hx
        split at h
        · rename_i ei hei
          obtain ⟨v, h1, h2⟩ := sliceQ_get hE (hE.slice hi' hk) hei h
          exact yields_tt h1 fun wx => by simp [execOp, ho, hx, h2 wx]
        · exact h.elim
      · rename_i s hk hx
        obtain ⟨v, h1, h2⟩ := sliceS_get (hE.str hi' hk) h
        exact yields_tt h1 fun wx => by simp [execOp, ho, hx, h2 wx]
      · exact h.elim
    · exact h.elim
theorem field_get {F : Array Field} {fs : List (Nat × TypeId)} {f o' : Nat} {ft : TypeId} (hF : F.toList.map (fun f => (f.offset, f.type)) = fs) (hn : nthF fs f = some (o', ft)) : ∃ fd, F[f]? = some fd ∧ fd.offset = o' ∧ fd.type = ft := by
  rw [nthF_eq, ← hF, List.getElem?_map] at hn
  cases hq : F[f]? with
  | none => simp [hq] at hn
  | some fd => simp [hq] at hn; exact ⟨fd, rfl, hn.1, hn.2⟩
theorem q_fieldAddr (hE : EOk P E) (hr : Rep n ρ σ a w) {t : TypeId} {x : Operand} {f : Nat} (ho : o.op = .fieldAddr t x f) (h : qop E o.op ρ σ w K) : Yields P o a σ w K := by
  rw [ho] at h
  simp only [qop] at h
  split at h
  · rename_i i hi
    split at h
    · rename_i fs hk
      obtain ⟨F, hu, hF⟩ := hE.struct hi hk
      split at h
      · rename_i o' ft hn
        obtain ⟨fd, hfd, rfl, rfl⟩ := field_get hF hn
        split at h
        · rename_i fi hfi
          have hz : fi.size ≠ 0 := fun e => by rw [e] at h; exact h.elim
          have hb : Nat.beq fi.size 0 = false := by cases hs : fi.size; exact absurd hs hz; rfl
          rw [hb] at h
          simp only [cond_false] at h
          have key : ∀ (b off : Nat) (wx : World), (Instr.fieldAt t (.pointer (some ⟨b, off, none⟩)) f).run P wx = .ok (.pointer (some ⟨b, off + fd.offset, none⟩)) wx := fun b off wx => by
            simp [Instr.fieldAt, run_underlying hu, hfd, Instr.sureAddr, fieldPlace, hE.sizeOf hfi, hz, Addr.add_lit]
          split at h
          · rename_i id off hx
            obtain ⟨b, hb, hev⟩ := hr.evP hx
            exact ⟨_, _, .pointer (some ⟨b.g, off + fd.offset, none⟩), h, by simp [den, hb], trivial, fun wx _ => by simp [execOp, ho, hev, key], fun b hb => by cases hb⟩
          · rename_i p hx
            have hev := evv hr hx
            obtain ⟨b, off, rfl, h⟩ := withP_get h
            exact yields_tt h fun wx => by simp [execOp, ho, hev, key]
          · exact h.elim
        · exact h.elim
      · exact h.elim
    · exact h.elim
  · exact h.elim
theorem run_part_agg (hE : EOk P E) {t : TypeId} {ti : TI} (ht : lkT E.tys t = some ti) (hk : isAggK ti.k = true) (cs : Array Value) (off : Nat) (wx : World) : (part t cs off).run P wx = .ok (.agg (cutL cs.toList off ti.size).toArray) wx := by
  simp only [part, Sem.run_bind, hE.isAgg ht, hk, Result.andThen_ok, if_true, hE.sizeOf ht, Sem.run_pure]
  congr 2
  apply Array.ext'
  simp [cutL]
theorem run_part_one (hE : EOk P E) {t : TypeId} {ti : TI} (ht : lkT E.tys t = some ti) (hk : isAggK ti.k = false) (cs : Array Value) (off : Nat) (v : Value) (hv : nth cs.toList off = some v) (wx : World) : (part t cs off).run P wx = .ok v wx := by
  rw [nth_eq] at hv
  have hv : cs[off]? = some v := by simpa using hv
  simp [part, hE.isAgg ht, hk, hv]
theorem q_field (hE : EOk P E) (hr : Rep n ρ σ a w) {t : TypeId} {x : Operand} {f : Nat} (ho : o.op = .field t x f) (h : qop E o.op ρ σ w K) : Yields P o a σ w K := by
  rw [ho] at h
  simp only [qop] at h
  split at h
  · rename_i i hi
    split at h
    · rename_i fs hk
      obtain ⟨F, hu, hF⟩ := hE.struct hi hk
      split at h
      · rename_i o' ft hn
        obtain ⟨fd, hfd, rfl, rfl⟩ := field_get hF hn
        split at h
        · rename_i fi hfi
          replace h := hr.evV h
          split at h
          · rename_i cs hx
            cases hk : isAggK fi.k
            · rw [hk] at h
              simp only [cond_false] at h
              split at h
              · rename_i v hv
                have := run_part_one hE hfi hk cs fd.offset v hv
                exact yields_tt h fun wx => by simp [execOp, ho, hx, Instr.field, run_underlying hu, hfd, asAgg, this]
              · exact h.elim
            · rw [hk] at h
              simp only [cond_true] at h
              have := run_part_agg hE hfi hk cs fd.offset
              exact yields_tt h fun wx => by simp [execOp, ho, hx, Instr.field, run_underlying hu, hfd, asAgg, this]
          · exact h.elim
        · exact h.elim
      · exact h.elim
    · exact h.elim
  · exact h.elim
theorem q_indexAddr (hE : EOk P E) (hr : Rep n ρ σ a w) {t : TypeId} {x y : Operand} (ho : o.op = .indexAddr t x y) (h : qop E o.op ρ σ w K) : Yields P o a σ w K := by
  rw [ho] at h
  simp only [qop] at h
  split at h
  · rename_i i hi
    split at h
    · rename_i e hk
      have hu := hE.slice hi hk
      split at h
      · rename_i ei hei
        replace h := hr.evV (hr.evV h)
        split at h
        · rename_i ad m c k z hx hz
          obtain ⟨b, off, rfl, h0, h1, h⟩ := withP_get h
          exact yields_tt h fun wx => by simp [execOp, ho, hx, hz, Instr.indexAt, asIntOf, run_underlying hu, h0, h1, hE.sizeOf hei, Addr.add_lit]
        · exact h.elim
      · exact h.elim
    · rename_i m e hk
      have hu := hE.arr hi hk
      split at h
      · rename_i ei hei
        replace h := hr.evV h
        split at h
        · rename_i p k z hx hz
          have hev := evv hr hx
          obtain ⟨b, off, rfl, h0, h1, h⟩ := withP_get h
          exact yields_tt h fun wx => by simp [execOp, ho, hev, hz, Instr.indexAt, asIntOf, run_underlying hu, Instr.sureAddr, h0, h1, hE.sizeOf hei, Addr.add_lit]
        · rename_i id off kk k hx hz
          obtain ⟨b, hb, hev⟩ := hr.evP hx
          obtain ⟨hlt, h⟩ := cond_get h
          have hlt : k < m := Nat.le_of_ble_eq_true hlt
          refine ⟨_, _, .pointer (some ⟨b.g, off + k * ei.size, none⟩), h, by simp [den, hb], trivial, fun wx _ => ?_, fun b hb => by cases hb⟩
          simp [execOp, ho, hev, hz, Instr.indexAt, asIntOf, run_underlying hu, Instr.sureAddr, hlt, hE.sizeOf hei, Addr.add_lit]
        · exact h.elim
      · exact h.elim
    · exact h.elim
  · exact h.elim
theorem q_index (hE : EOk P E) (hr : Rep n ρ σ a w) {t : TypeId} {x y : Operand} (ho : o.op = .index t x y) (h : qop E o.op ρ σ w K) : Yields P o a σ w K := by
  rw [ho] at h
  simp only [qop] at h
  split at h
  · rename_i i hi
    replace h := hr.evV (hr.evV h)
    split at h
    · rename_i s k z hk hx hz
      obtain ⟨h0, h1, h⟩ := h
      have hu := hE.str hi hk
      refine yields_tt h fun wx => ?_
      have hlt : z.toNat < s.size := by omega
      have hb : s[z.toNat]? = some (s.data.toList.getD z.toNat 0) := by
        have hl : z.toNat < s.data.toList.length := by simpa using hlt
        rw [List.getD_eq_getElem?_getD, List.getElem?_eq_getElem hl]
        simp [hlt]
        rfl
      simp [execOp, ho, hx, hz, Instr.index, asIntOf, run_underlying hu, h0, hb, byteAt]
    · rename_i m e cs k z hk hx hz
      have hu := hE.arr hi hk
      split at h
      · rename_i ei hei
        cases hag : isAggK ei.k
        · rw [hag] at h
          simp only [cond_false] at h
          obtain ⟨hs, h0, h1, h⟩ := cond_get h
          have hs := Nat.eq_of_beq_eq_true hs
          split at h
          · rename_i l hl
            obtain ⟨v, hv, h⟩ := exLf_get h
            have := run_part_one hE hei hag cs z.toNat v (by rw [nth_eq]; exact hv)
            exact yields_tt h fun wx => by simp [execOp, ho, hx, hz, Instr.index, asIntOf, run_underlying hu, h0, h1, hE.sizeOf hei, hs, this]
          · exact h.elim
        · rw [hag] at h; exact h.elim
      · exact h.elim
    · exact h.elim
  · exact h.elim
theorem q_extract (hr : Rep n ρ σ a w) {x : Operand} {i : Nat} (ho : o.op = .extract x i) (h : qop E o.op ρ σ w K) : Yields P o a σ w K := by
  rw [ho] at h
  simp only [qop] at h
  replace h := hr.evV h
  split at h
  · rename_i vs hx
    split at h
    · rename_i y hy
      rw [nth_eq] at hy
      have hy : vs[i]? = some y := by simpa using hy
      exact yields_tt h fun wx => by simp [execOp, ho, hx, Instr.extract, hy]
    · exact h.elim
  · exact h.elim
theorem min2_int (k k' : IntKind) (x y : Int) (wx : World) : (Builtin.min2 (.int k x) (.int k' y)).run P wx = .ok (.int k (min x y)) wx := by
  simp only [Builtin.min2, Sem.run_pure]
  congr 2
  split <;> omega
theorem max2_int (k k' : IntKind) (x y : Int) (wx : World) : (Builtin.max2 (.int k x) (.int k' y)).run P wx = .ok (.int k (max x y)) wx := by
  simp only [Builtin.max2, Sem.run_pure]
  congr 2
  split <;> omega
theorem qbuiltin_sound (hE : EOk P E) {b : Builtin} {t : Array TypeId} {args : List Value} {K : Value → Prop} (ty : TypeId) (cs : Array Bool) (h : qbuiltin E b t args K) : ∃ v, K v ∧ ∀ wx, (builtin b t ty cs args.toArray).run P wx = .ok (.value v) wx := by
  unfold qbuiltin at h
  split at h
  · rename_i x
    split at h
    · rename_i t0 ht
      have ht : t = #[t0] := by apply Array.ext'; simpa using ht
      subst ht
      split at h
      · rename_i i hi
        split at h
        · rename_i e ad m c hk
          exact ⟨_, h, fun wx => by simp [builtin, Builtin.len_, run_underlying (hE.slice hi hk), goInt]⟩
        · rename_i s hk
          exact ⟨_, h, fun wx => by simp [builtin, Builtin.len_, run_underlying (hE.str hi hk), goInt]⟩
        · rename_i m e v hk
          exact ⟨_, h, fun wx => by simp [builtin, Builtin.len_, run_underlying (hE.arr hi hk), goInt]⟩
        · exact h.elim
      · exact h.elim
    · exact h.elim
  · rename_i x
    split at h
    · rename_i t0 ht
      have ht : t = #[t0] := by apply Array.ext'; simpa using ht
      subst ht
      split at h
      · rename_i i hi
        split at h
        · rename_i e ad m c hk
          exact ⟨_, h, fun wx => by simp [builtin, Builtin.cap_, run_underlying (hE.slice hi hk), goInt]⟩
        · exact h.elim
      · exact h.elim
    · exact h.elim
  · exact ⟨_, h, fun wx => by simp [builtin, Builtin.min_, min2_int]⟩
  · exact ⟨_, h, fun wx => by simp [builtin, Builtin.max_, max2_int]⟩
  · exact h.elim
theorem q_call (hE : EOk P E) (hr : Rep n ρ σ a w) {c : Call} (ho : o.op = .call c) (h : qop E o.op ρ σ w K) : Yields P o a σ w K := by
  rw [ho] at h
  simp only [qop] at h
  split at h
  · rename_i b hb
    replace h := evL_get hr h
    rw [List.nil_append] at h
    obtain ⟨v, h1, h2⟩ := qbuiltin_sound hE o.type (c.args.map fun | .const _ => true | _ => false) h
    refine yields_tt h1 fun wx => ?_
    have := h2 wx
    have e : (c.args.toList.map a.eval).toArray = c.args.map a.eval := by apply Array.ext'; simp
    rw [e] at this
    simp only [execOp, ho, resolve, hb, Sem.run_bind, Sem.run_pure, Result.andThen_ok, invoke]
    exact this
  · exact h.elim
theorem qop_sound (hE : EOk P E) (hr : Rep n ρ σ a w) (h : qop E o.op ρ σ w K) : Yields P o a σ w K := by
  cases ho : o.op with
  | move x => exact q_move hr (.inl ho) (by rw [ho] at h; exact h)
  | assign x => exact q_move hr (.inr ho) (by rw [ho] at h; exact h)
  | pick c x y => exact q_pick hr ho h
  | build t ps => exact q_build hE hr ho h
  | load t x => exact q_load hE hr ho h
  | nilCheck x => exact q_nil hr ho h
  | binOp op t x y u => exact q_bin hE hr ho h
  | unOp op t x => exact q_un hr ho h
  | convert t u x => exact q_convert hE hr ho h
  | makeFunc f x y => exact q_func hr ho h
  | slice t x lo hi mx => exact q_slice hE hr ho h
  | fieldAddr t x f => exact q_fieldAddr hE hr ho h
  | field t x f => exact q_field hE hr ho h
  | indexAddr t x y => exact q_indexAddr hE hr ho h
  | index t x y => exact q_index hE hr ho h
  | extract x i => exact q_extract hr ho h
  | call c => exact q_call hE hr ho h
  | _ => rw [ho] at h; exact h.elim
end
end Go.Proofs.Ytjjmhmbmjpedkaa
