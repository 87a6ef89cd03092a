import Derived.Test.YtkggnbabnfhcpaaMWire31
import Derived.Lib.ConvBytes
import Derived.Lib.AppendZerosOnto
import Derived.Laws.MakeOwn
import Derived.Deep.MidRow
import Derived.Deep.LoopGhost
import Derived.ScopeJumps
import Derived.KernelRfl
set_option linter.unusedVariables false
section
/- The operations that only read, one by one: the rest; each of them yields. No program in sight. -/
namespace Go.Proofs.Ytkggnbabnfhcpaa
open Go.RowKit
variable {P : Program} {E : Env}
section
variable {n : Nat} {ρ : SFr} {σ : List LB} {a : Act} {w : World} {o : Oper} {K : SV → SFact → Prop}
theorem evv (hr : Rep n ρ σ a w) {x : Operand} {v : Value} (h : ev ρ x = some (.v v)) : a.eval x = v := by
  obtain ⟨y, h1, h2⟩ := hr.ev h
  cases h1; exact h2
theorem q_nil (hr : Rep n ρ σ a w) {x : Operand} (ho : o.op = .nilCheck x) (h : qop E o.op ρ σ w K) : Yields P o a σ w K := by
  rw [ho] at h
  simp only [qop] at h
  split at h
  · rename_i id off hx
    obtain ⟨b, hb, hev⟩ := hr.evP hx
    exact ⟨_, _, .pointer (some ⟨b.g, off, none⟩), h, by simp [den, hb], trivial, fun wx _ => by simp [execOp, ho, hev], fun b hb => by cases hb⟩
  · rename_i p hx
    have hev := evv hr hx
    obtain ⟨b, off, rfl, h⟩ := withP_get h
    exact yields_tt h fun wx => by simp [execOp, ho, hev]
  · rename_i f fs cs hx
    have hev := evv hr hx
    exact yields_tt h fun wx => by simp [execOp, ho, hev]
  · exact h.elim
theorem q_bin (hE : EOk P E) (hr : Rep n ρ σ a w) {op : BinOp} {t u : TypeId} {x y : Operand} (ho : o.op = .binOp op t x y u) (h : qop E o.op ρ σ w K) : Yields P o a σ w K := by
  rw [ho] at h
  simp only [qop] at h
  split at h
  · rename_i id off hx hy
    obtain ⟨b, hb, hev⟩ := hr.evP hx
    have hev2 := evv hr hy
    split at h
    · rename_i i hi
      split at h
      · rename_i hk
        obtain ⟨e, hu⟩ := hE.ptr hi hk
        cases op <;> simp only [nilCmp] at h
        case eql =>
          refine yields_tt h fun wx => ?_
          have e1 : (eqGuard .eql t x y (.pointer (some ⟨b.g, off, none⟩)) (.pointer none)).run P wx = .ok () wx := rfl
          have e2 : (binOp .eql t (.pointer (some ⟨b.g, off, none⟩)) (.pointer none)).run P wx = .ok (.bool false) wx := by simp [binOp, run_eq_ptr hu]
          simp [execOp, ho, hev, hev2, e1, e2]
        case neq =>
          refine yields_tt h fun wx => ?_
          have e1 : (eqGuard .neq t x y (.pointer (some ⟨b.g, off, none⟩)) (.pointer none)).run P wx = .ok () wx := rfl
          have e2 : (binOp .neq t (.pointer (some ⟨b.g, off, none⟩)) (.pointer none)).run P wx = .ok (.bool true) wx := by simp [binOp, run_eq_ptr hu]
          simp [execOp, ho, hev, hev2, e1, e2]
      · exact h.elim
    · exact h.elim
  · rename_i vx vy hx hy
    have hev := evv hr hx
    have hev2 := evv hr hy
    obtain ⟨v, h1, h2⟩ := qbin_sound hE x y h
    refine yields_tt h1 fun wx => ?_
    have := h2 wx
    simp only [execOp, ho, hev, hev2, Sem.run_bind] at this ⊢
    rw [this]
    rfl
  · exact h.elim
theorem q_un (hr : Rep n ρ σ a w) {op : UnOp} {t : TypeId} {x : Operand} (ho : o.op = .unOp op t x) (h : qop E o.op ρ σ w K) : Yields P o a σ w K := by
  rw [ho] at h
  simp only [qop] at h
  replace h := hr.evV h
  split at h
  · rename_i b hb
    exact yields_tt h fun wx => by simp [execOp, ho, hb, Op.unary]
  · rename_i k z hz
    exact yields_tt h fun wx => by simp [execOp, ho, hz, Op.unary, Op.intArith]
  · rename_i k z hz
    exact yields_tt h fun wx => by simp [execOp, ho, hz, Op.unary]
  · exact h.elim
theorem run_conv_str (t u e : TypeId) (ht : P.underlying t = some (.slice e)) (he : P.underlying e = some (.int .u8)) (hu : P.underlying u = some .string) (w : World) (a : Option Addr) (c : Nat) (bs : List UInt8) (h : RowAt w a (bs.map bV)) :
    (convert t u (.slice a bs.length c)).run P w = .ok (.string (strOf bs)) w := conv_str (P := P) t u ht he hu w a c bs h
theorem q_convert (hE : EOk P E) (hr : Rep n ρ σ a w) {t u : TypeId} {x : Operand} (ho : o.op = .convert t u x) (h : qop E o.op ρ σ w K) : Yields P o a σ w K := by
  rw [ho] at h
  simp only [qop] at h
  replace h := hr.evV h
  split at h
  · rename_i s d hs hd
    split at h
    · rename_i k k' k'' z hk hk' hz
      have h1 := hE.int hs hk
      have h2 := hE.int hd hk'
      exact yields_tt h fun wx => by simp [execOp, ho, hz, convert, run_underlying h1, run_underlying h2, Conv.intToInt]
    · rename_i b hk hk' hz
      have h1 := hE.str hs hk
      have h2 := hE.str hd hk'
      exact yields_tt h fun wx => by simp [execOp, ho, hz, convert, run_underlying h1, run_underlying h2]
    · rename_i k k' k'' z hk hk' hz
      have h1 := hE.int hs hk
      have h2 := hE.flt hd hk'
      exact yields_tt h fun wx => by simp only [execOp, ho, hz]; rw [Sem.run_bind, run_convert_int_float (w := wx) _ _ _ _ _ (by rw [h1]; rfl) h2]; rfl
    · rename_i k k' s' z hk hk' hz
      have h1 := hE.flt hs hk
      have h2 := hE.int hd hk'
      obtain ⟨q, e, h⟩ := h
      exact yields_tt h fun wx => by simp only [execOp, ho, hz]; rw [Sem.run_bind, run_convert_float_int (w := wx) _ _ _ _ _ _ (by rw [h1]; rfl) h2 e]; rfl
    · rename_i e ad m c hk hk' hz
      split at h
      · rename_i ei hei
        split at h
        · rename_i hek
          obtain ⟨bs, rfl, hrow, h⟩ := h
          refine ⟨_, _, _, h, rfl, hrow, fun wx hx => ?_, fun b hb => by cases hb⟩
          have := run_conv_str (P := P) t u e (hE.slice hs hk) (hE.int hei hek) (hE.str hd hk') wx ad c bs hx
          simp [execOp, ho, hz, this]
        · exact h.elim
      · exact h.elim
    · exact h.elim
  · exact h.elim
theorem q_func (hr : Rep n ρ σ a w) {f : Fn} {x y : Array Operand} (ho : o.op = .makeFunc f x y) (h : qop E o.op ρ σ w K) : Yields P o a σ w K := by
  rw [ho] at h
  simp only [qop] at h
  replace h := evL_get hr (evL_get hr h)
  refine yields_tt h fun wx => ?_
  simp only [execOp, ho, Instr.makeFunc, Sem.run_bind, Sem.run_pure, Result.andThen_ok, List.nil_append]
  congr 2
  congr 1 <;> apply Array.ext' <;> simp
theorem sliced_base (ad : Option Addr) (l h m s : Nat) : sliced ad l h m s = .slice (sliceBase ad m l s) (h - l) (m - l) := rfl
theorem sliceBase_zero (ad : Option Addr) (c s : Nat) : sliceBase ad c 0 s = ad := by
  unfold sliceBase
  split
  · rfl
  · cases ad with
    | none => rfl
    | some a => simp [Addr.add]
theorem sliceQ_get {t e : TypeId} {ei : TI} (hE : EOk P E) (hu : P.underlying t = some (.slice e)) (hei : lkT E.tys e = some ei) {ad : Option Addr} {m c : Nat} {lo hi : Option Value} {K : Value → Prop} (h : sliceQ ad m c ei.size lo hi K) :
    ∃ v, K v ∧ ∀ wx, (Instr.sliceAt t (.slice ad m c) lo hi none).run P wx = .ok v wx := by
  have he : P.elem t = e := by simp [Program.elem, hu]
  have hu' : P.underlying t = some (.slice (P.elem t)) := by rw [he]; exact hu
  unfold sliceQ at h
  split at h
  · refine ⟨_, h, fun wx => ?_⟩
    rw [run_sliceAt_slice _ _ _ _ _ _ hu', run_slice_all _ _ _ _ _ hu', he, hE.sizeOf hei, Result.andThen_ok, sliced_base, sliceBase_zero, Nat.sub_zero, Nat.sub_zero]
  · obtain ⟨h0, h1, h⟩ := h
    refine ⟨_, h, fun wx => ?_⟩
    rw [run_sliceAt_slice _ _ _ _ _ _ hu', run_slice_h _ _ _ _ _ hu' _ _ h0 h1, he, hE.sizeOf hei, Result.andThen_ok, sliced_base, sliceBase_zero, Nat.sub_zero, Nat.sub_zero]
  · obtain ⟨h0, h1, h⟩ := h
    refine ⟨_, h, fun wx => ?_⟩
    rw [run_sliceAt_slice _ _ _ _ _ _ hu', run_slice_l _ _ _ _ _ hu' _ _ h0 h1, he, hE.sizeOf hei, Result.andThen_ok, sliced_base]
  · obtain ⟨h0, h1, h2, h⟩ := h
    refine ⟨_, h, fun wx => ?_⟩
    rw [run_sliceAt_slice _ _ _ _ _ _ hu', run_slice_lh _ _ _ _ _ hu' _ _ _ _ h0 h1 h2, he, hE.sizeOf hei, Result.andThen_ok, sliced_base]
  · exact h.elim
theorem sliceS_get {t : TypeId} (hu : P.underlying t = some .string) {s : ByteArray} {lo hi : Option Value} {K : Value → Prop} (h : sliceS s lo hi K) :
    ∃ v, K v ∧ ∀ wx, (Instr.sliceAt t (.string s) lo hi none).run P wx = .ok v wx := by
  unfold sliceS at h
  split at h
  · refine ⟨_, h, fun wx => ?_⟩
    rw [run_sliceAt_string _ _ _ _ _ _ hu]
    simp [Instr.slice, run_underlying hu, Instr.sliceBounds]
  · obtain ⟨h0, h1, h⟩ := h
    refine ⟨_, h, fun wx => ?_⟩
    rw [run_sliceAt_string _ _ _ _ _ _ hu]
    simp [Instr.slice, run_underlying hu, Instr.sliceBounds, run_sliceBound, h0, h1]
  · obtain ⟨h0, h1, h⟩ := h
    refine ⟨_, h, fun wx => ?_⟩
    rw [run_sliceAt_string _ _ _ _ _ _ hu]
    simp [Instr.slice, run_underlying hu, Instr.sliceBounds, run_sliceBound, h0, h1]
  · rename_i kl l kh hh
    obtain ⟨h0, h1, h2, h⟩ := h
    refine ⟨_, h, fun wx => ?_⟩
    rw [run_sliceAt_string _ _ _ _ _ _ hu]
    have eh : (hh.toNat : Int) = hh := Int.toNat_of_nonneg (by omega)
    simp [Instr.slice, run_underlying hu, Instr.sliceBounds, run_sliceBound, h0, h1, h2, eh, show 0 ≤ hh by omega]
  · exact h.elim
theorem sliceA_get {t e : TypeId} {n : Nat} {ei : TI} (hE : EOk P E) (hu : P.underlying t = some (.array n e)) (hei : lkT E.tys e = some ei) {ad : Addr} {lo hi : Option Value} {K : Value → Prop} (h : sliceQ (some ad) n n ei.size lo hi K) :
    ∃ v, K v ∧ ∀ wx, (Instr.sliceAt t (.pointer (some ad)) lo hi none).run P wx = .ok v wx := by
  unfold sliceQ at h
  split at h
  · refine ⟨_, h, fun wx => ?_⟩
    simp only [Instr.sliceAt, Sem.run_bind, run_underlying hu, Result.andThen_ok, Instr.sureAddr, Instr.sliceBounds, Sem.run_pure, hE.sizeOf hei]
    split
    · simp
    · simp [Addr.add]
  · rename_i k hh
    obtain ⟨h0, h1, h⟩ := h
    refine ⟨_, h, fun wx => ?_⟩
    simp only [Instr.sliceAt, Sem.run_bind, run_underlying hu, Result.andThen_ok, Instr.sureAddr, Instr.sliceBounds, Sem.run_pure, hE.sizeOf hei]
    have := run_sliceBound (P := P) (w := wx) k hh n .sliceAlen h0 h1
    simp [this, Addr.add]
  · rename_i k l
    obtain ⟨h0, h1, h⟩ := h
    refine ⟨_, h, fun wx => ?_⟩
    simp only [Instr.sliceAt, Sem.run_bind, run_underlying hu, Result.andThen_ok, Instr.sureAddr, Instr.sliceBounds, Sem.run_pure, hE.sizeOf hei]
    have := run_sliceBound (P := P) (w := wx) k l n .sliceB h0 h1
    simp [this, sliceBase]
    split <;> simp
  · rename_i kl l kh hh
    obtain ⟨h0, h1, h2, h⟩ := h
    refine ⟨_, h, fun wx => ?_⟩
    have eh : (hh.toNat : Int) = hh := Int.toNat_of_nonneg (by omega)
    simp only [Instr.sliceAt, Sem.run_bind, run_underlying hu, Result.andThen_ok, Instr.sureAddr, Instr.sliceBounds, Sem.run_pure, hE.sizeOf hei]
    have e1 := run_sliceBound (P := P) (w := wx) kh hh n .sliceAlen (by omega) h2
    have e2 := run_sliceBound (P := P) (w := wx) kl l hh.toNat .sliceB h0 (by omega)
    simp [e1, e2, sliceBase]
    split <;> simp
  · exact h.elim
theorem q_slice (hE : EOk P E) (hr : Rep n ρ σ a w) {t : TypeId} {x : Operand} {lo hi mx : Option Operand} (ho : o.op = .slice t x lo hi mx) (h : qop E o.op ρ σ w K) : Yields P o a σ w K := by
  rw [ho] at h
  cases mx with
  | some m =>
    cases lo with
    | none => exact h.elim
    | some lo =>
    cases hi with
    | none => exact h.elim
    | some hi =>
    simp only [qop] at h
    split at h
    · rename_i i hi'
      replace h := hr.evV (hr.evV (hr.evV (hr.evV h)))
      split at h
      · rename_i e ad n' c kl l kh hh km mm hk hx hl hh' hm
        split at h
        · rename_i ei hei
          obtain ⟨h0, h1, h2, h3, h⟩ := h
          refine yields_tt h fun wx => ?_
          have hu := hE.slice hi' hk
          have em : (mm.toNat : Int) = mm := Int.toNat_of_nonneg (by omega)
          have eh : (hh.toNat : Int) = hh := Int.toNat_of_nonneg (by omega)
          have e1 := run_sliceBound (P := P) (w := wx) km mm c .slice3Acap (by omega) h3
          have e2 := run_sliceBound (P := P) (w := wx) kh hh mm.toNat .slice3B (by omega) (by omega)
          have e3 := run_sliceBound (P := P) (w := wx) kl l hh.toNat .slice3C h0 (by omega)
          have key : (Instr.sliceAt t (.slice ad n' c) (some (.int kl l)) (some (.int kh hh)) (some (.int km mm))).run P wx = .ok (.slice (sliceBase ad mm.toNat l.toNat ei.size) (hh.toNat - l.toNat) (mm.toNat - l.toNat)) wx := by
            simp [Instr.sliceAt, Instr.slice, run_underlying hu, Instr.sliceBounds, e1, e2, e3, hE.sizeOf hei, sliceBase]
          simp [execOp, ho, hx, hl, hh', hm, key]
        · exact h.elim
      · exact h.elim
    · exact h.elim
  | none =>
    simp only [qop] at h
    split at h
    · rename_i i hi'
      replace h := hr.evV (evO_get hr (evO_get hr h))
      split at h
      · rename_i e ad m c hk hx
        split at h
        · rename_i ei hei
          obtain ⟨v, h1, h2⟩ := sliceQ_get hE (hE.slice hi' hk) hei h
          exact yields_tt h1 fun wx => by simp [execOp, ho, hx, h2 wx]
        · exact h.elim
      · rename_i s hk hx
        obtain ⟨v, h1, h2⟩ := sliceS_get (hE.str hi' hk) h
        exact yields_tt h1 fun wx => by simp [execOp, ho, hx, h2 wx]
      · rename_i n' e p hk hx
        split at h
        · rename_i ei hei
          obtain ⟨b, off, rfl, h⟩ := withP_get h
          obtain ⟨v, h1, h2⟩ := sliceA_get hE (hE.arr hi' hk) hei h
          exact yields_tt h1 fun wx => by simp [execOp, ho, hx, h2 wx]
        · exact h.elim
      · exact h.elim
    · exact h.elim
theorem field_get {F : Array Field} {fs : List (Nat × TypeId)} {f o' : Nat} {ft : TypeId} (hF : F.toList.map (fun f => (f.offset, f.type)) = fs) (hn : nthF fs f = some (o', ft)) : ∃ fd, F[f]? = some fd ∧ fd.offset = o' ∧ fd.type = ft := by
  rw [nthF_eq, ← hF, List.getElem?_map] at hn
  cases hq : F[f]? with
  | none => simp [hq] at hn
  | some fd => simp [hq] at hn; exact ⟨fd, rfl, hn.1, hn.2⟩
theorem q_fieldAddr (hE : EOk P E) (hr : Rep n ρ σ a w) {t : TypeId} {x : Operand} {f : Nat} (ho : o.op = .fieldAddr t x f) (h : qop E o.op ρ σ w K) : Yields P o a σ w K := by
  rw [ho] at h
  simp only [qop] at h
  split at h
  · rename_i i hi
    split at h
    · rename_i fs hk
      obtain ⟨F, hu, hF⟩ := hE.struct hi hk
      split at h
      · rename_i o' ft hn
        obtain ⟨fd, hfd, rfl, rfl⟩ := field_get hF hn
        split at h
        · rename_i fi hfi
          have hz : fi.size ≠ 0 := fun e => by rw [e] at h; exact h.elim
          have hb : Nat.beq fi.size 0 = false := by cases hs : fi.size; exact absurd hs hz; rfl
          rw [hb] at h
          simp only [cond_false] at h
          have key : ∀ (b off : Nat) (wx : World), (Instr.fieldAt t (.pointer (some ⟨b, off, none⟩)) f).run P wx = .ok (.pointer (some ⟨b, off + fd.offset, none⟩)) wx := fun b off wx => by
            simp [Instr.fieldAt, run_underlying hu, hfd, Instr.sureAddr, fieldPlace, hE.sizeOf hfi, hz, Addr.add_lit]
          split at h
          · rename_i id off hx
            obtain ⟨b, hb, hev⟩ := hr.evP hx
            exact ⟨_, _, .pointer (some ⟨b.g, off + fd.offset, none⟩), h, by simp [den, hb], trivial, fun wx _ => by simp [execOp, ho, hev, key], fun b hb => by cases hb⟩
          · rename_i p hx
            have hev := evv hr hx
            obtain ⟨b, off, rfl, h⟩ := withP_get h
            exact yields_tt h fun wx => by simp [execOp, ho, hev, key]
          · exact h.elim
        · exact h.elim
      · exact h.elim
    · exact h.elim
  · exact h.elim
theorem run_part_agg (hE : EOk P E) {t : TypeId} {ti : TI} (ht : lkT E.tys t = some ti) (hk : isAggK ti.k = true) (cs : Array Value) (off : Nat) (wx : World) : (part t cs off).run P wx = .ok (.agg (cutL cs.toList off ti.size).toArray) wx := by
  simp only [part, Sem.run_bind, hE.isAgg ht, hk, Result.andThen_ok, if_true, hE.sizeOf ht, Sem.run_pure]
  congr 2
  apply Array.ext'
  simp [cutL]
theorem run_part_one (hE : EOk P E) {t : TypeId} {ti : TI} (ht : lkT E.tys t = some ti) (hk : isAggK ti.k = false) (cs : Array Value) (off : Nat) (v : Value) (hv : nth cs.toList off = some v) (wx : World) : (part t cs off).run P wx = .ok v wx := by
  rw [nth_eq] at hv
  have hv : cs[off]? = some v := by simpa using hv
  simp [part, hE.isAgg ht, hk, hv]
theorem q_field (hE : EOk P E) (hr : Rep n ρ σ a w) {t : TypeId} {x : Operand} {f : Nat} (ho : o.op = .field t x f) (h : qop E o.op ρ σ w K) : Yields P o a σ w K := by
  rw [ho] at h
  simp only [qop] at h
  split at h
  · rename_i i hi
    split at h
    · rename_i fs hk
      obtain ⟨F, hu, hF⟩ := hE.struct hi hk
      split at h
      · rename_i o' ft hn
        obtain ⟨fd, hfd, rfl, rfl⟩ := field_get hF hn
        split at h
        · rename_i fi hfi
          replace h := hr.evV h
          split at h
          · rename_i cs hx
            cases hk : isAggK fi.k
            · rw [hk] at h
              simp only [cond_false] at h
              split at h
              · rename_i v hv
                have := run_part_one hE hfi hk cs fd.offset v hv
                exact yields_tt h fun wx => by simp [execOp, ho, hx, Instr.field, run_underlying hu, hfd, asAgg, this]
              · exact h.elim
            · rw [hk] at h
              simp only [cond_true] at h
              have := run_part_agg hE hfi hk cs fd.offset
              exact yields_tt h fun wx => by simp [execOp, ho, hx, Instr.field, run_underlying hu, hfd, asAgg, this]
          · exact h.elim
        · exact h.elim
      · exact h.elim
    · exact h.elim
  · exact h.elim
theorem q_indexAddr (hE : EOk P E) (hr : Rep n ρ σ a w) {t : TypeId} {x y : Operand} (ho : o.op = .indexAddr t x y) (h : qop E o.op ρ σ w K) : Yields P o a σ w K := by
  rw [ho] at h
  simp only [qop] at h
  split at h
  · rename_i i hi
    split at h
    · rename_i e hk
      have hu := hE.slice hi hk
      split at h
      · rename_i ei hei
        replace h := hr.evV (hr.evV h)
        split at h
        · rename_i ad m c k z hx hz
          obtain ⟨b, off, rfl, h0, h1, h⟩ := withP_get h
          exact yields_tt h fun wx => by simp [execOp, ho, hx, hz, Instr.indexAt, asIntOf, run_underlying hu, h0, h1, hE.sizeOf hei, Addr.add_lit]
        · exact h.elim
      · exact h.elim
    · rename_i m e hk
      have hu := hE.arr hi hk
      split at h
      · rename_i ei hei
        replace h := hr.evV h
        split at h
        · rename_i p k z hx hz
          have hev := evv hr hx
          obtain ⟨b, off, rfl, h0, h1, h⟩ := withP_get h
          exact yields_tt h fun wx => by simp [execOp, ho, hev, hz, Instr.indexAt, asIntOf, run_underlying hu, Instr.sureAddr, h0, h1, hE.sizeOf hei, Addr.add_lit]
        · rename_i id off kk k hx hz
          obtain ⟨b, hb, hev⟩ := hr.evP hx
          obtain ⟨hlt, h⟩ := cond_get h
          have hlt : k < m := Nat.le_of_ble_eq_true hlt
          refine ⟨_, _, .pointer (some ⟨b.g, off + k * ei.size, none⟩), h, by simp [den, hb], trivial, fun wx _ => ?_, fun b hb => by cases hb⟩
          simp [execOp, ho, hev, hz, Instr.indexAt, asIntOf, run_underlying hu, Instr.sureAddr, hlt, hE.sizeOf hei, Addr.add_lit]
        · exact h.elim
      · exact h.elim
    · exact h.elim
  · exact h.elim
theorem q_index (hE : EOk P E) (hr : Rep n ρ σ a w) {t : TypeId} {x y : Operand} (ho : o.op = .index t x y) (h : qop E o.op ρ σ w K) : Yields P o a σ w K := by
  rw [ho] at h
  simp only [qop] at h
  split at h
  · rename_i i hi
    replace h := hr.evV (hr.evV h)
    split at h
    · rename_i s k z hk hx hz
      obtain ⟨h0, h1, h⟩ := h
      have hu := hE.str hi hk
      refine yields_tt h fun wx => ?_
      have hlt : z.toNat < s.size := by omega
      have hb : s[z.toNat]? = some (s.data.toList.getD z.toNat 0) := by
        have hl : z.toNat < s.data.toList.length := by simpa using hlt
        rw [List.getD_eq_getElem?_getD, List.getElem?_eq_getElem hl]
        simp [hlt]
        rfl
      simp [execOp, ho, hx, hz, Instr.index, asIntOf, run_underlying hu, h0, hb, byteAt]
    · rename_i m e cs k z hk hx hz
      have hu := hE.arr hi hk
      split at h
      · rename_i ei hei
        cases hag : isAggK ei.k
        · rw [hag] at h
          simp only [cond_false] at h
          obtain ⟨hs, h0, h1, h⟩ := cond_get h
          have hs := Nat.eq_of_beq_eq_true hs
          split at h
          · rename_i l hl
            obtain ⟨v, hv, h⟩ := exLf_get h
            have := run_part_one hE hei hag cs z.toNat v (by rw [nth_eq]; exact hv)
            exact yields_tt h fun wx => by simp [execOp, ho, hx, hz, Instr.index, asIntOf, run_underlying hu, h0, h1, hE.sizeOf hei, hs, this]
          · exact h.elim
        · rw [hag] at h; exact h.elim
      · exact h.elim
    · exact h.elim
  · exact h.elim
theorem q_extract (hr : Rep n ρ σ a w) {x : Operand} {i : Nat} (ho : o.op = .extract x i) (h : qop E o.op ρ σ w K) : Yields P o a σ w K := by
  rw [ho] at h
  simp only [qop] at h
  replace h := hr.evV h
  split at h
  · rename_i vs hx
    split at h
    · rename_i y hy
      rw [nth_eq] at hy
      have hy : vs[i]? = some y := by simpa using hy
      exact yields_tt h fun wx => by simp [execOp, ho, hx, Instr.extract, hy]
    · exact h.elim
  · exact h.elim
theorem min2_int (k k' : IntKind) (x y : Int) (wx : World) : (Builtin.min2 (.int k x) (.int k' y)).run P wx = .ok (.int k (min x y)) wx := by
  simp only [Builtin.min2, Sem.run_pure]
  congr 2
  split <;> omega
theorem max2_int (k k' : IntKind) (x y : Int) (wx : World) : (Builtin.max2 (.int k x) (.int k' y)).run P wx = .ok (.int k (max x y)) wx := by
  simp only [Builtin.max2, Sem.run_pure]
  congr 2
  split <;> omega
theorem qbuiltin_sound (hE : EOk P E) {b : Builtin} {t : Array TypeId} {args : List Value} {K : Value → Prop} (ty : TypeId) (cs : Array Bool) (h : qbuiltin E b t args K) : ∃ v, K v ∧ ∀ wx, (builtin b t ty cs args.toArray).run P wx = .ok (.value v) wx := by
  unfold qbuiltin at h
  split at h
  · rename_i x
    split at h
    · rename_i t0 ht
      have ht : t = #[t0] := by apply Array.ext'; simpa using ht
      subst ht
      split at h
      · rename_i i hi
        split at h
        · rename_i e ad m c hk
          exact ⟨_, h, fun wx => by simp [builtin, Builtin.len_, run_underlying (hE.slice hi hk), goInt]⟩
        · rename_i s hk
          exact ⟨_, h, fun wx => by simp [builtin, Builtin.len_, run_underlying (hE.str hi hk), goInt]⟩
        · rename_i m e v hk
          exact ⟨_, h, fun wx => by simp [builtin, Builtin.len_, run_underlying (hE.arr hi hk), goInt]⟩
        · exact h.elim
      · exact h.elim
    · exact h.elim
  · rename_i x
    split at h
    · rename_i t0 ht
      have ht : t = #[t0] := by apply Array.ext'; simpa using ht
      subst ht
      split at h
      · rename_i i hi
        split at h
        · rename_i e ad m c hk
          exact ⟨_, h, fun wx => by simp [builtin, Builtin.cap_, run_underlying (hE.slice hi hk), goInt]⟩
        · exact h.elim
      · exact h.elim
    · exact h.elim
  · exact ⟨_, h, fun wx => by simp [builtin, Builtin.min_, min2_int]⟩
  · exact ⟨_, h, fun wx => by simp [builtin, Builtin.min_, min2_int]⟩
  · exact ⟨_, h, fun wx => by simp [builtin, Builtin.max_, max2_int]⟩
  · exact ⟨_, h, fun wx => rfl⟩
  · exact ⟨_, h, fun wx => rfl⟩
  · exact ⟨_, h, fun wx => rfl⟩
  · exact h.elim
theorem q_call (hE : EOk P E) (hr : Rep n ρ σ a w) {c : Call} (ho : o.op = .call c) (h : qop E o.op ρ σ w K) : Yields P o a σ w K := by
  rw [ho] at h
  simp only [qop] at h
  split at h
  · rename_i b hb
    replace h := evL_get hr h
    rw [List.nil_append] at h
    obtain ⟨v, h1, h2⟩ := qbuiltin_sound hE o.type (c.args.map fun | .const _ => true | _ => false) h
    refine yields_tt h1 fun wx => ?_
    have := h2 wx
    have e : (c.args.toList.map a.eval).toArray = c.args.map a.eval := by apply Array.ext'; simp
    rw [e] at this
    simp only [execOp, ho, resolve, hb, Sem.run_bind, Sem.run_pure, Result.andThen_ok, invoke]
    exact this
  · exact h.elim
theorem tk_map {d : TypeDesc} {k e : TypeId} (h : tkOf d = .map k e) : d = .map k e := by cases d <;> simp [tkOf] at h; rw [h.1, h.2]
theorem EOk.map (hE : EOk P E) {t k e : TypeId} {i : TI} (h : lkT E.tys t = some i) (hk : i.k = .map k e) : P.underlying t = some (.map k e) := by
  obtain ⟨d, h1, h2⟩ := hE.und h; rw [hk] at h2; rw [h1, tk_map h2]
theorem q_lookup (hE : EOk P E) (hr : Rep n ρ σ a w) {t : TypeId} {x y : Operand} {ok : Bool} (ho : o.op = .lookup t x y ok) (h : qop E o.op ρ σ w K) : Yields P o a σ w K := by
  rw [ho] at h
  simp only [qop] at h
  split at h
  · rename_i i hi
    split at h
    · rename_i kt et hk
      have hu := hE.map hi hk
      split at h
      · rename_i ki ei hki hei
        split at h
        · rename_i hkk
          have hku := hE.int hki hkk
          have hz := hE.zeroValue hei
          replace h := hr.evV (hr.evV h)
          split at h
          · rename_i mb z hx hy
            have key : ∀ (wx : World) (r : Option Value), MLk wx mb z r → (Instr.lookup t (.map mb) (.int .i64 z) ok).run P wx = .ok (if ok then .tuple #[r.getD ei.zero, .bool r.isSome] else r.getD ei.zero) wx := by
              intro wx r hm
              cases mb with
              | none =>
                have hm : r = none := hm
                subst hm
                exact run_lookupM_nil hu hku hz z ok
              | some b =>
                obtain ⟨m, hm, rfl⟩ := hm
                exact run_lookupM hu hku hz hm z ok
            obtain ⟨v, h⟩ := exE_get h
            cases ok
            · obtain ⟨⟨r, h1, h2⟩, h⟩ := h
              refine ⟨_, _, _, h, rfl, ⟨r, h1, h2⟩, fun wx hwx => ?_, fun b hb => by cases hb⟩
              obtain ⟨r', k1, k2⟩ := hwx
              have := key wx r' k1
              rw [k2] at this
              simp [execOp, ho, hx, hy, this]
            · obtain ⟨okv, ⟨r, h1, h2, h3⟩, h⟩ := h
              refine ⟨_, _, _, h, rfl, ⟨r, h1, h2, h3⟩, fun wx hwx => ?_, fun b hb => by cases hb⟩
              obtain ⟨r', k1, k2, k3⟩ := hwx
              have := key wx r' k1
              rw [k2, k3] at this
              simp [execOp, ho, hx, hy, this]
          · exact h.elim
        · exact h.elim
      · exact h.elim
    · exact h.elim
  · exact h.elim
theorem q_entry (hr : Rep n ρ σ a w) {x : Operand} (ho : o.op = .entry x) (h : qop E o.op ρ σ w K) : Yields P o a σ w K := by
  rw [ho] at h
  simp only [qop] at h
  split at h
  · rename_i g et hx
    obtain ⟨y, hy, hev⟩ := hr.ev hx
    cases hy
    split at h
    · rename_i ei hei
      obtain ⟨v, k, hl, h⟩ := exE_get h
      refine ⟨_, _, _, h, rfl, hl, fun wx hwx => ?_, fun b hb => by cases hb⟩
      have := run_entryM (P := P) (show IterLast wx g k v from hwx)
      simp [execOp, ho, hev, this]
    · exact h.elim
  · exact h.elim
theorem q_arrp (hE : EOk P E) (hr : Rep n ρ σ a w) {t : TypeId} {x : Operand} (ho : o.op = .sliceToArrayPointer t x) (h : qop E o.op ρ σ w K) : Yields P o a σ w K := by
  rw [ho] at h
  simp only [qop] at h
  split at h
  · rename_i i hi
    split at h
    · rename_i m e hk
      have hu := hE.arr hi hk
      replace h := hr.evV h
      split at h
      · rename_i ad k c hx
        obtain ⟨b, off, rfl, hle, h⟩ := withP_get h
        refine yields_tt h fun wx => ?_
        simp [execOp, ho, hx, Instr.arrayAt, run_underlying hu, show ¬ k < m by omega]
      · exact h.elim
    · exact h.elim
  · exact h.elim
theorem qop_sound (hE : EOk P E) (hr : Rep n ρ σ a w) (h : qop E o.op ρ σ w K) : Yields P o a σ w K := by
  cases ho : o.op with
  | move x => exact q_move hr (.inl ho) (by rw [ho] at h; exact h)
  | assign x => exact q_move hr (.inr ho) (by rw [ho] at h; exact h)
  | pick c x y => exact q_pick hr ho h
  | build t ps => exact q_build hE hr ho h
  | load t x => exact q_load hE hr ho h
  | nilCheck x => exact q_nil hr ho h
  | binOp op t x y u => exact q_bin hE hr ho h
  | unOp op t x => exact q_un hr ho h
  | convert t u x => exact q_convert hE hr ho h
  | makeFunc f x y => exact q_func hr ho h
  | slice t x lo hi mx => exact q_slice hE hr ho h
  | fieldAddr t x f => exact q_fieldAddr hE hr ho h
  | field t x f => exact q_field hE hr ho h
  | indexAddr t x y => exact q_indexAddr hE hr ho h
  | index t x y => exact q_index hE hr ho h
  | extract x i => exact q_extract hr ho h
  | call c => exact q_call hE hr ho h
  | lookup t x y ok => exact q_lookup hE hr ho h
  | entry x => exact q_entry hr ho h
  | sliceToArrayPointer t x => exact q_arrp hE hr ho h
  | _ => rw [ho] at h; exact h.elim
end
end Go.Proofs.Ytkggnbabnfhcpaa
end
section
/- 'append(s, make([]T, k)...)': the number stands in the place of a slice. No program in sight. -/
namespace Go.Proofs.Ytkggnbabnfhcpaa
open Go.RowKit
section
variable {P : Program} {w : World} {base : Nat} {e : TypeId} {size : Nat} {v : Value} {n : Nat} {xs : List Value}
theorem run_app5z {kn : IntKind} (t tx ty : TypeId) (i : TypeInfo) (z : Value) (bytes : Nat) (ht : P.underlying t = some (.slice e)) (hi : P.info? e = some i) (hz : i.zero = some z) (hsize : i.size = size) (hby : i.bytes = bytes) (hzs : z.cells.size = size)
    (ho : Own w base e size v n xs) (m : Nat) (news : List Value) (hnews : news = (Builtin.zeroCells z.cells m).toList) (htn : P.underlying tx = some (.int kn)) (hz1 : ∀ u ∈ news, u.oneCell' = true) (hp : 0 < size) (h63 : n + m ≤ maxLen) (hbytes : (n + m) * bytes ≤ 140737488355328) (hbase : base ≤ w.heap.size) :
    ∃ v' w', (Builtin.append_ #[t, tx] ty #[v, .int .i64 m]).run P w = .ok v' w' ∧ Own w' base e size v' (n + m) (xs ++ news) ∧ w.grownBy w' v.ownBlock ∧ (v'.ownBlock = v.ownBlock ∨ ∃ g, v'.ownBlock = some g ∧ w.heap.size ≤ g) ∧ ∀ a c, v = .slice a n c → n + m ≤ c → v' = .slice a (n + m) c := by
  subst hsize
  subst hby
  have hsn : news.length = m * i.size := by rw [hnews, Array.length_toList, size_zeroCells, hzs]
  have hwm : IntKind.i64.wrap (m : Int) = m := by rw [IntKind.wrap_i64]; simp only [maxLen] at h63; omega
  have hneg : ¬ ((m : Int) < 0) := by omega
  have h48n : m * i.bytes ≤ 140737488355328 := Nat.le_trans (Nat.mul_le_mul_right _ (Nat.le_add_left _ _)) hbytes
  have h48i : ¬ (281474976710656 < (m : Int) * (i.bytes : Int)) := by
    rw [← Int.natCast_mul]
    omega
  have hsmall : ((n + m : Nat) : Int) ≤ 9223372036854775807 := by simp only [maxLen] at h63; omega
  have hlen : (xs ++ news).length = (n + m) * i.size := by rw [List.length_append, ho.1, hsn, Nat.add_mul]
  have hcat : xs.toArray ++ Builtin.zeroCells z.cells m = (xs ++ news).toArray := by
    apply Array.ext'
    rw [hnews]
    simp
  have grown : ∀ (old : Nat) (row : Option Nat),
      Own (w.drew.alloc (.cells ((xs ++ news).toArray ++ Builtin.zeroCells z.cells (grownCap w (n + m) old e - (n + m))) e)) base e i.size
        (.slice (some ⟨w.heap.size, 0, none⟩) (n + m) (grownCap w (n + m) old e)) (n + m) (xs ++ news) ∧
      w.grownBy (w.drew.alloc (.cells ((xs ++ news).toArray ++ Builtin.zeroCells z.cells (grownCap w (n + m) old e - (n + m))) e)) row := by
    intro old row
    have hge := grownCap_ge w (n + m) old e
    have hcm : grownCap w (n + m) old e ≤ maxLen := grownCap_le_maxLen w (n + m) old e h63
    refine ⟨⟨hlen, .inr ⟨w.heap.size, 0, _, _, rfl, hbase, Go.heap_alloc_new w.drew _, hge, hcm, ?_, ?_⟩⟩, ⟨rfl, rfl, rfl, by simp, fun k hk _ => Below.heap_alloc w.drew _ k hk⟩⟩
    · simp only [Array.size_append, List.size_toArray, size_zeroCells, hzs, hlen]
      rw [← Nat.add_mul, Nat.zero_add, Nat.add_sub_cancel' hge]
      exact Nat.le_refl _
    · simp only [Array.toList_append, List.drop_zero]
      rw [← hlen]
      exact List.take_left
  rcases ho.2 with ⟨rfl, rfl⟩ | ⟨g, off, cap, cur, rfl, hb, hg, hn, hm, hcs, htk⟩
  · have hx0 : xs = [] := List.eq_nil_of_length_eq_zero (by simpa using ho.1)
    subst hx0
    by_cases hm0 : m = 0
    · subst hm0
      have hnews0 : news = [] := List.eq_nil_of_length_eq_zero (by simpa using hsn)
      rw [hnews0]
      refine ⟨.slice none 0 0, w, ?_, Own.nil _ _ _ _, ⟨rfl, rfl, rfl, Nat.le_refl _, fun _ _ _ => rfl⟩, .inl rfl, fun a c h _ => by injection h with h1 h2 h3; subst h1; subst h3; rfl⟩
      simp [Builtin.append_, run_underlying ht, run_underlying htn, sizeOf, typeInfo, hi, asInt, asIntOf, IntKind.wrap_i64]
    · have hr := Go.Lib.run_append_grow_zeros (P := P) w t tx ty e i z .i64 kn ht htn hi hz none 0 0 [] (run_firstCells_none w.drew i.size 0 0 0) m (by omega) hp (by omega) hsmall (by omega) (growslice_fits (by omega) hbytes)
      rw [hcat] at hr
      exact ⟨_, _, hr, (grown 0 none).1, (grown 0 _).2, .inr ⟨_, rfl, Nat.le_refl _⟩, fun a c h h2 => by injection h with h1 h3 h4; omega⟩
  · by_cases hr : n + m ≤ cap
    · have hfit : (off + n * i.size) + news.length ≤ cur.size := by
        rw [hsn]
        have : (n + m) * i.size ≤ cap * i.size := Nat.mul_le_mul_right _ hr
        rw [Nat.add_mul] at this
        omega
      have hst := run_storeCells_at P g (off + n * i.size) e news 0 cur w hg (by simpa using hfit) hz1
      simp only [Nat.add_zero] at hst
      refine ⟨.slice (some ⟨g, off, none⟩) (n + m) cap, w.setRow g (cur.toList.take (off + n * i.size) ++ news ++ cur.toList.drop (off + n * i.size + news.length)).toArray, ?_, ⟨hlen, .inr ⟨g, off, cap, _, rfl, hb, setRow_heap _ _ _ _ _ _ hg, hr, hm, ?_, ?_⟩⟩, ⟨rfl, rfl, rfl, by simp, fun k _ hk => ?_⟩, .inl rfl, fun a c h _ => by injection h with h1 h2 h3; subst h1; subst h3; rfl⟩
      · by_cases hm0 : m = 0
        · subst hm0
          have hnews0 : news = [] := List.eq_nil_of_length_eq_zero (by simpa using hsn)
          rw [hnews0] at hst ⊢
          simp [Builtin.append_, run_underlying ht, run_underlying htn, sizeOf, typeInfo, hi, asInt, asIntOf, IntKind.wrap_i64, hn, Addr.add_lit, hst]
        · have hns : ¬ (m * i.size = 0) := Nat.mul_ne_zero hm0 (by omega)
          simp [Builtin.append_, run_underlying ht, run_underlying htn, sizeOf, typeInfo, zeroValue, hi, hz, asInt, asIntOf, hwm, hneg, hns, h48i, hr, ← hnews, Addr.add_lit, hst]
      · simp only [List.size_toArray, List.length_append, List.length_take, List.length_drop, Array.length_toList]
        omega
      · have hl2 : off ≤ cur.size := by omega
        have hx := ho.1
        have hlt : (cur.toList.take (off + n * i.size)).drop off = xs := by
          rw [List.drop_take, Nat.add_sub_cancel_left, htk]
        simp only [List.append_assoc]
        rw [List.drop_append_of_le_length (by simp only [List.length_take, Array.length_toList]; omega), hlt, ← List.append_assoc, ← hlen]
        exact List.take_left
      · simp only [World.setRow, Array.getElem?_modify]
        rw [if_neg (fun h => hk (by simp [Value.ownBlock, h]))]
    · have hlast : xs.length = n * i.size := ho.1
      have hcell : ∀ j u, xs[j]? = some u → w.drew.cell? ((⟨g, off, none⟩ : Addr).add j) = some u := by
        intro j u hu
        rw [Addr.add_lit]
        have := ho.cells g off cap rfl j u hu
        simpa using this
      have hr' := Go.Lib.run_append_grow_zeros (P := P) w t tx ty e i z .i64 kn ht htn hi hz (some ⟨g, off, none⟩) n cap xs (run_firstCells_some w.drew i.size n ⟨g, off, none⟩ n cap xs hlast hcell) m (by omega) hp (by omega) hsmall (by omega) (growslice_fits (by omega) hbytes)
      rw [hcat] at hr'
      exact ⟨_, _, hr', (grown cap none).1, (grown cap _).2, .inr ⟨_, rfl, Nat.le_refl _⟩, fun a c h h2 => by injection h with h1 h3 h4; omega⟩
end
end Go.Proofs.Ytkggnbabnfhcpaa
end
section
/- What an operation that acts does in an abstract frame: allocations, stores, calls, append. No program in sight. -/
namespace Go.Proofs.Ytkggnbabnfhcpaa
open Go.RowKit
variable {P : Program} {E : Env}
/-- A new block. -/
def newO (w : World) (o : Obj) (K : Nat → World → Prop) : Prop := ∀ g w1, g = w.heap.size → w1 = w.alloc o → K g w1
/-- A local box was written: all else is as it was. -/
def BoxSt (g : Nat) (w w1 : World) : Prop := Fr [g] w w1 ∧ w1.heap.size = w.heap.size
def KeepG (gs : List Nat) (w w1 : World) : Prop := (∀ g ∈ gs, g < w.heap.size) → ∀ g ∈ gs, w1.heap[g]? = w.heap[g]?
def callO (P : Program) (n : FuncId) (args : List Value) (gs : List Nat) (w : World) (sh : List Sh1) (R : Value → World → Prop) : Prop :=
  Calls P n args.toArray w fun e w1 => KeepG gs w w1 ∧ exSh sh fun v => e = .returned v ∧ R v w1
def stO (gs : List Nat) (w : World) (b off : Nat) (vs : List Value) (K : World → Prop) : Prop :=
  (∀ g ∈ gs, g ≠ b) ∧ w.there b off vs.length ∧ ∀ w1, w1 = w.setCells b off vs → K w1
def memN : List Nat → Nat → Bool
  | [], _ => false
  | x :: r, n => cond (Nat.beq x n) true (memN r n)
def oneC : Value → Bool
  | .agg _ => false
  | .tuple _ => false
  | _ => true
def allOne : List Value → Bool
  | [] => true
  | v :: r => cond (oneC v) (allOne r) false
theorem allOne_spec : ∀ {l : List Value}, allOne l = true → ∀ v ∈ l, v.oneCell' = true
  | x :: r, h, v, hv => by
    unfold allOne at h
    cases hx : oneC x
    · rw [hx] at h; cases h
    · rw [hx] at h
      rcases List.mem_cons.1 hv with rfl | hv
      · cases v <;> first | rfl | (simp [oneC] at hx)
      · exact allOne_spec h v hv
def setB : List LB → Nat → List Value → List LB
  | [], _, _ => []
  | b :: r, id, cs => cond (Nat.beq b.id id) (⟨b.id, b.g, b.T, cs⟩ :: r) (b :: setB r id cs)
def repL : Nat → List Value → List Value
  | 0, _ => []
  | n + 1, l => l ++ repL n l
def appO (P : Program) (gs : List Nat) (w : World) (e : TypeId) (size bytes : Nat) (tx : TypeId) (a : Option Addr) (n c : Nat) (x : Value) (K : Nat → Option Addr → Nat → World → Prop) : Prop :=
  ∃ (m : Nat) (xs news : List Value), Own w 0 e size (.slice a n c) n xs ∧ Src P size tx x m news w ∧ n + m ≤ maxLen ∧ (n + m) * bytes ≤ 140737488355328 ∧ (∀ g ∈ gs, (Value.slice a n c).ownBlock ≠ some g) ∧
    ∀ a' c' w1, Own w1 0 e size (.slice a' (n + m) c') (n + m) (xs ++ news) → w.grownBy w1 (Value.slice a n c).ownBlock → ((Value.slice a' (n + m) c').ownBlock = (Value.slice a n c).ownBlock ∨ ∃ g, (Value.slice a' (n + m) c').ownBlock = some g ∧ w.heap.size ≤ g) → (n + m ≤ c → a' = a ∧ c' = c) →
      K m a' c' w1
/-- 'append(s, make([]T, z)...)'. -/
def appZ (gs : List Nat) (w : World) (e : TypeId) (size bytes : Nat) (zc : List Value) (a : Option Addr) (n c : Nat) (z : Int) (K : Nat → Option Addr → Nat → World → Prop) : Prop :=
  0 ≤ z ∧ ∃ (xs : List Value), Own w 0 e size (.slice a n c) n xs ∧ n + z.toNat ≤ maxLen ∧ (n + z.toNat) * bytes ≤ 140737488355328 ∧ (∀ g ∈ gs, (Value.slice a n c).ownBlock ≠ some g) ∧
    ∀ a' c' w1, Own w1 0 e size (.slice a' (n + z.toNat) c') (n + z.toNat) (xs ++ repL z.toNat zc) → w.grownBy w1 (Value.slice a n c).ownBlock → ((Value.slice a' (n + z.toNat) c').ownBlock = (Value.slice a n c).ownBlock ∨ ∃ g, (Value.slice a' (n + z.toNat) c').ownBlock = some g ∧ w.heap.size ≤ g) → K z.toNat a' c' w1
/-- 'clear' of a slice. -/
def clrO (gs : List Nat) (w : World) (a : Option Addr) (cs : List Value) (K : World → Prop) : Prop := (cs = [] ∧ K w) ∨ ∃ b off, a = some ⟨b, off, none⟩ ∧ stO gs w b off cs K
/-- 'copy' of so many cells. -/
def cpyO (gs : List Nat) (w : World) (size : Nat) (a : Option Addr) (n : Nat) (a2 : Option Addr) (n2 : Nat) (K : World → Prop) : Prop :=
  (Nat.min n2 n = 0 ∧ K w) ∨ ∃ (cs : List Value) (ad : Addr) (b off : Nat), cs.length = Nat.min n2 n * size ∧ (∀ v ∈ cs, v.oneCell' = true) ∧ a2 = some ad ∧ (∀ j v, cs[j]? = some v → w.cell? (ad.add j) = some v) ∧ a = some ⟨b, off, none⟩ ∧ stO gs w b off cs K
def lbuiltin (P : Program) (E : Env) (b : Builtin) (t : Array TypeId) (args : List Value) (σ : List LB) (w : World) (K : Option SV → List LB → World → Prop) : Prop :=
  match b, t.toList, args with
  | .append, [t0, tx], [.slice a n c, .int .i64 z] => match lkT E.tys t0, lkT E.tys tx with
    | some i, some j => match i.k, j.k with
      | .slice e, .int _ => match lkT E.tys e with
        | some ei => cond (Nat.beq (cellsL ei.zero).length ei.size) (cond (allOne (cellsL ei.zero)) (cond (Nat.beq ei.size 0) False (appZ (gsOf σ) w e ei.size ei.bytes (cellsL ei.zero) a n c z fun m a' c' w1 => K (some (.v (.slice a' (n + m) c'))) σ w1)) False) False
        | none => False
      | _, _ => False
    | _, _ => False
  | .append, [t0, tx], [.slice a n c, x] => match lkT E.tys t0 with
    | some i => match i.k with
      | .slice e => match lkT E.tys e with
        | some ei => cond (Nat.beq (cellsL ei.zero).length ei.size) (appO P (gsOf σ) w e ei.size ei.bytes tx a n c x fun m a' c' w1 => K (some (.v (.slice a' (n + m) c'))) σ w1) False
        | none => False
      | _ => False
    | none => False
  | .clear, [t0], [.slice a n _] => match lkT E.tys t0 with
    | some i => match i.k with
      | .slice e => match lkT E.tys e with
        | some ei => cond (Nat.beq (cellsL ei.zero).length ei.size) (cond (allOne (cellsL ei.zero)) (clrO (gsOf σ) w a (repL n (cellsL ei.zero)) fun w1 => K (some (.v (.tuple #[]))) σ w1) False) False
        | none => False
      | _ => False
    | none => False
  | .delete, [t0, k0], [.map mb, .int .i64 z] => match lkT E.tys t0, lkT E.tys k0 with
    | some i, some ki => match i.k, ki.k with
      | .map kt _, .int .i64 => cond (Nat.beq kt k0) ((mb = none ∧ K (some (.v (.tuple #[]))) σ w) ∨ mapO w mb (fun m => delM m z) fun w1 => K (some (.v (.tuple #[]))) σ w1) False
      | _, _ => False
    | _, _ => False
  | .clear, [t0], [.map mb] => match lkT E.tys t0 with
    | some i => match i.k with
      | .map _ _ => (mb = none ∧ K (some (.v (.tuple #[]))) σ w) ∨ mapO w mb (fun _ => []) fun w1 => K (some (.v (.tuple #[]))) σ w1
      | _ => False
    | none => False
  | .copy, [t0, _], [.slice a n _, .slice a2 n2 _] => match lkT E.tys t0 with
    | some i => match i.k with
      | .slice e => match lkT E.tys e with
        | some ei => cpyO (gsOf σ) w ei.size a n a2 n2 fun w1 => K (some (.v (.int .i64 ((Nat.min n2 n : Nat) : Int)))) σ w1
        | none => False
      | _ => False
    | none => False
  | _, _, _ => False
def updO (E : Env) (ρ : SFr) (σ : List LB) (w : World) (t : TypeId) (m k x : Operand) (K : Option SV → List LB → World → Prop) : Prop :=
  match lkT E.tys t with
  | some i => match i.k with
    | .map kt _ => match lkT E.tys kt with
      | some ki => match ki.k with
        | .int .i64 => withV (ev ρ m) fun mv => withV (ev ρ k) fun kv => withV (ev ρ x) fun v => match mv, kv with
          | .map mb, .int .i64 z => mapO w mb (fun m => putM m z v) fun w1 => K none σ w1
          | _, _ => False
        | _ => False
      | none => False
    | _ => False
  | none => False
/-- '[]byte("..")' of a constant: the row is marked. -/
def frzO (gs : List Nat) (w : World) (b : Nat) (K : World → Prop) : Prop := (∀ g ∈ gs, g ≠ b) ∧ ∃ cs t fr, w.heap[b]? = some (.cells cs t fr) ∧ ∀ w1 fr', w1.heap[b]? = some (.cells cs t fr') → Fr [b] w w1 → w1.heap.size = w.heap.size → K w1
/-- '[]byte(s)' of a text: a new row. -/
def bytO (w : World) (e : TypeId) (s : ByteArray) (K : Nat → Nat → World → Prop) : Prop := ∀ g c w1, g = w.heap.size → (∃ zs f, w1.heap[g]? = some (.cells ((s.data.map fun b => Value.int .u8 b.toNat) ++ zs) e f)) → s.size ≤ c → Below w.heap.size w w1 → w1.heap.size = g + 1 → K g c w1
def lop (P : Program) (E : Env) (pro : List Nat) (o : Oper) (ρ : SFr) (σ : List LB) (w : World) (K : Option SV → List LB → World → Prop) : Prop :=
  match o.op with
  | .alloc t => match lkT E.tys t, o.dst with
    | some i, some d => cond (memN pro d)
      (match lkB σ d with
        | none => newO w (.cells (cellsL i.zero).toArray t) fun g w1 => K (some (.box d 0)) (⟨d, g, t, cellsL i.zero⟩ :: σ) w1
        | some _ => False)
      (newO w (.cells (cellsL i.zero).toArray t) fun g w1 => K (some (.v (.pointer (some ⟨g, 0, none⟩)))) σ w1)
    | _, _ => False
  | .box t x => match o.dst with
    | some d => withV (ev ρ x) fun v => cond (memN pro d)
      (match lkB σ d with
        | none => newO w (.cells (cellsL v).toArray t) fun g w1 => K (some (.box d 0)) (⟨d, g, t, cellsL v⟩ :: σ) w1
        | some _ => False)
      (newO w (.cells (cellsL v).toArray t) fun g w1 => K (some (.v (.pointer (some ⟨g, 0, none⟩)))) σ w1)
    | none => False
  | .store t x y => match lkT E.tys t with
    | some i => withV (ev ρ y) fun v => cond (Nat.beq (cellsL v).length i.size) (cond (allOne (cellsL v)) (match ev ρ x with
      | some (.box id off) => match lkB σ id with
        | some b => cond (memN pro id) (match fillL b.cs off (cellsL v) with
          | some cs' => ∀ w1, BoxSt b.g w w1 → K none (setB σ id cs') w1
          | none => False) False
        | none => False
      | some (.v (.pointer p)) => withP p fun b off => stO (gsOf σ) w b off (cellsL v) fun w1 => K none σ w1
      | _ => False) False) False
    | none => False
  | .buildSlice t len parts => match lkT E.tys t with
    | some i => match i.k with
      | .slice e => match lkT E.tys e with
        | some ei => cond (Nat.beq (cellsL ei.zero).length ei.size) (cond (Nat.ble (len * ei.size) 16777216) (buildL (fun i => some (i * ei.size, ei.size)) ρ (repL len (cellsL ei.zero)) parts.toList fun cs => newO w (.cells cs.toArray e) fun g w1 => K (some (.v (.slice (some ⟨g, 0, none⟩) len len))) σ w1) False) False
        | none => False
      | _ => False
    | none => False
  | .makeSlice t l c => match lkT E.tys t with
    | some i => match i.k with
      | .slice e => match lkT E.tys e with
        | some ei => withV (ev ρ l) fun l => withV (ev ρ c) fun c => match l, c with
          | .int _ l, .int _ c => 0 ≤ l ∧ l ≤ c ∧ (ei.bytes : Int) * c ≤ 281474976710656 ∧ c ≤ 9223372036854775807 ∧ newO w (.cells (madeCells ei.zero.cells (c.toNat * ei.size)) e) fun g w1 => K (some (.v (.slice (some ⟨g, 0, none⟩) l.toNat c.toNat))) σ w1
          | _, _ => False
        | none => False
      | _ => False
    | none => False
  | .makeMap _ none => newO w (.map #[] 0) fun g w1 => K (some (.v (.map (some g)))) σ w1
  | .mapUpdate t m k x => updO E ρ σ w t m k x K
  | .insert t m k x => updO E ρ σ w t m k x K
  | .range t x => match lkT E.tys t with
    | some i => match i.k with
      | .map _ et => withV (ev ρ x) fun v => match v with
        | .map mb => rngO w mb fun g w1 => K (some (.iter g et)) σ w1
        | _ => False
      | _ => False
    | none => False
  | .next x false => match ev ρ x with
    | some (.iter g _) => nxtO w g (fun w1 => K (some (.v (.tuple #[.bool false]))) σ w1) fun k v w1 => K (some (.v (.tuple #[.bool true, .int .i64 k, v]))) σ w1
    | _ => False
  | .call c => match c.callee with
    | .value f => match ev ρ f with
      | some (.v (.func (.func n) first cap)) => match lkF E.fns n with
        | some sh => evL ρ c.args.toList first.toList fun args => callO P n (args ++ cap.toList) (gsOf σ) w sh fun v w1 => K (some (.v v)) σ w1
        | none => False
      | _ => False
    | .builtin b => evL ρ c.args.toList [] fun args => lbuiltin P E b c.argTypes args σ w K
    | _ => False
  | .convert s d x => cond (Nat.beq s d) (match lkT E.tys s with
    | some i => match i.k with
      | .slice e => match lkT E.tys e with
        | some ei => match ei.k with
          | .int .u8 => withV (ev ρ x) fun v => match v with
            | .slice (some ⟨b, off, none⟩) n c => frzO (gsOf σ) w b fun w1 => K (some (.v (.slice (some ⟨b, off, none⟩) n c))) σ w1
            | _ => False
          | _ => False
        | none => False
      | _ => False
    | none => False) (match lkT E.tys s, lkT E.tys d with
    | some si, some di => match si.k, di.k with
      | .str, .slice e => match lkT E.tys e with
        | some ei => match ei.k with
          | .int .u8 => withV (ev ρ x) fun v => match v with
            | .string bs => bytO w e bs fun b c w1 => K (some (.v (.slice (some ⟨b, 0, none⟩) bs.size c))) σ w1
            | _ => False
          | _ => False
        | none => False
      | _, _ => False
    | _, _ => False)
  | _ => False
def putS (ρ : SFr) (d : Option Tmp) (r : Option SV) : SFr := match d with
  | some d => (d, r) :: ρ
  | none => ρ
/-- A slot that is written is there. -/
def dstOk (n : Nat) (d : Option Tmp) : Bool := match d with
  | some d => Nat.blt d n
  | none => true
section
variable {n : Nat} {ρ : SFr} {σ : List LB} {a : Act} {w : World} {o : Oper}
theorem lk_cons (d : Nat) (r : Option SV) (ρ : SFr) (t : Nat) : lk ((d, r) :: ρ) t = if d = t then r else lk ρ t := by
  show (cond (Nat.beq d t) r (lk ρ t)) = _
  by_cases h : d = t
  · subst h; simp
  · have : Nat.beq d t = false := by cases hb : Nat.beq d t; rfl; exact absurd (Nat.eq_of_beq_eq_true hb) h
    rw [this, if_neg h]; rfl
theorem Rep.put (hr : Rep n ρ σ a w) {d : Option Tmp} (hd : dstOk n d = true) {s : SV} {x : Value} (hs : den σ s = some x) : Rep n (putS ρ d (some s)) σ (a.put d x) w := by
  cases d with
  | none => exact hr
  | some d =>
    have hd : d < n := Nat.le_of_ble_eq_true hd
    refine ⟨by simp [Act.put, hr.size], hr.defs, fun t s' hl => ?_, hr.boxes, hr.nodup, hr.ids⟩
    simp only [putS, lk_cons] at hl
    by_cases h : d = t
    · subst h
      rw [if_pos rfl] at hl
      injection hl with hl
      subst hl
      exact ⟨x, hs, by simp [Act.put, hr.size, hd]⟩
    · rw [if_neg h] at hl
      obtain ⟨y, h1, h2⟩ := hr.slots t s' hl
      exact ⟨y, h1, by simp [Act.put, Array.getElem?_setIfInBounds_ne h, h2]⟩
theorem Rep.putNone (hr : Rep n ρ σ a w) (d : Option Tmp) (x : Value) : Rep n (putS ρ d none) σ (a.put d x) w := by
  cases d with
  | none => exact hr
  | some d =>
    refine ⟨by simp [Act.put, hr.size], hr.defs, fun t s' hl => ?_, hr.boxes, hr.nodup, hr.ids⟩
    simp only [putS, lk_cons] at hl
    by_cases h : d = t
    · rw [if_pos h] at hl; cases hl
    · rw [if_neg h] at hl
      obtain ⟨y, h1, h2⟩ := hr.slots t s' hl
      exact ⟨y, h1, by simp [Act.put, Array.getElem?_setIfInBounds_ne h, h2]⟩
theorem LB.at.kept {b : LB} {w w1 : World} (h : b.at w) (hk : w1.heap[b.g]? = w.heap[b.g]?) : b.at w1 := hk.trans h
theorem LB.at.lt {b : LB} {w : World} (h : b.at w) : b.g < w.heap.size := heap_lt h
theorem Rep.world (hr : Rep n ρ σ a w) {w1 : World} (hk : ∀ b ∈ σ, w1.heap[b.g]? = w.heap[b.g]?) : Rep n ρ σ a w1 :=
  ⟨hr.size, hr.defs, hr.slots, fun b hb => (hr.boxes b hb).kept (hk b hb), hr.nodup, hr.ids⟩
theorem Rep.alloc (hr : Rep n ρ σ a w) (ob : Obj) : Rep n ρ σ a (w.alloc ob) := hr.world fun b hb => Below.heap_alloc _ _ _ (hr.boxes b hb).lt
theorem gsOf_eq : ∀ (σ : List LB), gsOf σ = σ.map (·.g)
  | [] => rfl
  | b :: r => by rw [gsOf, gsOf_eq r]; rfl
theorem gs_mem {b : LB} (h : b ∈ σ) : b.g ∈ gsOf σ := by rw [gsOf_eq]; exact List.mem_map.2 ⟨b, h, rfl⟩
theorem Rep.under (hr : Rep n ρ σ a w) : ∀ g ∈ gsOf σ, g < w.heap.size := fun g hg => by
  rw [gsOf_eq] at hg
  obtain ⟨b, hb, rfl⟩ := List.mem_map.1 hg
  exact (hr.boxes b hb).lt
theorem lkB_none {σ : List LB} {d : Nat} (h : lkB σ d = none) : d ∉ σ.map (·.id) := by
  induction σ with
  | nil => simp
  | cons b r ih =>
    unfold lkB at h
    cases hb : Nat.beq b.id d
    · rw [hb] at h
      intro hm
      rcases List.mem_cons.1 hm with e | e
      · rw [e, Nat.beq_refl] at hb; cases hb
      · exact ih h e
    · rw [hb] at h; cases h
theorem lkB_of_mem {σ : List LB} (hn : (σ.map (·.id)).Nodup) {b : LB} (h : b ∈ σ) : lkB σ b.id = some b := by
  induction σ with
  | nil => cases h
  | cons x r ih =>
    rw [List.map_cons, List.nodup_cons] at hn
    unfold lkB
    rcases List.mem_cons.1 h with rfl | h
    · rw [Nat.beq_refl]; rfl
    · have : Nat.beq x.id b.id = false := by
        cases hb : Nat.beq x.id b.id
        · rfl
        · exact absurd (List.mem_map.2 ⟨b, h, (Nat.eq_of_beq_eq_true hb).symm⟩) hn.1
      rw [this]; exact ih hn.2 h
theorem den_more {b : LB} {s : SV} {x : Value} (hb : lkB σ b.id = none) (h : den σ s = some x) : den (b :: σ) s = some x := by
  cases s with
  | v y => exact h
  | box id off =>
    replace h : (lkB σ id).map (fun b => Value.pointer (some ⟨b.g, off, none⟩)) = some x := h
    show (cond (Nat.beq b.id id) (some b) (lkB σ id)).map (fun b => Value.pointer (some ⟨b.g, off, none⟩)) = some x
    by_cases he : b.id = id
    · subst he; rw [hb] at h; cases h
    · have : Nat.beq b.id id = false := by cases hq : Nat.beq b.id id; rfl; exact absurd (Nat.eq_of_beq_eq_true hq) he
      rw [this]; exact h
  | iter g et => exact h
theorem Rep.newBox (hr : Rep n ρ σ a w) {d : Nat} {t : TypeId} {cs : List Value} (hb : lkB σ d = none) : Rep n ρ (⟨d, w.heap.size, t, cs⟩ :: σ) a (w.alloc (.cells cs.toArray t)) := by
  refine ⟨hr.size, hr.defs, fun t s h => ?_, fun b hm => ?_, ?_, ?_⟩
  · obtain ⟨x, h1, h2⟩ := hr.slots t s h
    exact ⟨x, den_more hb h1, h2⟩
  · rcases List.mem_cons.1 hm with rfl | hm
    · exact al_new rfl
    · exact al_old (hr.boxes b hm)
  · rw [List.map_cons, List.nodup_cons]
    refine ⟨fun h => ?_, hr.nodup⟩
    obtain ⟨b, hm, he⟩ := List.mem_map.1 h
    have := (hr.boxes b hm).lt
    dsimp only at he
    omega
  · rw [List.map_cons, List.nodup_cons]
    exact ⟨fun h => lkB_none hb h, hr.ids⟩
theorem setB_map (cs : List Value) : ∀ (σ : List LB) (id : Nat), (setB σ id cs).map (·.g) = σ.map (·.g)
  | [], _ => rfl
  | b :: r, id => by
    unfold setB
    cases Nat.beq b.id id
    · simp [setB_map cs r id]
    · rfl
theorem setB_ids (cs : List Value) : ∀ (σ : List LB) (id : Nat), (setB σ id cs).map (·.id) = σ.map (·.id)
  | [], _ => rfl
  | b :: r, id => by
    unfold setB
    cases Nat.beq b.id id
    · simp [setB_ids cs r id]
    · rfl
theorem setB_lk (cs : List Value) (k : Nat) : ∀ (σ : List LB) (id : Nat) (b : LB), lkB σ k = some b → ∃ b', lkB (setB σ id cs) k = some b' ∧ b'.g = b.g ∧ b'.T = b.T ∧ (k ≠ id → b' = b)
  | x :: r, id, b, h => by
    unfold setB
    unfold lkB at h
    cases hb : Nat.beq x.id id
    · simp only [cond_false, lkB]
      cases hk : Nat.beq x.id k
      · rw [hk] at h; exact setB_lk cs k r id b h
      · rw [hk] at h; injection h with h; subst h; exact ⟨x, rfl, rfl, rfl, fun _ => rfl⟩
    · simp only [cond_true, lkB]
      cases hk : Nat.beq x.id k
      · rw [hk] at h; exact ⟨b, h, rfl, rfl, fun _ => rfl⟩
      · rw [hk] at h; injection h with h; subst h
        exact ⟨⟨x.id, x.g, x.T, cs⟩, rfl, rfl, rfl, fun hne => absurd ((Nat.eq_of_beq_eq_true hk).symm.trans (Nat.eq_of_beq_eq_true hb)) hne⟩
theorem setB_den (cs : List Value) : ∀ (σ : List LB) (id : Nat) (s : SV), den (setB σ id cs) s = den σ s
  | σ, id, .v x => rfl
  | σ, id, .iter g et => rfl
  | σ, id, .box k off => by
    have f : ∀ (o1 o2 : Option LB), o1.map (·.g) = o2.map (·.g) → o1.map (fun b => Value.pointer (some ⟨b.g, off, none⟩)) = o2.map (fun b => Value.pointer (some ⟨b.g, off, none⟩)) := fun o1 o2 h => by
      cases o1 <;> cases o2 <;> simp at h ⊢
      exact h
    refine f _ _ ?_
    have : ∀ (σ : List LB), (lkB (setB σ id cs) k).map (·.g) = (lkB σ k).map (·.g) := by
      intro σ
      induction σ with
      | nil => rfl
      | cons b r ih =>
        unfold setB
        cases hb : Nat.beq b.id id
        · simp only [cond_false, lkB]
          cases Nat.beq b.id k
          · exact ih
          · rfl
        · simp only [cond_true, lkB]
          cases Nat.beq b.id k <;> rfl
    exact this σ
theorem setB_mem (cs : List Value) : ∀ {σ : List LB} {id : Nat} {b b' : LB}, lkB σ id = some b → (σ.map (·.g)).Nodup → b' ∈ setB σ id cs → (b' = ⟨b.id, b.g, b.T, cs⟩) ∨ (b' ∈ σ ∧ b'.g ≠ b.g)
  | x :: r, id, b, b', hl, hn, hm => by
    unfold lkB at hl
    unfold setB at hm
    rw [List.map_cons, List.nodup_cons] at hn
    cases hb : Nat.beq x.id id
    · rw [hb] at hl hm
      have hl : lkB r id = some b := hl
      rcases List.mem_cons.1 hm with rfl | hm
      · exact .inr ⟨by simp, fun e => hn.1 (e ▸ List.mem_map.2 ⟨b, (lkB_mem hl).1, rfl⟩)⟩
      · rcases setB_mem cs hl hn.2 hm with h | ⟨h1, h2⟩
        · exact .inl h
        · exact .inr ⟨List.mem_cons_of_mem _ h1, h2⟩
    · rw [hb] at hl hm
      injection hl with hl
      subst hl
      rcases List.mem_cons.1 hm with rfl | hm
      · exact .inl rfl
      · exact .inr ⟨List.mem_cons_of_mem _ hm, fun e => hn.1 (e ▸ List.mem_map.2 ⟨b', hm, rfl⟩)⟩
theorem Rep.setBox (hr : Rep n ρ σ a w) {id : Nat} {b : LB} {cs' : List Value} (hb : lkB σ id = some b) : Rep n ρ (setB σ id cs') a (w.setRow b.g cs'.toArray) := by
  have hat := hr.boxes b (lkB_mem hb).1
  refine ⟨hr.size, hr.defs, fun t s h => ?_, fun b' hm => ?_, by rw [setB_map]; exact hr.nodup, by rw [setB_ids]; exact hr.ids⟩
  · rw [setB_den]; exact hr.slots t s h
  · rcases setB_mem cs' hb hr.nodup hm with rfl | ⟨h1, h2⟩
    · exact setRow_heap _ _ _ _ _ _ hat
    · have := hr.boxes b' h1
      unfold LB.at at *
      simp only [World.setRow, Array.getElem?_modify]
      rw [if_neg (fun e => h2 e.symm)]; exact this
/-- The boxes that were there are there; only those of 'pro' were written. -/
def GrowsP (pro : List Nat) (σ σ' : List LB) : Prop := ∀ id b, lkB σ id = some b → ∃ b', lkB σ' id = some b' ∧ b'.g = b.g ∧ b'.T = b.T ∧ (memN pro id = false → b' = b)
theorem GrowsP.refl (pro : List Nat) (σ : List LB) : GrowsP pro σ σ := fun _ b h => ⟨b, h, rfl, rfl, fun _ => rfl⟩
theorem GrowsP.trans {pro : List Nat} {σ σ1 σ2 : List LB} (h : GrowsP pro σ σ1) (h2 : GrowsP pro σ1 σ2) : GrowsP pro σ σ2 := fun id b hb => by
  obtain ⟨b1, k1, k2, k3, k4⟩ := h id b hb
  obtain ⟨b2, m1, m2, m3, m4⟩ := h2 id b1 k1
  exact ⟨b2, m1, m2.trans k2, m3.trans k3, fun hp => (m4 hp).trans (k4 hp)⟩
theorem GrowsP.new {pro : List Nat} {σ : List LB} {b : LB} (hb : lkB σ b.id = none) : GrowsP pro σ (b :: σ) := fun id b' h => by
  refine ⟨b', ?_, rfl, rfl, fun _ => rfl⟩
  have hne : Nat.beq b.id id = false := by
    cases hq : Nat.beq b.id id
    · rfl
    · rw [Nat.eq_of_beq_eq_true hq, h] at hb; cases hb
  unfold lkB
  rw [hne]; exact h
theorem GrowsP.set {pro : List Nat} {σ : List LB} {id : Nat} {cs : List Value} (hp : memN pro id = true) : GrowsP pro σ (setB σ id cs) := fun k b h => by
  obtain ⟨b', h1, h2, h3, h4⟩ := setB_lk cs k σ id b h
  exact ⟨b', h1, h2, h3, fun hk => h4 (by rintro rfl; rw [hp] at hk; cases hk)⟩
/-- Which box does a store write? -/
def stBox (ρ : SFr) : Op → Option Nat
  | .store _ x _ => match ev ρ x with
    | some (.box id _) => some id
    | _ => none
  | _ => none
def Stays (s : Option Nat) (σ σ' : List LB) : Prop := ∀ id b, s ≠ some id → lkB σ id = some b → lkB σ' id = some b
theorem Stays.refl (s : Option Nat) (σ : List LB) : Stays s σ σ := fun _ _ _ h => h
theorem Stays.new {s : Option Nat} {σ : List LB} {b : LB} (hb : lkB σ b.id = none) : Stays s σ (b :: σ) := fun id b' _ h => by
  have hne : Nat.beq b.id id = false := by
    cases hq : Nat.beq b.id id
    · rfl
    · rw [Nat.eq_of_beq_eq_true hq, h] at hb; cases hb
  unfold lkB
  rw [hne]; exact h
/-- What an operation that acts leaves. -/
def Acts (P : Program) (n : Nat) (pro : List Nat) (ρ : SFr) (σ : List LB) (o : Oper) (a : Act) (w : World) (K : Option SV → List LB → World → Prop) (Q : Exit → Act → World → Prop) : Prop :=
  o.wp P a w (fun a1 w1 => ∃ r σ', K r σ' w1 ∧ Rep n (putS ρ o.dst r) σ' a1 w1 ∧ GrowsP pro σ σ' ∧ Stays (stBox ρ o.op) σ σ' ∧ ∃ x, a1 = a.put o.dst x) Q
variable {K : Option SV → List LB → World → Prop} {Q : Exit → Act → World → Prop}
theorem acts_value {pro : List Nat} {x : Value} {w1 : World} (h : (execOp a.eval o).run P w = .ok (.value x) w1) {s : SV} {σ' : List LB} (hr : Rep n ρ σ' a w1) (hd : dstOk n o.dst = true) (hs : den σ' s = some x) (hk : K (some s) σ' w1) (hg : GrowsP pro σ σ') (hst : Stays (stBox ρ o.op) σ σ') : Acts P n pro ρ σ o a w K Q := by
  unfold Acts Oper.wp
  rw [h, Oper.upon_value]
  exact ⟨_, _, hk, hr.put hd hs, hg, hst, _, rfl⟩
theorem l_alloc (hE : EOk P E) (hr : Rep n ρ σ a w) (hd : dstOk n o.dst = true) {pro : List Nat} {t : TypeId} (ho : o.op = .alloc t) (h : lop P E pro o ρ σ w K) : Acts P n pro ρ σ o a w K Q := by
  unfold lop at h
  rw [ho] at h
  simp only at h
  split at h
  · rename_i i d hi hdst
    have hrun : (execOp a.eval o).run P w = .ok (.value (.pointer (some ⟨w.heap.size, 0, none⟩))) (w.alloc (.cells (cellsL i.zero).toArray t)) := by
      rw [cellsL_eq]
      simp [execOp, ho, Instr.alloc, hE.zeroValue hi, newVar, newRow]
    cases hm : memN pro d
    · rw [hm] at h
      exact acts_value hrun (hr.alloc _) hd rfl (h _ _ rfl rfl) (.refl _ _) (.refl _ _)
    · rw [hm] at h
      simp only [cond_true] at h
      split at h
      · rename_i hb
        exact acts_value hrun (hr.newBox hb) hd (by simp [den, lkB]) (h _ _ rfl rfl) (.new hb) (.new hb)
      · exact h.elim
  · exact h.elim
theorem l_box (hr : Rep n ρ σ a w) (hd : dstOk n o.dst = true) {pro : List Nat} {t : TypeId} {x : Operand} (ho : o.op = .box t x) (h : lop P E pro o ρ σ w K) : Acts P n pro ρ σ o a w K Q := by
  unfold lop at h
  rw [ho] at h
  simp only at h
  split at h
  · rename_i d hdst
    replace h := hr.evV h
    have hrun : (execOp a.eval o).run P w = .ok (.value (.pointer (some ⟨w.heap.size, 0, none⟩))) (w.alloc (.cells (cellsL (a.eval x)).toArray t)) := by
      rw [cellsL_eq]
      simp [execOp, ho, Instr.box, newVar, newRow]
    cases hm : memN pro d
    · rw [hm] at h
      exact acts_value hrun (hr.alloc _) hd rfl (h _ _ rfl rfl) (.refl _ _) (.refl _ _)
    · rw [hm] at h
      simp only [cond_true] at h
      split at h
      · rename_i hb
        exact acts_value hrun (hr.newBox hb) hd (by simp [den, lkB]) (h _ _ rfl rfl) (.new hb) (.new hb)
      · exact h.elim
  · exact h.elim
theorem l_store (hE : EOk P E) (hr : Rep n ρ σ a w) {pro : List Nat} {t : TypeId} {x y : Operand} (ho : o.op = .store t x y) (h : lop P E pro o ρ σ w K) : Acts P n pro ρ σ o a w K Q := by
  unfold lop at h
  rw [ho] at h
  simp only at h
  split at h
  · rename_i i hi
    replace h := hr.evV h
    obtain ⟨hs, h⟩ := cond_get h
    obtain ⟨h1, h⟩ := cond_get h
    have hs := Nat.eq_of_beq_eq_true hs
    have h1 := allOne_spec h1
    rw [cellsL_eq] at hs h1
    have hs : (a.eval y).cells.size = i.size := by simpa using hs
    split at h
    · rename_i id off hx
      obtain ⟨b, hb, hev⟩ := hr.evP hx
      rw [hb] at h
      simp only at h
      obtain ⟨hpr, h⟩ := cond_get h
      split at h
      · rename_i cs' hf
        obtain ⟨hle, rfl⟩ := fillL_get hf
        rw [cellsL_eq] at hle h
        have hat := hr.boxes b (lkB_mem hb).1
        have hst := run_storeCells_at P b.g off b.T (a.eval y).cells.toList 0 b.cs.toArray w hat (by simpa using hle) h1
        have hrun : (execOp a.eval o).run P w = .ok .skip (w.setRow b.g (b.cs.take off ++ (a.eval y).cells.toList ++ b.cs.drop (off + (a.eval y).cells.toList.length)).toArray) := by
          simp only [Nat.add_zero] at hst
          simp [execOp, ho, hev, Instr.storeAt, Instr.sureAddr, storeVar, hE.sizeOf hi, hs, hst]
        unfold Acts Oper.wp
        rw [hrun, Oper.upon_skip]
        refine ⟨none, _, h _ ⟨(Fr.refl [b.g] w).setRow (.inl (by simp)) _, by simp [World.setRow]⟩, ?_⟩
        refine ⟨(hr.setBox hb).putNone _ _, .set hpr, fun k b' hk hb' => ?_, _, rfl⟩
        obtain ⟨b2, k1, _, _, k2⟩ := setB_lk (List.take off b.cs ++ (a.eval y).cells.toList ++ List.drop (off + (a.eval y).cells.toList.length) b.cs) k σ id b' hb'
        rw [k2 (by rintro rfl; exact hk (by rw [ho]; simp [stBox, hx]))] at k1
        exact k1
      · exact h.elim
    · rename_i p hx
      have hev := evv hr hx
      obtain ⟨b, off, rfl, hg, ht, h⟩ := withP_get h
      rw [cellsL_eq] at ht h
      have hst := run_storeCells_cells (P := P) b off (a.eval y).cells.toList 0 w (fun j hj => by simpa using (ht j hj).1) (fun j hj => by simpa using (ht j hj).2) h1
      have hrun : (execOp a.eval o).run P w = .ok .skip (w.setCells b off (a.eval y).cells.toList) := by
        simp only [Nat.add_zero] at hst
        simp [execOp, ho, hev, Instr.storeAt, Instr.sureAddr, storeVar, hE.sizeOf hi, hs, hst]
      unfold Acts Oper.wp
      rw [hrun, Oper.upon_skip]
      refine ⟨none, _, h _ rfl, (hr.world fun b' hb' => ?_).putNone _ _, .refl _ _, .refl _ _, _, rfl⟩
      have hne := hg b'.g (gs_mem hb')
      have key : ∀ (vs : List Value) (off : Nat) (w : World), (w.setCells b off vs).heap[b'.g]? = w.heap[b'.g]? := by
        intro vs
        induction vs with
        | nil => intro off w; rfl
        | cons v r ih => intro off w; rw [World.setCells, ih]; exact heap_setCell_other _ _ _ _ hne
      exact key _ _ _
    · exact h.elim
  · exact h.elim
theorem repL_length (l : List Value) : ∀ n, (repL n l).length = n * l.length
  | 0 => by simp [repL]
  | n + 1 => by rw [repL, List.length_append, repL_length l n, Nat.add_mul]; omega
theorem repL_get (l : List Value) (hl : l ≠ []) : ∀ (n j : Nat), j < n * l.length → (repL n l)[j]? = l[j % l.length]?
  | 0, j, h => by omega
  | n + 1, j, h => by
    rw [repL]
    by_cases hj : j < l.length
    · rw [List.getElem?_append_left hj, Nat.mod_eq_of_lt hj]
    · rw [List.getElem?_append_right (by omega), repL_get l hl n (j - l.length) (by rw [Nat.add_mul] at h; omega), ← Nat.mod_eq_sub_mod (by omega)]
theorem repL_range (l : List Value) (n : Nat) (hl : n * l.length ≠ 0) : (Array.range (n * l.length)).map (fun i => l.toArray[i % l.toArray.size]!) = (repL n l).toArray := by
  apply Array.ext'
  apply List.ext_getElem?
  intro j
  have hne : l ≠ [] := by rintro rfl; simp at hl
  by_cases hj : j < n * l.length
  · have hm : j % l.length < l.length := Nat.mod_lt _ (List.length_pos_iff.2 hne)
    simp [repL_get l hne n j hj, hj, hm]
  · simp [hj, List.getElem?_eq_none (show (repL n l).length ≤ j by rw [repL_length]; omega)]
end
end Go.Proofs.Ytkggnbabnfhcpaa
end
section
/- What an operation that acts does in an abstract frame: the rest; each of them acts so in the model. No program in sight. -/
namespace Go.Proofs.Ytkggnbabnfhcpaa
open Go.RowKit
variable {P : Program} {E : Env}
section
variable {n : Nat} {ρ : SFr} {σ : List LB} {a : Act} {w : World} {o : Oper} {K : Option SV → List LB → World → Prop} {Q : Exit → Act → World → Prop}
theorem l_buildSlice (hE : EOk P E) (hr : Rep n ρ σ a w) (hd : dstOk n o.dst = true) {pro : List Nat} {t : TypeId} {len : Nat} {parts : Array (Nat × Operand)} (ho : o.op = .buildSlice t len parts) (h : lop P E pro o ρ σ w K) : Acts P n pro ρ σ o a w K Q := by
  unfold lop at h
  rw [ho] at h
  simp only at h
  split at h
  · rename_i i hi
    split at h
    · rename_i e hk
      have hu := hE.slice hi hk
      split at h
      · rename_i ei hei
        obtain ⟨hz, h⟩ := cond_get h
        obtain ⟨hl, h⟩ := cond_get h
        have hz := Nat.eq_of_beq_eq_true hz
        have hl := Nat.le_of_ble_eq_true hl
        obtain ⟨cs, hf, h⟩ := buildL_get hr h
        have hzc : ei.zero.cells = (cellsL ei.zero).toArray := by rw [cellsL_eq]
        have hrun : (execOp a.eval o).run P w = .ok (.value (.slice (some ⟨w.heap.size, 0, none⟩) len len)) (w.alloc (.cells cs.toArray e)) := by
          have hn : ¬ (len * ei.size > 2 ^ 24) := by omega
          have hb : (Instr.buildSlice t len (parts.map fun (i, x) => (i, a.eval x))).run P w = .ok (.slice (some ⟨w.heap.size, 0, none⟩) len len) (w.alloc (.cells cs.toArray e)) := by
            unfold Instr.buildSlice
            rw [Sem.run_bind, run_underlying hu, Result.andThen_ok]
            simp only [Sem.run_bind, hE.sizeOf hei, Result.andThen_ok]
            rw [if_neg hn]
            by_cases h0 : len * ei.size = 0
            · rw [if_pos h0]
              have hr0 : repL len (cellsL ei.zero) = [] := List.eq_nil_of_length_eq_zero (by rw [repL_length, hz, h0])
              rw [hr0] at hf
              have hm : (Array.map (fun x : Nat × Operand => match x with | (i, x) => (i, a.eval x)) parts).toList = parts.toList.map fun p => (p.1, a.eval p.2) := by simp
              simp only [h0]
              simp only [Array.range_zero', hm]
              simp [hf, newRow]
            · rw [if_neg h0]
              have hm : (Array.map (fun x : Nat × Operand => match x with | (i, x) => (i, a.eval x)) parts).toList = parts.toList.map fun p => (p.1, a.eval p.2) := by simp
              simp only [Sem.run_bind, hE.zeroValue hei, hzc, hm, Sem.run_pure, Result.andThen_ok]
              rw [show len * ei.size = len * (cellsL ei.zero).length by rw [hz]] at h0 ⊢
              rw [repL_range _ _ h0, hf]
              simp [newRow]
          simp [execOp, ho, hb]
        exact acts_value hrun (hr.alloc _) hd rfl (h _ _ rfl rfl) (.refl _ _) (.refl _ _)
      · exact h.elim
    · exact h.elim
  · exact h.elim
theorem l_makeSlice (hE : EOk P E) (hr : Rep n ρ σ a w) (hd : dstOk n o.dst = true) {pro : List Nat} {t : TypeId} {x y : Operand} (ho : o.op = .makeSlice t x y) (h : lop P E pro o ρ σ w K) : Acts P n pro ρ σ o a w K Q := by
  unfold lop at h
  rw [ho] at h
  simp only at h
  split at h
  · rename_i i hi
    split at h
    · rename_i e hk
      have hu := hE.slice hi hk
      split at h
      · rename_i ei hei
        replace h := hr.evV (hr.evV h)
        split at h
        · rename_i kl l kc c hx hy
          obtain ⟨h0, h1, h2, h3, h⟩ := h
          obtain ⟨inf, g1, g2, g3, g4⟩ := hE.info hei
          have := run_make (P := P) w t e inf ei.zero hu g1 g3 kl kc l c h0 h1 (by rw [g4]; exact h2) h3
          rw [g2] at this
          have hrun : (execOp a.eval o).run P w = .ok (.value (.slice (some ⟨w.heap.size, 0, none⟩) l.toNat c.toNat)) (w.alloc (.cells (madeCells ei.zero.cells (c.toNat * ei.size)) e)) := by simp [execOp, ho, hx, hy, this]
          exact acts_value hrun (hr.alloc _) hd rfl (h _ _ rfl rfl) (.refl _ _) (.refl _ _)
        · exact h.elim
      · exact h.elim
    · exact h.elim
  · exact h.elim
theorem setCells_other {b g : Nat} (hne : g ≠ b) : ∀ (vs : List Value) (off : Nat) (w : World), (w.setCells b off vs).heap[g]? = w.heap[g]?
  | [], _, _ => rfl
  | v :: r, off, w => by rw [World.setCells, setCells_other hne r]; exact heap_setCell_other _ _ _ _ hne
theorem run_stores {gs : List Nat} {w : World} {b off : Nat} {cs : List Value} {K : World → Prop} (h : stO gs w b off cs K) (h1 : ∀ v ∈ cs, v.oneCell' = true) : (storeCells ⟨b, off, none⟩ cs).run P w = .ok () (w.setCells b off cs) ∧ K (w.setCells b off cs) ∧ ∀ g ∈ gs, (w.setCells b off cs).heap[g]? = w.heap[g]? := by
  obtain ⟨hg, ht, hk⟩ := h
  have hst := run_storeCells_cells (P := P) b off cs 0 w (fun j hj => by simpa using (ht j hj).1) (fun j hj => by simpa using (ht j hj).2) h1
  exact ⟨by simpa using hst, hk _ rfl, fun g hgs => setCells_other (hg g hgs) _ _ _⟩
theorem allOne_repL {l : List Value} (h : ∀ v ∈ l, v.oneCell' = true) : ∀ n, ∀ v ∈ repL n l, v.oneCell' = true
  | 0, v, hv => by cases hv
  | n + 1, v, hv => (List.mem_append.1 hv).elim (h v) (allOne_repL h n v)
theorem run_clear (hE : EOk P E) {t0 e ty : TypeId} {ei : TI} (hu : P.underlying t0 = some (.slice e)) (hei : lkT E.tys e = some ei) (hz : (cellsL ei.zero).length = ei.size) (h1 : allOne (cellsL ei.zero) = true) {gs : List Nat} {w : World} {a : Option Addr} {n c : Nat} {K : World → Prop}
    (h : clrO gs w a (repL n (cellsL ei.zero)) K) : ∃ w1, (Builtin.clear_ #[t0] ty #[.slice a n c]).run P w = .ok (.tuple #[]) w1 ∧ K w1 ∧ ∀ g ∈ gs, w1.heap[g]? = w.heap[g]? := by
  have h1 := allOne_spec h1
  have hzc : (Builtin.zeroCells ei.zero.cells n).toList = repL n (cellsL ei.zero) := by
    unfold Builtin.zeroCells
    rw [show ei.zero.cells = (cellsL ei.zero).toArray by rw [cellsL_eq]]
    by_cases h0 : n * (cellsL ei.zero).length = 0
    · rw [show n * (cellsL ei.zero).toArray.size = 0 by simpa using h0]
      have : repL n (cellsL ei.zero) = [] := List.eq_nil_of_length_eq_zero (by rw [repL_length, h0])
      rw [this]; simp
    · have := repL_range (cellsL ei.zero) n h0
      rw [show n * (cellsL ei.zero).toArray.size = n * (cellsL ei.zero).length by simp, this]
  rcases h with ⟨h0, hk⟩ | ⟨b, off, rfl, h⟩
  · refine ⟨w, ?_, hk, fun _ _ => rfl⟩
    cases a with
    | none => simp [Builtin.clear_, run_underlying hu]
    | some ad =>
      cases n with
      | zero => simp [Builtin.clear_, run_underlying hu]
      | succ n =>
        simp [Builtin.clear_, run_underlying hu, hE.zeroValue hei, hzc, h0, storeCells]
  · obtain ⟨e1, e2, e3⟩ := run_stores (P := P) h (allOne_repL h1 n)
    refine ⟨_, ?_, e2, e3⟩
    cases n with
    | zero => simp [Builtin.clear_, run_underlying hu, repL, World.setCells]
    | succ n => simp [Builtin.clear_, run_underlying hu, hE.zeroValue hei, hzc, e1]
theorem run_copyO (hE : EOk P E) {t0 s0 e ty : TypeId} {ei : TI} (hu : P.underlying t0 = some (.slice e)) (hei : lkT E.tys e = some ei) {gs : List Nat} {w : World} {a a2 : Option Addr} {n c n2 c2 : Nat} {K : World → Prop}
    (h : cpyO gs w ei.size a n a2 n2 K) : ∃ w1, (Builtin.copy_ #[t0, s0] ty #[.slice a n c, .slice a2 n2 c2]).run P w = .ok (.int .i64 ((Nat.min n2 n : Nat) : Int)) w1 ∧ K w1 ∧ ∀ g ∈ gs, w1.heap[g]? = w.heap[g]? := by
  rcases h with ⟨h0, hk⟩ | ⟨cs, ad, b, off, hl, h1, rfl, hsrc, rfl, h⟩
  · refine ⟨w, ?_, hk, fun _ _ => rfl⟩
    have hl : ∀ (x : Addr), (loadCells x 0).run P w = .ok #[] w := fun x => by simpa using run_loadCells_list (P := P) w x [] (by simp)
    cases a <;> cases a2 <;> simp [Builtin.copy_, run_underlying hu, Builtin.lenOf, Builtin.firstCells, hE.sizeOf hei, h0, storeCells, hl, goInt]
  · obtain ⟨e1, e2, e3⟩ := run_stores (P := P) h h1
    refine ⟨_, ?_, e2, e3⟩
    have hld := run_loadCells_list (P := P) w ad cs hsrc
    simp [Builtin.copy_, run_underlying hu, Builtin.lenOf, Builtin.firstCells, hE.sizeOf hei, ← hl, hld, e1, goInt]
theorem toArr (x : Array Operand) (f : Operand → Value) : (x.toList.map f).toArray = x.map f := by apply Array.ext'; simp
theorem box_ne_map (hr : Rep n ρ σ a w) {b : Nat} {m : List (Int × Value)} (hm : MapAt w b m) : ∀ x ∈ σ, x.g ≠ b := fun x hx => hm.ne_cells (hr.boxes x hx)
theorem rep_map (hr : Rep n ρ σ a w) {b : Nat} {m : List (Int × Value)} (hm : MapAt w b m) {w1 : World} (hf : Fr [b] w w1) : Rep n ρ σ a w1 :=
  hr.world fun x hx => hf.block _ (hr.boxes x hx).lt (by rw [List.mem_singleton]; exact box_ne_map hr hm x hx)
theorem l_call (hE : EOk P E) (hr : Rep n ρ σ a w) (hd : dstOk n o.dst = true) {pro : List Nat} {c : Call} (ho : o.op = .call c) (h : lop P E pro o ρ σ w K) : Acts P n pro ρ σ o a w K Q := by
  unfold lop at h
  rw [ho] at h
  simp only at h
  split at h
  · rename_i f hf
    split at h
    · rename_i f' first cap hx
      have hev := evv hr hx
      split at h
      · rename_i sh hsh
        replace h := evL_get hr h
        have hfn := hE.fns _ (lkF_mem hsh)
        have harg : (first.toList ++ c.args.toList.map a.eval ++ cap.toList).toArray = first ++ c.args.map a.eval ++ cap := by apply Array.ext'; simp
        unfold callO at h
        rw [harg] at h
        have hrun : (execOp a.eval o).run P w = .ok (.enter f' (first ++ c.args.map a.eval ++ cap)) w := by
          have := hfn (first ++ c.args.map a.eval ++ cap) w
          simp only [execOp, ho, resolve, hf, hev, Deferred.ofValue, Sem.run_bind, Sem.run_pure, Result.andThen_ok, invoke]
          exact this
        unfold Acts Oper.wp
        rw [hrun, Oper.upon_enter]
        refine h.mono fun e w1 he => ?_
        obtain ⟨hk, he⟩ := he
        obtain ⟨v, rfl, he2⟩ := exSh_get he
        refine ⟨_, _, he2, (hr.world fun b hb => hk hr.under _ (gs_mem hb)).put hd rfl, .refl _ _, .refl _ _, _, rfl⟩
      · exact h.elim
    · exact h.elim
  · rename_i b hb
    replace h := evL_get hr h
    rw [List.nil_append] at h
    unfold lbuiltin at h
    split at h
    · rename_i t0 tx ad m c' z ht hargs
      split at h
      · rename_i i j hi hj
        split at h
        · rename_i e kn hk hkn
          have hu := hE.slice hi hk
          split at h
          · rename_i ei hei
            obtain ⟨hz, h⟩ := cond_get h
            obtain ⟨h1, h⟩ := cond_get h
            have hz := Nat.eq_of_beq_eq_true hz
            have hq : Nat.beq ei.size 0 = false := by
              cases hq : Nat.beq ei.size 0 with
              | true => rw [hq] at h; exact h.elim
              | false => rfl
            rw [hq] at h
            have hp : 0 < ei.size := Nat.pos_of_ne_zero fun e0 => by rw [e0] at hq; cases hq
            obtain ⟨hz0, xs, hown, hl1, hl2, hg, h⟩ := h
            obtain ⟨q, rfl⟩ : ∃ q : Nat, z = (q : Int) := ⟨z.toNat, by omega⟩
            rw [Int.toNat_natCast] at hl1 hl2 h
            obtain ⟨inf, g1, g2, g3, g4⟩ := hE.info hei
            have hzs : ei.zero.cells.size = ei.size := by rw [cellsL_eq] at hz; simpa using hz
            have hzc : (Builtin.zeroCells ei.zero.cells q).toList = repL q (cellsL ei.zero) := by
              unfold Builtin.zeroCells
              rw [show ei.zero.cells = (cellsL ei.zero).toArray by rw [cellsL_eq]]
              by_cases h0 : q * (cellsL ei.zero).length = 0
              · rw [show q * (cellsL ei.zero).toArray.size = 0 by simpa using h0]
                have : repL q (cellsL ei.zero) = [] := List.eq_nil_of_length_eq_zero (by rw [repL_length, h0])
                rw [this]; simp
              · have := repL_range (cellsL ei.zero) q h0
                rw [show q * (cellsL ei.zero).toArray.size = q * (cellsL ei.zero).length by simp, this]
            obtain ⟨v', w', hrun, hown', hgr, hor, hfit⟩ := run_app5z (P := P) t0 tx o.type inf ei.zero ei.bytes hu g1 g3 g2 g4 hzs hown q _ hzc.symm (hE.int hj hkn) (fun u hu => allOne_repL (allOne_spec h1) q u hu) hp hl1 hl2 (Nat.zero_le _)
            obtain ⟨a', cap', rfl⟩ := hown'.isSlice
            have ht' : c.argTypes = #[t0, tx] := by apply Array.ext'; simpa using ht
            have ha' : c.args.map a.eval = #[.slice ad m c', .int .i64 (q : Int)] := by rw [← toArr, hargs]
            have hrun2 : (execOp a.eval o).run P w = .ok (.value (.slice a' (m + q) cap')) w' := by
              simp only [execOp, ho, resolve, hb, Sem.run_bind, Sem.run_pure, Result.andThen_ok, invoke, ha', ht', builtin, hrun]
            exact acts_value hrun2 (hr.world fun b' hb' => hgr.block _ (hr.boxes b' hb').lt fun e => hg _ (gs_mem hb') e.symm) hd rfl (h _ _ _ hown' hgr hor) (.refl _ _) (.refl _ _)
          · exact h.elim
        · exact h.elim
      · exact h.elim
    · rename_i t0 tx ad m c' x _hno ht hargs
      split at h
      · rename_i i hi
        split at h
        · rename_i e hk
          have hu := hE.slice hi hk
          split at h
          · rename_i ei hei
            obtain ⟨hz, h⟩ := cond_get h
            have hz := Nat.eq_of_beq_eq_true hz
            obtain ⟨m2, xs, news, hown, hsrc, hl1, hl2, hg, h⟩ := h
            obtain ⟨inf, g1, g2, g3, g4⟩ := hE.info hei
            obtain ⟨v', w', hrun, hown', hgr, hor, hfit⟩ := run_app5 (P := P) t0 tx o.type inf ei.zero ei.bytes hu g1 g3 g2 g4 (by rw [cellsL_eq] at hz; simpa using hz) hown x m2 news hsrc hl1 hl2 (Nat.zero_le _)
            obtain ⟨a', cap', rfl⟩ := hown'.isSlice
            have ht' : c.argTypes = #[t0, tx] := by apply Array.ext'; simpa using ht
            have ha' : c.args.map a.eval = #[.slice ad m c', x] := by rw [← toArr, hargs]
            have hrun2 : (execOp a.eval o).run P w = .ok (.value (.slice a' (m + m2) cap')) w' := by
              simp only [execOp, ho, resolve, hb, Sem.run_bind, Sem.run_pure, Result.andThen_ok, invoke, ha', ht', builtin, hrun]
            exact acts_value hrun2 (hr.world fun b' hb' => hgr.block _ (hr.boxes b' hb').lt fun e => hg _ (gs_mem hb') e.symm) hd rfl (h _ _ _ hown' hgr hor fun hle => by have := hfit _ _ rfl hle; injection this with q1 q2 q3; exact ⟨q1, q3⟩) (.refl _ _) (.refl _ _)
          · exact h.elim
        · exact h.elim
      · exact h.elim
    · rename_i t0 ad m c' ht hargs
      split at h
      · rename_i i hi
        split at h
        · rename_i e hk
          have hu := hE.slice hi hk
          split at h
          · rename_i ei hei
            obtain ⟨hz, h⟩ := cond_get h
            obtain ⟨h1, h⟩ := cond_get h
            have hz := Nat.eq_of_beq_eq_true hz
            obtain ⟨w1, hrun, hk1, hg⟩ := run_clear hE (ty := o.type) (c := c') hu hei hz h1 h
            have ht' : c.argTypes = #[t0] := by apply Array.ext'; simpa using ht
            have ha' : c.args.map a.eval = #[.slice ad m c'] := by rw [← toArr, hargs]
            have hrun2 : (execOp a.eval o).run P w = .ok (.value (.tuple #[])) w1 := by
              simp only [execOp, ho, resolve, hb, Sem.run_bind, Sem.run_pure, Result.andThen_ok, invoke, ha', ht', builtin, hrun]
            exact acts_value hrun2 (hr.world fun b' hb' => hg _ (gs_mem hb')) hd rfl hk1 (.refl _ _) (.refl _ _)
          · exact h.elim
        · exact h.elim
      · exact h.elim
    · rename_i t0 k0 mb z ht hargs
      split at h
      · rename_i i ki hi hki
        split at h
        · rename_i kt et hk hkk
          have hu := hE.map hi hk
          have hku := hE.int hki hkk
          have hkt : Nat.beq kt k0 = true := by
            cases hq : Nat.beq kt k0
            · rw [hq] at h; exact h.elim
            · rfl
          rw [hkt] at h
          obtain rfl := Nat.eq_of_beq_eq_true hkt
          replace h : _ ∨ _ := h
          have ht' : c.argTypes = #[t0, kt] := by apply Array.ext'; simpa using ht
          have ha' : c.args.map a.eval = #[.map mb, .int .i64 z] := by rw [← toArr, hargs]
          rcases h with ⟨rfl, h⟩ | ⟨b', m, rfl, hat, h⟩
          · have hrun := run_deleteM_nil (w := w) hu hku z o.type
            have hrun2 : (execOp a.eval o).run P w = .ok (.value (.tuple #[])) w := by
              simp only [execOp, ho, resolve, hb, Sem.run_bind, Sem.run_pure, Result.andThen_ok, invoke, ha', ht', builtin, hrun]
            exact acts_value hrun2 hr hd rfl h (.refl _ _) (.refl _ _)
          · obtain ⟨w1, hrun, h2, h3, h4⟩ := run_deleteM hu hku hat z o.type
            have hrun2 : (execOp a.eval o).run P w = .ok (.value (.tuple #[])) w1 := by
              simp only [execOp, ho, resolve, hb, Sem.run_bind, Sem.run_pure, Result.andThen_ok, invoke, ha', ht', builtin, hrun]
            exact acts_value hrun2 (rep_map hr hat h3) hd rfl (h w1 h2 h3 h4) (.refl _ _) (.refl _ _)
        · exact h.elim
      · exact h.elim
    · rename_i t0 mb ht hargs
      split at h
      · rename_i i hi
        split at h
        · rename_i kt et hk
          have hu := hE.map hi hk
          have ht' : c.argTypes = #[t0] := by apply Array.ext'; simpa using ht
          have ha' : c.args.map a.eval = #[.map mb] := by rw [← toArr, hargs]
          rcases h with ⟨rfl, h⟩ | ⟨b', m, rfl, hat, h⟩
          · have hrun := run_clearM_nil (w := w) hu o.type
            have hrun2 : (execOp a.eval o).run P w = .ok (.value (.tuple #[])) w := by
              simp only [execOp, ho, resolve, hb, Sem.run_bind, Sem.run_pure, Result.andThen_ok, invoke, ha', ht', builtin, hrun]
            exact acts_value hrun2 hr hd rfl h (.refl _ _) (.refl _ _)
          · obtain ⟨w1, hrun, h2, h3, h4⟩ := run_clearM hu hat o.type
            have hrun2 : (execOp a.eval o).run P w = .ok (.value (.tuple #[])) w1 := by
              simp only [execOp, ho, resolve, hb, Sem.run_bind, Sem.run_pure, Result.andThen_ok, invoke, ha', ht', builtin, hrun]
            exact acts_value hrun2 (rep_map hr hat h3) hd rfl (h w1 h2 h3 h4) (.refl _ _) (.refl _ _)
        · exact h.elim
      · exact h.elim
    · rename_i t0 s0 ad m c' a2 m2 c2 ht hargs
      split at h
      · rename_i i hi
        split at h
        · rename_i e hk
          have hu := hE.slice hi hk
          split at h
          · rename_i ei hei
            obtain ⟨w1, hrun, hk1, hg⟩ := run_copyO hE (s0 := s0) (ty := o.type) (c := c') (c2 := c2) hu hei h
            have ht' : c.argTypes = #[t0, s0] := by apply Array.ext'; simpa using ht
            have ha' : c.args.map a.eval = #[.slice ad m c', .slice a2 m2 c2] := by rw [← toArr, hargs]
            have hrun2 : (execOp a.eval o).run P w = .ok (.value (.int .i64 ((Nat.min m2 m : Nat) : Int))) w1 := by
              simp only [execOp, ho, resolve, hb, Sem.run_bind, Sem.run_pure, Result.andThen_ok, invoke, ha', ht', builtin, hrun]
            exact acts_value hrun2 (hr.world fun b' hb' => hg _ (gs_mem hb')) hd rfl hk1 (.refl _ _) (.refl _ _)
          · exact h.elim
        · exact h.elim
      · exact h.elim
    · exact h.elim
  · exact h.elim
theorem acts_skip {pro : List Nat} {w1 : World} (h : (execOp a.eval o).run P w = .ok .skip w1) {σ' : List LB} (hr : Rep n ρ σ' a w1) (hk : K none σ' w1) (hg : GrowsP pro σ σ') (hst : Stays (stBox ρ o.op) σ σ') : Acts P n pro ρ σ o a w K Q := by
  unfold Acts Oper.wp
  rw [h, Oper.upon_skip]
  exact ⟨_, _, hk, hr.putNone _ _, hg, hst, _, rfl⟩
theorem l_makeMap (hr : Rep n ρ σ a w) (hd : dstOk n o.dst = true) {pro : List Nat} {t : TypeId} {r : Option Operand} (ho : o.op = .makeMap t r) (h : lop P E pro o ρ σ w K) : Acts P n pro ρ σ o a w K Q := by
  unfold lop at h
  rw [ho] at h
  cases r with
  | some _ => exact h.elim
  | none =>
    simp only at h
    have hrun : (execOp a.eval o).run P w = .ok (.value (.map (some w.heap.size))) (w.alloc (.map #[] 0)) := by
      have : (Instr.makeMap t none).run P w = .ok (.map (some w.heap.size)) (w.alloc (.map #[] 0)) := rfl
      simp [execOp, ho, this]
    exact acts_value hrun (hr.alloc _) hd rfl (h _ _ rfl rfl) (.refl _ _) (.refl _ _)
theorem updO_sound (hE : EOk P E) (hr : Rep n ρ σ a w) {t : TypeId} {m k x : Operand} (h : updO E ρ σ w t m k x K) : ∃ w1, (Instr.mapUpdate t (a.eval m) (a.eval k) (a.eval x)).run P w = .ok () w1 ∧ Rep n ρ σ a w1 ∧ K none σ w1 := by
  unfold updO at h
  split at h
  · rename_i i hi
    split at h
    · rename_i kt et hk
      have hu := hE.map hi hk
      split at h
      · rename_i ki hki
        split at h
        · rename_i hkk
          have hku := hE.int hki hkk
          replace h := hr.evV (hr.evV (hr.evV h))
          split at h
          · rename_i mb z hm hz
            obtain ⟨b, mm, rfl, hat, h⟩ := h
            obtain ⟨w1, h1, h2, h3, h4⟩ := run_updateM hu hku hat z (a.eval x)
            rw [hm, hz]
            exact ⟨w1, h1, rep_map hr hat h3, h w1 h2 h3 h4⟩
          · exact h.elim
        · exact h.elim
      · exact h.elim
    · exact h.elim
  · exact h.elim
theorem l_update (hE : EOk P E) (hr : Rep n ρ σ a w) {pro : List Nat} {t : TypeId} {m k x : Operand} (ho : o.op = .mapUpdate t m k x ∨ o.op = .insert t m k x) (h : lop P E pro o ρ σ w K) : Acts P n pro ρ σ o a w K Q := by
  have h : updO E ρ σ w t m k x K := by
    unfold lop at h
    rcases ho with ho | ho <;> (rw [ho] at h; exact h)
  obtain ⟨w1, h1, h2, h3⟩ := updO_sound hE hr h
  refine acts_skip (w1 := w1) ?_ h2 h3 (.refl _ _) (.refl _ _)
  rcases ho with ho | ho <;> simp [execOp, ho, h1]
theorem l_range (hE : EOk P E) (hr : Rep n ρ σ a w) (hd : dstOk n o.dst = true) {pro : List Nat} {t : TypeId} {x : Operand} (ho : o.op = .range t x) (h : lop P E pro o ρ σ w K) : Acts P n pro ρ σ o a w K Q := by
  unfold lop at h
  rw [ho] at h
  simp only at h
  split at h
  · rename_i i hi
    split at h
    · rename_i kt et hk
      have hu := hE.map hi hk
      replace h := hr.evV h
      split at h
      · rename_i mb hx
        obtain ⟨b, m, rfl, hat, h⟩ := h
        obtain ⟨w1, h1, h2, h3, h4⟩ := run_rangeM hu hat
        have hrun : (execOp a.eval o).run P w = .ok (.value (.pointer (some ⟨w.heap.size, 0, none⟩))) w1 := by simp [execOp, ho, hx, h1]
        exact acts_value hrun (hr.world fun x hx => h3.block _ (hr.boxes x hx).lt) hd rfl (h _ w1 rfl h2 h3 h4) (.refl _ _) (.refl _ _)
      · exact h.elim
    · exact h.elim
  · exact h.elim
theorem IterAt.ne_cells {w : World} {b g x : Nat} {m : List (Int × Value)} {seen : List Int} {cs : Array Value} {t : TypeId} {fr : Nat × Nat} (h : IterAt w g b m seen) (hx : w.heap[x]? = some (.cells cs t fr)) : x ≠ g := by
  rintro rfl
  obtain ⟨es, clock, sb, _, _, _, hi, _⟩ := h
  rw [hi] at hx
  cases hx
theorem l_next (hr : Rep n ρ σ a w) (hd : dstOk n o.dst = true) {pro : List Nat} {x : Operand} {q : Bool} (ho : o.op = .next x q) (h : lop P E pro o ρ σ w K) : Acts P n pro ρ σ o a w K Q := by
  unfold lop at h
  rw [ho] at h
  cases q with
  | true => exact h.elim
  | false =>
    simp only at h
    split at h
    · rename_i g et hx
      obtain ⟨y, hy, hev⟩ := hr.ev hx
      cases hy
      obtain ⟨b, m, seen, hit, h0, h1⟩ := h
      rcases run_nextM (P := P) hit o.type with ⟨hall, hrun⟩ | ⟨k, v, w1, hm, hs, hrun, hit1, hf, hsz⟩
      · have hrun2 : (execOp a.eval o).run P w = .ok (.value (.tuple #[.bool false])) w := by simp [execOp, ho, hev, hrun]
        exact acts_value hrun2 hr hd rfl (h0 hall) (.refl _ _) (.refl _ _)
      · have hrun2 : (execOp a.eval o).run P w = .ok (.value (.tuple #[.bool true, .int .i64 k, v])) w1 := by simp [execOp, ho, hev, hrun]
        exact acts_value hrun2 (hr.world fun x hx => hf.block _ (hr.boxes x hx).lt (by rw [List.mem_singleton]; exact hit.ne_cells (hr.boxes x hx))) hd rfl (h1 k v w1 hm hs hit1 hf hsz) (.refl _ _) (.refl _ _)
    · exact h.elim
theorem freeze_fr {w : World} {b k : Nat} {cs : Array Value} {t : TypeId} {fr : Nat × Nat} (h : w.heap[b]? = some (.cells cs t fr)) :
    ∃ fr', (w.freeze ⟨b, k, none⟩ 1).heap[b]? = some (.cells cs t fr') ∧ Fr [b] w (w.freeze ⟨b, k, none⟩ 1) ∧ (w.freeze ⟨b, k, none⟩ 1).heap.size = w.heap.size := by
  unfold World.freeze
  rw [if_neg (by decide)]
  refine ⟨if fr.1 == fr.2 then (k, k + 1) else (min fr.1 k, max fr.2 (k + 1)), ?_, ⟨rfl, rfl, rfl, by simp, fun j _ hn => ?_⟩, by simp⟩
  · simp only [Array.getElem?_modify, if_true, h]
    rfl
  · rw [List.mem_singleton] at hn
    simp only [Array.getElem?_modify]
    rw [if_neg (fun e => hn e.symm)]
theorem l_convert (hE : EOk P E) (hr : Rep n ρ σ a w) (hd : dstOk n o.dst = true) {pro : List Nat} {s d : TypeId} {x : Operand} (ho : o.op = .convert s d x) (h : lop P E pro o ρ σ w K) : Acts P n pro ρ σ o a w K Q := by
  unfold lop at h
  rw [ho] at h
  simp only at h
  cases hb : Nat.beq s d
  · rw [hb] at h
    simp only [cond_false] at h
    split at h
    · rename_i si di hsi hdi
      split at h
      · rename_i e hsk hdk
        split at h
        · rename_i ei hei
          split at h
          · rename_i hek
            replace h := hr.evV h
            split at h
            · rename_i bs hx
              have hrun : (execOp a.eval o).run P w = .ok (.value (.slice (some ⟨w.heap.size, 0, none⟩) bs.size (grownCap w bs.size 0 e))) (Lib.bytesWorld w e bs) := by
                have := Lib.run_convert_string_bytes (P := P) w s d e bs (hE.str hsi hsk) (hE.slice hdi hdk) (hE.int hei hek)
                simp [execOp, ho, hx, this]
              refine acts_value hrun (hr.world fun q hq => Lib.bytesWorld_at_old w e bs q.g (hr.boxes q hq).lt) hd rfl (h _ _ _ rfl ⟨_, _, Lib.bytesWorld_at_new w e bs⟩ (grownCap_ge _ _ _ _) ?_ (Lib.bytesWorld_size w e bs)) (.refl _ _) (.refl _ _)
              exact ⟨rfl, rfl, rfl, by rw [Lib.bytesWorld_size]; omega, fun q hq => Lib.bytesWorld_at_old w e bs q hq⟩
            · exact h.elim
          · exact h.elim
        · exact h.elim
      · exact h.elim
    · exact h.elim
  rw [hb] at h
  have hb := Nat.eq_of_beq_eq_true hb
  subst hb
  simp only [cond_true] at h
  split at h
  · rename_i i hi
    split at h
    · rename_i e hk
      split at h
      · rename_i ei hei
        split at h
        · rename_i hek
          replace h := hr.evV h
          split at h
          · rename_i b off m c hx
            obtain ⟨hg, cs, t, fr, h1, h⟩ := h
            obtain ⟨fr', g1, g2, g3⟩ := freeze_fr (k := cs.size) h1
            have hrun : (execOp a.eval o).run P w = .ok (.value (.slice (some ⟨b, off, none⟩) m c)) (w.freeze ⟨b, cs.size, none⟩ 1) := by
              have hsh : w.shape? b = some (t, cs.size) := by unfold World.shape?; rw [h1]
              simp [execOp, ho, hx, convert, run_underlying (hE.slice hi hk), run_underlying (hE.int hei hek), markStringish, hsh]
            refine acts_value hrun (hr.world fun q hq => g2.block q.g ((hr.boxes q hq).lt) ?_) hd rfl (h _ _ g1 g2 g3) (.refl _ _) (.refl _ _)
            rw [List.mem_singleton]
            exact hg q.g (gs_mem hq)
          · exact h.elim
        · exact h.elim
      · exact h.elim
    · exact h.elim
  · exact h.elim
theorem lop_sound (hE : EOk P E) (hr : Rep n ρ σ a w) (hd : dstOk n o.dst = true) {pro : List Nat} (h : lop P E pro o ρ σ w K) : Acts P n pro ρ σ o a w K Q := by
  cases ho : o.op with
  | alloc t => exact l_alloc hE hr hd ho h
  | box t x => exact l_box hr hd ho h
  | store t x y => exact l_store hE hr ho h
  | buildSlice t l ps => exact l_buildSlice hE hr hd ho h
  | makeSlice t x y => exact l_makeSlice hE hr hd ho h
  | call c => exact l_call hE hr hd ho h
  | makeMap t r => exact l_makeMap hr hd ho h
  | mapUpdate t m k x => exact l_update hE hr (.inl ho) h
  | insert t m k x => exact l_update hE hr (.inr ho) h
  | range t x => exact l_range hE hr hd ho h
  | next x q => exact l_next hr hd ho h
  | convert s d x => exact l_convert hE hr hd ho h
  | _ => unfold lop at h; rw [ho] at h; exact h.elim
end
end Go.Proofs.Ytkggnbabnfhcpaa
end
section
/- Regions in an abstract frame, in their order and drawn. No program in sight. -/
namespace Go.Proofs.Ytkggnbabnfhcpaa
open Go.RowKit
variable {P : Program} {E : Env}
def dstAt (ops : Array Oper) (j : Nat) : Option Nat := match ops[j]? with
  | some o => o.dst
  | none => none
def vGuard (ops : Array Oper) (g : Option (Nat × Bool)) (ρ : SFr) (Ky Kn : SFr → Prop) : Prop := match g with
  | none => Ky ρ
  | some q => match dstAt ops q.1 with
    | some d => withV (lk ρ d) fun v => match v with
      | .bool b => br b (cond q.2 (Ky ((d, some (.v (.bool true))) :: ρ)) (Kn ((d, some (.v (.bool true))) :: ρ))) (cond q.2 (Kn ((d, some (.v (.bool false))) :: ρ)) (Ky ((d, some (.v (.bool false))) :: ρ)))
      | .tuple _ => Kn ρ
      | _ => False
    | none => False
def isQ : Op → Bool
  | .alloc _ => false
  | .box _ _ => false
  | .store _ _ _ => false
  | .buildSlice _ _ _ => false
  | .makeSlice _ _ _ => false
  | .makeMap _ _ => false
  | .mapUpdate _ _ _ _ => false
  | .insert _ _ _ _ => false
  | .range _ _ => false
  | .next _ _ => false
  | .convert s d _ => !(Nat.beq s d) && !(Nat.beq s 9 && Nat.beq d 32)
  | .call c => match c.callee with
    | .builtin b => match b with
      | .len => true
      | .complex => true
      | .real => true
      | .imag => true
      | .cap => true
      | .min => true
      | .max => true
      | _ => false
    | _ => false
  | _ => true
def vOps (P : Program) (E : Env) (n : Nat) (pro : List Nat) (ops : Array Oper) : List Nat → SFr → List LB → World → (SFr → List LB → World → Prop) → Prop
  | [], ρ, σ, w, K => K ρ σ w
  | i :: r, ρ, σ, w, K => match ops[i]? with
    | some o => cond (dstOk n o.dst) (vGuard ops o.guard ρ
      (fun ρ => cond (isQ o.op) (qop E o.op ρ σ w fun s _ => vOps P E n pro ops r (putS ρ o.dst (some s)) σ w K) (lop P E pro o ρ σ w fun s σ' w' => vOps P E n pro ops r (putS ρ o.dst s) σ' w' K))
      (fun ρ => vOps P E n pro ops r (putS ρ o.dst (some (.v undef))) σ w K)) False
    | none => False
/-- The reads of a phase. -/
def vQs (E : Env) (n : Nat) (ops : Array Oper) (σ : List LB) (w : World) : List Nat → SFr → List (Nat × SFact) → (SFr → List (Nat × SFact) → Prop) → Prop
  | [], ρ, F, K => K ρ F
  | i :: r, ρ, F, K => match ops[i]? with
    | some o => cond (dstOk n o.dst) (vGuard ops o.guard ρ
      (fun ρ => qop E o.op ρ σ w fun s f => vQs E n ops σ w r (putS ρ o.dst (some s)) (F ++ [(i, f)]) K)
      (fun ρ => vQs E n ops σ w r (putS ρ o.dst (some (.v undef))) (F ++ [(i, .tt)]) K)) False
    | none => False
def keepF (B : List Nat) (l : Nat) : List (Nat × SFact) → List (Nat × SFact)
  | [] => []
  | p :: r => cond ((B.getD l 0).testBit p.1) (keepF B l r) (p :: keepF B l r)
def factsAt : List (Nat × SFact) → World → Prop
  | [], _ => True
  | p :: r, w => match p.2 with
    | .mem f => f w ∧ factsAt r w
    | _ => factsAt r w
def noBoxF : List (Nat × SFact) → Nat → Bool
  | [], _ => true
  | p :: r, id => match p.2 with
    | .box k => cond (Nat.beq k.id id) false (noBoxF r id)
    | _ => noBoxF r id
def clearF (F : List (Nat × SFact)) : Option Nat → Bool
  | none => true
  | some id => noBoxF F id
def andF : List (Nat × SFact) → World → Prop → Prop
  | [], _, R => R
  | p :: r, w, R => match p.2 with
    | .mem f => f w ∧ andF r w R
    | _ => andF r w R
def allC : List Nat → (Nat → Prop) → Prop
  | [], _ => True
  | x :: r, f => match r with
    | [] => f x
    | _ :: _ => f x ∧ allC r f
theorem allC_get {f : Nat → Prop} : ∀ {l : List Nat}, allC l f → ∀ x ∈ l, f x
  | x :: r, h, y, hy => by
    unfold allC at h
    cases r with
    | nil => rw [List.mem_singleton] at hy; subst hy; exact h
    | cons z r =>
      rcases List.mem_cons.1 hy with rfl | hy
      · exact h.1
      · exact allC_get h.2 y hy
def vTr (P : Program) (E : Env) (n : Nat) (pro : List Nat) (ops : Array Oper) (B : List Nat) : Nat → List Nat → List Nat → List (Nat × SFact) → SFr → List LB → World → (SFr → List LB → World → Prop) → Prop
  | 0, _, _, _, ρ, σ, w, K => K ρ σ w
  | k + 1, L, Qs, F, ρ, σ, w, K => allC (readyL B L) fun l => match ops[l]? with
    | some o => cond (dstOk n o.dst) (vGuard ops o.guard ρ
      (fun ρ => cond (clearF (keepF B l F) (stBox ρ o.op)) (lop P E pro o ρ σ w fun s σ' w' => andF (keepF B l F) w' (vQs E n ops σ' w' (newQ B (L.erase l) Qs) (putS ρ o.dst s) (keepF B l F) fun ρ F => vTr P E n pro ops B k (L.erase l) (restQ B (L.erase l) Qs) F ρ σ' w' K)) False)
      (fun ρ => vQs E n ops σ w (newQ B (L.erase l) Qs) (putS ρ o.dst (some (.v undef))) (keepF B l F) fun ρ F => vTr P E n pro ops B k (L.erase l) (restQ B (L.erase l) Qs) F ρ σ w K)) False
    | none => False
def drewO (w : World) (K : World → Prop) : Prop := ∀ w1, w1.heap = w.heap → Below w.heap.size w w1 → K w1
def SameA (f : Nat → Bool) (a a' : Act) : Prop := ∀ t, f t = false → a'.tmps[t]? = a.tmps[t]?
theorem SameA.refl (f : Nat → Bool) (a : Act) : SameA f a a := fun _ _ => rfl
theorem SameA.trans {f : Nat → Bool} {a b c : Act} (h : SameA f a b) (k : SameA f b c) : SameA f a c := fun t ht => (k t ht).trans (h t ht)
theorem SameA.mono {f g : Nat → Bool} {a b : Act} (h : SameA f a b) (hg : ∀ t, f t = true → g t = true) : SameA g a b := fun t ht => h t (by cases hf : f t; rfl; rw [hg t hf] at ht; cases ht)
theorem SameA.put {f : Nat → Bool} {a : Act} {d : Option Tmp} {x : Value} (h : ∀ t, d = some t → f t = true) : SameA f a (a.put d x) := fun t ht => by
  cases d with
  | none => rfl
  | some d =>
    have hne : d ≠ t := by rintro rfl; rw [h d rfl] at ht; cases ht
    simp [Act.put, Array.getElem?_setIfInBounds_ne hne]
def wrOps (ops : Array Oper) (t : Nat) : Bool := ops.any fun o => o.dst == some t
theorem wrOps_mem {ops : Array Oper} {i : Nat} {o : Oper} (h : ops[i]? = some o) : ∀ t, o.dst = some t → wrOps ops t = true := fun t ht => by
  unfold wrOps
  obtain ⟨hi, rfl⟩ := Array.getElem?_eq_some_iff.1 h
  exact Array.any_eq_true.2 ⟨i, hi, by simp [ht]⟩
section
variable {n : Nat} {ρ : SFr} {σ : List LB} {a : Act} {w : World} {ops : Array Oper}
theorem Rep.refine (hr : Rep n ρ σ a w) {d : Nat} {b : Bool} (h : lk ρ d = some (.v (.bool b))) : Rep n ((d, some (.v (.bool b))) :: ρ) σ a w :=
  ⟨hr.size, hr.defs, fun t s hl => by
    rw [lk_cons] at hl
    by_cases hd : d = t
    · subst hd
      rw [if_pos rfl] at hl
      exact hr.slots d s (h.trans hl)
    · rw [if_neg hd] at hl; exact hr.slots t s hl, hr.boxes, hr.nodup, hr.ids⟩
theorem withV_lk {s : Option SV} {K : Value → Prop} (h : withV s K) : ∃ x, s = some (.v x) ∧ K x := by
  unfold withV at h
  split at h
  · exact ⟨_, rfl, h⟩
  · exact h.elim
theorem vGuard_get (hr : Rep n ρ σ a w) {o : Oper} {Ky Kn : SFr → Prop} (h : vGuard ops o.guard ρ Ky Kn) :
    (Region.wanted o (yielded ops a.tmps) = true ∧ ∃ ρ', Rep n ρ' σ a w ∧ Ky ρ') ∨ (Region.wanted o (yielded ops a.tmps) = false ∧ ∃ ρ', Rep n ρ' σ a w ∧ Kn ρ') := by
  unfold vGuard at h
  split at h
  · rename_i hg
    exact .inl ⟨by simp [Region.wanted, hg], ρ, hr, h⟩
  · rename_i q hg
    obtain ⟨j, want⟩ := q
    split at h
    · rename_i d hd
      obtain ⟨v, hv, h⟩ := withV_lk h
      obtain ⟨x, hx1, hx2⟩ := hr.slots d _ hv
      cases hx1
      have hy : ((ops[j]?).bind (·.dst)).bind (a.tmps[·]?) = some v := by
        unfold dstAt at hd
        cases ho : ops[j]? with
        | none => rw [ho] at hd; cases hd
        | some oj =>
          rw [ho] at hd
          simp only at hd
          simp [hd, hx2]
      split at h
      · rename_i b
        have hyy : yielded ops a.tmps j = some b := by unfold yielded; rw [hy]
        have hw : Region.wanted o (yielded ops a.tmps) = (b == want) := by simp only [Region.wanted, hg, hyy]; cases b <;> cases want <;> rfl
        have hr' := hr.refine hv
        cases b <;> cases want
        · exact .inl ⟨hw, _, hr', h⟩
        · exact .inr ⟨hw, _, hr', h⟩
        · exact .inr ⟨hw, _, hr', h⟩
        · exact .inl ⟨hw, _, hr', h⟩
      · rename_i vs
        have hyy : yielded ops a.tmps j = none := by unfold yielded; rw [hy]
        exact .inr ⟨by simp [Region.wanted, hg, hyy], ρ, hr, h⟩
      · exact h.elim
    · exact h.elim
theorem vOps_sound (hE : EOk P E) {pro : List Nat} {K : SFr → List LB → World → Prop} {Q : Exit → Act → World → Prop} {σ0 : List LB} {a0 : Act} (hQ : ∀ ρ σ a w, K ρ σ w → Rep n ρ σ a w → GrowsP pro σ0 σ → SameA (wrOps ops) a0 a → Q .normal a w) :
    ∀ (l : List Nat) (ρ : SFr) (σ : List LB) (a : Act) (w : World), Rep n ρ σ a w → GrowsP pro σ0 σ → SameA (wrOps ops) a0 a → vOps P E n pro ops l ρ σ w K → wpOps P ops Q l a w
  | [], ρ, σ, a, w, hr, hg, hs, h => hQ ρ σ a w h hr hg hs
  | i :: r, ρ, σ, a, w, hr, hg, hs, h => by
    unfold vOps at h
    unfold wpOps
    split at h
    · rename_i o ho
      obtain ⟨hd, h⟩ := cond_get h
      rw [ho]
      simp only
      have hput : ∀ x, SameA (wrOps ops) a (a.put o.dst x) := fun x => SameA.put (wrOps_mem ho)
      rcases vGuard_get hr h with ⟨hw, ρ', hr', h⟩ | ⟨hw, ρ', hr', h⟩
      · rw [if_pos hw]
        refine .inl ?_
        cases hq : isQ o.op
        · rw [hq] at h
          simp only [cond_false] at h
          refine Oper.wp_mono (fun a1 w1 => ?_) (lop_sound hE hr' hd h (Q := Q))
          rintro ⟨s, σ', hk, hr1, hg1, _, x, rfl⟩
          exact vOps_sound hE hQ r _ _ _ _ hr1 (hg.trans hg1) (hs.trans (hput x)) hk
        · rw [hq] at h
          simp only [cond_true] at h
          obtain ⟨s, f, x, hk, hden, hf, hrun, hbx⟩ := qop_sound (P := P) (o := o) hE hr' h
          unfold Oper.wp
          rw [hrun w hf, Oper.upon_value]
          exact vOps_sound hE hQ r _ _ _ _ (hr'.put hd hden) hg (hs.trans (hput x)) hk
      · rw [if_neg (by simp [hw])]
        exact vOps_sound hE hQ r _ _ _ _ (hr'.put hd rfl) hg (hs.trans (hput _)) h
    · exact h.elim
def qf (p : Nat × SFact) : QF := (p.1, p.2.holds)
/-- The boxes that facts speak of are there. -/
def InF (σ : List LB) (F : List (Nat × SFact)) : Prop := ∀ p ∈ F, ∀ b, p.2 = .box b → lkB σ b.id = some b
theorem vQs_sound (hE : EOk P E) {K : SFr → List (Nat × SFact) → Prop} : ∀ (l : List Nat) (ρ : SFr) (a : Act) (F : List (Nat × SFact)), Rep n ρ σ a w → vQs E n ops σ w l ρ F K →
    ∃ (G : List (Nat × SFact)) (a' : Act) (ρ' : SFr), G.map (·.1) = l ∧ SeqF P ops (G.map qf) a a' ∧ (∀ p ∈ G, p.2.holds w) ∧ Rep n ρ' σ a' w ∧ SameA (wrOps ops) a a' ∧ InF σ G ∧ K ρ' (F ++ G)
  | [], ρ, a, F, hr, h => ⟨[], a, ρ, rfl, rfl, (fun p hp => by cases hp), hr, SameA.refl _ _, (fun p hp => by cases hp), (by rw [List.append_nil]; exact h)⟩
  | i :: r, ρ, a, F, hr, h => by
    unfold vQs at h
    split at h
    · rename_i o ho
      obtain ⟨hd, h⟩ := cond_get h
      have hput : ∀ x, SameA (wrOps ops) a (a.put o.dst x) := fun x => SameA.put (wrOps_mem ho)
      rcases vGuard_get hr h with ⟨hw, ρ', hr', h⟩ | ⟨hw, ρ', hr', h⟩
      · obtain ⟨s, f, x, hk, hden, hf, hrun, hbx⟩ := qop_sound (P := P) (o := o) hE hr' h
        obtain ⟨G, a', ρ2, h1, h2, h3, h4, h5, h7, h6⟩ := vQs_sound hE r _ _ _ (hr'.put hd hden) hk
        refine ⟨(i, f) :: G, a', ρ2, by rw [List.map_cons, h1], ⟨o, x, ho, fun wx hx => .inl ⟨hw, .inl (hrun wx hx)⟩, h2⟩, fun p hp => ?_, h4, (hput x).trans h5, fun p hp => ?_, by rw [List.append_assoc] at h6; exact h6⟩
        · rcases List.mem_cons.1 hp with rfl | hp
          · exact hf
          · exact h3 p hp
        · rcases List.mem_cons.1 hp with rfl | hp
          · exact hbx
          · exact h7 p hp
      · obtain ⟨G, a', ρ2, h1, h2, h3, h4, h5, h7, h6⟩ := vQs_sound hE r _ _ _ (hr'.put hd (x := undef) rfl) h
        refine ⟨(i, .tt) :: G, a', ρ2, by rw [List.map_cons, h1], ⟨o, undef, ho, fun wx hx => .inr ⟨hw, rfl⟩, h2⟩, fun p hp => ?_, h4, (hput _).trans h5, fun p hp => ?_, by rw [List.append_assoc] at h6; exact h6⟩
        · rcases List.mem_cons.1 hp with rfl | hp
          · trivial
          · exact h3 p hp
        · rcases List.mem_cons.1 hp with rfl | hp
          · intro b hb; cases hb
          · exact h7 p hp
    · exact h.elim
theorem keepF_eq (B : List Nat) (l : Nat) : ∀ F, keepP B l (F.map qf) = (keepF B l F).map qf
  | [] => rfl
  | p :: r => by
    have ih := keepF_eq B l r
    unfold keepF
    unfold keepP at *
    rw [List.map_cons, List.filter_cons, ih]
    show (if (!(B.getD l 0).testBit p.1) = true then _ else _) = _
    cases (B.getD l 0).testBit p.1 <;> rfl
theorem keepF_sub (B : List Nat) (l : Nat) : ∀ {F : List (Nat × SFact)} {p}, p ∈ keepF B l F → p ∈ F
  | q :: r, p, h => by
    unfold keepF at h
    cases hb : (B.getD l 0).testBit q.1
    · rw [hb] at h
      rcases List.mem_cons.1 h with rfl | h
      · simp
      · exact List.mem_cons_of_mem _ (keepF_sub B l h)
    · rw [hb] at h; exact List.mem_cons_of_mem _ (keepF_sub B l h)
theorem factsAt_get : ∀ {F : List (Nat × SFact)} {w : World} {σ : List LB}, factsAt F w → InF σ F → (∀ b ∈ σ, b.at w) → ∀ p ∈ F, p.2.holds w
  | p :: r, w, σ, h, hi, hb, q, hq => by
    unfold factsAt at h
    rcases List.mem_cons.1 hq with rfl | hq
    · cases hf : q.2 with
      | tt => trivial
      | box b => exact hb b (lkB_mem (hi q (by simp) b hf)).1
      | mem f => rw [hf] at h; exact h.1
    · refine factsAt_get (F := r) ?_ (fun p hp => hi p (List.mem_cons_of_mem _ hp)) hb q hq
      cases hf : p.2 <;> rw [hf] at h <;> first | exact h | exact h.2
theorem andF_get : ∀ {F : List (Nat × SFact)} {w : World} {R : Prop}, andF F w R → factsAt F w ∧ R
  | [], w, R, h => ⟨trivial, h⟩
  | p :: r, w, R, h => by
    unfold andF at h
    unfold factsAt
    split at h
    · exact ⟨⟨h.1, (andF_get h.2).1⟩, (andF_get h.2).2⟩
    · rename_i hn
      have := andF_get h
      cases hf : p.2 with
      | mem f => exact absurd hf (hn f)
      | tt => exact this
      | box b => exact this
theorem noBoxF_get : ∀ {F : List (Nat × SFact)} {id : Nat}, noBoxF F id = true → ∀ p ∈ F, ∀ b, p.2 = .box b → b.id ≠ id
  | p :: r, id, h, q, hq, b, hb => by
    unfold noBoxF at h
    rcases List.mem_cons.1 hq with rfl | hq
    · rintro rfl
      rw [hb] at h
      simp at h
    · cases hf : p.2 with
      | box k =>
        rw [hf] at h
        simp only at h
        cases hk : Nat.beq k.id id
        · rw [hk] at h; exact noBoxF_get h q hq b hb
        · rw [hk] at h; cases h
      | tt => rw [hf] at h; exact noBoxF_get h q hq b hb
      | mem f => rw [hf] at h; exact noBoxF_get h q hq b hb
theorem vTr_sound (hE : EOk P E) {pro : List Nat} {B : List Nat} {K : SFr → List LB → World → Prop} {Q : Exit → Act → World → Prop} {σ0 : List LB} {a0 : Act} (hQ : ∀ ρ σ a w, K ρ σ w → Rep n ρ σ a w → GrowsP pro σ0 σ → SameA (wrOps ops) a0 a → Q .normal a w) :
    ∀ (k : Nat) (L Qs : List Nat) (F : List (Nat × SFact)) (ρ : SFr) (σ : List LB) (a : Act) (w : World), Rep n ρ σ a w → GrowsP pro σ0 σ → SameA (wrOps ops) a0 a → InF σ F → (∀ p ∈ F, p.2.holds w) → vTr P E n pro ops B k L Qs F ρ σ w K → wpTr P ops Q B k L Qs (F.map qf) a w
  | 0, L, Qs, F, ρ, σ, a, w, hr, hg, hs, _, _, h => hQ ρ σ a w h hr hg hs
  | k + 1, L, Qs, F, ρ, σ, a, w, hr, hg, hs, hin, hF, h => by
    intro l hl
    unfold vTr at h
    have h := allC_get h l hl
    unfold wpOp
    split at h
    · rename_i o ho
      obtain ⟨hd, h⟩ := cond_get h
      rw [ho]
      simp only
      have hput : ∀ x, SameA (wrOps ops) a (a.put o.dst x) := fun x => SameA.put (wrOps_mem ho)
      rcases vGuard_get hr h with ⟨hw, ρ', hr', h⟩ | ⟨hw, ρ', hr', h⟩
      · rw [if_pos hw]
        refine .inl ?_
        obtain ⟨hc, h⟩ := cond_get h
        refine Oper.wp_mono (fun a1 w1 => ?_) (lop_sound hE hr' hd h (Q := Q))
        rintro ⟨s, σ', hk, hr1, hg1, hst, x, rfl⟩
        obtain ⟨hfa, hk⟩ := andF_get hk
        have hin1 : InF σ' (keepF B l F) := fun p hp b hb => by
          refine hst b.id b (fun e => ?_) (hin p (keepF_sub B l hp) b hb)
          rw [e] at hc
          exact noBoxF_get hc p hp b hb rfl
        obtain ⟨G, a2, ρ2, h1, h2, h3, h4, h5, h7, h6⟩ := vQs_sound (P := P) hE _ _ _ _ hr1 hk
        have hall : ∀ p ∈ keepF B l F ++ G, p.2.holds w1 := fun p hp => (List.mem_append.1 hp).elim (factsAt_get hfa hin1 hr1.boxes p) (h3 p)
        have hinall : InF σ' (keepF B l F ++ G) := fun p hp => (List.mem_append.1 hp).elim (hin1 p) (h7 p)
        refine ⟨G.map qf, a2, by rw [List.map_map]; exact h1, h2, fun q hq => ?_, ?_⟩
        · rw [keepF_eq, ← List.map_append] at hq
          obtain ⟨p, hp, rfl⟩ := List.mem_map.1 hq
          exact hall p hp
        · rw [keepF_eq, ← List.map_append]
          exact vTr_sound hE hQ k _ _ _ _ _ _ _ h4 (hg.trans hg1) ((hs.trans (hput x)).trans h5) hinall hall h6
      · rw [if_neg (by simp [hw])]
        have hin1 : InF σ (keepF B l F) := fun p hp => hin p (keepF_sub B l hp)
        obtain ⟨G, a2, ρ2, h1, h2, h3, h4, h5, h7, h6⟩ := vQs_sound (P := P) hE _ _ _ _ (hr'.put hd (x := undef) rfl) h
        have hall : ∀ p ∈ keepF B l F ++ G, p.2.holds w := fun p hp => (List.mem_append.1 hp).elim (fun h => hF p (keepF_sub B l h)) (h3 p)
        have hinall : InF σ (keepF B l F ++ G) := fun p hp => (List.mem_append.1 hp).elim (hin1 p) (h7 p)
        refine ⟨G.map qf, a2, by rw [List.map_map]; exact h1, h2, fun q hq => ?_, ?_⟩
        · rw [keepF_eq, ← List.map_append] at hq
          obtain ⟨p, hp, rfl⟩ := List.mem_map.1 hq
          exact hall p hp
        · rw [keepF_eq, ← List.map_append]
          exact vTr_sound hE hQ k _ _ _ _ _ _ _ h4 hg ((hs.trans (hput _)).trans h5) hinall hall h6
    · exact h.elim
end
end Go.Proofs.Ytkggnbabnfhcpaa
end
section
/- Code over abstract frames: what is to be shown of it, and that this is enough. No program in sight. -/
namespace Go.Proofs.Ytkggnbabnfhcpaa
open Go.RowKit
variable {P : Program} {E : Env}
def arrow : List Lf → Type → Type
  | [], R => R
  | .int _ :: r, R => Int → arrow r R
  | .bool :: r, R => Bool → arrow r R
  | .str :: r, R => ByteArray → arrow r R
  | .slice :: r, R => Option Addr → Nat → Nat → arrow r R
  | .ptr :: r, R => Option Addr → arrow r R
  | .flt :: r, R => Nat → arrow r R
  | .cpx :: r, R => Nat → Nat → arrow r R
  | .any :: r, R => Value → arrow r R
  | .map :: r, R => Option Nat → arrow r R
  | .bytes _ :: r, R => arrow r R
def getA {R : Type} (dflt : R) : (ls : List Lf) → arrow ls R → List Value → R
  | [], f, vs => match vs with
    | [] => f
    | _ :: _ => dflt
  | .int k :: r, f, vs => match vs with
    | .int k' x :: vs => cond (decide (k = k')) (getA dflt r (f x) vs) dflt
    | _ => dflt
  | .bool :: r, f, vs => match vs with
    | .bool x :: vs => getA dflt r (f x) vs
    | _ => dflt
  | .str :: r, f, vs => match vs with
    | .string s :: vs => getA dflt r (f s) vs
    | _ => dflt
  | .slice :: r, f, vs => match vs with
    | .slice a n c :: vs => getA dflt r (f a n c) vs
    | _ => dflt
  | .ptr :: r, f, vs => match vs with
    | .pointer a :: vs => getA dflt r (f a) vs
    | _ => dflt
  | .flt :: r, f, vs => match vs with
    | .float .f64 b :: vs => getA dflt r (f b) vs
    | _ => dflt
  | .cpx :: r, f, vs => match vs with
    | .complex .f64 b c :: vs => getA dflt r (f b c) vs
    | _ => dflt
  | .any :: r, f, vs => match vs with
    | v :: vs => getA dflt r (f v) vs
    | [] => dflt
  | .map :: r, f, vs => match vs with
    | .map b :: vs => getA dflt r (f b) vs
    | _ => dflt
  | .bytes _ :: _, _, _ => dflt
def allA {R : Type} : (ls : List Lf) → arrow ls R → List Value → (List Value → R → Prop) → Prop
  | [], f, acc, K => K acc f
  | .int k :: r, f, acc, K => ∀ x : Int, allA r (f x) (acc ++ [.int k x]) K
  | .bool :: r, f, acc, K => ∀ x : Bool, allA r (f x) (acc ++ [.bool x]) K
  | .str :: r, f, acc, K => ∀ x : ByteArray, allA r (f x) (acc ++ [.string x]) K
  | .slice :: r, f, acc, K => ∀ (a : Option Addr) (n c : Nat), allA r (f a n c) (acc ++ [.slice a n c]) K
  | .ptr :: r, f, acc, K => ∀ a : Option Addr, allA r (f a) (acc ++ [.pointer a]) K
  | .flt :: r, f, acc, K => ∀ b : Nat, allA r (f b) (acc ++ [.float .f64 b]) K
  | .cpx :: r, f, acc, K => ∀ b c : Nat, allA r (f b c) (acc ++ [.complex .f64 b c]) K
  | .any :: r, f, acc, K => ∀ v : Value, allA r (f v) (acc ++ [v]) K
  | .map :: r, f, acc, K => ∀ b : Option Nat, allA r (f b) (acc ++ [.map b]) K
  | .bytes _ :: _, _, _, _ => True
theorem allA_get : ∀ (ls : List Lf) (I : arrow ls (World → Prop)) (acc vals : List Value) (w : World) (K : List Value → (World → Prop) → Prop), allA ls I acc K → getA (fun _ => False) ls I vals w → K (acc ++ vals) (getA (fun _ => False) ls I vals)
  | [], I, acc, vals, w, K, h, hi => by
    cases vals with
    | nil => rw [List.append_nil]; exact h
    | cons v vs => exact hi.elim
  | .int k :: r, I, acc, vals, w, K, h, hi => by
    unfold getA at hi ⊢
    split at hi
    · rename_i k' x vs
      cases hk : decide (k = k')
      · rw [hk] at hi; exact hi.elim
      · rw [hk] at hi
        obtain rfl := of_decide_eq_true hk
        have := allA_get r (I x) (acc ++ [.int k x]) vs w K (h x) hi
        rw [List.append_assoc] at this
        simpa using this
    · exact hi.elim
  | .bool :: r, I, acc, vals, w, K, h, hi => by
    unfold getA at hi ⊢
    split at hi
    · rename_i x vs
      have := allA_get r (I x) (acc ++ [.bool x]) vs w K (h x) hi
      rw [List.append_assoc] at this
      exact this
    · exact hi.elim
  | .str :: r, I, acc, vals, w, K, h, hi => by
    unfold getA at hi ⊢
    split at hi
    · rename_i x vs
      have := allA_get r (I x) (acc ++ [.string x]) vs w K (h x) hi
      rw [List.append_assoc] at this
      exact this
    · exact hi.elim
  | .slice :: r, I, acc, vals, w, K, h, hi => by
    unfold getA at hi ⊢
    split at hi
    · rename_i a n c vs
      have := allA_get r (I a n c) (acc ++ [.slice a n c]) vs w K (h a n c) hi
      rw [List.append_assoc] at this
      exact this
    · exact hi.elim
  | .ptr :: r, I, acc, vals, w, K, h, hi => by
    unfold getA at hi ⊢
    split at hi
    · rename_i a vs
      have := allA_get r (I a) (acc ++ [.pointer a]) vs w K (h a) hi
      rw [List.append_assoc] at this
      exact this
    · exact hi.elim
  | .flt :: r, I, acc, vals, w, K, h, hi => by
    unfold getA at hi ⊢
    split at hi
    · rename_i b vs
      have := allA_get r (I b) (acc ++ [.float .f64 b]) vs w K (h b) hi
      rw [List.append_assoc] at this
      exact this
    · exact hi.elim
  | .cpx :: r, I, acc, vals, w, K, h, hi => by
    unfold getA at hi ⊢
    split at hi
    · rename_i b c vs
      have := allA_get r (I b c) (acc ++ [.complex .f64 b c]) vs w K (h b c) hi
      rw [List.append_assoc] at this
      exact this
    · exact hi.elim
  | .any :: r, I, acc, vals, w, K, h, hi => by
    unfold getA at hi ⊢
    split at hi
    · rename_i v vs
      have := allA_get r (I v) (acc ++ [v]) vs w K (h v) hi
      rw [List.append_assoc] at this
      exact this
    · exact hi.elim
  | .map :: r, I, acc, vals, w, K, h, hi => by
    unfold getA at hi ⊢
    split at hi
    · rename_i b vs
      have := allA_get r (I b) (acc ++ [.map b]) vs w K (h b) hi
      rw [List.append_assoc] at this
      exact this
    · exact hi.elim
  | .bytes _ :: _, I, acc, vals, w, K, h, hi => by
    unfold getA at hi
    exact hi.elim
abbrev LSl := List (Nat × Sh1)
abbrev LBx := List (Nat × List Lf)
def lfsR : LSl → List Lf
  | [] => []
  | p :: r => (match p.2 with | .lf l => [l] | .agg ls => ls) ++ lfsR r
def lfsB : LBx → List Lf
  | [] => []
  | p :: r => p.2 ++ lfsB r
/-- The slots' values at a head, out of the flat row; what is left of it. -/
def headR : LSl → List Value → SFr → SFr
  | [], _, ρ => ρ
  | p :: r, vs, ρ => match p.2, vs with
    | .lf _, v :: vs => headR r vs ((p.1, some (.v v)) :: ρ)
    | .lf _, [] => ρ
    | .agg ls, vs => headR r (vs.drop ls.length) ((p.1, some (.v (.agg (vs.take ls.length).toArray))) :: ρ)
def restR : LSl → List Value → List Value
  | [], vs => vs
  | p :: r, vs => match p.2, vs with
    | .lf _, _ :: vs => restR r vs
    | .lf _, [] => []
    | .agg ls, vs => restR r (vs.drop ls.length)
def headB : LBx → List Value → List LB → List LB
  | [], _, σ => σ
  | p :: r, vs, σ => headB r (vs.drop p.2.length) (setB σ p.1 (vs.take p.2.length))
def liveR : LSl → SFr → List Value → (List Value → Prop) → Prop
  | [], _, acc, K => K acc
  | p :: r, ρ, acc, K => withV (lk ρ p.1) fun v => match p.2, v with
    | .lf _, .agg _ => False
    | .lf _, v => liveR r ρ (acc ++ [v]) K
    | .agg ls, .agg cs => cond (Nat.beq cs.toList.length ls.length) (liveR r ρ (acc ++ cs.toList) K) False
    | .agg _, _ => False
def liveB : LBx → List LB → List Value → (List Value → Prop) → Prop
  | [], _, acc, K => K acc
  | p :: r, σ, acc, K => match lkB σ p.1 with
    | some b => cond (Nat.beq b.cs.length p.2.length) (liveB r σ (acc ++ b.cs) K) False
    | none => False
def dropS (wr : List Nat) : SFr → SFr
  | [] => []
  | p :: r => cond (memN wr p.1) (dropS wr r) (p :: dropS wr r)
def idsB : LBx → List Nat
  | [] => []
  | p :: r => p.1 :: idsB r
def subN : List Nat → List Nat → Bool
  | [], _ => true
  | x :: r, l => cond (memN l x) (subN r l) false
/-- Boxes that may be written are among those that the head lists. -/
def okB : List LB → List Nat → List Nat → Bool
  | [], _, _ => true
  | b :: r, pb, ids => cond (memN pb b.id) (cond (memN ids b.id) (okB r pb ids) false) (okB r pb ids)
inductive AC where
  | skip
  | reg (id : Nat) (ops : Array Oper)
  | regD (id : Nat) (ops : Array Oper) (B L Qs : List Nat)
  | seq (a b : AC)
  | cond (c : Operand) (a b : AC)
  | block (id : Nat) (a : AC)
  | loop (lv : LSl) (bx : LBx) (wr pb : List Nat) (a : AC)
  | cut (lv : LSl) (bx : LBx) (wr pb : List Nat) (a : AC)
  | exit (id : Nat)
  | ret
  | label (l : Nat)
  | goto (l : Nat)
  | scope (l : Nat) (lv : LSl) (bx : LBx) (wr pb : List Nat) (a r : AC)
def AC.erase : AC → Code
  | .skip => .skip
  | .reg id ops => .region id ops false
  | .regD id ops _ _ _ => .region id ops true
  | .seq a b => .seq a.erase b.erase
  | .cond c a b => .cond c a.erase b.erase
  | .block id a => .block id a.erase
  | .loop _ _ _ _ a => .loop a.erase
  | .cut _ _ _ _ a => a.erase
  | .exit id => .exit id
  | .ret => .ret
  | .label l => .label l
  | .goto l => .goto l
  | .scope _ _ _ _ _ a _ => .scope a.erase
/-- What stands behind a label. -/
def AC.find : AC → Nat → Option AC
  | .label m, l => _root_.cond (m == l) (some .skip) none
  | .seq a b, l => match a.find l with
    | some r => some (.seq r b)
    | none => b.find l
  | .cut _ _ _ _ a, l => a.find l
  | _, _ => none
theorem AC.erase_find : ∀ (a : AC) (l : Nat), findLabel a.erase l = (a.find l).map AC.erase
  | .label m, l => by
    unfold AC.erase AC.find findLabel
    cases m == l <;> rfl
  | .seq a b, l => by
    unfold AC.erase AC.find findLabel
    rw [AC.erase_find a l]
    cases a.find l with
    | none => exact AC.erase_find b l
    | some r => rfl
  | .cut _ _ _ _ a, l => AC.erase_find a l
  | .skip, _ => rfl
  | .reg _ _, _ => rfl
  | .regD _ _ _ _ _, _ => rfl
  | .cond _ _ _, _ => rfl
  | .block _ _, _ => rfl
  | .loop _ _ _ _ _, _ => rfl
  | .exit _, _ => rfl
  | .ret, _ => rfl
  | .goto _, _ => rfl
  | .scope _ _ _ _ _ _ _, _ => rfl
/-- Each scope's second part is what stands behind its label. -/
def AC.good : AC → Prop
  | .seq a b => a.good ∧ b.good
  | .cond _ a b => a.good ∧ b.good
  | .block _ a => a.good
  | .loop _ _ _ _ a => a.good
  | .cut _ _ _ _ a => a.good
  | .scope l _ _ _ _ a r => a.good ∧ r.good ∧ findLabel a.erase l = some r.erase
  | _ => True
theorem AC.good_find : ∀ (a : AC) (l : Nat) (r : AC), a.good → a.find l = some r → r.good
  | .label m, l, r, _, h => by
    unfold AC.find at h
    cases hm : m == l <;> rw [hm] at h
    · cases h
    · injection h with h; subst h; trivial
  | .seq a b, l, r, hg, h => by
    unfold AC.find at h
    cases hf : a.find l with
    | none => rw [hf] at h; exact AC.good_find b l r hg.2 h
    | some x =>
      rw [hf] at h
      injection h with h
      subst h
      exact ⟨AC.good_find a l x hg.1 hf, hg.2⟩
  | .cut _ _ _ _ a, l, r, hg, h => AC.good_find a l r hg h
  | .skip, _, _, _, h => by cases h
  | .reg _ _, _, _, _, h => by cases h
  | .regD _ _ _ _ _, _, _, _, h => by cases h
  | .cond _ _ _, _, _, _, h => by cases h
  | .block _ _, _, _, _, h => by cases h
  | .loop _ _ _ _ _, _, _, _, h => by cases h
  | .exit _, _, _, _, h => by cases h
  | .ret, _, _, _, h => by cases h
  | .goto _, _, _, _, h => by cases h
  | .scope _ _ _ _ _ _ _, _, _, _, h => by cases h
def dstsO : List Oper → List Nat
  | [] => []
  | o :: r => match o.dst with
    | some d => d :: dstsO r
    | none => dstsO r
def AC.dsts : AC → List Nat
  | .skip => []
  | .reg _ ops => dstsO ops.toList
  | .regD _ ops _ _ _ => dstsO ops.toList
  | .seq a b => a.dsts ++ b.dsts
  | .cond _ a b => a.dsts ++ b.dsts
  | .block _ a => a.dsts
  | .loop _ _ _ _ a => a.dsts
  | .cut _ _ _ _ a => a.dsts
  | .exit _ => []
  | .ret => []
  | .label _ => []
  | .goto _ => []
  | .scope _ _ _ _ _ a r => a.dsts ++ r.dsts
abbrev VQ := Exit → SFr → List LB → World → Prop
def refC (c : Operand) (b : Bool) (ρ : SFr) : SFr := match c with
  | .tmp d => (d, some (.v (.bool b))) :: ρ
  | _ => ρ
def thenQ (K : SFr → List LB → World → Prop) (Q : VQ) : VQ
  | .normal, ρ, σ, w => K ρ σ w
  | e, ρ, σ, w => Q e ρ σ w
def blockQ (id : Nat) (Q : VQ) : VQ
  | .exit k, ρ, σ, w => cond (Nat.beq k id) (Q .normal ρ σ w) (Q (.exit k) ρ σ w)
  | e, ρ, σ, w => Q e ρ σ w
def jumpQ (l : Nat) (K : SFr → List LB → World → Prop) (Q : VQ) : VQ
  | .goto k, ρ, σ, w => cond (Nat.beq k l) (K ρ σ w) False
  | e, ρ, σ, w => Q e ρ σ w
def headOk (σ : List LB) (bx : LBx) (wr pb pro : List Nat) (a : AC) : Bool := subN a.dsts wr && subN pb pro && subN (idsB bx) pro && okB σ pb (idsB bx)
def regOk (ops : Array Oper) (B L Qs : List Nat) : Bool := trB ops B L Qs
def vc (P : Program) (E : Env) (n : Nat) : AC → List Nat → VQ → SFr → List LB → World → Prop
  | .skip, _, Q, ρ, σ, w => Q .normal ρ σ w
  | .reg _ ops, pro, Q, ρ, σ, w => vOps P E n pro ops (List.range ops.size) ρ σ w (Q .normal)
  | .regD _ ops B L Qs, pro, Q, ρ, σ, w => _root_.cond (regOk ops B L Qs) (drewO w fun w1 => vQs E n ops σ w1 (newQ B L Qs) ρ [] fun ρ F => vTr P E n pro ops B L.length L (restQ B L Qs) F ρ σ w1 (Q .normal)) False
  | .seq a b, pro, Q, ρ, σ, w => vc P E n a pro (thenQ (vc P E n b pro Q) Q) ρ σ w
  | .cond c a b, pro, Q, ρ, σ, w => withV (ev ρ c) fun v => match v with
    | .bool t => br t (vc P E n a pro Q (refC c true ρ) σ w) (vc P E n b pro Q (refC c false ρ) σ w)
    | _ => False
  | .block id a, pro, Q, ρ, σ, w => vc P E n a pro (blockQ id Q) ρ σ w
  | .loop lv bx wr pb a, pro, Q, ρ, σ, w => _root_.cond (headOk σ bx wr pb pro a)
      (∃ (I : arrow (lfsR lv ++ lfsB bx) (World → Prop)) (μ : arrow (lfsR lv ++ lfsB bx) (World → Nat)),
        (liveR lv ρ [] fun vs => liveB bx σ vs fun vs => getA (fun _ => False) _ I vs w) ∧
        allA _ I [] fun vs i => ∀ w1, i w1 → vc P E n a pb (thenQ (fun ρ' σ' w' => liveR lv ρ' [] fun vs' => liveB bx σ' vs' fun vs' => getA (fun _ => False) _ I vs' w' ∧ getA (fun _ => 0) _ μ vs' w' < getA (fun _ => 0) _ μ vs w1) Q)
          (headR lv vs (dropS wr ρ)) (headB bx (restR lv vs) σ) w1) False
  | .cut lv bx wr pb a, pro, Q, ρ, σ, w => _root_.cond (headOk σ bx wr pb pro a)
      (∃ (J : arrow (lfsR lv ++ lfsB bx) (World → Prop)),
        vc P E n a pb (thenQ (fun ρ' σ' w' => liveR lv ρ' [] fun vs' => liveB bx σ' vs' fun vs' => getA (fun _ => False) _ J vs' w') Q) ρ σ w ∧
        allA _ J [] fun vs j => ∀ w1, j w1 → Q .normal (headR lv vs (dropS wr ρ)) (headB bx (restR lv vs) σ) w1) False
  | .exit id, _, Q, ρ, σ, w => Q (.exit id) ρ σ w
  | .ret, _, Q, ρ, σ, w => Q .ret ρ σ w
  | .label _, _, Q, ρ, σ, w => Q .normal ρ σ w
  | .goto l, _, Q, ρ, σ, w => Q (.goto l) ρ σ w
  | .scope l lv bx wr pb a r, pro, Q, ρ, σ, w => _root_.cond (headOk σ bx wr pb pro (.seq a r))
      (∃ (I : arrow (lfsR lv ++ lfsB bx) (World → Prop)) (μ : arrow (lfsR lv ++ lfsB bx) (World → Nat)),
        vc P E n a pb (jumpQ l (fun ρ' σ' w' => liveR lv ρ' [] fun vs' => liveB bx σ' vs' fun vs' => getA (fun _ => False) _ I vs' w') Q) ρ σ w ∧
        allA _ I [] fun vs i => ∀ w1, i w1 → vc P E n r pb (jumpQ l (fun ρ' σ' w' => liveR lv ρ' [] fun vs' => liveB bx σ' vs' fun vs' => getA (fun _ => False) _ I vs' w' ∧ getA (fun _ => 0) _ μ vs' w' < getA (fun _ => 0) _ μ vs w1) Q)
          (headR lv vs (dropS wr ρ)) (headB bx (restR lv vs) σ) w1) False
theorem memN_iff {n : Nat} : ∀ {l : List Nat}, memN l n = true ↔ n ∈ l
  | [] => by simp [memN]
  | x :: r => by
    unfold memN
    cases hb : Nat.beq x n
    · have : x ≠ n := fun e => by rw [e, Nat.beq_refl] at hb; cases hb
      simp only [cond_false, memN_iff, List.mem_cons]
      exact ⟨.inr, fun h => h.resolve_left (fun e => this e.symm)⟩
    · simp [Nat.eq_of_beq_eq_true hb]
theorem subN_get : ∀ {l m : List Nat}, subN l m = true → ∀ x, memN l x = true → memN m x = true
  | y :: r, m, h, x, hx => by
    unfold subN at h
    cases hy : memN m y
    · rw [hy] at h; cases h
    · rw [hy] at h
      rw [memN_iff] at hx
      rcases List.mem_cons.1 hx with rfl | hx
      · exact hy
      · exact subN_get h x (memN_iff.2 hx)
theorem dstsO_mem {d : Nat} : ∀ {l : List Oper}, d ∈ dstsO l ↔ ∃ o ∈ l, o.dst = some d
  | [] => by simp [dstsO]
  | o :: r => by
    unfold dstsO
    split
    · rename_i k hk
      simp only [List.mem_cons, dstsO_mem (l := r)]
      constructor
      · rintro (rfl | ⟨o', h1, h2⟩)
        · exact ⟨o, .inl rfl, hk⟩
        · exact ⟨o', .inr h1, h2⟩
      · rintro ⟨o', rfl | h1, h2⟩
        · rw [hk] at h2; injection h2 with h2; exact .inl h2.symm
        · exact .inr ⟨o', h1, h2⟩
    · rename_i hk
      simp only [List.mem_cons, dstsO_mem (l := r)]
      constructor
      · rintro ⟨o', h1, h2⟩; exact ⟨o', .inr h1, h2⟩
      · rintro ⟨o', rfl | h1, h2⟩
        · rw [hk] at h2; cases h2
        · exact ⟨o', h1, h2⟩
theorem wrOps_dsts {ops : Array Oper} {t : Nat} (h : wrOps ops t = true) : memN (dstsO ops.toList) t = true := by
  unfold wrOps at h
  obtain ⟨i, hi, h⟩ := Array.any_eq_true.1 h
  exact memN_iff.2 (dstsO_mem.2 ⟨ops[i], by simp, by simpa using h⟩)
theorem lk_dropS (wr : List Nat) (t : Nat) : ∀ (ρ : SFr), lk (dropS wr ρ) t = if memN wr t then none else lk ρ t
  | [] => by simp [dropS, lk]
  | p :: r => by
    obtain ⟨d, x⟩ := p
    unfold dropS
    cases hd : memN wr d
    · simp only [cond_false]
      rw [lk_cons, lk_cons, lk_dropS wr t r]
      by_cases h : d = t
      · subst h; simp [hd]
      · simp [h]
    · simp only [cond_true]
      rw [lk_dropS wr t r, lk_cons]
      by_cases h : d = t
      · subst h; simp [hd]
      · simp [h]
end Go.Proofs.Ytkggnbabnfhcpaa
end
section
/- What is to be shown of code over abstract frames is enough. No program in sight. -/
namespace Go.Proofs.Ytkggnbabnfhcpaa
open Go.RowKit
variable {P : Program} {E : Env}
section
variable {n : Nat} {ρ : SFr} {σ : List LB} {a : Act} {w : World}
theorem liveR_get (hr : Rep n ρ σ a w) : ∀ (lv : LSl) (acc : List Value) (K : List Value → Prop), liveR lv ρ acc K →
    ∃ seg, K (acc ++ seg) ∧ (∀ seg2, restR lv (seg ++ seg2) = seg2) ∧ ∀ seg2 ρ0 t s, lk (headR lv (seg ++ seg2) ρ0) t = some s → (∃ v, s = .v v ∧ a.tmps[t]? = some v) ∨ lk ρ0 t = some s
  | [], acc, K, h => ⟨[], by rw [List.append_nil]; exact h, fun _ => rfl, fun _ _ _ _ h => .inr h⟩
  | (d, sh) :: r, acc, K, h => by
    unfold liveR at h
    obtain ⟨v, hv, h⟩ := withV_lk h
    obtain ⟨x, hx1, hx2⟩ := hr.slots d _ hv
    cases hx1
    have step : ∀ (ρ0 : SFr) (t : Nat) (s : SV), lk ((d, some (.v v)) :: ρ0) t = some s → (∃ v, s = .v v ∧ a.tmps[t]? = some v) ∨ lk ρ0 t = some s := fun ρ0 t s h => by
      rw [lk_cons] at h
      by_cases hd : d = t
      · subst hd
        rw [if_pos rfl] at h
        injection h with h
        exact .inl ⟨v, h.symm, hx2⟩
      · rw [if_neg hd] at h; exact .inr h
    cases sh with
    | lf l =>
      replace h : liveR r ρ (acc ++ [v]) K := by cases v <;> first | exact h.elim | exact h
      obtain ⟨seg, h1, h2, h3⟩ := liveR_get hr r _ _ h
      refine ⟨v :: seg, by rw [List.append_assoc] at h1; exact h1, fun seg2 => h2 seg2, fun seg2 ρ0 t s hl => ?_⟩
      rcases h3 _ _ _ _ (show lk (headR r (seg ++ seg2) ((d, some (.v v)) :: ρ0)) t = some s from hl) with h | h
      · exact .inl h
      · exact step ρ0 t s h
    | agg ls =>
      cases v with
      | agg cs =>
        obtain ⟨hlen, h⟩ := cond_get h
        have hlen := Nat.eq_of_beq_eq_true hlen
        obtain ⟨seg, h1, h2, h3⟩ := liveR_get hr r _ _ h
        have htk : ∀ l : List Value, (cs.toList ++ l).take ls.length = cs.toList ∧ (cs.toList ++ l).drop ls.length = l := fun l => by rw [← hlen]; simp
        refine ⟨cs.toList ++ seg, by rw [List.append_assoc] at h1; exact h1, fun seg2 => ?_, fun seg2 ρ0 t s hl => ?_⟩
        · rw [List.append_assoc]
          show restR r ((cs.toList ++ (seg ++ seg2)).drop ls.length) = seg2
          rw [(htk _).2]
          exact h2 seg2
        · rw [List.append_assoc] at hl
          replace hl : lk (headR r ((cs.toList ++ (seg ++ seg2)).drop ls.length) ((d, some (.v (.agg ((cs.toList ++ (seg ++ seg2)).take ls.length).toArray))) :: ρ0)) t = some s := hl
          rw [(htk _).1, (htk _).2] at hl
          rcases h3 _ _ _ _ hl with h | h
          · exact .inl h
          · exact step ρ0 t s h
      | _ => exact h.elim
theorem setB_inv (cs : List Value) (k : Nat) : ∀ (σ : List LB) (id : Nat) (b1 : LB), lkB (setB σ id cs) k = some b1 → ∃ b0, lkB σ k = some b0 ∧ b1.g = b0.g ∧ b1.T = b0.T ∧ (k = id → b1.cs = cs) ∧ (k ≠ id → b1 = b0)
  | x :: r, id, b1, h => by
    unfold setB at h
    unfold lkB
    cases hb : Nat.beq x.id id
    · rw [hb] at h
      simp only [cond_false, lkB] at h
      cases hk : Nat.beq x.id k
      · rw [hk] at h; exact setB_inv cs k r id b1 h
      · rw [hk] at h; injection h with h; subst h
        exact ⟨x, rfl, rfl, rfl, (fun e => by rw [← e, hk] at hb; cases hb), fun _ => rfl⟩
    · rw [hb] at h
      simp only [cond_true, lkB] at h
      cases hk : Nat.beq x.id k
      · rw [hk] at h
        exact ⟨b1, h, rfl, rfl, (fun e => by rw [e, hb] at hk; cases hk), fun _ => rfl⟩
      · rw [hk] at h; injection h with h; subst h
        exact ⟨x, rfl, rfl, rfl, fun _ => rfl, fun hne => absurd ((Nat.eq_of_beq_eq_true hk).symm.trans (Nat.eq_of_beq_eq_true hb)) hne⟩
theorem headB_same : ∀ (bx : LBx) (seg : List Value) (σ : List LB), (headB bx seg σ).map (·.g) = σ.map (·.g) ∧ (headB bx seg σ).map (·.id) = σ.map (·.id) ∧ ∀ s, den (headB bx seg σ) s = den σ s
  | [], _, _ => ⟨rfl, rfl, fun _ => rfl⟩
  | p :: r, seg, σ => by
    obtain ⟨h1, h2, h3⟩ := headB_same r (seg.drop p.2.length) (setB σ p.1 (seg.take p.2.length))
    exact ⟨h1.trans (setB_map _ _ _), h2.trans (setB_ids _ _ _), fun s => (h3 s).trans (setB_den _ _ _ _)⟩
theorem liveB_get {σ' : List LB} : ∀ (bx : LBx) (acc : List Value) (K : List Value → Prop), liveB bx σ' acc K →
    ∃ seg, K (acc ++ seg) ∧ ∀ (σ : List LB) (id : Nat) (b : LB), lkB (headB bx seg σ) id = some b → ∃ b0, lkB σ id = some b0 ∧ b.g = b0.g ∧ b.T = b0.T ∧ ((memN (idsB bx) id = true ∧ ∃ b', lkB σ' id = some b' ∧ b.cs = b'.cs) ∨ (memN (idsB bx) id = false ∧ b = b0))
  | [], acc, K, h => ⟨[], by rw [List.append_nil]; exact h, fun σ id b hb => ⟨b, hb, rfl, rfl, .inr ⟨rfl, rfl⟩⟩⟩
  | (k, ls) :: r, acc, K, h => by
    unfold liveB at h
    split at h
    · rename_i b' hb'
      obtain ⟨hlen, h⟩ := cond_get h
      have hlen := Nat.eq_of_beq_eq_true hlen
      obtain ⟨seg, h1, h2⟩ := liveB_get r _ _ h
      refine ⟨b'.cs ++ seg, by rw [List.append_assoc] at h1; exact h1, fun σ id b hb => ?_⟩
      have e1 : (b'.cs ++ seg).take ls.length = b'.cs := by rw [← hlen]; simp
      have e2 : (b'.cs ++ seg).drop ls.length = seg := by rw [← hlen]; simp
      unfold headB at hb
      simp only [e1, e2] at hb
      obtain ⟨b1, g1, g2, g3, g4⟩ := h2 _ id b hb
      obtain ⟨b0, k1, k2, k3, k4, k5⟩ := setB_inv _ _ _ _ _ g1
      refine ⟨b0, k1, g2.trans k2, g3.trans k3, ?_⟩
      unfold idsB memN
      rcases g4 with ⟨g4, b2, g5, g6⟩ | ⟨g4, rfl⟩
      · refine .inl ⟨?_, b2, g5, g6⟩
        rw [g4]; cases Nat.beq k id <;> rfl
      · cases hk : Nat.beq k id
        · refine .inr ⟨g4, k5 fun e => ?_⟩
          rw [e, Nat.beq_refl] at hk; cases hk
        · obtain rfl := Nat.eq_of_beq_eq_true hk
          exact .inl ⟨rfl, b', hb', k4 rfl⟩
    · exact h.elim
theorem okB_get {pb ids : List Nat} : ∀ {σ : List LB}, okB σ pb ids = true → ∀ b ∈ σ, memN pb b.id = true → memN ids b.id = true
  | x :: r, h, b, hb, hp => by
    unfold okB at h
    rcases List.mem_cons.1 hb with rfl | hb
    · rw [hp] at h
      simp only [cond_true] at h
      cases hi : memN ids b.id
      · rw [hi] at h; cases h
      · rfl
    · refine okB_get (σ := r) ?_ b hb hp
      cases hx : memN pb x.id
      · rw [hx] at h; exact h
      · rw [hx] at h
        simp only [cond_true] at h
        cases hi : memN ids x.id
        · rw [hi] at h; cases h
        · rw [hi] at h; exact h
def HeadRel (ids : List Nat) (σ0 σ' : List LB) : Prop := ∀ id b0, lkB σ0 id = some b0 → ∃ b', lkB σ' id = some b' ∧ b'.g = b0.g ∧ b'.T = b0.T ∧ (memN ids id = false → b' = b0)
theorem rep_head {ρ0 ρ' : SFr} {σ0 σ' : List LB} {a0 a' : Act} {w0 w' : World} (h0 : Rep n ρ0 σ0 a0 w0) (h1 : Rep n ρ' σ' a' w') {lv : LSl} {bx : LBx} {wr : List Nat} (hrel : HeadRel (idsB bx) σ0 σ') (hs : SameA (memN wr) a0 a') {K : List Value → Prop}
    (h : liveR lv ρ' [] fun vs => liveB bx σ' vs K) : ∃ vals, K vals ∧ Rep n (headR lv vals (dropS wr ρ0)) (headB bx (restR lv vals) σ0) a' w' := by
  obtain ⟨segR, h, hrest, hsl⟩ := liveR_get h1 lv _ _ h
  obtain ⟨segB, h, hbx⟩ := liveB_get bx _ _ h
  refine ⟨segR ++ segB, by simpa using h, ?_⟩
  rw [hrest]
  obtain ⟨e1, e2, e3⟩ := headB_same bx segB σ0
  refine ⟨h1.size, h1.defs, fun t s hl => ?_, fun b hb => ?_, by rw [e1]; exact h0.nodup, by rw [e2]; exact h0.ids⟩
  · rcases hsl _ _ _ _ hl with ⟨v, rfl, hv⟩ | hl
    · exact ⟨v, rfl, hv⟩
    · rw [lk_dropS] at hl
      cases hw : memN wr t
      · rw [hw] at hl
        obtain ⟨x, g1, g2⟩ := h0.slots t s (by simpa using hl)
        exact ⟨x, by rw [e3]; exact g1, by rw [hs t hw]; exact g2⟩
      · rw [hw] at hl; simp at hl
  · have hids : ((headB bx segB σ0).map (·.id)).Nodup := by rw [e2]; exact h0.ids
    obtain ⟨b0, g1, g2, g3, g4⟩ := hbx σ0 b.id b (lkB_of_mem hids hb)
    obtain ⟨b', k1, k2, k3, k4⟩ := hrel _ _ g1
    have hat := h1.boxes b' (lkB_mem k1).1
    have hcs : b.cs = b'.cs := by
      rcases g4 with ⟨_, b2, g5, g6⟩ | ⟨g4, rfl⟩
      · rw [k1] at g5; injection g5 with g5; subst g5; exact g6
      · rw [k4 g4]
    unfold LB.at at *
    rw [g2, g3, hcs, ← k2, ← k3]; exact hat
theorem headB_lk (bx : LBx) : ∀ (seg : List Value) (σ : List LB) (id : Nat) (b : LB), lkB σ id = some b → ∃ b', lkB (headB bx seg σ) id = some b' ∧ b'.g = b.g ∧ b'.T = b.T ∧ (memN (idsB bx) id = false → b' = b) := by
  induction bx with
  | nil => intro seg σ id b hb; exact ⟨b, hb, rfl, rfl, fun _ => rfl⟩
  | cons p r ih =>
    intro seg σ id b hb
    obtain ⟨b1, g1, g2, g3, g4⟩ := setB_lk (seg.take p.2.length) id σ p.1 b hb
    obtain ⟨b2, m1, m2, m3, m4⟩ := ih (seg.drop p.2.length) _ id b1 g1
    refine ⟨b2, m1, m2.trans g2, m3.trans g3, fun hn => ?_⟩
    unfold idsB memN at hn
    cases hp : Nat.beq p.1 id
    · rw [hp] at hn
      exact (m4 hn).trans (g4 fun e => by rw [e, Nat.beq_refl] at hp; cases hp)
    · rw [hp] at hn; cases hn
/-- The frame behind code. -/
def Out (n : Nat) (pro : List Nat) (wr : List Nat) (Q : VQ) (σ0 : List LB) (a0 : Act) (e : Exit) (a : Act) (w : World) : Prop :=
  ∃ ρ σ, Q e ρ σ w ∧ Rep n ρ σ a w ∧ GrowsP pro σ0 σ ∧ SameA (memN wr) a0 a
theorem memN_app (l m : List Nat) (t : Nat) : memN (l ++ m) t = (memN l t || memN m t) := by
  rw [Bool.eq_iff_iff, Bool.or_eq_true, memN_iff, memN_iff, memN_iff, List.mem_append]
theorem Out.then {pro wr1 wr2 : List Nat} {K : SFr → List LB → World → Prop} {Q : VQ} {σ0 : List LB} {a0 : Act} {c : Code}
    (hc : ∀ ρ σ a w, K ρ σ w → Rep n ρ σ a w → c.wp P (Out n pro wr2 Q σ a) a w) {e : Exit} {a : Act} {w : World} (h : Out n pro wr1 (thenQ K Q) σ0 a0 e a w) :
    Exit.then (c.wp P (Out n pro (wr1 ++ wr2) Q σ0 a0)) (Out n pro (wr1 ++ wr2) Q σ0 a0) e a w := by
  obtain ⟨ρ, σ, hq, hr, hg, hs⟩ := h
  have hs' : SameA (memN (wr1 ++ wr2)) a0 a := hs.mono fun t ht => by rw [memN_app, ht]; rfl
  cases e with
  | normal =>
    refine wp_mono (hc ρ σ a w hq hr) fun e a' w' h => ?_
    obtain ⟨ρ', σ', hq', hr', hg', hs2⟩ := h
    exact ⟨ρ', σ', hq', hr', hg.trans hg', hs'.trans (hs2.mono fun t ht => by rw [memN_app, ht]; simp)⟩
  | _ => exact ⟨ρ, σ, hq, hr, hg, hs'⟩
theorem rep_refC (hr : Rep n ρ σ a w) {c : Operand} {t : Bool} (h : ev ρ c = some (.v (.bool t))) : Rep n (refC c t ρ) σ a w := by
  cases c with
  | tmp d => exact hr.refine h
  | _ => exact hr
end
end Go.Proofs.Ytkggnbabnfhcpaa
end
section
/- A function whose condition holds answers so. No program in sight. -/
namespace Go.Proofs.Ytkggnbabnfhcpaa
open Go.RowKit
variable {P : Program} {E : Env}
/-- The least measure at which something holds. -/
theorem least_of {A B : Type} {J : Nat → A → B → Prop} : ∃ m : A → B → Nat, ∀ k a b, J k a b → m a b ≤ k ∧ J (m a b) a b := by
  have key : ∀ (n : Nat) (a : A) (b : B), J n a b → ∃ k, J k a b ∧ ∀ i, J i a b → k ≤ i := by
    intro n
    induction n using Nat.strongRecOn with
    | _ n ih =>
      intro a b h
      by_cases hs : ∃ i, i < n ∧ J i a b
      · obtain ⟨i, hi, hj⟩ := hs
        exact ih i hi a b hj
      · exact ⟨n, h, fun i hi => Nat.le_of_not_lt fun hlt => hs ⟨i, hlt, hi⟩⟩
  refine ⟨fun a b => open Classical in if h : ∃ k, J k a b ∧ ∀ i, J i a b → k ≤ i then h.choose else 0, fun k a b h => ?_⟩
  have hx := key k a b h
  dsimp only
  rw [dif_pos hx]
  exact ⟨hx.choose_spec.2 k h, hx.choose_spec.1⟩
theorem vc_sound (hE : EOk P E) {n : Nat} : ∀ (c : AC) (_ : c.good) (pro : List Nat) (Q : VQ) (ρ : SFr) (σ : List LB) (a : Act) (w : World), Rep n ρ σ a w → vc P E n c pro Q ρ σ w → c.erase.wp P (Out n pro c.dsts Q σ a) a w
  | .skip, hgd, pro, Q, ρ, σ, a, w, hr, h => wp_skip ⟨ρ, σ, h, hr, .refl _ _, .refl _ _⟩
  | .reg id ops, hgd, pro, Q, ρ, σ, a, w, hr, h => by
    refine wp_region (vOps_sound (pro := pro) (K := Q .normal) (σ0 := σ) (a0 := a) hE (fun ρ' σ' a' w' hq hr' hg hs => ⟨ρ', σ', hq, hr', hg, hs.mono fun t ht => wrOps_dsts ht⟩) _ ρ σ a w hr (.refl _ _) (.refl _ _) ?_)
    exact h
  | .regD id ops B L Qs, hgd, pro, Q, ρ, σ, a, w, hr, h => by
    unfold vc at h
    obtain ⟨hok, h⟩ := cond_get h
    have h := h w.drew rfl ((Below.refl _ _).drew)
    have hr1 : Rep n ρ σ a w.drew := hr.world fun b _ => rfl
    obtain ⟨G, a', ρ', h1, h2, h3, h4, h5, h6, h7⟩ := vQs_sound (P := P) (ops := ops) hE _ _ _ _ hr1 h
    refine wp_region_tr B L Qs hE.mixed hok ⟨G.map qf, a', by rw [List.map_map]; exact h1, h2, fun q hq => ?_, ?_⟩
    · obtain ⟨p, hp, rfl⟩ := List.mem_map.1 hq
      exact h3 p hp
    · exact vTr_sound (pro := pro) (K := Q .normal) (σ0 := σ) (a0 := a) hE (fun ρ' σ' a' w' hq hr' hg hs => ⟨ρ', σ', hq, hr', hg, hs.mono fun t ht => wrOps_dsts ht⟩) _ _ _ G ρ' σ a' w.drew h4 (.refl _ _) h5 h6 h3 (by simpa using h7)
  | .seq x y, hgd, pro, Q, ρ, σ, a, w, hr, h => by
    refine wp_seq (wp_mono (vc_sound hE x hgd.1 pro _ ρ σ a w hr h) fun e a' w' ho => ?_)
    exact Out.then (fun ρ σ a w hk hr => vc_sound hE y hgd.2 pro Q ρ σ a w hr hk) ho
  | .cond c x y, hgd, pro, Q, ρ, σ, a, w, hr, h => by
    unfold vc at h
    obtain ⟨v, hv, h⟩ := withV_lk h
    split at h
    · rename_i t
      have hev := evv hr hv
      have hr' := rep_refC hr hv
      cases t
      · refine wp_cond hev (wp_mono (vc_sound hE y hgd.2 pro Q _ σ a w hr' h) fun e a' w' ho => ?_)
        obtain ⟨ρ', σ', hq, hr2, hg, hs⟩ := ho
        exact ⟨ρ', σ', hq, hr2, hg, hs.mono fun t ht => by unfold AC.dsts; rw [memN_app, ht]; simp⟩
      · refine wp_cond hev (wp_mono (vc_sound hE x hgd.1 pro Q _ σ a w hr' h) fun e a' w' ho => ?_)
        obtain ⟨ρ', σ', hq, hr2, hg, hs⟩ := ho
        exact ⟨ρ', σ', hq, hr2, hg, hs.mono fun t ht => by unfold AC.dsts; rw [memN_app, ht]; rfl⟩
    · exact h.elim
  | .block id x, hgd, pro, Q, ρ, σ, a, w, hr, h => by
    refine wp_block (wp_mono (vc_sound hE x hgd pro (blockQ id Q) ρ σ a w hr h) fun e a' w' ho => ?_)
    obtain ⟨ρ', σ', hq, hr2, hg, hs⟩ := ho
    cases e with
    | exit k =>
      show if k = id then _ else _
      replace hq : _root_.cond (Nat.beq k id) (Q .normal ρ' σ' w') (Q (.exit k) ρ' σ' w') := hq
      by_cases hk : k = id
      · subst hk
        rw [Nat.beq_refl] at hq
        rw [if_pos rfl]
        exact ⟨ρ', σ', hq, hr2, hg, hs⟩
      · have : Nat.beq k id = false := by cases hb : Nat.beq k id; rfl; exact absurd (Nat.eq_of_beq_eq_true hb) hk
        rw [this] at hq
        rw [if_neg hk]
        exact ⟨ρ', σ', hq, hr2, hg, hs⟩
    | _ => exact ⟨ρ', σ', hq, hr2, hg, hs⟩
  | .loop lv bx wr pb x, hgd, pro, Q, ρ, σ, a, w, hr, h => by
    unfold vc at h
    obtain ⟨hok, I, μ, h0, hall⟩ := cond_get h
    unfold headOk at hok
    rw [Bool.and_eq_true, Bool.and_eq_true, Bool.and_eq_true] at hok
    obtain ⟨⟨⟨k1, k2⟩, k3⟩, k4⟩ := hok
    have hbase : HeadRel (idsB bx) σ σ := fun id b0 hb => ⟨b0, hb, rfl, rfl, fun _ => rfl⟩
    obtain ⟨vals0, hi0, hr0⟩ := rep_head (a' := a) (wr := wr) hr hr hbase (.refl _ _) h0
    have hin : SameA (memN wr) a a := .refl _ _
    refine wp_loop_ghost (fun k a1 w1 => ∃ vals, getA (fun _ => 0) _ μ vals w1 = k ∧ getA (fun _ => False) _ I vals w1 ∧ Rep n (headR lv vals (dropS wr ρ)) (headB bx (restR lv vals) σ) a1 w1 ∧ SameA (memN x.dsts) a a1) _ ⟨vals0, rfl, hi0, hr0, .refl _ _⟩ ?_
    rintro k a1 w1 ⟨vals, rfl, hi, hrh, hsame⟩
    have hv := allA_get _ I [] vals w1 _ hall hi w1 hi
    rw [List.nil_append] at hv
    obtain ⟨e1, e2, e3⟩ := headB_same bx (restR lv vals) σ
    have hgh : GrowsP pro σ (headB bx (restR lv vals) σ) := fun id b hb => by
      obtain ⟨b', g1, g2, g3, g4⟩ := headB_lk bx (restR lv vals) σ id b hb
      refine ⟨b', g1, g2, g3, fun hp => g4 ?_⟩
      cases hm2 : memN (idsB bx) id
      · rfl
      · rw [subN_get k3 id hm2] at hp; cases hp
    have hpb : ∀ {σ1 σ2 : List LB}, GrowsP pb σ1 σ2 → GrowsP pro σ1 σ2 := fun hg id b hb => by
      obtain ⟨b', g1, g2, g3, g4⟩ := hg id b hb
      refine ⟨b', g1, g2, g3, fun hp => g4 ?_⟩
      cases hm : memN pb id
      · rfl
      · rw [subN_get k2 id hm] at hp; cases hp
    refine wp_mono (vc_sound hE x hgd pb _ _ _ a1 w1 hrh hv) fun e a2 w2 ho => ?_
    obtain ⟨ρ', σ', hq, hr2, hg, hs⟩ := ho
    cases e with
    | normal =>
      have hrel : HeadRel (idsB bx) σ σ' := fun id b0 hb => by
        obtain ⟨b1, m1, m2, m3, m4⟩ := hgh id b0 hb
        obtain ⟨b2, n1, n2, n3, n4⟩ := hg id b1 m1
        refine ⟨b2, n1, n2.trans m2, n3.trans m3, fun hid => ?_⟩
        have hpbf : memN pb id = false := by
          cases hm : memN pb id
          · rfl
          · have hb' := lkB_mem hb
            have := okB_get k4 b0 hb'.1 (by rw [hb'.2]; exact hm)
            rw [hb'.2, hid] at this; cases this
        have hb1 : b1 = b0 := by
          obtain ⟨b3, j1, _, _, j4⟩ := headB_lk bx (restR lv vals) σ id b0 hb
          rw [m1] at j1; injection j1 with j1
          rw [j1, j4 hid]
        rw [n4 hpbf, hb1]
      have hs' : SameA (memN x.dsts) a a2 := hsame.trans hs
      obtain ⟨vals', ⟨hi', hlt⟩, hrh'⟩ := rep_head hr hr2 hrel (hs'.mono (subN_get k1)) hq
      exact ⟨_, hlt, vals', rfl, hi', hrh', hs'⟩
    | _ => exact ⟨ρ', σ', hq, hr2, hgh.trans (hpb hg), hsame.trans hs⟩
  | .cut lv bx wr pb x, hgd, pro, Q, ρ, σ, a, w, hr, h => by
    unfold vc at h
    obtain ⟨hok, J, h0, hall⟩ := cond_get h
    unfold headOk at hok
    rw [Bool.and_eq_true, Bool.and_eq_true, Bool.and_eq_true] at hok
    obtain ⟨⟨⟨k1, k2⟩, k3⟩, k4⟩ := hok
    have hpb : ∀ {σ1 σ2 : List LB}, GrowsP pb σ1 σ2 → GrowsP pro σ1 σ2 := fun hg id b hb => by
      obtain ⟨b', g1, g2, g3, g4⟩ := hg id b hb
      refine ⟨b', g1, g2, g3, fun hp => g4 ?_⟩
      cases hm : memN pb id
      · rfl
      · rw [subN_get k2 id hm] at hp; cases hp
    refine wp_mono (vc_sound hE x hgd pb _ ρ σ a w hr h0) fun e a2 w2 ho => ?_
    obtain ⟨ρ', σ', hq, hr2, hg, hs⟩ := ho
    cases e with
    | normal =>
      have hrel : HeadRel (idsB bx) σ σ' := fun id b0 hb => by
        obtain ⟨b2, n1, n2, n3, n4⟩ := hg id b0 hb
        refine ⟨b2, n1, n2, n3, fun hid => n4 ?_⟩
        cases hm : memN pb id
        · rfl
        · have hb' := lkB_mem hb
          have := okB_get k4 b0 hb'.1 (by rw [hb'.2]; exact hm)
          rw [hb'.2, hid] at this; cases this
      obtain ⟨vals, hi, hrh⟩ := rep_head hr hr2 hrel (hs.mono (subN_get k1)) hq
      have hv := allA_get _ J [] vals w2 _ hall hi w2 hi
      rw [List.nil_append] at hv
      refine ⟨_, _, hv, hrh, fun id b hb => ?_, hs⟩
      obtain ⟨b', m1, m2, m3, m4⟩ := headB_lk bx (restR lv vals) σ id b hb
      refine ⟨b', m1, m2, m3, fun hp => m4 ?_⟩
      cases hm2 : memN (idsB bx) id
      · rfl
      · rw [subN_get k3 id hm2] at hp; cases hp
    | _ => exact ⟨ρ', σ', hq, hr2, hpb hg, hs⟩
  | .exit id, hgd, pro, Q, ρ, σ, a, w, hr, h => wp_exit ⟨ρ, σ, h, hr, .refl _ _, .refl _ _⟩
  | .ret, hgd, pro, Q, ρ, σ, a, w, hr, h => wp_ret ⟨ρ, σ, h, hr, .refl _ _, .refl _ _⟩
  | .label l, hgd, pro, Q, ρ, σ, a, w, hr, h => wp_label ⟨ρ, σ, h, hr, .refl _ _, .refl _ _⟩
  | .goto l, hgd, pro, Q, ρ, σ, a, w, hr, h => wp_goto ⟨ρ, σ, h, hr, .refl _ _, .refl _ _⟩
  | .scope l lv bx wr pb x r, hgd, pro, Q, ρ, σ, a, w, hr, h => by
    unfold vc at h
    obtain ⟨hok, I, μ, h0, hall⟩ := cond_get h
    unfold headOk at hok
    rw [Bool.and_eq_true, Bool.and_eq_true, Bool.and_eq_true] at hok
    obtain ⟨⟨⟨k1, k2⟩, k3⟩, k4⟩ := hok
    have k1 : subN (x.dsts ++ r.dsts) wr = true := k1
    have hpb : ∀ {σ1 σ2 : List LB}, GrowsP pb σ1 σ2 → GrowsP pro σ1 σ2 := fun hg id b hb => by
      obtain ⟨b', g1, g2, g3, g4⟩ := hg id b hb
      refine ⟨b', g1, g2, g3, fun hp => g4 ?_⟩
      cases hm : memN pb id
      · rfl
      · rw [subN_get k2 id hm] at hp; cases hp
    have hnb : ∀ {id : Nat} {b0 : LB}, lkB σ id = some b0 → memN (idsB bx) id = false → memN pb id = false := fun {id b0} hb hid => by
      cases hm : memN pb id
      · rfl
      · have hb' := lkB_mem hb
        have := okB_get k4 b0 hb'.1 (by rw [hb'.2]; exact hm)
        rw [hb'.2, hid] at this; cases this
    have hx : ∀ t, memN x.dsts t = true → memN (x.dsts ++ r.dsts) t = true := fun t ht => by rw [memN_app, ht]; rfl
    have hy : ∀ t, memN r.dsts t = true → memN (x.dsts ++ r.dsts) t = true := fun t ht => by rw [memN_app, ht]; simp
    obtain ⟨m, hm⟩ := least_of (J := fun k a1 w1 => ∃ vals, getA (fun _ => 0) _ μ vals w1 = k ∧ getA (fun _ => False) _ I vals w1 ∧ Rep n (headR lv vals (dropS wr ρ)) (headB bx (restR lv vals) σ) a1 w1 ∧ SameA (memN (x.dsts ++ r.dsts)) a a1)
    refine wp_scope_jumps l (fun a1 w1 => ∃ vals, getA (fun _ => 0) _ μ vals w1 = m a1 w1 ∧ getA (fun _ => False) _ I vals w1 ∧ Rep n (headR lv vals (dropS wr ρ)) (headB bx (restR lv vals) σ) a1 w1 ∧ SameA (memN (x.dsts ++ r.dsts)) a a1) m hgd.2.2 ?_ ?_
    · refine wp_mono (vc_sound hE x hgd.1 pb _ ρ σ a w hr h0) fun e a2 w2 ho => ?_
      obtain ⟨ρ', σ', hq, hr2, hg, hs⟩ := ho
      cases e with
      | goto l' =>
        obtain ⟨hl, hq⟩ := cond_get (show cond (Nat.beq l' l) _ False from hq)
        refine ⟨Nat.eq_of_beq_eq_true hl, ?_⟩
        have hrel : HeadRel (idsB bx) σ σ' := fun id b0 hb => by
          obtain ⟨b2, n1, n2, n3, n4⟩ := hg id b0 hb
          exact ⟨b2, n1, n2, n3, fun hid => n4 (hnb hb hid)⟩
        obtain ⟨vals, hi, hrh⟩ := rep_head hr hr2 hrel ((hs.mono hx).mono (subN_get k1)) hq
        exact (hm _ a2 w2 ⟨vals, rfl, hi, hrh, hs.mono hx⟩).2
      | _ => exact ⟨ρ', σ', hq, hr2, hpb hg, hs.mono hx⟩
    · rintro a1 w1 ⟨vals, hk, hi, hrh, hsame⟩
      have hv := allA_get _ I [] vals w1 _ hall hi w1 hi
      rw [List.nil_append] at hv
      have hgh : GrowsP pro σ (headB bx (restR lv vals) σ) := fun id b hb => by
        obtain ⟨b', g1, g2, g3, g4⟩ := headB_lk bx (restR lv vals) σ id b hb
        refine ⟨b', g1, g2, g3, fun hp => g4 ?_⟩
        cases hm2 : memN (idsB bx) id
        · rfl
        · rw [subN_get k3 id hm2] at hp; cases hp
      refine wp_mono (vc_sound hE r hgd.2.1 pb _ _ _ a1 w1 hrh hv) fun e a2 w2 ho => ?_
      obtain ⟨ρ', σ', hq, hr2, hg, hs⟩ := ho
      cases e with
      | goto l' =>
        obtain ⟨hl, hq⟩ := cond_get (show cond (Nat.beq l' l) _ False from hq)
        refine ⟨Nat.eq_of_beq_eq_true hl, ?_⟩
        have hrel : HeadRel (idsB bx) σ σ' := fun id b0 hb => by
          obtain ⟨b1, j1, j2, j3, j4⟩ := headB_lk bx (restR lv vals) σ id b0 hb
          obtain ⟨b2, n1, n2, n3, n4⟩ := hg id b1 j1
          exact ⟨b2, n1, n2.trans j2, n3.trans j3, fun hid => by rw [n4 (hnb hb hid), j4 hid]⟩
        have hs' : SameA (memN (x.dsts ++ r.dsts)) a a2 := hsame.trans (hs.mono hy)
        obtain ⟨vals', ⟨hi', hlt⟩, hrh'⟩ := rep_head hr hr2 hrel (hs'.mono (subN_get k1)) hq
        obtain ⟨q1, q2⟩ := hm _ a2 w2 ⟨vals', rfl, hi', hrh', hs'⟩
        exact ⟨q2, by omega⟩
      | _ => exact ⟨ρ', σ', hq, hr2, hgh.trans (hpb hg), hsame.trans (hs.mono hy)⟩
/-- The results. -/
def vRes (E : Env) (σ : List LB) (w : World) (ρ : SFr) : List ResultVar → List Value → (List Value → Prop) → Prop
  | [], acc, K => K acc
  | .tmp t :: r, acc, K => withV (lk ρ t) fun v => vRes E σ w ρ r (acc ++ [v]) K
  | .cell t T :: r, acc, K => qop E (.load T (.tmp t)) ρ σ w fun s _ => match s with
    | .v v => vRes E σ w ρ r (acc ++ [v]) K
    | _ => False
def tupV : List Value → Value
  | [v] => v
  | l => .tuple l.toArray
def resQ (E : Env) (rs : List ResultVar) (K : Value → World → Prop) : VQ
  | .normal, ρ, σ, w => vRes E σ w ρ rs [] fun vs => K (tupV vs) w
  | .ret, ρ, σ, w => vRes E σ w ρ rs [] fun vs => K (tupV vs) w
  | _, _, _, _ => False
def argR : List Value → Nat → SFr
  | [], _ => []
  | v :: r, k => (k, some (.v v)) :: argR r (k + 1)
theorem lk_argR {t : Nat} {s : SV} : ∀ {args : List Value} {k : Nat}, lk (argR args k) t = some s → ∃ j v, t = k + j ∧ args[j]? = some v ∧ s = .v v
  | v :: r, k, h => by
    unfold argR at h
    rw [lk_cons] at h
    by_cases hk : k = t
    · rw [if_pos hk] at h
      injection h with h
      exact ⟨0, v, hk.symm, rfl, h.symm⟩
    · rw [if_neg hk] at h
      obtain ⟨j, u, h1, h2, h3⟩ := lk_argR h
      exact ⟨j + 1, u, by omega, by simpa using h2, h3⟩
theorem load_ptr {T : TypeId} {v x : Value} {w w' : World} (h : (Instr.loadAt T v).run P w = .ok x w') : (do loadVar T (← asAddr v) : Sem Value).run P w = .ok x w' := by
  unfold Instr.loadAt at h
  cases v with
  | pointer a =>
    cases a with
    | some a => exact h
    | none => cases h
  | _ => cases h
theorem vRes_get (hE : EOk P E) {n : Nat} {ρ : SFr} {σ : List LB} {a : Act} {w : World} (hr : Rep n ρ σ a w) : ∀ {rs : List ResultVar} {acc : List Value} {K : List Value → Prop}, vRes E σ w ρ rs acc K →
    ∃ vs, K (acc ++ vs) ∧ (rs.mapM fun (r : ResultVar) => match r with
      | .tmp t => (pure (a.tmps.getD t undef) : Sem Value)
      | .cell p T => do loadVar T (← asAddr (a.tmps.getD p undef))).run P w = .ok vs w
  | [], acc, K, h => ⟨[], by rw [List.append_nil]; exact h, by simp⟩
  | .tmp t :: r, acc, K, h => by
    obtain ⟨v, hv, h⟩ := withV_lk (show withV (lk ρ t) _ from h)
    obtain ⟨x, hx1, hx2⟩ := hr.slots t _ hv
    cases hx1
    obtain ⟨vs, h1, h2⟩ := vRes_get hE hr h
    refine ⟨v :: vs, by rw [List.append_assoc] at h1; exact h1, ?_⟩
    have hv2 : a.tmps.getD t undef = v := by simp [Array.getD_eq_getD_getElem?, hx2]
    rw [List.mapM_cons]
    simp only [Sem.run_bind, hv2, Sem.run_pure, Result.andThen_ok]
    rw [h2]
    rfl
  | .cell t T :: r, acc, K, h => by
    obtain ⟨s, f, x, hk, hden, hf, hrun, _⟩ := qop_sound (P := P) (o := { dst := none, op := .load T (.tmp t), type := 0, pos := "", after := #[], guard := none }) hE hr (show qop E (.load T (.tmp t)) ρ σ w _ from h)
    cases s with
    | box _ _ => exact hk.elim
    | iter _ _ => exact hk.elim
    | v v =>
      cases hden
      obtain ⟨vs, h1, h2⟩ := vRes_get hE hr (show vRes E σ w ρ r (acc ++ [x]) K from hk)
      refine ⟨x :: vs, by rw [List.append_assoc] at h1; exact h1, ?_⟩
      have hl : (Instr.loadAt T (a.tmps.getD t undef)).run P w = .ok x w := by
        have := hrun w hf
        simp only [execOp, Sem.run_bind, Act.eval] at this
        cases hq : (Instr.loadAt T (a.tmps.getD t undef)).run P w with
        | ok y w' => rw [hq] at this; simp only [Result.andThen_ok, Sem.run_pure] at this; injection this with h1 h2; injection h1 with h1; rw [h1, h2]
        | halt _ _ => rw [hq] at this; cases this
      have := load_ptr hl
      rw [List.mapM_cons]
      simp only [Sem.run_bind] at this ⊢
      rw [this]
      simp only [Result.andThen_ok]
      rw [h2]
      rfl
/-- The function: its condition is enough. -/
theorem calls_of_vc (hE : EOk P E) {f : FuncId} {fn : Func} {c : Code} (hf : P.funcs[f]? = some fn) (hb : fn.body = some c) (ac : AC) (hgd : ac.good) (hc : ac.erase = c) (nt : Nat) (hnt : fn.ntmps = nt) (rs : List ResultVar) (hrs : fn.results.toList = rs) (pro : List Nat)
    (args : List Value) (hn : Nat.ble args.length nt = true) (w : World) (K : Value → World → Prop) (h : vc P E nt ac pro (resQ E rs K) (argR args 0) [] w) : Calls P f args.toArray w fun e w' => ∃ v, e = .returned v ∧ K v w' := by
  have hn := Nat.le_of_ble_eq_true hn
  subst hnt; subst hrs; subst hc
  refine calls_of_wp hf hb ?_
  have hr : Rep fn.ntmps (argR args 0) [] { tmps := args.toArray ++ Array.replicate (fn.ntmps - args.toArray.size) undef, defers := [] } w := by
    refine ⟨by simp; omega, rfl, fun t s hl => ?_, (fun b hb => by cases hb), List.nodup_nil, List.nodup_nil⟩
    obtain ⟨j, v, h1, h2, rfl⟩ := lk_argR hl
    refine ⟨v, rfl, ?_⟩
    have hj : j < args.length := (List.getElem?_eq_some_iff.1 h2).1
    rw [h1, Nat.zero_add, Array.getElem?_append_left (by simpa using hj)]
    simpa using h2
  refine wp_mono (vc_sound hE ac hgd pro _ _ _ _ w hr h) fun e a' w' ho => ?_
  obtain ⟨ρ', σ', hq, hr2, _, _⟩ := ho
  have fin : (vRes E σ' w' ρ' fn.results.toList [] fun vs => K (tupV vs) w') → a'.defers = [] ∧ ∃ v, (results fn a'.tmps).run P w' = .ok v w' ∧ ∃ v', Ending.returned v = .returned v' ∧ K v' w' := fun hq => by
    obtain ⟨vs, h1, h2⟩ := vRes_get hE hr2 hq
    rw [List.nil_append] at h1
    refine ⟨hr2.defs, tupV vs, ?_, tupV vs, rfl, h1⟩
    have e : (results fn a'.tmps).run P w' = (((fn.results.toList.mapM fun (r : ResultVar) => match r with
      | .tmp t => (pure (a'.tmps.getD t undef) : Sem Value)
      | .cell p T => do loadVar T (← asAddr (a'.tmps.getD p undef))).run P w').andThen fun a w' => Result.ok a.toArray w').andThen fun a w' => .ok (if h : a.size = 1 then a[0] else .tuple a) w' := by
      unfold results
      rw [Sem.run_bind, Array.mapM_eq_mapM_toList, Sem.run_map]
      rfl
    rw [e, h2]
    simp only [Result.andThen_ok]
    congr 1
    cases vs with
    | nil => rfl
    | cons v r => cases r <;> rfl
  cases e with
  | normal => exact fin hq
  | ret => exact fin hq
  | _ => exact hq.elim
end Go.Proofs.Ytkggnbabnfhcpaa
end
section
/- Notes on code: which loops and cuts carry what, and how a drawn region goes in phases; the code itself is taken from where it stands. No program in sight. -/
namespace Go.Proofs.Ytkggnbabnfhcpaa
open Go.RowKit
variable {P : Program} {E : Env}
structure HeadN where
  lv : LSl
  bx : LBx
  wr : List Nat
  pb : List Nat
structure DrawN where
  B : List Nat
  L : List Nat
  Qs : List Nat
/-- Keys: a drawn region's number; of a loop, the number of the first region in it; of a cut, that of the first region in what it goes round, and which kind of node that is (0: a region, 1: a branch, 2: a block). -/
structure Notes where
  draws : List (Nat × DrawN)
  loops : List (Nat × HeadN)
  cuts : List ((Nat × Nat) × HeadN)
  scopes : List (Nat × Nat × HeadN)
def lkD : List (Nat × DrawN) → Nat → Option DrawN
  | [], _ => none
  | p :: r, n => cond (Nat.beq p.1 n) (some p.2) (lkD r n)
def lkH : List (Nat × HeadN) → Nat → Option HeadN
  | [], _ => none
  | p :: r, n => cond (Nat.beq p.1 n) (some p.2) (lkH r n)
def lkC : List ((Nat × Nat) × HeadN) → Nat → Nat → Option HeadN
  | [], _, _ => none
  | p :: r, k, n => cond (Nat.beq p.1.1 k) (cond (Nat.beq p.1.2 n) (some p.2) (lkC r k n)) (lkC r k n)
def lkS : List (Nat × Nat × HeadN) → Nat → Option (Nat × HeadN)
  | [], _ => none
  | p :: r, n => cond (Nat.beq p.1 n) (some p.2) (lkS r n)
def firstR : Code → Option Nat
  | .region id _ _ => some id
  | .seq a b => match firstR a with
    | some n => some n
    | none => firstR b
  | .cond _ a b => match firstR a with
    | some n => some n
    | none => firstR b
  | .block _ a => firstR a
  | .loop a => firstR a
  | .scope a => firstR a
  | _ => none
def putCut (N : Notes) (k : Nat) (n : Option Nat) (a : AC) : AC := match n with
  | some n => match lkC N.cuts k n with
    | some h => .cut h.lv h.bx h.wr h.pb a
    | none => a
  | none => a
def mkAC (N : Notes) : Code → AC
  | .skip => .skip
  | .region id ops d => putCut N 0 (some id) (cond d (match lkD N.draws id with | some n => .regD id ops n.B n.L n.Qs | none => .skip) (.reg id ops))
  | .seq a b => .seq (mkAC N a) (mkAC N b)
  | .cond c a b => putCut N 1 (match firstR a with | some n => some n | none => firstR b) (.cond c (mkAC N a) (mkAC N b))
  | .block id a => putCut N 2 (firstR a) (.block id (mkAC N a))
  | .loop a => match firstR a with
    | some n => match lkH N.loops n with
      | some h => .loop h.lv h.bx h.wr h.pb (mkAC N a)
      | none => .skip
    | none => .skip
  | .exit id => .exit id
  | .ret => .ret
  | .label l => .label l
  | .goto l => .goto l
  | .scope a => match firstR a with
    | some n => match lkS N.scopes n with
      | some h => match (mkAC N a).find h.1 with
        | some r => .scope h.1 h.2.lv h.2.bx h.2.wr h.2.pb (mkAC N a) r
        | none => .skip
      | none => .skip
    | none => .skip
  | _ => .skip
def okC (N : Notes) : Code → Bool
  | .skip => true
  | .region id _ d => cond d (match lkD N.draws id with | some _ => true | none => false) true
  | .seq a b => okC N a && okC N b
  | .cond _ a b => okC N a && okC N b
  | .block _ a => okC N a
  | .loop a => match firstR a with
    | some n => match lkH N.loops n with
      | some _ => okC N a
      | none => false
    | none => false
  | .exit _ => true
  | .ret => true
  | .label _ => true
  | .goto _ => true
  | .scope a => match firstR a with
    | some n => match lkS N.scopes n with
      | some h => match (mkAC N a).find h.1 with
        | some _ => okC N a
        | none => false
      | none => false
    | none => false
  | _ => false
theorem erase_cut (N : Notes) (k : Nat) (n : Option Nat) (a : AC) : (putCut N k n a).erase = a.erase := by
  unfold putCut
  split
  · split <;> rfl
  · rfl
theorem erase_mk (N : Notes) : ∀ (c : Code), okC N c = true → (mkAC N c).erase = c
  | .skip, _ => rfl
  | .region id ops d, h => by
    unfold mkAC
    rw [erase_cut]
    cases d
    · rfl
    · unfold okC at h
      simp only [cond_true] at h ⊢
      split at h
      · rfl
      · cases h
  | .seq a b, h => by
    unfold okC at h
    rw [Bool.and_eq_true] at h
    unfold mkAC AC.erase
    rw [erase_mk N a h.1, erase_mk N b h.2]
  | .cond c a b, h => by
    unfold okC at h
    rw [Bool.and_eq_true] at h
    unfold mkAC
    rw [erase_cut]
    unfold AC.erase
    rw [erase_mk N a h.1, erase_mk N b h.2]
  | .block id a, h => by
    unfold okC at h
    unfold mkAC
    rw [erase_cut]
    unfold AC.erase
    rw [erase_mk N a h]
  | .loop a, h => by
    unfold okC at h
    unfold mkAC
    split at h
    · split at h
      · unfold AC.erase
        rw [erase_mk N a h]
      · cases h
    · cases h
  | .exit _, _ => rfl
  | .ret, _ => rfl
  | .scope a, h => by
    unfold okC at h
    unfold mkAC
    split at h
    · split at h
      · split at h
        · unfold AC.erase
          rw [erase_mk N a h]
        · cases h
      · cases h
    · cases h
  | .label _, _ => rfl
  | .goto _, _ => rfl
  | .rangeFunc .., h => by cases h
  | .refuse .., h => by cases h
theorem good_cut (N : Notes) (k : Nat) (n : Option Nat) {a : AC} (h : a.good) : (putCut N k n a).good := by
  unfold putCut
  split
  · split <;> exact h
  · exact h
theorem good_mk (N : Notes) : ∀ (c : Code), okC N c = true → (mkAC N c).good
  | .skip, _ => trivial
  | .region id ops d, h => by
    unfold mkAC
    refine good_cut _ _ _ ?_
    cases d
    · trivial
    · unfold okC at h
      simp only [cond_true] at h ⊢
      split at h
      · trivial
      · cases h
  | .seq a b, h => by
    unfold okC at h
    rw [Bool.and_eq_true] at h
    exact ⟨good_mk N a h.1, good_mk N b h.2⟩
  | .cond c a b, h => by
    unfold okC at h
    rw [Bool.and_eq_true] at h
    unfold mkAC
    exact good_cut _ _ _ ⟨good_mk N a h.1, good_mk N b h.2⟩
  | .block id a, h => by
    unfold okC at h
    unfold mkAC
    exact good_cut _ _ _ (good_mk N a h)
  | .loop a, h => by
    unfold okC at h
    unfold mkAC
    split at h
    · split at h
      · exact good_mk N a h
      · cases h
    · cases h
  | .scope a, h => by
    unfold okC at h
    unfold mkAC
    split at h
    · split at h
      · split at h
        · rename_i hf
          have hg := good_mk N a h
          exact ⟨hg, AC.good_find _ _ _ hg hf, by rw [AC.erase_find, hf]; rfl⟩
        · cases h
      · cases h
    · cases h
  | .exit _, _ => trivial
  | .ret, _ => trivial
  | .label _, _ => trivial
  | .goto _, _ => trivial
  | .rangeFunc .., h => by cases h
  | .refuse .., h => by cases h
/-- The condition of a function, off its own text. -/
def fvc (P : Program) (E : Env) (fn : Func) (N : Notes) (pro : List Nat) (args : List Value) (w : World) (K : Value → World → Prop) : Prop :=
  match fn.body with
  | some c => cond (okC N c) (cond (Nat.ble args.length fn.ntmps) (vc P E fn.ntmps (mkAC N c) pro (resQ E fn.results.toList K) (argR args 0) [] w) False) False
  | none => False
theorem calls_of_fvc (hE : EOk P E) {f : FuncId} {fn : Func} (hf : P.funcs[f]? = some fn) (N : Notes) (pro : List Nat) (args : List Value) (w : World) (K : Value → World → Prop) (h : fvc P E fn N pro args w K) : Calls P f args.toArray w fun e w' => ∃ v, e = .returned v ∧ K v w' := by
  unfold fvc at h
  split at h
  · rename_i c hb
    obtain ⟨hok, h⟩ := cond_get h
    obtain ⟨hn, h⟩ := cond_get h
    exact calls_of_vc hE hf hb (mkAC N c) (good_mk N c hok) (erase_mk N c hok) fn.ntmps rfl fn.results.toList rfl pro args hn w K h
  · exact h.elim
theorem use_vc {A B : Prop} (h : A) (e : A = B) : B := e ▸ h
theorem calls_of_eq (hE : EOk P E) {f : FuncId} {fn : Func} (hf : P.funcs[f]? = some fn) (N : Notes) (pro : List Nat) (args : List Value) (w : World) (K : Value → World → Prop) {A : Prop} (h : A) (e : A = fvc P E fn N pro args w K) : Calls P f args.toArray w fun e w' => ∃ v, e = .returned v ∧ K v w' :=
  calls_of_fvc hE hf N pro args w K (e ▸ h)
theorem tyok {t : TypeId} {i : TI} (h1 : (P.underlying t).map tkOf = some i.k) (h2 : (P.info? t).map (fun x => (x.size, x.zero, x.bytes)) = some (i.size, some i.zero, i.bytes)) : TyOk P t i := ⟨h1, h2⟩
theorem fnok {f : FuncId} {fn : Func} (hf : P.funcs[f]? = some fn) (h1 : (fn.name == "runtime.NumGoroutine") = false) (h2 : fn.body.isNone = false) : FnOk P f := fun args w => by
  unfold callFunc
  simp only [Sem.run_bind]
  show (Sem.run P _ w) = _
  simp [hf, h1, h2]
end Go.Proofs.Ytkggnbabnfhcpaa
end
