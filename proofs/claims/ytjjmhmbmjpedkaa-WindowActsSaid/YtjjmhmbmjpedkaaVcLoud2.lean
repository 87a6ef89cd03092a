/- What an operation that acts does in an abstract frame: the rest; each of them acts so in the model. No program in sight. -/
import Derived.Test.YtjjmhmbmjpedkaaVcLoud
namespace Go.Proofs.Ytjjmhmbmjpedkaa
open Go.RowKit
variable {P : Program} {E : Env}
section
variable {n : Nat} {ρ : SFr} {σ : List LB} {a : Act} {w : World} {o : Oper} {K : Option SV → List LB → World → Prop} {Q : Exit → Act → World → Prop}
theorem l_buildSlice (hE : EOk P E) (hr : Rep n ρ σ a w) (hd : dstOk n o.dst = true) {pro : List Nat} {t : TypeId} {len : Nat} {parts : Array (Nat × Operand)} (ho : o.op = .buildSlice t len parts) (h : lop P E pro o ρ σ w K) : Acts P n pro ρ σ o a w K Q := by
  unfold lop at h
  rw [ho] at h
  simp only at h
  split at h
  · rename_i i hi
    split at h
    · rename_i e hk
      have hu := hE.slice hi hk
      split at h
      · rename_i ei hei
        obtain ⟨hz, h⟩ := cond_get h
        obtain ⟨hl, h⟩ := cond_get h
        have hz := Nat.eq_of_beq_eq_true hz
        have hl := Nat.le_of_ble_eq_true hl
        obtain ⟨cs, hf, h⟩ := buildL_get hr h
        have hzc : ei.zero.cells = (cellsL ei.zero).toArray := by rw [cellsL_eq]
        have hrun : (execOp a.eval o).run P w = .ok (.value (.slice (some ⟨w.heap.size, 0, none⟩) len len)) (w.alloc (.cells cs.toArray e)) := by
          have hn : ¬ (len * ei.size > 2 ^ 24) := by omega
          have hb : (Instr.buildSlice t len (parts.map fun (i, x) => (i, a.eval x))).run P w = .ok (.slice (some ⟨w.heap.size, 0, none⟩) len len) (w.alloc (.cells cs.toArray e)) := by
            unfold Instr.buildSlice
            rw [Sem.run_bind, run_underlying hu, Result.andThen_ok]
            simp only [Sem.run_bind, hE.sizeOf hei, Result.andThen_ok]
            rw [if_neg hn]
            by_cases h0 : len * ei.size = 0
            · rw [if_pos h0]
              have hr0 : repL len (cellsL ei.zero) = [] := List.eq_nil_of_length_eq_zero (by rw [repL_length, hz, h0])
              rw [hr0] at hf
              have hm : (Array.map (fun x : Nat × Operand => match x with | (i, x) => (i, a.eval x)) parts).toList = parts.toList.map fun p => (p.1, a.eval p.2) := by simp
              simp only [h0]
              simp only [Array.range_zero', hm]
              simp [hf, newRow]
            · rw [if_neg h0]
              have hm : (Array.map (fun x : Nat × Operand => match x with | (i, x) => (i, a.eval x)) parts).toList = parts.toList.map fun p => (p.1, a.eval p.2) := by simp
              simp only [Sem.run_bind, hE.zeroValue hei, hzc, hm, Sem.run_pure, Result.andThen_ok]
              rw [show len * ei.size = len * (cellsL ei.zero).length by rw [hz]] at h0 ⊢
              rw [repL_range _ _ h0, hf]
              simp [newRow]
          simp [execOp, ho, hb]
        exact acts_value hrun (hr.alloc _) hd rfl (h _ _ rfl rfl) (.refl _ _) (.refl _ _)
      · exact h.elim
    · exact h.elim
  · exact h.elim
theorem l_makeSlice (hE : EOk P E) (hr : Rep n ρ σ a w) (hd : dstOk n o.dst = true) {pro : List Nat} {t : TypeId} {x y : Operand} (ho : o.op = .makeSlice t x y) (h : lop P E pro o ρ σ w K) : Acts P n pro ρ σ o a w K Q := by
  unfold lop at h
  rw [ho] at h
  simp only at h
  split at h
  · rename_i i hi
    split at h
    · rename_i e hk
      have hu := hE.slice hi hk
      split at h
      · rename_i ei hei
        replace h := hr.evV (hr.evV h)
        split at h
        · rename_i kl l kc c hx hy
          obtain ⟨h0, h1, h2, h3, h⟩ := h
          obtain ⟨inf, g1, g2, g3, g4⟩ := hE.info hei
          have := run_make (P := P) w t e inf ei.zero hu g1 g3 kl kc l c h0 h1 (by rw [g4]; exact h2) h3
          rw [g2] at this
          have hrun : (execOp a.eval o).run P w = .ok (.value (.slice (some ⟨w.heap.size, 0, none⟩) l.toNat c.toNat)) (w.alloc (.cells (madeCells ei.zero.cells (c.toNat * ei.size)) e)) := by simp [execOp, ho, hx, hy, this]
          exact acts_value hrun (hr.alloc _) hd rfl (h _ _ rfl rfl) (.refl _ _) (.refl _ _)
        · exact h.elim
      · exact h.elim
    · exact h.elim
  · exact h.elim
theorem toArr (x : Array Operand) (f : Operand → Value) : (x.toList.map f).toArray = x.map f := by apply Array.ext'; simp
theorem l_call (hE : EOk P E) (hr : Rep n ρ σ a w) (hd : dstOk n o.dst = true) {pro : List Nat} {c : Call} (ho : o.op = .call c) (h : lop P E pro o ρ σ w K) : Acts P n pro ρ σ o a w K Q := by
  unfold lop at h
  rw [ho] at h
  simp only at h
  split at h
  · rename_i f hf
    split at h
    · rename_i f' first cap hx
      have hev := evv hr hx
      split at h
      · rename_i sh hsh
        replace h := evL_get hr h
        have hfn := hE.fns _ (lkF_mem hsh)
        have harg : (first.toList ++ c.args.toList.map a.eval ++ cap.toList).toArray = first ++ c.args.map a.eval ++ cap := by apply Array.ext'; simp
        unfold callO at h
        rw [harg] at h
        have hrun : (execOp a.eval o).run P w = .ok (.enter f' (first ++ c.args.map a.eval ++ cap)) w := by
          have := hfn (first ++ c.args.map a.eval ++ cap) w
          simp only [execOp, ho, resolve, hf, hev, Deferred.ofValue, Sem.run_bind, Sem.run_pure, Result.andThen_ok, invoke]
          exact this
        unfold Acts Oper.wp
        rw [hrun, Oper.upon_enter]
        refine h.mono fun e w1 he => ?_
        obtain ⟨hk, he⟩ := he
        obtain ⟨v, rfl, he2⟩ := exSh_get he
        refine ⟨_, _, he2, (hr.world fun b hb => hk hr.under _ (gs_mem hb)).put hd rfl, .refl _ _, .refl _ _, _, rfl⟩
      · exact h.elim
    · exact h.elim
  · rename_i b hb
    replace h := evL_get hr h
    rw [List.nil_append] at h
    unfold lbuiltin at h
    split at h
    · rename_i t0 tx ad m c' x ht hargs
      split at h
      · rename_i i hi
        split at h
        · rename_i e hk
          have hu := hE.slice hi hk
          split at h
          · rename_i ei hei
            obtain ⟨hz, h⟩ := cond_get h
            have hz := Nat.eq_of_beq_eq_true hz
            obtain ⟨m2, xs, news, hown, hsrc, hl1, hl2, hg, h⟩ := h
            obtain ⟨inf, g1, g2, g3, g4⟩ := hE.info hei
            obtain ⟨v', w', hrun, hown', hgr, hor⟩ := run_app (P := P) t0 tx o.type inf ei.zero ei.bytes hu g1 g3 g2 g4 (by rw [cellsL_eq] at hz; simpa using hz) hown x m2 news hsrc hl1 hl2 (Nat.zero_le _)
            obtain ⟨a', cap', rfl⟩ := hown'.isSlice
            have ht' : c.argTypes = #[t0, tx] := by apply Array.ext'; simpa using ht
            have ha' : c.args.map a.eval = #[.slice ad m c', x] := by rw [← toArr, hargs]
            have hrun2 : (execOp a.eval o).run P w = .ok (.value (.slice a' (m + m2) cap')) w' := by
              simp only [execOp, ho, resolve, hb, Sem.run_bind, Sem.run_pure, Result.andThen_ok, invoke, ha', ht', builtin, hrun]
            exact acts_value hrun2 (hr.world fun b' hb' => hgr.block _ (hr.boxes b' hb').lt fun e => hg _ (gs_mem hb') e.symm) hd rfl (h _ _ _ hown' hgr hor) (.refl _ _) (.refl _ _)
          · exact h.elim
        · exact h.elim
      · exact h.elim
    · exact h.elim
  · exact h.elim
theorem lop_sound (hE : EOk P E) (hr : Rep n ρ σ a w) (hd : dstOk n o.dst = true) {pro : List Nat} (h : lop P E pro o ρ σ w K) : Acts P n pro ρ σ o a w K Q := by
  cases ho : o.op with
  | alloc t => exact l_alloc hE hr hd ho h
  | box t x => exact l_box hr hd ho h
  | store t x y => exact l_store hE hr ho h
  | buildSlice t l ps => exact l_buildSlice hE hr hd ho h
  | makeSlice t x y => exact l_makeSlice hE hr hd ho h
  | call c => exact l_call hE hr hd ho h
  | _ => unfold lop at h; rw [ho] at h; exact h.elim
end
end Go.Proofs.Ytjjmhmbmjpedkaa
