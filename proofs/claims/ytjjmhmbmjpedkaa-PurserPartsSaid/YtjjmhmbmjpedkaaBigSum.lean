/- Lists of ints: 'Sum' of the code and of the reference, 'Same'. -/
import Derived.Test.YtjjmhmbmjpedkaaArith
import Derived.Test.YtjjmhmbmjpedkaaLibRegion
import Derived.Test.YtjjmhmbmjpedkaaLibInts
import Derived.Laws.Externs
namespace Go.Proofs.Ytjjmhmbmjpedkaa
open Go.RowKit
theorem seI_load_row {P : Program} {ops : Array Oper} {wx : World} {Q : Act → Prop} {i : Nat} {r : List Nat} {a : Act} {o : Oper} (ho : ops[i]? = some o) (hgd : o.guard = none) (ty : TypeId) (x : Operand) (hop : o.op = .load ty x)
    (g : Nat) (hx : a.eval x = .pointer (some ⟨g, 0, none⟩)) (t : TypeId) (cs : Array Value) (fr : Nat × Nat) (d : TypeDesc) (hg : wx.heap[g]? = some (.cells cs t fr))
    (hu : P.underlying ty = some d) (hd : (match d with | .struct _ | .array _ _ => true | _ => false) = true) (hi : (P.info? ty).map (·.size) = some cs.size)
    (h : seI P ops wx Q r (a.put o.dst (.agg cs))) : seI P ops wx Q (i :: r) a := by
  refine seI_step ho fun K hK => ?_
  rw [if_pos (by simp [Region.wanted, hgd])]
  unfold Oper.still execOp
  simp only [hop, hx, Instr.loadAt, Instr.sureAddr, Sem.run_bind, Sem.run_pure, Result.andThen_ok, run_loadVar_row wx g t ty cs fr d hg hu hd hi]
  rw [Oper.stillUpon_value]
  exact hK _ h
theorem seI_loadBig {ops : Array Oper} {wx : World} {Q : Act → Prop} {i : Nat} {r : List Nat} {a : Act} {o : Oper} (ho : ops[i]? = some o) (hgd : o.guard = none) (x : Operand) (hop : o.op = .load 107 x) (g : Nat) (hx : a.eval x = .pointer (some ⟨g, 0, none⟩))
    (f : Nat → Nat) (neg : Bool) (hg : Blk wx g (arr f neg) 107) (h : seI Try.prog ops wx Q r (a.put o.dst (.agg (arr f neg)))) : seI Try.prog ops wx Q (i :: r) a :=
  seI_load_row ho hgd 107 x hop g hx 107 (arr f neg) (0, 0) _ hg Try.underlying107 rfl (by kernel_rfl) h
def total (zs : List Int) : Int := zs.foldl (· + ·) 0
theorem total_take_succ {zs : List Int} {k : Nat} (h : k < zs.length) : total (zs.take (k + 1)) = total (zs.take k) + zs[k] := by
  unfold total
  rw [List.take_succ_eq_append_getElem h, List.foldl_append]
  rfl
theorem total_bound {zs : List Int} (h : ints zs) : ∀ k, k ≤ zs.length → -9223372036854775808 * (k : Int) ≤ total (zs.take k) ∧ total (zs.take k) ≤ 9223372036854775808 * (k : Int) := by
  intro k
  induction k with
  | zero => intro _; simp [total]
  | succ k ih =>
    intro hk
    have := ih (by omega)
    have hz := h zs[k] (List.getElem_mem _)
    rw [total_take_succ (by omega)]
    omega
theorem add64 (x y : Int) (hx : 0 ≤ x) (hy : 0 ≤ y) (w : World) : (callFunc 71 #[.int .u64 x, .int .u64 y, .int .u64 0]).run Try.prog w =
    .ok (.value (.tuple #[.int .u64 ((x + y) % 18446744073709551616), .int .u64 ((x + y) / 18446744073709551616)])) w := by
  rw [run_callFunc_extern Try.func71 (by kernel_rfl) (by kernel_rfl) (by kernel_rfl) (e := add64Entry) (by kernel_rfl), run_add64 x y 0 hx hy (by omega) (by omega)]
  simp [Result.andThen]
def sLo (z : Int) : Int := z % 18446744073709551616
def sHi (z : Int) : Int := z / 18446744073709551616 % 18446744073709551616
theorem lo_step (s n : Int) : (sLo s + IntKind.u64.wrap n) % 18446744073709551616 = sLo (s + n) := by rw [IntKind.wrap_u64]; unfold sLo; omega
theorem hi_step (s n : Int) (h1 : -9223372036854775808 ≤ n) (h2 : n ≤ 9223372036854775807) :
    IntKind.u64.wrap (sHi s + IntKind.u64.wrap (IntKind.u64.wrap (n / 9223372036854775808) + (sLo s + IntKind.u64.wrap n) / 18446744073709551616)) = sHi (s + n) := by
  simp only [IntKind.wrap_u64]
  have e1 : n = n % 18446744073709551616 + 18446744073709551616 * (n / 9223372036854775808) := by omega
  have e2 : s = sLo s + 18446744073709551616 * (s / 18446744073709551616) := by unfold sLo; omega
  have e3 : (s + n) / 18446744073709551616 = s / 18446744073709551616 + n / 9223372036854775808 + (sLo s + n % 18446744073709551616) / 18446744073709551616 := by
    have e4 : s + n = (sLo s + n % 18446744073709551616) + 18446744073709551616 * (s / 18446744073709551616 + n / 9223372036854775808) := by omega
    generalize sLo s + n % 18446744073709551616 = z at *
    generalize s / 18446744073709551616 = q at *
    generalize n / 9223372036854775808 = r at *
    omega
  unfold sHi
  rw [e3]
  generalize (sLo s + n % 18446744073709551616) / 18446744073709551616 = z
  generalize s / 18446744073709551616 = q
  generalize n / 9223372036854775808 = r
  omega
set_option maxRecDepth 100000 in
set_option maxHeartbeats 2000000 in
theorem aSum_any (a : Option Addr) (cap : Nat) (zs : List Int) (w : World) (v : Value) (hv : v = fitV (total zs)) (hi : ints zs) (hl : zs.length ≤ 1000000) (hr : RowAt w a (zs.map iV)) :
    Calls Try.prog 43 #[.slice a zs.length cap] w fun e w' => e = .returned v ∧ w' = w := by
  have HR := hid hr; have HI := hid hi; have HV := hid hv; have HL := hid hl
  clear hr hi hv
  go_enter Try.func43, Try.ntmps43
  go_wp2
  go_loop [4,5,7,8,11,12,13,14,15,16,17,18,19,20,21,22,23,24,25,26,27,28,29] (fun t4 t5 _ _ t11 _ _ _ _ _ _ _ _ _ _ _ _ _ _ _ _ _ _ => ∃ k : Nat, k ≤ zs.length ∧ t11 = .int .i64 k ∧ t4 = .int .u64 (sHi (total (zs.take k))) ∧ t5 = .int .u64 (sLo (total (zs.take k)))) (fun _ _ _ _ t11 _ _ _ _ _ _ _ _ _ _ _ _ _ _ _ _ _ _ => zs.length - (intOf t11).toNat)
  case atStart => exact ⟨0, by omega, rfl, rfl, rfl⟩
  case round =>
    obtain ⟨k, hk, rfl, rfl, rfl⟩ := hrel
    by_cases hlt : k < zs.length
    · obtain ⟨b, off, rfl, hc⟩ := HR.out.int hlt
      have hz := HI.out zs[k] (List.getElem_mem _)
      have HT := hid (total_take_succ hlt)
      have hB := hid (total_bound HI.out k (by omega))
      have hB2 := hid (total_bound HI.out (k + 1) (by omega))
      generalize zs[k] = n at *
      obtain ⟨s, hs⟩ : ∃ s, s = total (zs.take k) := ⟨_, rfl⟩
      rw [← hs] at HT hB ⊢
      clear hs
      obtain ⟨x, hx⟩ : ∃ x, x = sLo s := ⟨_, rfl⟩
      obtain ⟨y, hy⟩ : ∃ y, y = sHi s := ⟨_, rfl⟩
      rw [← hx, ← hy]
      have x1 : 0 ≤ x := by rw [hx]; unfold sLo; omega
      obtain ⟨u, hu⟩ : ∃ u, u = IntKind.u64.wrap n := ⟨_, rfl⟩
      have hn := hu.symm
      have u1 : 0 ≤ u := by rw [hu, IntKind.wrap_u64]; omega
      have HX := hid hx; have HY := hid hy; have HU := hid hu; have HZ := hid hz
      clear hx hy hu hz
      have hadd := fun w => add64 x u x1 u1 w
      go_wp2_with (simp only [hadd])
      go_round
      case rel =>
        refine ⟨k + 1, by omega, by go_num, ?_, ?_⟩
        · rw [HT.out, ← hi_step s n HZ.out.1 HZ.out.2, HX.out, HY.out, HU.out]
        · rw [HT.out, ← lo_step, HX.out, HU.out]
      case measure => simp [intOf]; omega
    · obtain rfl : k = zs.length := by omega
      have hB := hid (total_bound HI.out zs.length (by omega))
      rw [List.take_length] at hB ⊢
      generalize total zs = s at *
      obtain ⟨x, hx⟩ : ∃ x, x = sLo s := ⟨_, rfl⟩
      obtain ⟨y, hy⟩ : ∃ y, y = sHi s := ⟨_, rfl⟩
      rw [← hx, ← hy]
      by_cases hf : fitB s = true
      · have hf2 : -9223372036854775808 ≤ s ∧ s ≤ 9223372036854775807 := by simpa [fitB] using hf
        obtain rfl : v = .tuple #[.int .i64 s, .bool true] := by rw [HV.out]; exact fitV_yes hf2.1 hf2.2
        have hw : wrap64 x = s := by rw [hx]; unfold sLo wrap64; omega
        have hy2 : (y != IntKind.u64.wrap (s / 9223372036854775808)) = false := by rw [hy, IntKind.wrap_u64]; unfold sHi; simp; omega
        clear HV hf hf2 hx hy hB
        have HW := hid hw
        go_wp2
        go_ret2
        exact ⟨rfl, rfl⟩
      · have hf2 : s < -9223372036854775808 ∨ 9223372036854775807 < s := by simp [fitB] at hf; omega
        obtain rfl : v = .tuple #[.int .i64 0, .bool false] := by rw [HV.out]; exact fitV_no hf2
        have hy2 : (y != IntKind.u64.wrap (wrap64 x / 9223372036854775808)) = true := by
          have := hB.out; rw [hy, hx, IntKind.wrap_u64]; unfold sHi sLo wrap64; simp; omega
        clear HV hf hf2 hx hy hB
        go_wp2
        go_ret2
        exact ⟨rfl, rfl⟩
end Go.Proofs.Ytjjmhmbmjpedkaa
