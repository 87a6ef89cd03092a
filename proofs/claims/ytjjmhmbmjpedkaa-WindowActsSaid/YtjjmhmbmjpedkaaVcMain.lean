/- A function whose condition holds answers so. No program in sight. -/
import Derived.Test.YtjjmhmbmjpedkaaVcSound
namespace Go.Proofs.Ytjjmhmbmjpedkaa
open Go.RowKit
variable {P : Program} {E : Env}
theorem vc_sound (hE : EOk P E) {n : Nat} : ∀ (c : AC) (pro : List Nat) (Q : VQ) (ρ : SFr) (σ : List LB) (a : Act) (w : World), Rep n ρ σ a w → vc P E n c pro Q ρ σ w → c.erase.wp P (Out n pro c.dsts Q σ a) a w
  | .skip, pro, Q, ρ, σ, a, w, hr, h => wp_skip ⟨ρ, σ, h, hr, .refl _ _, .refl _ _⟩
  | .reg id ops, pro, Q, ρ, σ, a, w, hr, h => by
    refine wp_region (vOps_sound (pro := pro) (K := Q .normal) (σ0 := σ) (a0 := a) hE (fun ρ' σ' a' w' hq hr' hg hs => ⟨ρ', σ', hq, hr', hg, hs.mono fun t ht => wrOps_dsts ht⟩) _ ρ σ a w hr (.refl _ _) (.refl _ _) ?_)
    exact h
  | .regD id ops B L Qs, pro, Q, ρ, σ, a, w, hr, h => by
    unfold vc at h
    obtain ⟨hok, h⟩ := cond_get h
    have h := h w.drew rfl ((Below.refl _ _).drew)
    have hr1 : Rep n ρ σ a w.drew := hr.world fun b _ => rfl
    obtain ⟨G, a', ρ', h1, h2, h3, h4, h5, h6, h7⟩ := vQs_sound (P := P) (ops := ops) hE _ _ _ _ hr1 h
    refine wp_region_tr B L Qs hE.mixed hok ⟨G.map qf, a', by rw [List.map_map]; exact h1, h2, fun q hq => ?_, ?_⟩
    · obtain ⟨p, hp, rfl⟩ := List.mem_map.1 hq
      exact h3 p hp
    · exact vTr_sound (pro := pro) (K := Q .normal) (σ0 := σ) (a0 := a) hE (fun ρ' σ' a' w' hq hr' hg hs => ⟨ρ', σ', hq, hr', hg, hs.mono fun t ht => wrOps_dsts ht⟩) _ _ _ G ρ' σ a' w.drew h4 (.refl _ _) h5 h6 h3 (by simpa using h7)
  | .seq x y, pro, Q, ρ, σ, a, w, hr, h => by
    refine wp_seq (wp_mono (vc_sound hE x pro _ ρ σ a w hr h) fun e a' w' ho => ?_)
    exact Out.then (fun ρ σ a w hk hr => vc_sound hE y pro Q ρ σ a w hr hk) ho
  | .cond c x y, pro, Q, ρ, σ, a, w, hr, h => by
    unfold vc at h
    obtain ⟨v, hv, h⟩ := withV_lk h
    split at h
    · rename_i t
      have hev := evv hr hv
      have hr' := rep_refC hr hv
      cases t
      · refine wp_cond hev (wp_mono (vc_sound hE y pro Q _ σ a w hr' h) fun e a' w' ho => ?_)
        obtain ⟨ρ', σ', hq, hr2, hg, hs⟩ := ho
        exact ⟨ρ', σ', hq, hr2, hg, hs.mono fun t ht => by unfold AC.dsts; rw [memN_app, ht]; simp⟩
      · refine wp_cond hev (wp_mono (vc_sound hE x pro Q _ σ a w hr' h) fun e a' w' ho => ?_)
        obtain ⟨ρ', σ', hq, hr2, hg, hs⟩ := ho
        exact ⟨ρ', σ', hq, hr2, hg, hs.mono fun t ht => by unfold AC.dsts; rw [memN_app, ht]; rfl⟩
    · exact h.elim
  | .block id x, pro, Q, ρ, σ, a, w, hr, h => by
    refine wp_block (wp_mono (vc_sound hE x pro (blockQ id Q) ρ σ a w hr h) fun e a' w' ho => ?_)
    obtain ⟨ρ', σ', hq, hr2, hg, hs⟩ := ho
    cases e with
    | exit k =>
      show if k = id then _ else _
      replace hq : _root_.cond (Nat.beq k id) (Q .normal ρ' σ' w') (Q (.exit k) ρ' σ' w') := hq
      by_cases hk : k = id
      · subst hk
        rw [Nat.beq_refl] at hq
        rw [if_pos rfl]
        exact ⟨ρ', σ', hq, hr2, hg, hs⟩
      · have : Nat.beq k id = false := by cases hb : Nat.beq k id; rfl; exact absurd (Nat.eq_of_beq_eq_true hb) hk
        rw [this] at hq
        rw [if_neg hk]
        exact ⟨ρ', σ', hq, hr2, hg, hs⟩
    | _ => exact ⟨ρ', σ', hq, hr2, hg, hs⟩
  | .loop lv bx wr pb x, pro, Q, ρ, σ, a, w, hr, h => by
    unfold vc at h
    obtain ⟨hok, I, μ, h0, hall⟩ := cond_get h
    unfold headOk at hok
    rw [Bool.and_eq_true, Bool.and_eq_true, Bool.and_eq_true] at hok
    obtain ⟨⟨⟨k1, k2⟩, k3⟩, k4⟩ := hok
    have hbase : HeadRel (idsB bx) σ σ := fun id b0 hb => ⟨b0, hb, rfl, rfl, fun _ => rfl⟩
    obtain ⟨vals0, hi0, hr0⟩ := rep_head (a' := a) (wr := wr) hr hr hbase (.refl _ _) h0
    have hin : SameA (memN wr) a a := .refl _ _
    refine wp_loop_ghost (fun k a1 w1 => ∃ vals, getA (fun _ => 0) _ μ vals w1 = k ∧ getA (fun _ => False) _ I vals w1 ∧ Rep n (headR lv vals (dropS wr ρ)) (headB bx (restR lv vals) σ) a1 w1 ∧ SameA (memN x.dsts) a a1) _ ⟨vals0, rfl, hi0, hr0, .refl _ _⟩ ?_
    rintro k a1 w1 ⟨vals, rfl, hi, hrh, hsame⟩
    have hv := allA_get _ I [] vals w1 _ hall hi w1 hi
    rw [List.nil_append] at hv
    obtain ⟨e1, e2, e3⟩ := headB_same bx (restR lv vals) σ
    have hgh : GrowsP pro σ (headB bx (restR lv vals) σ) := fun id b hb => by
      obtain ⟨b', g1, g2, g3, g4⟩ := headB_lk bx (restR lv vals) σ id b hb
      refine ⟨b', g1, g2, g3, fun hp => g4 ?_⟩
      cases hm2 : memN (idsB bx) id
      · rfl
      · rw [subN_get k3 id hm2] at hp; cases hp
    have hpb : ∀ {σ1 σ2 : List LB}, GrowsP pb σ1 σ2 → GrowsP pro σ1 σ2 := fun hg id b hb => by
      obtain ⟨b', g1, g2, g3, g4⟩ := hg id b hb
      refine ⟨b', g1, g2, g3, fun hp => g4 ?_⟩
      cases hm : memN pb id
      · rfl
      · rw [subN_get k2 id hm] at hp; cases hp
    refine wp_mono (vc_sound hE x pb _ _ _ a1 w1 hrh hv) fun e a2 w2 ho => ?_
    obtain ⟨ρ', σ', hq, hr2, hg, hs⟩ := ho
    cases e with
    | normal =>
      have hrel : HeadRel (idsB bx) σ σ' := fun id b0 hb => by
        obtain ⟨b1, m1, m2, m3, m4⟩ := hgh id b0 hb
        obtain ⟨b2, n1, n2, n3, n4⟩ := hg id b1 m1
        refine ⟨b2, n1, n2.trans m2, n3.trans m3, fun hid => ?_⟩
        have hpbf : memN pb id = false := by
          cases hm : memN pb id
          · rfl
          · have hb' := lkB_mem hb
            have := okB_get k4 b0 hb'.1 (by rw [hb'.2]; exact hm)
            rw [hb'.2, hid] at this; cases this
        have hb1 : b1 = b0 := by
          obtain ⟨b3, j1, _, _, j4⟩ := headB_lk bx (restR lv vals) σ id b0 hb
          rw [m1] at j1; injection j1 with j1
          rw [j1, j4 hid]
        rw [n4 hpbf, hb1]
      have hs' : SameA (memN x.dsts) a a2 := hsame.trans hs
      obtain ⟨vals', ⟨hi', hlt⟩, hrh'⟩ := rep_head hr hr2 hrel (hs'.mono (subN_get k1)) hq
      exact ⟨_, hlt, vals', rfl, hi', hrh', hs'⟩
    | _ => exact ⟨ρ', σ', hq, hr2, hgh.trans (hpb hg), hsame.trans hs⟩
  | .cut lv bx wr pb x, pro, Q, ρ, σ, a, w, hr, h => by
    unfold vc at h
    obtain ⟨hok, J, h0, hall⟩ := cond_get h
    unfold headOk at hok
    rw [Bool.and_eq_true, Bool.and_eq_true, Bool.and_eq_true] at hok
    obtain ⟨⟨⟨k1, k2⟩, k3⟩, k4⟩ := hok
    have hpb : ∀ {σ1 σ2 : List LB}, GrowsP pb σ1 σ2 → GrowsP pro σ1 σ2 := fun hg id b hb => by
      obtain ⟨b', g1, g2, g3, g4⟩ := hg id b hb
      refine ⟨b', g1, g2, g3, fun hp => g4 ?_⟩
      cases hm : memN pb id
      · rfl
      · rw [subN_get k2 id hm] at hp; cases hp
    refine wp_mono (vc_sound hE x pb _ ρ σ a w hr h0) fun e a2 w2 ho => ?_
    obtain ⟨ρ', σ', hq, hr2, hg, hs⟩ := ho
    cases e with
    | normal =>
      have hrel : HeadRel (idsB bx) σ σ' := fun id b0 hb => by
        obtain ⟨b2, n1, n2, n3, n4⟩ := hg id b0 hb
        refine ⟨b2, n1, n2, n3, fun hid => n4 ?_⟩
        cases hm : memN pb id
        · rfl
        · have hb' := lkB_mem hb
          have := okB_get k4 b0 hb'.1 (by rw [hb'.2]; exact hm)
          rw [hb'.2, hid] at this; cases this
      obtain ⟨vals, hi, hrh⟩ := rep_head hr hr2 hrel (hs.mono (subN_get k1)) hq
      have hv := allA_get _ J [] vals w2 _ hall hi w2 hi
      rw [List.nil_append] at hv
      refine ⟨_, _, hv, hrh, fun id b hb => ?_, hs⟩
      obtain ⟨b', m1, m2, m3, m4⟩ := headB_lk bx (restR lv vals) σ id b hb
      refine ⟨b', m1, m2, m3, fun hp => m4 ?_⟩
      cases hm2 : memN (idsB bx) id
      · rfl
      · rw [subN_get k3 id hm2] at hp; cases hp
    | _ => exact ⟨ρ', σ', hq, hr2, hpb hg, hs⟩
  | .exit id, pro, Q, ρ, σ, a, w, hr, h => wp_exit ⟨ρ, σ, h, hr, .refl _ _, .refl _ _⟩
  | .ret, pro, Q, ρ, σ, a, w, hr, h => wp_ret ⟨ρ, σ, h, hr, .refl _ _, .refl _ _⟩
/-- The results. -/
def vRes (E : Env) (σ : List LB) (w : World) (ρ : SFr) : List ResultVar → List Value → (List Value → Prop) → Prop
  | [], acc, K => K acc
  | .tmp t :: r, acc, K => withV (lk ρ t) fun v => vRes E σ w ρ r (acc ++ [v]) K
  | .cell t T :: r, acc, K => qop E (.load T (.tmp t)) ρ σ w fun s _ => match s with
    | .v v => vRes E σ w ρ r (acc ++ [v]) K
    | _ => False
def tupV : List Value → Value
  | [v] => v
  | l => .tuple l.toArray
def resQ (E : Env) (rs : List ResultVar) (K : Value → World → Prop) : VQ
  | .normal, ρ, σ, w => vRes E σ w ρ rs [] fun vs => K (tupV vs) w
  | .ret, ρ, σ, w => vRes E σ w ρ rs [] fun vs => K (tupV vs) w
  | _, _, _, _ => False
def argR : List Value → Nat → SFr
  | [], _ => []
  | v :: r, k => (k, some (.v v)) :: argR r (k + 1)
theorem lk_argR {t : Nat} {s : SV} : ∀ {args : List Value} {k : Nat}, lk (argR args k) t = some s → ∃ j v, t = k + j ∧ args[j]? = some v ∧ s = .v v
  | v :: r, k, h => by
    unfold argR at h
    rw [lk_cons] at h
    by_cases hk : k = t
    · rw [if_pos hk] at h
      injection h with h
      exact ⟨0, v, hk.symm, rfl, h.symm⟩
    · rw [if_neg hk] at h
      obtain ⟨j, u, h1, h2, h3⟩ := lk_argR h
      exact ⟨j + 1, u, by omega, by simpa using h2, h3⟩
theorem load_ptr {T : TypeId} {v x : Value} {w w' : World} (h : (Instr.loadAt T v).run P w = .ok x w') : (do loadVar T (← asAddr v) : Sem Value).run P w = .ok x w' := by
  unfold Instr.loadAt at h
  cases v with
  | pointer a =>
    cases a with
    | some a => exact h
    | none => cases h
  | _ => cases h
theorem vRes_get (hE : EOk P E) {n : Nat} {ρ : SFr} {σ : List LB} {a : Act} {w : World} (hr : Rep n ρ σ a w) : ∀ {rs : List ResultVar} {acc : List Value} {K : List Value → Prop}, vRes E σ w ρ rs acc K →
    ∃ vs, K (acc ++ vs) ∧ (rs.mapM fun (r : ResultVar) => match r with
      | .tmp t => (pure (a.tmps.getD t undef) : Sem Value)
      | .cell p T => do loadVar T (← asAddr (a.tmps.getD p undef))).run P w = .ok vs w
  | [], acc, K, h => ⟨[], by rw [List.append_nil]; exact h, by simp⟩
  | .tmp t :: r, acc, K, h => by
    obtain ⟨v, hv, h⟩ := withV_lk (show withV (lk ρ t) _ from h)
    obtain ⟨x, hx1, hx2⟩ := hr.slots t _ hv
    cases hx1
    obtain ⟨vs, h1, h2⟩ := vRes_get hE hr h
    refine ⟨v :: vs, by rw [List.append_assoc] at h1; exact h1, ?_⟩
    have hv2 : a.tmps.getD t undef = v := by simp [Array.getD_eq_getD_getElem?, hx2]
    rw [List.mapM_cons]
    simp only [Sem.run_bind, hv2, Sem.run_pure, Result.andThen_ok]
    rw [h2]
    rfl
  | .cell t T :: r, acc, K, h => by
    obtain ⟨s, f, x, hk, hden, hf, hrun, _⟩ := qop_sound (P := P) (o := { dst := none, op := .load T (.tmp t), type := 0, pos := "", after := #[], guard := none }) hE hr (show qop E (.load T (.tmp t)) ρ σ w _ from h)
    cases s with
    | box _ _ => exact hk.elim
    | v v =>
      cases hden
      obtain ⟨vs, h1, h2⟩ := vRes_get hE hr (show vRes E σ w ρ r (acc ++ [x]) K from hk)
      refine ⟨x :: vs, by rw [List.append_assoc] at h1; exact h1, ?_⟩
      have hl : (Instr.loadAt T (a.tmps.getD t undef)).run P w = .ok x w := by
        have := hrun w hf
        simp only [execOp, Sem.run_bind, Act.eval] at this
        cases hq : (Instr.loadAt T (a.tmps.getD t undef)).run P w with
        | ok y w' => rw [hq] at this; simp only [Result.andThen_ok, Sem.run_pure] at this; injection this with h1 h2; injection h1 with h1; rw [h1, h2]
        | halt _ _ => rw [hq] at this; cases this
      have := load_ptr hl
      rw [List.mapM_cons]
      simp only [Sem.run_bind] at this ⊢
      rw [this]
      simp only [Result.andThen_ok]
      rw [h2]
      rfl
/-- The function: its condition is enough. -/
theorem calls_of_vc (hE : EOk P E) {f : FuncId} {fn : Func} {c : Code} (hf : P.funcs[f]? = some fn) (hb : fn.body = some c) (ac : AC) (hc : ac.erase = c) (nt : Nat) (hnt : fn.ntmps = nt) (rs : List ResultVar) (hrs : fn.results.toList = rs) (pro : List Nat)
    (args : List Value) (hn : Nat.ble args.length nt = true) (w : World) (K : Value → World → Prop) (h : vc P E nt ac pro (resQ E rs K) (argR args 0) [] w) : Calls P f args.toArray w fun e w' => ∃ v, e = .returned v ∧ K v w' := by
  have hn := Nat.le_of_ble_eq_true hn
  subst hnt; subst hrs; subst hc
  refine calls_of_wp hf hb ?_
  have hr : Rep fn.ntmps (argR args 0) [] { tmps := args.toArray ++ Array.replicate (fn.ntmps - args.toArray.size) undef, defers := [] } w := by
    refine ⟨by simp; omega, rfl, fun t s hl => ?_, (fun b hb => by cases hb), List.nodup_nil, List.nodup_nil⟩
    obtain ⟨j, v, h1, h2, rfl⟩ := lk_argR hl
    refine ⟨v, rfl, ?_⟩
    have hj : j < args.length := (List.getElem?_eq_some_iff.1 h2).1
    rw [h1, Nat.zero_add, Array.getElem?_append_left (by simpa using hj)]
    simpa using h2
  refine wp_mono (vc_sound hE ac pro _ _ _ _ w hr h) fun e a' w' ho => ?_
  obtain ⟨ρ', σ', hq, hr2, _, _⟩ := ho
  have fin : (vRes E σ' w' ρ' fn.results.toList [] fun vs => K (tupV vs) w') → a'.defers = [] ∧ ∃ v, (results fn a'.tmps).run P w' = .ok v w' ∧ ∃ v', Ending.returned v = .returned v' ∧ K v' w' := fun hq => by
    obtain ⟨vs, h1, h2⟩ := vRes_get hE hr2 hq
    rw [List.nil_append] at h1
    refine ⟨hr2.defs, tupV vs, ?_, tupV vs, rfl, h1⟩
    have e : (results fn a'.tmps).run P w' = (((fn.results.toList.mapM fun (r : ResultVar) => match r with
      | .tmp t => (pure (a'.tmps.getD t undef) : Sem Value)
      | .cell p T => do loadVar T (← asAddr (a'.tmps.getD p undef))).run P w').andThen fun a w' => Result.ok a.toArray w').andThen fun a w' => .ok (if h : a.size = 1 then a[0] else .tuple a) w' := by
      unfold results
      rw [Sem.run_bind, Array.mapM_eq_mapM_toList, Sem.run_map]
      rfl
    rw [e, h2]
    simp only [Result.andThen_ok]
    congr 1
    cases vs with
    | nil => rfl
    | cons v r => cases r <;> rfl
  cases e with
  | normal => exact fin hq
  | ret => exact fin hq
  | _ => exact hq.elim
end Go.Proofs.Ytjjmhmbmjpedkaa
