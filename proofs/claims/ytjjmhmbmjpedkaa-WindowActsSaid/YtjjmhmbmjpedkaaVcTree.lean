/- A region that draws its order, as a tree: what acts goes in every order that is open; what only reads goes as early as it can, with the fact that it rests on. No program in sight. -/
import Derived.Test.YtjjmhmbmjpedkaaVcReg
namespace Go.Proofs.Ytjjmhmbmjpedkaa
open Go.RowKit
variable {P : Program} {ops : Array Oper} {Q : Exit → Act → World → Prop}
def bit (B : List Nat) (x y : Nat) : Bool := (B.getD x 0).testBit y
/-- What acts and waits for nothing that acts. -/
def readyL (B L : List Nat) : List Nat := L.filter fun l => L.all fun m => Nat.beq m l || !bit B l m
/-- What reads and waits for nothing that acts; the rest. -/
def newQ (B L Qs : List Nat) : List Nat := Qs.filter fun q => L.all fun m => !bit B q m
def restQ (B L Qs : List Nat) : List Nat := Qs.filter fun q => !(L.all fun m => !bit B q m)
def wpTr (P : Program) (ops : Array Oper) (Q : Exit → Act → World → Prop) (B : List Nat) : Nat → List Nat → List Nat → List QF → Act → World → Prop
  | 0, _, _, _, a, w => Q .normal a w
  | n + 1, L, Qs, pend, a, w => ∀ l ∈ readyL B L, wpOp P ops Q l (fun a1 w1 => ∃ (F : List QF) (a2 : Act), F.map (·.1) = newQ B (L.erase l) Qs ∧ SeqF P ops F a1 a2 ∧ (∀ p ∈ keepP B l pend ++ F, p.2 w1) ∧ wpTr P ops Q B n (L.erase l) (restQ B (L.erase l) Qs) (keepP B l pend ++ F) a2 w1) a w
def depB (ops : Array Oper) (B : List Nat) : Bool := (List.range ops.size).all fun x => (List.range ops.size).all fun y => !(((ops[x]?).map fun o => depOf o y).getD false) || bit B x y
def transB (B : List Nat) (n : Nat) : Bool := (List.range n).all fun x => (List.range n).all fun y => !bit B x y || (List.range n).all fun z => !bit B y z || bit B x z
structure TrOk (ops : Array Oper) (B L Qs : List Nat) : Prop where
  sel : Region.noSelect ops = true
  all : ∀ i, i < ops.size → i ∈ L ++ Qs
  lt : ∀ i, i ∈ L ++ Qs → i < ops.size
  nodup : (L ++ Qs).Nodup
  back : backOk ops = true
  cert : certOk ops B = true
  dep : depB ops B = true
  trans : transB B ops.size = true
  sorted : Qs.Pairwise (· < ·)
  apart : ∀ i, i ∈ Qs → apartOk ops i = true
def trB (ops : Array Oper) (B L Qs : List Nat) : Bool :=
  Region.noSelect ops && ((List.range ops.size).all fun i => (L ++ Qs).contains i) && ((L ++ Qs).all fun i => decide (i < ops.size)) && decide (L ++ Qs).Nodup && backOk ops && certOk ops B && depB ops B && transB B ops.size && decide (Qs.Pairwise (· < ·)) && Qs.all fun i => apartOk ops i
theorem trB_spec {B L Qs : List Nat} (h : trB ops B L Qs = true) : TrOk ops B L Qs := by
  simp only [trB, Bool.and_eq_true, List.all_eq_true, List.mem_range, List.contains_iff_mem, decide_eq_true_eq] at h
  obtain ⟨⟨⟨⟨⟨⟨⟨⟨⟨h1, h2⟩, h3⟩, h4⟩, h5⟩, h6⟩, h7⟩, h8⟩, h9⟩, h10⟩ := h
  exact ⟨h1, h2, h3, h4, h5, h6, h7, h8, h9, h10⟩
theorem depB_get {B : List Nat} (h : depB ops B = true) {x y : Nat} {o : Oper} (ho : ops[x]? = some o) (hy : y < ops.size) (hb : bit B x y = false) : depOf o y = false := by
  have hx : x < ops.size := (Array.getElem?_eq_some_iff.1 ho).1
  unfold depB at h
  rw [List.all_eq_true] at h
  have h := h x (List.mem_range.2 hx)
  rw [List.all_eq_true] at h
  have h := h y (List.mem_range.2 hy)
  rw [ho, hb] at h
  simpa using h
theorem transB_get {B : List Nat} {n x y z : Nat} (h : transB B n = true) (hx : x < n) (hy : y < n) (hz : z < n) (h1 : bit B x y = true) (h2 : bit B y z = true) : bit B x z = true := by
  simp only [transB, List.all_eq_true, List.mem_range, Bool.or_eq_true, Bool.not_eq_true'] at h
  have h := (h x hx y hy).resolve_left (by simp [h1])
  exact (h z hz).resolve_left (by simp [h2])
theorem enabled_iff {B L : List Nat} {q : Nat} : (L.all fun m => !bit B q m) = true ↔ ∀ m ∈ L, bit B q m = false := by simp [List.all_eq_true]
theorem mem_newQ {B L Qs : List Nat} {q : Nat} : q ∈ newQ B L Qs ↔ q ∈ Qs ∧ ∀ m ∈ L, bit B q m = false := by unfold newQ; rw [List.mem_filter, enabled_iff]
theorem mem_restQ {B L Qs : List Nat} {q : Nat} : q ∈ restQ B L Qs ↔ q ∈ Qs ∧ ∃ m ∈ L, bit B q m = true := by
  unfold restQ; rw [List.mem_filter]; simp
theorem mem_readyL {B L : List Nat} {l : Nat} : l ∈ readyL B L ↔ l ∈ L ∧ ∀ m ∈ L, m ≠ l → bit B l m = false := by
  unfold readyL
  rw [List.mem_filter]
  simp only [List.all_eq_true, Bool.or_eq_true, Bool.not_eq_true']
  constructor
  · rintro ⟨h1, h2⟩
    exact ⟨h1, fun m hm hne => (h2 m hm).resolve_left fun e => hne (Nat.eq_of_beq_eq_true e)⟩
  · rintro ⟨h1, h2⟩
    refine ⟨h1, fun m hm => ?_⟩
    by_cases he : m = l
    · subst he; exact .inl (Nat.beq_refl m)
    · exact .inr (h2 m hm he)
theorem split_perm {B L Qs : List Nat} : (newQ B L Qs ++ restQ B L Qs).Perm Qs := List.filter_append_perm _ _
theorem wpAny_tr {B : List Nat} (hsel : Region.noSelect ops = true) (hback : backOk ops = true) (hcert : certOk ops B = true) (hdep : depB ops B = true) (htr : transB B ops.size = true) (hQ : ∀ c a w, ¬ Q (.panic c) a w) : ∀ (n k : Nat) (er pend : List QF) (L Qs : List Nat) (listed : Array Bool) (a a' : Act) (w : World),
    er.length + L.length + Qs.length = n → L.length = k → Left ops listed (er.map (·.1) ++ (L ++ Qs)) → (er.map (·.1) ++ (L ++ Qs)).Nodup → (∀ i ∈ er.map (·.1) ++ (L ++ Qs), i < ops.size) →
    (er.map (·.1)).Pairwise (fun x y => noDep ops x y = true) → (∀ x ∈ er, ∀ m ∈ L, bit B x.1 m = false) → (∀ q ∈ Qs, ∃ m ∈ L, bit B q m = true) → Qs.Pairwise (· < ·) → (∀ p ∈ er, apartOk ops p.1 = true) → (∀ q ∈ Qs, apartOk ops q = true) →
    (∀ p ∈ er, p ∈ pend) → (∀ p ∈ er, p.2 w) → SeqF P ops er a a' → wpTr P ops Q B k L Qs pend a' w → wpAny P .any ops Q n listed a w := by
  intro n
  induction n with
  | zero =>
    intro k er pend L Qs listed a a' w hn hk hl _ _ _ _ _ _ _ _ _ _ hseq h
    have h1 : er = [] := List.eq_nil_of_length_eq_zero (by omega)
    have h2 : L = [] := List.eq_nil_of_length_eq_zero (by omega)
    have h3 : Qs = [] := List.eq_nil_of_length_eq_zero (by omega)
    subst h1; subst h2; subst h3
    have hk : k = 0 := by simpa using hk.symm
    subst hk
    rw [show a' = a from hseq] at h
    exact ⟨hl.done, h⟩
  | succ n ih =>
    intro k er pend L Qs listed a a' w hn hk hl hnd hlt htop hen hblk hsrt hap hapQ hsub hf hseq h
    refine ⟨fun h0 => ?_, fun i hi => ?_⟩
    · exfalso
      obtain ⟨i, hi⟩ : ∃ i, i ∈ er.map (·.1) ++ (L ++ Qs) := by
        cases hh : er.map (·.1) ++ (L ++ Qs) with
        | nil =>
          have := congrArg List.length hh
          simp only [List.length_append, List.length_map, List.length_nil] at this
          omega
        | cons x l => exact ⟨x, by simp⟩
      exact hl.next hback (i + 1) i (by omega) (hlt i hi) hi h0
    · obtain ⟨hu, his, oi, hoi, hall⟩ := hl.ready hi
      have notdep : ∀ x, x ∈ er.map (·.1) ++ (L ++ Qs) → depOf oi x = false := fun x hx => depOf_false fun e he hbd hex => by
        have h1 := hall e he hbd
        rw [hex] at h1
        exact (hl.listed (hlt x hx)).1 h1 hx
      have before : ∀ x, x ∈ er.map (·.1) ++ (L ++ Qs) → bit B i x = true → False := fun x hx hB =>
        (hl.listed (hlt x hx)).1 (listed_before hcert hback hl.closed (i + 1) i x oi (by omega) hoi (hlt x hx) hB hall) hx
      rw [List.mem_append] at hu
      rcases hu with hu | hu
      · obtain ⟨p, hp, rfl⟩ := List.mem_map.1 hu
        obtain ⟨pre, post, rfl⟩ := List.append_of_mem hp
        have hap1 : ∀ x ∈ pre, ∀ ox, ops[x.1]? = some ox → ox.apart ops oi = true := fun x hx ox hox => by
          have hxm : x.1 ∈ (pre ++ p :: post).map (·.1) ++ (L ++ Qs) := by
            rw [List.mem_append]; exact .inl (List.mem_map.2 ⟨x, by simp [hx], rfl⟩)
          have hne : p.1 ≠ x.1 := fun e => by
            rw [List.map_append, List.map_cons, List.append_assoc] at hnd
            exact (List.nodup_append.1 hnd).2.2 x.1 (List.mem_map.2 ⟨x, hx, rfl⟩) p.1 (by simp) e.symm
          have htx : noDep ops x.1 p.1 = true := by
            rw [List.map_append, List.map_cons] at htop
            exact (List.pairwise_append.1 htop).2.2 x.1 (List.mem_map.2 ⟨x, hx, rfl⟩) p.1 (by simp)
          exact (apart_of (hap p hp) hoi hox hne (noDep_spec htx hox) (notdep x.1 hxm)).2
        obtain ⟨v, hy, hs2⟩ := SeqF.front hsel hoi pre post a a' hseq hap1
        have hsl : (pre ++ post).Sublist (pre ++ p :: post) := (List.sublist_cons_self p post).append_left pre
        have hsl2 : ((pre ++ post).map (·.1) ++ (L ++ Qs)).Sublist ((pre ++ p :: post).map (·.1) ++ (L ++ Qs)) := (hsl.map _).append_right _
        have hnd2 : p.1 ∉ (pre ++ post).map (·.1) ++ (L ++ Qs) := by
          have hper : ((pre ++ p :: post).map (·.1) ++ (L ++ Qs)).Perm (p.1 :: ((pre ++ post).map (·.1) ++ (L ++ Qs))) := by
            have := (List.perm_middle (a := p) (l₁ := pre) (l₂ := post)).map (·.1)
            exact this.append_right _
          exact (List.nodup_cons.1 (hper.nodup_iff.1 hnd)).1
        refine YieldsAt.wpOp' hoi (hy w (hf p hp)) (ih k (pre ++ post) pend L Qs _ _ a' w ?_ hk (hl.set hi fun j => ?_) (hnd.sublist hsl2) (fun j hj => hlt j (hsl2.subset hj)) (htop.sublist (hsl.map _)) (fun x hx => hen x (hsl.subset hx)) hblk hsrt (fun q hq => hap q (hsl.subset hq)) hapQ (fun q hq => hsub q (hsl.subset hq)) (fun q hq => hf q (hsl.subset hq)) hs2 h)
        · simp only [List.length_append, List.length_cons] at hn ⊢; omega
        · constructor
          · intro hj
            exact ⟨hsl2.subset hj, fun e => hnd2 (e ▸ hj)⟩
          · rintro ⟨hj, hne⟩
            simp only [List.map_append, List.map_cons, List.mem_append, List.mem_cons] at hj ⊢
            rcases hj with (hj | hj | hj) | hj
            · exact .inl (.inl hj)
            · exact absurd hj hne
            · exact .inl (.inr hj)
            · exact .inr hj
      · rcases List.mem_append.1 hu with hu | hu
        · obtain ⟨k, rfl⟩ : ∃ m, k = m + 1 := ⟨k - 1, by have := List.length_pos_of_mem hu; omega⟩
          have hrd : i ∈ readyL B L := mem_readyL.2 ⟨hu, fun m hm hne => by
            cases hb : bit B i m
            · rfl
            · exact (before m (by simp [hm]) hb).elim⟩
          have h := h i hrd
          have hxl : ∀ x ∈ er, x.1 ≠ i := fun x hx e => (List.nodup_append.1 hnd).2.2 x.1 (List.mem_map.2 ⟨x, hx, rfl⟩) i (by simp [hu]) e
          have hap1 : ∀ x ∈ er, ∀ ox, ops[x.1]? = some ox → ox.apart ops oi = true := fun x hx ox hox => by
            have hxm : x.1 ∈ er.map (·.1) := List.mem_map.2 ⟨x, hx, rfl⟩
            exact (apart_of (hap x hx) hox hoi (hxl x hx) (notdep x.1 (by rw [List.mem_append]; exact .inl hxm)) (depB_get hdep hox his (hen x hx i hu))).1
          have hker : ∀ x ∈ er, x ∈ keepP B i pend := fun x hx => by
            refine List.mem_filter.2 ⟨hsub x hx, ?_⟩
            cases hb : (B.getD i 0).testBit x.1
            · rfl
            · exact (before x.1 (by rw [List.mem_append]; exact .inl (List.mem_map.2 ⟨x, hx, rfl⟩)) hb).elim
          have h2 := wpOp_aheadF hsel hQ hoi hseq hap1 h
          refine wpOp_mono (fun a1 w1 => ?_) h2
          rintro ⟨a1', hs1, F, a2, hF, hs2, hf2, h1⟩
          have hndL : L.Nodup := (List.nodup_append.1 (List.nodup_append.1 hnd).2.1).1
          have hndQ : Qs.Nodup := (List.nodup_append.1 (List.nodup_append.1 hnd).2.1).2.1
          have hper : ((er ++ F).map (·.1) ++ (L.erase i ++ restQ B (L.erase i) Qs)).Perm (er.map (·.1) ++ (L.erase i ++ Qs)) := by
            rw [List.map_append, hF, List.append_assoc]
            refine List.Perm.append_left _ ?_
            have hsp := split_perm (B := B) (L := L.erase i) (Qs := Qs)
            have h1 : (newQ B (L.erase i) Qs ++ (L.erase i ++ restQ B (L.erase i) Qs)).Perm (L.erase i ++ (newQ B (L.erase i) Qs ++ restQ B (L.erase i) Qs)) := by
              rw [← List.append_assoc, ← List.append_assoc]
              exact List.Perm.append_right _ List.perm_append_comm
            exact h1.trans (List.Perm.append_left _ hsp)
          have hsl : (er.map (·.1) ++ (L.erase i ++ Qs)).Sublist (er.map (·.1) ++ (L ++ Qs)) := ((List.erase_sublist).append_right _).append_left _
          have hin : i ∉ er.map (·.1) ++ (L.erase i ++ Qs) := by
            have hp2 : (er.map (·.1) ++ (L ++ Qs)).Perm (i :: (er.map (·.1) ++ (L.erase i ++ Qs))) := by
              have h1 : L.Perm (i :: L.erase i) := List.perm_cons_erase hu
              exact (List.Perm.append_left _ (List.Perm.append_right _ h1)).trans List.perm_middle
            exact (List.nodup_cons.1 (hp2.nodup_iff.1 hnd)).1
          have hmem : ∀ j, j ∈ (er ++ F).map (·.1) ++ (L.erase i ++ restQ B (L.erase i) Qs) → j ∈ er.map (·.1) ++ (L ++ Qs) := fun j hj => hsl.subset (hper.mem_iff.1 hj)
          have hFQ : ∀ p ∈ F, p.1 ∈ Qs ∧ ∀ m ∈ L.erase i, bit B p.1 m = false := fun p hp => mem_newQ.1 (hF ▸ List.mem_map.2 ⟨p, hp, rfl⟩)
          refine ih k (er ++ F) (keepP B i pend ++ F) (L.erase i) (restQ B (L.erase i) Qs) _ a1 a2 w1 ?_ ?_ ?_ ?_ (fun j hj => hlt j (hmem j hj)) ?_ ?_ (fun q hq => (mem_restQ.1 hq).2) (hsrt.sublist List.filter_sublist) ?_ (fun q hq => hapQ q (mem_restQ.1 hq).1) ?_ ?_ (hs1.app hs2) h1
          · have := hper.length_eq
            simp only [List.length_append, List.length_map] at this ⊢
            have h3 := List.length_erase_of_mem hu
            have h4 := List.length_pos_of_mem hu
            omega
          · rw [List.length_erase_of_mem hu]; omega
          · refine hl.set hi fun j => ?_
            rw [hper.mem_iff]
            constructor
            · intro hj
              exact ⟨hsl.subset hj, fun e => hin (e ▸ hj)⟩
            · rintro ⟨hj, hne⟩
              simp only [List.mem_append] at hj ⊢
              rcases hj with hj | hj | hj
              · exact .inl hj
              · exact .inr (.inl ((List.mem_erase_of_ne hne).2 hj))
              · exact .inr (.inr hj)
          · exact hper.nodup_iff.2 (hnd.sublist hsl)
          · rw [List.map_append, List.pairwise_append]
            refine ⟨htop, ?_, fun x hx y hy => ?_⟩
            · rw [hF]
              refine (hsrt.sublist (List.filter_sublist (p := fun q => (L.erase i).all fun m => !bit B q m))).imp fun {x y} hxy => ?_
              unfold noDep
              cases hox : ops[x]? with
              | none => rfl
              | some ox =>
                have hxs : x < ops.size := (Array.getElem?_eq_some_iff.1 hox).1
                have : depOf ox y = false := depOf_false fun e he hbd hex => by
                  have h4 := hback
                  simp only [backOk, List.all_eq_true, List.mem_range] at h4
                  have h5 := h4 x hxs
                  rw [hox] at h5
                  simp only [Option.map_some, Option.getD_some, Array.all_eq_true_iff_forall_mem, Bool.or_eq_true, Bool.not_eq_true', decide_eq_true_eq] at h5
                  have h6 : e.on < x := (h5 e he).resolve_left (by simp [hbd])
                  omega
                simp [this]
            · obtain ⟨p, hp, rfl⟩ := List.mem_map.1 hx
              obtain ⟨q, hq, rfl⟩ := List.mem_map.1 hy
              have hqQ := (hFQ q hq).1
              obtain ⟨m, hm, hbm⟩ := hblk q.1 hqQ
              have hqs := hlt q.1 (by simp [hqQ])
              have hms := hlt m (by simp [hm])
              have hps := hlt p.1 (by rw [List.mem_append]; exact .inl hx)
              unfold noDep
              cases hox : ops[p.1]? with
              | none => rfl
              | some ox =>
                have : depOf ox q.1 = false := by
                  refine depB_get hdep hox hqs ?_
                  cases hb : bit B p.1 q.1
                  · rfl
                  · have := transB_get htr hps hqs hms hb hbm
                    rw [hen p hp m hm] at this; cases this
                simp [this]
          · intro x hx m hm
            rcases List.mem_append.1 hx with hx | hx
            · exact hen x hx m (List.mem_of_mem_erase hm)
            · exact (hFQ x hx).2 m hm
          · intro p hp
            rcases List.mem_append.1 hp with hp | hp
            · exact hap p hp
            · exact hapQ p.1 (hFQ p hp).1
          · intro p hp
            rcases List.mem_append.1 hp with hp | hp
            · exact List.mem_append_left _ (hker p hp)
            · exact List.mem_append_right _ hp
          · intro p hp
            rcases List.mem_append.1 hp with hp | hp
            · exact hf2 p (List.mem_append_left _ (hker p hp))
            · exact hf2 p (List.mem_append_right _ hp)
        · obtain ⟨m, hm, hb⟩ := hblk i hu
          exact (before m (by simp [hm]) hb).elim
/-- A region that draws its order. -/
theorem wp_region_tr {id : Nat} {ops : Array Oper} {a : Act} {w : World} (B L Qs : List Nat) (hm : P.follows .mixedOrders = true) (hB : trB ops B L Qs = true)
    (h : ∃ (F : List QF) (a' : Act), F.map (·.1) = newQ B L Qs ∧ SeqF P ops F a a' ∧ (∀ p ∈ F, p.2 w.drew) ∧ wpTr P ops (NoPanic Q) B L.length L (restQ B L Qs) F a' w.drew) : (Code.region id ops true).wp P Q a w := by
  obtain ⟨F, a', hF, hs, hf, h⟩ := h
  refine wp_region_noPanic (wp_region_any hm ?_)
  have chk := trB_spec hB
  have hper : (F.map (·.1) ++ (L ++ restQ B L Qs)).Perm (L ++ Qs) := by
    rw [hF]
    have h1 : (newQ B L Qs ++ (L ++ restQ B L Qs)).Perm (L ++ (newQ B L Qs ++ restQ B L Qs)) := by
      rw [← List.append_assoc, ← List.append_assoc]
      exact List.Perm.append_right _ List.perm_append_comm
    exact h1.trans (List.Perm.append_left _ split_perm)
  have hlen : F.length + L.length + (restQ B L Qs).length = ops.size := by
    have h1 : (L ++ Qs).Perm (List.range ops.size) := by
      rw [List.perm_ext_iff_of_nodup chk.nodup List.nodup_range]
      intro i
      simp only [List.mem_range]
      exact ⟨chk.lt i, chk.all i⟩
    have h2 := (hper.trans h1).length_eq
    simp only [List.length_append, List.length_map, List.length_range] at h2
    omega
  have hFQ : ∀ p ∈ F, p.1 ∈ Qs ∧ ∀ m ∈ L, bit B p.1 m = false := fun p hp => mem_newQ.1 (hF ▸ List.mem_map.2 ⟨p, hp, rfl⟩)
  refine wpAny_tr (Q := NoPanic Q) chk.sel chk.back chk.cert chk.dep chk.trans (fun _ _ _ h => h) ops.size L.length F F L (restQ B L Qs) (Array.replicate ops.size false) a a' w.drew hlen rfl
    ⟨fun j o _ hj => (by rw [Array.getD_eq_getD_getElem?, Array.getElem?_replicate] at hj; split at hj <;> cases hj), by simp, fun i hi => ⟨fun _ => hper.mem_iff.2 (chk.all i hi), fun _ => by rw [Array.getD_eq_getD_getElem?, Array.getElem?_replicate, if_pos hi]; rfl⟩⟩
    (hper.nodup_iff.2 chk.nodup) (fun j hj => chk.lt j (hper.mem_iff.1 hj)) ?_ (fun x hx => (hFQ x hx).2) (fun q hq => (mem_restQ.1 hq).2) (chk.sorted.sublist List.filter_sublist) (fun p hp => chk.apart p.1 (hFQ p hp).1) (fun q hq => chk.apart q (mem_restQ.1 hq).1) (fun _ h => h) hf hs h
  rw [hF]
  refine (chk.sorted.sublist (List.filter_sublist (p := fun q => L.all fun m => !bit B q m))).imp fun {x y} hxy => ?_
  unfold noDep
  cases hox : ops[x]? with
  | none => rfl
  | some ox =>
    have hxs : x < ops.size := (Array.getElem?_eq_some_iff.1 hox).1
    have : depOf ox y = false := depOf_false fun e he hbd hex => by
      have h4 := chk.back
      simp only [backOk, List.all_eq_true, List.mem_range] at h4
      have h5 := h4 x hxs
      rw [hox] at h5
      simp only [Option.map_some, Option.getD_some, Array.all_eq_true_iff_forall_mem, Bool.or_eq_true, Bool.not_eq_true', decide_eq_true_eq] at h5
      have h6 : e.on < x := (h5 e he).resolve_left (by simp [hbd])
      omega
    simp [this]
end Go.Proofs.Ytjjmhmbmjpedkaa
