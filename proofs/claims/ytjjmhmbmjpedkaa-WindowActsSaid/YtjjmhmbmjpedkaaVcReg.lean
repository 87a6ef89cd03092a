/- A region that draws its order, in phases: what only reads goes as early as it can, each with the fact that it rests on; what acts is a forced chain. No program in sight. -/
import Derived.Test.YtjjmhmbmjpedkaaLibRegion
namespace Go.Proofs.Ytjjmhmbmjpedkaa
open Go.RowKit
/-- An operation that only reads, and what a world must show for it to yield what it yields. -/
abbrev QF := Nat × (World → Prop)
variable {P : Program} {ops : Array Oper} {Q : Exit → Act → World → Prop}
def SeqF (P : Program) (ops : Array Oper) : List QF → Act → Act → Prop
  | [], a, a' => a' = a
  | (i, f) :: r, a, a' => ∃ o v, ops[i]? = some o ∧ (∀ wx, f wx → YieldsAt P ops wx o v a) ∧ SeqF P ops r (a.put o.dst v) a'
theorem SeqF.app : ∀ {l m : List QF} {a b c : Act}, SeqF P ops l a b → SeqF P ops m b c → SeqF P ops (l ++ m) a c
  | [], m, a, b, c, h, k => by rw [show b = a from h] at k; exact k
  | (i, f) :: r, m, a, b, c, h, k => by
    obtain ⟨o, v, ho, hy, hn⟩ := h
    exact ⟨o, v, ho, hy, hn.app k⟩
theorem SeqF.keepExec {o : Oper} (hs : ∀ cs b, o.op ≠ .select cs b) : ∀ (er : List QF) (a a' : Act), SeqF P ops er a a' → (∀ x ∈ er, ∀ ox, ops[x.1]? = some ox → ox.apart ops o = true) →
    execOp a'.eval o = execOp a.eval o ∧ Region.wanted o (yielded ops a'.tmps) = Region.wanted o (yielded ops a.tmps)
  | [], a, a', h, _ => by rw [show a' = a from h]; exact ⟨rfl, rfl⟩
  | x :: r, a, a', h, hap => by
    obtain ⟨ox, v, hox, _, hn⟩ := h
    obtain ⟨h1, h2⟩ := keepExec hs r _ _ hn (fun y hy => hap y (List.mem_cons_of_mem _ hy))
    obtain ⟨k1, _, _⟩ := Oper.apart_spec (hap x (by simp) ox hox)
    exact ⟨h1.trans (execOp_put o hs a ox.dst v k1), h2.trans (wanted_put o a ox.dst v k1)⟩
theorem SeqF.putBoth (hsel : Region.noSelect ops = true) {o : Oper} (u : Value) : ∀ (er : List QF) (a a' : Act), SeqF P ops er a a' → (∀ x ∈ er, ∀ ox, ops[x.1]? = some ox → ox.apart ops o = true) →
    SeqF P ops er (a.put o.dst u) (a'.put o.dst u)
  | [], a, a', h, _ => by rw [show a' = a from h]; rfl
  | x :: r, a, a', h, hap => by
    obtain ⟨ox, v, hox, hy, hn⟩ := h
    obtain ⟨_, k2, k3⟩ := Oper.apart_spec (hap x (by simp) ox hox)
    refine ⟨ox, v, hox, fun wx hS => (hy wx hS).of_same (execOp_put ox (sel_of hsel hox) a o.dst u k3) (wanted_put ox a o.dst u k3), ?_⟩
    rw [← Act.put_comm a v u k2]
    exact putBoth hsel u r _ _ hn (fun y hy => hap y (List.mem_cons_of_mem _ hy))
theorem SeqF.defersBoth (hsel : Region.noSelect ops = true) (d : Deferred) : ∀ (er : List QF) (a a' : Act), SeqF P ops er a a' → SeqF P ops er { a with defers := d :: a.defers } { a' with defers := d :: a'.defers }
  | [], a, a', h => by rw [show a' = a from h]; rfl
  | x :: r, a, a', h => by
    obtain ⟨ox, v, hox, hy, hn⟩ := h
    refine ⟨ox, v, hox, fun wx hS => (hy wx hS).of_same rfl rfl, ?_⟩
    have := defersBoth hsel d r _ _ hn
    rw [← Act.put_defers]
    exact this
theorem SeqF.front (hsel : Region.noSelect ops = true) {i : QF} {oi : Oper} (hi : ops[i.1]? = some oi) : ∀ (pre post : List QF) (a a' : Act), SeqF P ops (pre ++ i :: post) a a' → (∀ x ∈ pre, ∀ ox, ops[x.1]? = some ox → ox.apart ops oi = true) →
    ∃ v, (∀ wx, i.2 wx → YieldsAt P ops wx oi v a) ∧ SeqF P ops (pre ++ post) (a.put oi.dst v) a'
  | [], post, a, a', h, _ => by
    obtain ⟨o, v, ho, hy, hn⟩ := h
    rw [hi] at ho; cases ho
    exact ⟨v, hy, hn⟩
  | x :: r, post, a, a', h, hap => by
    obtain ⟨ox, v, hox, hy, hn⟩ := h
    obtain ⟨u, hy2, hn2⟩ := front hsel hi r post _ _ hn (fun y hy => hap y (List.mem_cons_of_mem _ hy))
    obtain ⟨k1, k2, k3⟩ := Oper.apart_spec (hap x (by simp) ox hox)
    refine ⟨u, fun wx hS => (hy2 wx hS).of_same (execOp_put oi (sel_of hsel hi) a ox.dst v k1).symm (wanted_put oi a ox.dst v k1).symm, ox, v, hox, fun wx hS => (hy wx hS).of_same (execOp_put ox (sel_of hsel hox) a oi.dst u k3) (wanted_put ox a oi.dst u k3), ?_⟩
    rw [← Act.put_comm a v u k2]
    exact hn2
theorem wpOp_aheadF (hsel : Region.noSelect ops = true) (hQ : ∀ c a w, ¬ Q (.panic c) a w) {t : Nat} {ot : Oper} (ht : ops[t]? = some ot) {er : List QF} {a a' : Act} {w : World} {K : Act → World → Prop}
    (hseq : SeqF P ops er a a') (hap : ∀ x ∈ er, ∀ ox, ops[x.1]? = some ox → ox.apart ops ot = true) (h : wpOp P ops Q t K a' w) :
    wpOp P ops Q t (fun a1 w1 => ∃ a1', SeqF P ops er a1 a1' ∧ K a1' w1) a w := by
  obtain ⟨e1, e2⟩ := hseq.keepExec (sel_of hsel ht) er a a' hap
  have put := fun u => SeqF.putBoth (o := ot) hsel u er a a' hseq hap
  unfold wpOp at *
  simp only [ht] at *
  rw [e2] at h
  split
  · rename_i hw
    simp only [hw, if_true] at h
    rcases h with h | ⟨hasks, hlets⟩
    case inr => exact .inr ⟨by unfold Oper.asks at *; rw [e1] at hasks; exact hasks, hlets⟩
    refine .inl ?_
    unfold Oper.wp at *
    rw [e1] at h
    generalize (execOp a.eval ot).run P w = r at *
    cases r with
    | ok n w' =>
      cases n <;> simp only [Oper.upon] at h ⊢
      case value u => exact ⟨_, put u, h⟩
      case skip => exact ⟨_, put _, h⟩
      case defer d => exact ⟨_, SeqF.putBoth (o := ot) hsel _ er _ _ (SeqF.defersBoth hsel d er a a' hseq) hap, h⟩
      case enter f args =>
        refine Calls.mono h fun e w'' he => ?_
        cases e with
        | returned u => exact ⟨_, put u, he⟩
        | panicked c => exact (hQ _ _ _ he).elim
        | outgrown => exact he
      case row row args => exact Rows.mono h fun u w'' he => ⟨_, put u, he⟩
    | halt x w' =>
      cases x <;> simp only [Oper.upon] at h ⊢
      case panic u => exact (hQ _ _ _ h).elim
  · rename_i hw
    simp only [hw] at h
    exact ⟨_, put _, h⟩
/-- The phases: an operation that acts, and the reads that wait for it. -/
abbrev Phs := List (Nat × List Nat)
def flatPh : Phs → List Nat
  | [] => []
  | (l, E) :: r => l :: (E ++ flatPh r)
def keepP (B : List Nat) (l : Nat) (pend : List QF) : List QF := pend.filter fun p => !(B.getD l 0).testBit p.1
def wpPh (P : Program) (ops : Array Oper) (Q : Exit → Act → World → Prop) (B : List Nat) : Phs → List QF → Act → World → Prop
  | [], _, a, w => Q .normal a w
  | (l, E) :: r, pend, a, w => wpOp P ops Q l (fun a1 w1 => ∃ (F : List QF) (a2 : Act), F.map (·.1) = E ∧ SeqF P ops F a1 a2 ∧ (∀ p ∈ keepP B l pend ++ F, p.2 w1) ∧ wpPh P ops Q B r (keepP B l pend ++ F) a2 w1) a w
def noDep (ops : Array Oper) (x y : Nat) : Bool := ((ops[x]?).map fun o => !depOf o y).getD true
/-- What waits for the acting operations ahead of it. -/
def phDeps (B : List Nat) : Phs → Bool
  | [] => true
  | (l, E) :: r => (E.all fun q => (B.getD q 0).testBit l) && (r.all fun p => (B.getD p.1 0).testBit l && p.2.all fun q => (B.getD q 0).testBit p.1 && (B.getD q 0).testBit l) && phDeps B r
structure PhOk (ops : Array Oper) (B : List Nat) (E0 : List Nat) (ph : Phs) : Prop where
  sel : Region.noSelect ops = true
  all : ∀ i, i < ops.size → i ∈ E0 ++ flatPh ph
  lt : ∀ i, i ∈ E0 ++ flatPh ph → i < ops.size
  nodup : (E0 ++ flatPh ph).Nodup
  back : backOk ops = true
  cert : certOk ops B = true
  topo : (E0 ++ flatPh ph).Pairwise fun x y => noDep ops x y = true
  deps : phDeps B ph = true
  apart0 : ∀ i, i ∈ E0 → apartOk ops i = true
  apart : ∀ p, p ∈ ph → ∀ i, i ∈ p.2 → apartOk ops i = true
def phB (ops : Array Oper) (B : List Nat) (E0 : List Nat) (ph : Phs) : Bool :=
  Region.noSelect ops && ((List.range ops.size).all fun i => (E0 ++ flatPh ph).contains i) && ((E0 ++ flatPh ph).all fun i => decide (i < ops.size)) &&
  decide (E0 ++ flatPh ph).Nodup && backOk ops && certOk ops B && decide ((E0 ++ flatPh ph).Pairwise fun x y => noDep ops x y = true) && phDeps B ph && (E0.all fun i => apartOk ops i) && (ph.all fun p => p.2.all fun i => apartOk ops i)
theorem phB_spec {B E0 : List Nat} {ph : Phs} (h : phB ops B E0 ph = true) : PhOk ops B E0 ph := by
  simp only [phB, Bool.and_eq_true, List.all_eq_true, List.mem_range, List.contains_iff_mem, decide_eq_true_eq] at h
  obtain ⟨⟨⟨⟨⟨⟨⟨⟨⟨h1, h2⟩, h3⟩, h4⟩, h5⟩, h6⟩, h7⟩, h8⟩, h9⟩, h10⟩ := h
  exact ⟨h1, h2, h3, h4, h5, h6, h7, h8, h9, h10⟩
theorem phDeps_head {B : List Nat} {l : Nat} {E : List Nat} {r : Phs} (h : phDeps B ((l, E) :: r) = true) : (∀ i ∈ E ++ flatPh r, (B.getD i 0).testBit l = true) ∧ phDeps B r = true := by
  simp only [phDeps, Bool.and_eq_true, List.all_eq_true] at h
  obtain ⟨⟨h1, h2⟩, h3⟩ := h
  refine ⟨fun i hi => ?_, h3⟩
  rcases List.mem_append.1 hi with hi | hi
  · exact h1 i hi
  · have key : ∀ (r : Phs), (∀ p ∈ r, (B.getD p.1 0).testBit l = true ∧ ∀ q ∈ p.2, (B.getD q 0).testBit p.1 = true ∧ (B.getD q 0).testBit l = true) → ∀ i ∈ flatPh r, (B.getD i 0).testBit l = true := by
      intro r
      induction r with
      | nil => intro _ i hi; cases hi
      | cons x r ih =>
        obtain ⟨m, F⟩ := x
        intro h i hi
        rcases List.mem_cons.1 hi with rfl | hi
        · exact (h _ (List.mem_cons_self ..)).1
        · rcases List.mem_append.1 hi with hi | hi
          · exact ((h _ (List.mem_cons_self ..)).2 i hi).2
          · exact ih (fun p hp => h p (List.mem_cons_of_mem _ hp)) i hi
    exact key r h2 i hi
theorem noDep_spec {x y : Nat} {o : Oper} (h : noDep ops x y = true) (ho : ops[x]? = some o) : depOf o y = false := by
  unfold noDep at h
  rw [ho] at h
  simpa using h
theorem wpAny_ph {B : List Nat} (hsel : Region.noSelect ops = true) (hback : backOk ops = true) (hcert : certOk ops B = true) (hQ : ∀ c a w, ¬ Q (.panic c) a w) : ∀ (n : Nat) (er pend : List QF) (ph : Phs) (listed : Array Bool) (a a' : Act) (w : World),
    (er.map (·.1) ++ flatPh ph).length = n → Left ops listed (er.map (·.1) ++ flatPh ph) → (er.map (·.1) ++ flatPh ph).Nodup → (∀ i ∈ er.map (·.1) ++ flatPh ph, i < ops.size) → (er.map (·.1) ++ flatPh ph).Pairwise (fun x y => noDep ops x y = true) →
    phDeps B ph = true → (∀ p ∈ er, apartOk ops p.1 = true) → (∀ p ∈ ph, ∀ i ∈ p.2, apartOk ops i = true) → (∀ p ∈ er, p ∈ pend) → (∀ p ∈ er, p.2 w) → SeqF P ops er a a' → wpPh P ops Q B ph pend a' w → wpAny P .any ops Q n listed a w := by
  intro n
  induction n with
  | zero =>
    intro er pend ph listed a a' w hn hl _ _ _ _ _ _ _ _ hseq h
    have h0 : er.map (·.1) ++ flatPh ph = [] := List.eq_nil_of_length_eq_zero hn
    obtain ⟨h1, h2⟩ := List.append_eq_nil_iff.1 h0
    have h1 : er = [] := List.map_eq_nil_iff.1 h1
    subst h1
    rw [show a' = a from hseq] at h
    cases ph with
    | nil => rw [h0] at hl; exact ⟨hl.done, h⟩
    | cons x r => obtain ⟨l, E⟩ := x; cases h2
  | succ n ih =>
    intro er pend ph listed a a' w hn hl hnd hlt htop hdep hap hapE hsub hf hseq h
    refine ⟨fun h0 => ?_, fun i hi => ?_⟩
    · exfalso
      obtain ⟨i, hi⟩ : ∃ i, i ∈ er.map (·.1) ++ flatPh ph := by
        cases hh : er.map (·.1) ++ flatPh ph with
        | nil => rw [hh] at hn; cases hn
        | cons x l => exact ⟨x, by simp⟩
      exact hl.next hback (i + 1) i (by omega) (hlt i hi) hi h0
    · obtain ⟨hu, his, oi, hoi, hall⟩ := hl.ready hi
      have notdep : ∀ x, x ∈ er.map (·.1) ++ flatPh ph → depOf oi x = false := fun x hx => depOf_false fun e he hbd hex => by
        have h1 := hall e he hbd
        rw [hex] at h1
        exact (hl.listed (hlt x hx)).1 h1 hx
      have before : ∀ x, x ∈ er.map (·.1) ++ flatPh ph → (B.getD i 0).testBit x = true → False := fun x hx hB =>
        (hl.listed (hlt x hx)).1 (listed_before hcert hback hl.closed (i + 1) i x oi (by omega) hoi (hlt x hx) hB hall) hx
      rw [List.mem_append] at hu
      rcases hu with hu | hu
      · obtain ⟨p, hp, rfl⟩ := List.mem_map.1 hu
        obtain ⟨pre, post, rfl⟩ := List.append_of_mem hp
        have hap1 : ∀ x ∈ pre, ∀ ox, ops[x.1]? = some ox → ox.apart ops oi = true := fun x hx ox hox => by
          have hxm : x.1 ∈ (pre ++ p :: post).map (·.1) ++ flatPh ph := by
            rw [List.mem_append]; exact .inl (List.mem_map.2 ⟨x, by simp [hx], rfl⟩)
          have hne : p.1 ≠ x.1 := fun e => by
            rw [List.map_append, List.map_cons, List.append_assoc] at hnd
            exact (List.nodup_append.1 hnd).2.2 x.1 (List.mem_map.2 ⟨x, hx, rfl⟩) p.1 (by simp) e.symm
          have htx : noDep ops x.1 p.1 = true := by
            rw [List.map_append, List.map_cons, List.append_assoc] at htop
            exact (List.pairwise_append.1 htop).2.2 x.1 (List.mem_map.2 ⟨x, hx, rfl⟩) p.1 (by simp)
          exact (apart_of (hap p hp) hoi hox hne (noDep_spec htx hox) (notdep x.1 hxm)).2
        obtain ⟨v, hy, hs2⟩ := SeqF.front hsel hoi pre post a a' hseq hap1
        have hsl : ((pre ++ post).map (·.1) ++ flatPh ph).Sublist ((pre ++ p :: post).map (·.1) ++ flatPh ph) :=
          (((List.sublist_cons_self p post).append_left pre).map _).append_right _
        have hnd2 : p.1 ∉ (pre ++ post).map (·.1) ++ flatPh ph := by
          have hper : ((pre ++ p :: post).map (·.1) ++ flatPh ph).Perm (p.1 :: ((pre ++ post).map (·.1) ++ flatPh ph)) := by
            have := (List.perm_middle (a := p) (l₁ := pre) (l₂ := post)).map (·.1)
            exact this.append_right _
          exact (List.nodup_cons.1 (hper.nodup_iff.1 hnd)).1
        refine YieldsAt.wpOp' hoi (hy w (hf p hp)) (ih (pre ++ post) pend ph _ _ a' w ?_ (hl.set hi fun j => ?_) (hnd.sublist hsl) (fun j hj => hlt j (hsl.subset hj)) (htop.sublist hsl) hdep (fun q hq => hap q ?_) hapE (fun q hq => hsub q ?_) (fun q hq => hf q ?_) hs2 h)
        · simp only [List.length_append, List.length_map, List.length_cons] at hn ⊢; omega
        · constructor
          · intro hj
            exact ⟨hsl.subset hj, fun e => hnd2 (e ▸ hj)⟩
          · rintro ⟨hj, hne⟩
            simp only [List.map_append, List.map_cons, List.mem_append, List.mem_cons] at hj ⊢
            rcases hj with (hj | hj | hj) | hj
            · exact .inl (.inl hj)
            · exact absurd hj hne
            · exact .inl (.inr hj)
            · exact .inr hj
        all_goals
          rw [List.mem_append] at hq
          simp only [List.mem_append, List.mem_cons]
          exact hq.imp id .inr
      · cases ph with
        | nil => cases hu
        | cons x r =>
          obtain ⟨l, E⟩ := x
          obtain ⟨hd1, hd2⟩ := phDeps_head hdep
          have hil : i = l := by
            rcases List.mem_cons.1 hu with h1 | h1
            · exact h1
            · exact (before l (by simp [flatPh]) (hd1 i h1)).elim
          subst hil
          have hap1 : ∀ x ∈ er, ∀ ox, ops[x.1]? = some ox → ox.apart ops oi = true := fun x hx ox hox => by
            have hxm : x.1 ∈ er.map (·.1) := List.mem_map.2 ⟨x, hx, rfl⟩
            have hne : x.1 ≠ i := fun e => (List.nodup_append.1 hnd).2.2 x.1 hxm i (by simp [flatPh]) e
            have htx : noDep ops x.1 i = true := (List.pairwise_append.1 htop).2.2 x.1 hxm i (by simp [flatPh])
            exact (apart_of (hap x hx) hox hoi hne (notdep x.1 (by rw [List.mem_append]; exact .inl hxm)) (noDep_spec htx hox)).1
          have hker : ∀ x ∈ er, x ∈ keepP B i pend := fun x hx => by
            refine List.mem_filter.2 ⟨hsub x hx, ?_⟩
            cases hb : (B.getD i 0).testBit x.1
            · rfl
            · exact (before x.1 (by rw [List.mem_append]; exact .inl (List.mem_map.2 ⟨x, hx, rfl⟩)) hb).elim
          have h2 := wpOp_aheadF hsel hQ hoi hseq hap1 h
          refine wpOp_mono (fun a1 w1 => ?_) h2
          rintro ⟨a1', hs1, F, a2, hF, hs2, hf2, h1⟩
          have heq : (er ++ F).map (·.1) ++ flatPh r = er.map (·.1) ++ (E ++ flatPh r) := by rw [List.map_append, hF, List.append_assoc]
          have hsl : (er.map (·.1) ++ (E ++ flatPh r)).Sublist (er.map (·.1) ++ flatPh ((i, E) :: r)) := (List.sublist_cons_self i _).append_left _
          refine ih (er ++ F) (keepP B i pend ++ F) r _ a1 a2 w1 ?_ ?_ ?_ ?_ ?_ hd2 ?_ (fun p hp => hapE p (List.mem_cons_of_mem _ hp)) ?_ ?_ (hs1.app hs2) h1
          · rw [heq]; simp only [flatPh, List.length_append, List.length_cons] at hn ⊢; omega
          · rw [heq]
            refine hl.set hi fun j => ?_
            have hin : i ∉ er.map (·.1) ++ (E ++ flatPh r) := by
              have hper : (er.map (·.1) ++ flatPh ((i, E) :: r)).Perm (i :: (er.map (·.1) ++ (E ++ flatPh r))) := List.perm_middle
              exact (List.nodup_cons.1 (hper.nodup_iff.1 hnd)).1
            constructor
            · intro hj
              exact ⟨hsl.subset hj, fun e => hin (e ▸ hj)⟩
            · rintro ⟨hj, hne⟩
              simp only [flatPh, List.mem_append, List.mem_cons] at hj ⊢
              rcases hj with hj | hj | hj
              · exact .inl hj
              · exact absurd hj hne
              · exact .inr hj
          · rw [heq]; exact hnd.sublist hsl
          · rw [heq]; exact fun j hj => hlt j (hsl.subset hj)
          · rw [heq]; exact htop.sublist hsl
          · intro p hp
            rcases List.mem_append.1 hp with hp | hp
            · exact hap p hp
            · exact hapE (i, E) (by simp) p.1 (hF ▸ List.mem_map.2 ⟨p, hp, rfl⟩)
          · intro p hp
            rcases List.mem_append.1 hp with hp | hp
            · exact List.mem_append_left _ (hker p hp)
            · exact List.mem_append_right _ hp
          · intro p hp
            rcases List.mem_append.1 hp with hp | hp
            · exact hf2 p (List.mem_append_left _ (hker p hp))
            · exact hf2 p (List.mem_append_right _ hp)
/-- A region that draws its order, in phases. -/
theorem wp_region_ph {id : Nat} {ops : Array Oper} {a : Act} {w : World} (E0 : List Nat) (ph : Phs) (hm : P.follows .mixedOrders = true) (hB : phB ops (Region.before ops).toList E0 ph = true)
    (h : ∃ (F : List QF) (a' : Act), F.map (·.1) = E0 ∧ SeqF P ops F a a' ∧ (∀ p ∈ F, p.2 w.drew) ∧ wpPh P ops (NoPanic Q) (Region.before ops).toList ph F a' w.drew) : (Code.region id ops true).wp P Q a w := by
  obtain ⟨F, a', hF, hs, hf, h⟩ := h
  refine wp_region_noPanic (wp_region_any hm ?_)
  have chk := phB_spec hB
  have hlen : (F.map (·.1) ++ flatPh ph).length = ops.size := by
    have h1 : (E0 ++ flatPh ph).Perm (List.range ops.size) := by
      rw [List.perm_ext_iff_of_nodup chk.nodup List.nodup_range]
      intro i
      simp only [List.mem_range]
      exact ⟨chk.lt i, chk.all i⟩
    rw [hF, h1.length_eq, List.length_range]
  rw [← hF] at chk
  have := wpAny_ph (Q := NoPanic Q) chk.sel chk.back chk.cert (fun _ _ _ h => h) ops.size F F ph (Array.replicate ops.size false) a a' w.drew hlen
    ⟨fun j o _ hj => (by rw [Array.getD_eq_getD_getElem?, Array.getElem?_replicate] at hj; split at hj <;> cases hj), by simp, fun i hi => ⟨fun _ => chk.all i hi, fun _ => by rw [Array.getD_eq_getD_getElem?, Array.getElem?_replicate, if_pos hi]; rfl⟩⟩
    chk.nodup chk.lt chk.topo chk.deps (fun p hp => chk.apart0 p.1 (List.mem_map.2 ⟨p, hp, rfl⟩)) chk.apart (fun _ h => h) hf hs h
  exact this
end Go.Proofs.Ytjjmhmbmjpedkaa
