/- A window, in plain Lean: what is kept, what Look and Keep answer. No program in sight. -/
import Derived.Test.YtjjmhmbmjpedkaaLibHeap
namespace Go.Proofs.Ytjjmhmbmjpedkaa
/-- A request that was answered. -/
structure Ent where
  num : Int
  req : List UInt8
  ans : List UInt8
structure Win where
  most : Int
  strict : Bool
  last : Int
  ents : List Ent
def Ent.ok (e : Ent) : Prop := 0 ≤ e.num ∧ e.num ≤ 4611686018427387904 ∧ e.req.length ≤ 65536 ∧ e.ans.length ≤ 65536
structure Win.Ok (s : Win) : Prop where
  m1 : 1 ≤ s.most
  m2 : s.most ≤ 64
  l1 : -1 ≤ s.last
  l2 : s.last ≤ 4611686018427387904
  le : (s.ents.length : Int) ≤ s.most
  each : ∀ e ∈ s.ents, e.ok
/-- The first place of a number; -1: none. -/
def entIdx : List Ent → Int → Int → Int
  | [], _, _ => -1
  | e :: r, n, i => if e.num = n then i else entIdx r n (i + 1)
theorem entIdx_hit (es : List Ent) (n : Int) (k : Nat) (e : Ent) (h : es[k]? = some e) (he : e.num = n) (hb : ∀ (j : Nat) (f : Ent), j < k → es[j]? = some f → f.num ≠ n) (i : Int) : entIdx es n i = i + k := by
  induction es generalizing k i with
  | nil => cases h
  | cons x r ih =>
    cases k with
    | zero =>
      injection h with h
      subst h
      unfold entIdx
      rw [if_pos he]; omega
    | succ k =>
      unfold entIdx
      rw [if_neg (hb 0 x (by omega) rfl), ih k (by simpa using h) (fun j f hj hf => hb (j + 1) f (by omega) (by simpa using hf))]
      omega
theorem entIdx_miss (es : List Ent) (n : Int) (hb : ∀ (j : Nat) (f : Ent), es[j]? = some f → f.num ≠ n) (i : Int) : entIdx es n i = -1 := by
  induction es generalizing i with
  | nil => rfl
  | cons x r ih =>
    unfold entIdx
    rw [if_neg (hb 0 x rfl)]
    exact ih (fun j f hf => hb (j + 1) f (by simpa using hf)) _
theorem entIdx_or (es : List Ent) (n : Int) : (entIdx es n 0 = -1 ∧ es.find? (fun e => decide (e.num = n)) = none) ∨ ∃ (k : Nat) (e : Ent), entIdx es n 0 = (k : Int) ∧ es[k]? = some e ∧ es.find? (fun e => decide (e.num = n)) = some e := by
  have H : ∀ i : Int, (entIdx es n i = -1 ∧ es.find? (fun e => decide (e.num = n)) = none) ∨ ∃ (k : Nat) (e : Ent), entIdx es n i = i + (k : Int) ∧ es[k]? = some e ∧ es.find? (fun e => decide (e.num = n)) = some e := by
    induction es with
    | nil => exact fun i => .inl ⟨rfl, rfl⟩
    | cons x r ih =>
      intro i
      unfold entIdx
      by_cases hx : x.num = n
      · rw [if_pos hx]
        exact .inr ⟨0, x, by omega, rfl, by simp [List.find?, hx]⟩
      · rw [if_neg hx]
        rcases ih (i + 1) with ⟨h1, h2⟩ | ⟨k, e, h1, h2, h3⟩
        · exact .inl ⟨h1, by simp only [List.find?, decide_eq_false hx]; exact h2⟩
        · exact .inr ⟨k + 1, e, by rw [h1]; omega, by simpa using h2, by simp only [List.find?, decide_eq_false hx]; exact h3⟩
  have := H 0
  simpa using this
/-- What Look tells: the answer, and the errno. -/
def Win.look (s : Win) (n : Int) (q : List UInt8) : List UInt8 × Int :=
  if n < 0 ∨ 4611686018427387904 < n then ([], 1) else
  match s.ents.find? (fun e => decide (e.num = n)) with
  | some e => if e.req = q then (e.ans, 0) else ([], 14)
  | none => if n ≤ s.last then ([], 13) else if s.strict = true ∧ n ≠ s.last + 1 then ([], 15) else ([], 7)
def Win.push (s : Win) (n : Int) (q a : List UInt8) : Win :=
  { s with ents := if s.most < ((s.ents ++ [Ent.mk n q a]).length : Int) then (s.ents ++ [Ent.mk n q a]).drop 1 else s.ents ++ [Ent.mk n q a], last := n }
/-- What Keep tells, and the window behind it. -/
def Win.keep (s : Win) (n : Int) (q a : List UInt8) : Int × Win :=
  let r := (s.look n q).2
  if r = 0 then (8, s) else if r ≠ 7 then (r, s) else if 65536 < q.length ∨ 65536 < a.length then (5, s) else (0, s.push n q a)
theorem Win.look_le (s : Win) (hs : s.Ok) (n : Int) (q : List UInt8) : (s.look n q).1.length ≤ 65536 := by
  unfold Win.look
  split
  · simp
  · split
    · rename_i e he
      split
      · exact (hs.each e (List.mem_of_find?_eq_some he)).2.2.2
      · simp
    · split
      · simp
      · split <;> simp
theorem Win.look7 {s : Win} {n : Int} {q : List UInt8} (h : (s.look n q).2 = 7) : 0 ≤ n ∧ n ≤ 4611686018427387904 := by
  unfold Win.look at h
  split at h
  · simp at h
  · omega
theorem Win.push_ok {s : Win} (hs : s.Ok) {n : Int} {q a : List UInt8} (h0 : 0 ≤ n) (h1 : n ≤ 4611686018427387904) (hq : q.length ≤ 65536) (ha : a.length ≤ 65536) : (s.push n q a).Ok := by
  have hle := hs.le
  have hm := hs.m1
  have he : ∀ e ∈ s.ents ++ [Ent.mk n q a], e.ok := fun e h => by
    rcases List.mem_append.1 h with h | h
    · exact hs.each e h
    · rw [List.mem_singleton] at h; subst h; exact ⟨h0, h1, hq, ha⟩
  refine ⟨hs.m1, hs.m2, (show (-1 : Int) ≤ n by omega), h1, ?_, ?_⟩
  · unfold Win.push
    dsimp only
    split
    · rw [List.length_drop, List.length_append, List.length_singleton]; omega
    · omega
  · unfold Win.push
    dsimp only
    split
    · exact fun e h => he e (List.mem_of_mem_drop h)
    · exact he
theorem Win.keep_ok {s : Win} (hs : s.Ok) (n : Int) (q a : List UInt8) : (s.keep n q a).2.Ok := by
  unfold Win.keep
  dsimp only
  split
  · exact hs
  · split
    · exact hs
    · rename_i h7
      split
      · exact hs
      · have := Win.look7 (Decidable.not_not.1 h7)
        exact Win.push_ok hs this.1 this.2 (by omega) (by omega)
end Go.Proofs.Ytjjmhmbmjpedkaa
