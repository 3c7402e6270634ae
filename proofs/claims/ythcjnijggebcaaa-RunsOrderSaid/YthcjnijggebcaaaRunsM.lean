/- Runs of numbers (plain): what is in them, adding a run behind, filling, wiping. No program in sight. -/
namespace Go.Proofs.Ythcjnijggebcaaa
set_option linter.unusedVariables false
/-- A number is in one of the runs. -/
def inR (l : List (Int × Int)) (x : Int) : Prop := ∃ p ∈ l, p.1 ≤ x ∧ x ≤ p.2
/-- Runs: none ends ahead of its beginning, each begins two or more behind the one ahead. -/
structure Rn (l : List (Int × Int)) : Prop where
  up : ∀ p ∈ l, p.1 ≤ p.2
  gap : l.Pairwise (fun p q => p.2 + 2 ≤ q.1)
/-- The last one begins at most there. -/
def lastLe (l : List (Int × Int)) (m : Int) : Prop := ∀ p, l.getLast? = some p → p.1 ≤ m
/-- A run behind all others, together with the last one if it touches it. -/
def radd (l : List (Int × Int)) (r : Int × Int) : List (Int × Int) :=
  match l.getLast? with
  | none => [r]
  | some p => if r.1 ≤ p.2 + 1 then l.dropLast ++ [(p.1, max p.2 r.2)] else l ++ [r]
theorem inR_nil (x : Int) : ¬ inR [] x := fun ⟨_, h, _⟩ => by simp at h
theorem inR_app (a b : List (Int × Int)) (x : Int) : inR (a ++ b) x ↔ inR a x ∨ inR b x := by
  unfold inR; simp only [List.mem_append]
  constructor
  · rintro ⟨p, h | h, k⟩
    · exact .inl ⟨p, h, k⟩
    · exact .inr ⟨p, h, k⟩
  · rintro (⟨p, h, k⟩ | ⟨p, h, k⟩)
    · exact ⟨p, .inl h, k⟩
    · exact ⟨p, .inr h, k⟩
theorem inR_one (r : Int × Int) (x : Int) : inR [r] x ↔ r.1 ≤ x ∧ x ≤ r.2 := by
  unfold inR; simp
theorem Rn.nil_ : Rn [] := ⟨by simp, by simp⟩
theorem lastLe.nil_ (m : Int) : lastLe [] m := fun p h => by simp at h
theorem lastLe.mono {l : List (Int × Int)} {m n : Int} (h : lastLe l m) (k : m ≤ n) : lastLe l n := fun p hp => Int.le_trans (h p hp) k
theorem radd_nil (r : Int × Int) : radd [] r = [r] := rfl
theorem radd_snoc (l : List (Int × Int)) (p r : Int × Int) : radd (l ++ [p]) r = if r.1 ≤ p.2 + 1 then l ++ [(p.1, max p.2 r.2)] else l ++ [p] ++ [r] := by
  unfold radd; rw [List.getLast?_concat]; simp only [List.dropLast_concat]
theorem snoc_or (l : List (Int × Int)) : l = [] ∨ ∃ a p, l = a ++ [p] := by
  rcases List.eq_nil_or_concat l with h | ⟨a, p, h⟩
  · exact .inl h
  · exact .inr ⟨a, p, by rw [h]; simp⟩
theorem radd_last {l : List (Int × Int)} {r : Int × Int} (h : lastLe l r.1) : lastLe (radd l r) r.1 := by
  rcases snoc_or l with rfl | ⟨a, p, rfl⟩
  · intro q hq; rw [radd_nil] at hq; simp at hq; subst hq; exact Int.le_refl _
  · have hp := h p (by simp)
    intro q hq
    rw [radd_snoc] at hq
    split at hq
    · simp at hq; subst hq; exact hp
    · simp at hq; subst hq; exact Int.le_refl _
theorem radd_rn {l : List (Int × Int)} {r : Int × Int} (h : Rn l) (hr : r.1 ≤ r.2) (hl : lastLe l r.1) : Rn (radd l r) := by
  rcases snoc_or l with rfl | ⟨a, p, rfl⟩
  · rw [radd_nil]; exact ⟨by simpa using hr, by simp⟩
  · have hp := hl p (by simp)
    have hpp := h.up p (by simp)
    obtain ⟨h1, h2⟩ := h
    rw [List.pairwise_append] at h2
    obtain ⟨g1, _, g3⟩ := h2
    rw [radd_snoc]
    split
    · refine ⟨fun q hq => ?_, ?_⟩
      · rcases List.mem_append.1 hq with hq | hq
        · exact h1 q (by simp [hq])
        · simp at hq; subst hq; simp only; omega
      · rw [List.pairwise_append]
        refine ⟨g1, by simp, fun q hq s hs => ?_⟩
        simp at hs; subst hs
        exact g3 q hq p (by simp)
    · rename_i hn
      refine ⟨fun q hq => ?_, ?_⟩
      · rcases List.mem_append.1 hq with hq | hq
        · exact h1 q hq
        · simp at hq; subst hq; exact hr
      · rw [List.pairwise_append]
        refine ⟨?_, by simp, fun q hq s hs => ?_⟩
        · rw [List.pairwise_append]; exact ⟨g1, by simp, g3⟩
        · simp at hs; subst hs
          rcases List.mem_append.1 hq with hq | hq
          · have := g3 q hq p (by simp); omega
          · simp at hq; subst hq; omega
theorem radd_in {l : List (Int × Int)} {r : Int × Int} (h : Rn l) (hr : r.1 ≤ r.2) (hl : lastLe l r.1) (x : Int) : inR (radd l r) x ↔ inR l x ∨ (r.1 ≤ x ∧ x ≤ r.2) := by
  rcases snoc_or l with rfl | ⟨a, p, rfl⟩
  · rw [radd_nil, inR_one]
    exact ⟨.inr, fun h => h.elim (fun h => absurd h (inR_nil x)) id⟩
  · have hp := hl p (by simp)
    have hpp := h.up p (by simp)
    rw [radd_snoc]
    split
    · rw [inR_app, inR_app, inR_one, inR_one]
      simp only
      constructor
      · rintro (h | h)
        · exact .inl (.inl h)
        · rcases Int.lt_or_le p.2 x with h3 | h3
          · exact .inr (by omega)
          · exact .inl (.inr (by omega))
      · rintro ((h | h) | h)
        · exact .inl h
        · exact .inr (by omega)
        · exact .inr (by omega)
    · rw [inR_app (a ++ [p]), inR_one]
/-- How many there are at most. -/
theorem radd_len (l : List (Int × Int)) (r : Int × Int) : (radd l r).length ≤ l.length + 1 := by
  rcases snoc_or l with rfl | ⟨a, p, rfl⟩
  · simp [radd_nil]
  · rw [radd_snoc]; split <;> simp
/-- Their ends stay in bounds. -/
theorem radd_bnd {P : Int → Prop} {l : List (Int × Int)} {r : Int × Int} (h : ∀ p ∈ l, P p.1 ∧ P p.2) (hr : P r.1 ∧ P r.2) : ∀ p ∈ radd l r, P p.1 ∧ P p.2 := by
  rcases snoc_or l with rfl | ⟨a, p, rfl⟩
  · rw [radd_nil]; simpa using hr
  · rw [radd_snoc]
    have hp := h p (by simp)
    split
    · intro q hq
      rcases List.mem_append.1 hq with hq | hq
      · exact h q (by simp [hq])
      · simp at hq; subst hq
        refine ⟨hp.1, ?_⟩
        simp only
        rcases Int.le_total p.2 r.2 with h3 | h3
        · rw [Int.max_eq_right h3]; exact hr.2
        · rw [Int.max_eq_left h3]; exact hp.2
    · intro q hq
      rcases List.mem_append.1 hq with hq | hq
      · exact h q hq
      · simp at hq; subst hq; exact hr
/-- Of numbers that do not fall. -/
def rofN (l : List Int) : List (Int × Int) := l.foldl (fun o v => radd o (v, v)) []
theorem rofN_snoc (l : List Int) (v : Int) : rofN (l ++ [v]) = radd (rofN l) (v, v) := by simp [rofN]
theorem rofN_ok : ∀ (n : Nat) (l : List Int), l.length = n → l.Pairwise (· ≤ ·) → Rn (rofN l) ∧ (∀ x, inR (rofN l) x ↔ x ∈ l) ∧ (∀ m, (∀ x ∈ l, x ≤ m) → lastLe (rofN l) m) ∧ (rofN l).length ≤ n := by
  intro n
  induction n with
  | zero =>
    intro l hl _
    have : l = [] := List.eq_nil_of_length_eq_zero hl
    subst this
    exact ⟨Rn.nil_, fun x => by simp [rofN, inR], fun m _ => lastLe.nil_ m, by simp [rofN]⟩
  | succ n ih =>
    intro l hl hs
    rcases List.eq_nil_or_concat l with rfl | ⟨a, v, h⟩
    · simp at hl
    · have e : l = a ++ [v] := by rw [h]; simp
      subst e
      rw [List.pairwise_append] at hs
      obtain ⟨s1, _, s3⟩ := hs
      obtain ⟨i1, i2, i3, i4⟩ := ih a (by simpa using hl) s1
      have hv : lastLe (rofN a) v := i3 v (fun x hx => s3 x hx v (by simp))
      rw [rofN_snoc]
      refine ⟨radd_rn i1 (Int.le_refl _) hv, fun x => ?_, fun m hm => (radd_last (r := (v, v)) hv).mono (hm v (by simp)), ?_⟩
      · rw [radd_in i1 (r := (v, v)) (Int.le_refl _) hv, i2]
        simp only [List.mem_append, List.mem_singleton]
        constructor
        · rintro (h | h)
          · exact .inl h
          · exact .inr (by omega)
        · rintro (h | h)
          · exact .inl h
          · exact .inr (by omega)
      · have := radd_len (rofN a) (v, v); omega
/-- A step of Fill: what is laid so far; is the run itself laid. -/
def fstep (f t : Int) (s : List (Int × Int) × Bool) (r : Int × Int) : List (Int × Int) × Bool :=
  (radd (if s.2 = false ∧ f < r.1 then radd s.1 (f, t) else s.1) r, s.2 || decide (f < r.1))
def fstN (f t : Int) (l : List (Int × Int)) : List (Int × Int) × Bool := l.foldl (fstep f t) ([], false)
def rfill (f t : Int) (l : List (Int × Int)) : List (Int × Int) :=
  if t < f then l else if (fstN f t l).2 then (fstN f t l).1 else radd (fstN f t l).1 (f, t)
theorem fstN_snoc (f t : Int) (l : List (Int × Int)) (r : Int × Int) : fstN f t (l ++ [r]) = fstep f t (fstN f t l) r := by simp [fstN]
theorem fstN_len (f t : Int) : ∀ (n : Nat) (l : List (Int × Int)), l.length = n → (fstN f t l).1.length ≤ 2 * n := by
  intro n
  induction n with
  | zero =>
    intro l hl
    have : l = [] := List.eq_nil_of_length_eq_zero hl
    subst this; simp [fstN]
  | succ n ih =>
    intro l hl
    rcases snoc_or l with rfl | ⟨a, r, rfl⟩
    · simp at hl
    · rw [fstN_snoc]
      have h1 := ih a (by simpa using hl)
      unfold fstep
      simp only
      split
      · have := radd_len (radd (fstN f t a).1 (f, t)) r; have := radd_len (fstN f t a).1 (f, t); omega
      · have := radd_len (fstN f t a).1 r; omega
theorem fstN_ok {f t : Int} (hft : f ≤ t) : ∀ (n : Nat) (l : List (Int × Int)), l.length = n → Rn l →
    Rn (fstN f t l).1 ∧ (∀ x, inR (fstN f t l).1 x ↔ inR l x ∨ ((fstN f t l).2 = true ∧ f ≤ x ∧ x ≤ t)) ∧ (∀ m, (∀ p ∈ l, p.1 ≤ m) → lastLe (fstN f t l).1 m) ∧ ((fstN f t l).2 = false → ∀ p ∈ l, p.1 ≤ f) := by
  intro n
  induction n with
  | zero =>
    intro l hl _
    have : l = [] := List.eq_nil_of_length_eq_zero hl
    subst this
    exact ⟨Rn.nil_, fun x => by simp [fstN], fun m _ => lastLe.nil_ m, by simp⟩
  | succ n ih =>
    intro l hl hs
    rcases snoc_or l with rfl | ⟨a, r, rfl⟩
    · simp at hl
    · obtain ⟨u, s⟩ := hs
      rw [List.pairwise_append] at s
      obtain ⟨s1, _, s3⟩ := s
      have hr := u r (by simp)
      have ha : Rn a := ⟨fun p hp => u p (by simp [hp]), s1⟩
      obtain ⟨i1, i2, i3, i4⟩ := ih a (by simpa using hl) ha
      have hlr : lastLe (fstN f t a).1 r.1 := i3 _ (fun p hp => by have := s3 p hp r (by simp); have := ha.up p hp; omega)
      rw [fstN_snoc]
      unfold fstep
      by_cases hc : (fstN f t a).2 = false ∧ f < r.1
      · rw [if_pos hc]
        have hlf : lastLe (fstN f t a).1 f := i3 f (i4 hc.1)
        have j1 := radd_rn i1 (r := (f, t)) hft hlf
        have j2 := radd_last (r := (f, t)) hlf
        have j3 : lastLe (radd (fstN f t a).1 (f, t)) r.1 := j2.mono (Int.le_of_lt hc.2)
        refine ⟨radd_rn j1 hr j3, fun x => ?_, fun m hm => (radd_last j3).mono (hm r (by simp)), fun h => ?_⟩
        · rw [radd_in j1 hr j3, radd_in i1 (r := (f, t)) hft hlf, i2, inR_app, inR_one, hc.1]
          simp only [hc.2, decide_true, Bool.or_true, true_and, Bool.false_eq_true, false_and, or_false]
          constructor
          · rintro ((h | h) | h)
            · exact .inl (.inl h)
            · exact .inr h
            · exact .inl (.inr h)
          · rintro ((h | h) | h)
            · exact .inl (.inl h)
            · exact .inr h
            · exact .inl (.inr h)
        · simp [hc.2] at h
      · rw [if_neg hc]
        have hd : ((fstN f t a).2 || decide (f < r.1)) = (fstN f t a).2 := by
          cases h2 : (fstN f t a).2 with
          | true => rfl
          | false =>
            have : ¬ f < r.1 := fun h => hc ⟨h2, h⟩
            simp; omega
        refine ⟨radd_rn i1 hr hlr, fun x => ?_, fun m hm => (radd_last hlr).mono (hm r (by simp)), fun h p hp => ?_⟩
        · simp only
          rw [hd, radd_in i1 hr hlr, i2, inR_app, inR_one]
          constructor
          · rintro ((h | h) | h)
            · exact .inl (.inl h)
            · exact .inr h
            · exact .inl (.inr h)
          · rintro ((h | h) | h)
            · exact .inl (.inl h)
            · exact .inr h
            · exact .inl (.inr h)
        · simp only at h
          rw [hd] at h
          rcases List.mem_append.1 hp with hp | hp
          · exact i4 h p hp
          · simp at hp; subst hp
            rcases Int.lt_or_le f p.1 with h3 | h3
            · exact absurd ⟨h, h3⟩ hc
            · exact h3
theorem rfill_rn {f t : Int} {l : List (Int × Int)} (h : Rn l) : Rn (rfill f t l) := by
  unfold rfill
  split
  · exact h
  · rename_i hn
    obtain ⟨i1, i2, i3, i4⟩ := fstN_ok (f := f) (t := t) (by omega) _ l rfl h
    split
    · exact i1
    · rename_i hc
      exact radd_rn i1 (r := (f, t)) (show f ≤ t by omega) (i3 f (i4 (by simpa using hc)))
theorem rfill_in {f t : Int} {l : List (Int × Int)} (h : Rn l) (x : Int) : inR (rfill f t l) x ↔ inR l x ∨ (f ≤ x ∧ x ≤ t) := by
  unfold rfill
  split
  · exact ⟨.inl, fun h => h.elim id (fun h => by omega)⟩
  · rename_i hn
    obtain ⟨i1, i2, i3, i4⟩ := fstN_ok (f := f) (t := t) (by omega) _ l rfl h
    split
    · rename_i hc
      rw [i2, hc]; simp
    · rename_i hc
      have hc : (fstN f t l).2 = false := by simpa using hc
      rw [radd_in i1 (r := (f, t)) (show f ≤ t by omega) (i3 f (i4 hc)), i2, hc]; simp
theorem fstN_bnd {P : Int → Prop} {f t : Int} (hf : P f) (ht : P t) : ∀ (n : Nat) (l : List (Int × Int)), l.length = n → (∀ p ∈ l, P p.1 ∧ P p.2) → ∀ p ∈ (fstN f t l).1, P p.1 ∧ P p.2 := by
  intro n
  induction n with
  | zero =>
    intro l hl _
    have : l = [] := List.eq_nil_of_length_eq_zero hl
    subst this; simp [fstN]
  | succ n ih =>
    intro l hl h
    rcases snoc_or l with rfl | ⟨a, r, rfl⟩
    · simp at hl
    · rw [fstN_snoc]
      have h1 := ih a (by simpa using hl) (fun p hp => h p (by simp [hp]))
      unfold fstep
      simp only
      split
      · exact radd_bnd (radd_bnd h1 (r := (f, t)) ⟨hf, ht⟩) (h r (by simp))
      · exact radd_bnd h1 (h r (by simp))
theorem rfill_bnd {P : Int → Prop} {f t : Int} (hf : P f) (ht : P t) {l : List (Int × Int)} (h : ∀ p ∈ l, P p.1 ∧ P p.2) : ∀ p ∈ rfill f t l, P p.1 ∧ P p.2 := by
  unfold rfill
  have h1 := fstN_bnd hf ht _ l rfl h
  split
  · exact h
  · split
    · exact h1
    · exact radd_bnd h1 (r := (f, t)) ⟨hf, ht⟩
/-- Of one run what is left of it, the numbers between taken out. -/
def wone (f t : Int) (r : Int × Int) : List (Int × Int) :=
  (if r.1 < f then [(r.1, min r.2 (f - 1))] else []) ++ (if t < r.2 then [(max r.1 (t + 1), r.2)] else [])
def rwipe (f t : Int) (l : List (Int × Int)) : List (Int × Int) := if t < f then l else l.flatMap (wone f t)
theorem wone_sub {f t : Int} (hft : f ≤ t) {r : Int × Int} (hr : r.1 ≤ r.2) : ∀ p ∈ wone f t r, r.1 ≤ p.1 ∧ p.1 ≤ p.2 ∧ p.2 ≤ r.2 := by
  intro p hp
  unfold wone at hp
  rcases List.mem_append.1 hp with hp | hp
  · split at hp
    · simp at hp; subst hp; simp only; omega
    · simp at hp
  · split at hp
    · simp at hp; subst hp; simp only; omega
    · simp at hp
theorem wone_rn {f t : Int} (hft : f ≤ t) {r : Int × Int} (hr : r.1 ≤ r.2) : (wone f t r).Pairwise (fun p q => p.2 + 2 ≤ q.1) := by
  unfold wone
  rw [List.pairwise_append]
  refine ⟨by split <;> simp, by split <;> simp, fun p hp q hq => ?_⟩
  split at hp
  · split at hq
    · simp at hp hq; subst hp hq; simp only; omega
    · simp at hq
  · simp at hp
theorem wone_in {f t : Int} (hft : f ≤ t) (r : Int × Int) (x : Int) : inR (wone f t r) x ↔ (r.1 ≤ x ∧ x ≤ r.2) ∧ ¬ (f ≤ x ∧ x ≤ t) := by
  unfold wone
  rw [inR_app]
  constructor
  · rintro (h | h)
    · split at h
      · rw [inR_one] at h; simp only at h; omega
      · exact absurd h (inR_nil x)
    · split at h
      · rw [inR_one] at h; simp only at h; omega
      · exact absurd h (inR_nil x)
  · rintro ⟨h1, h2⟩
    rcases Int.lt_or_le x f with h3 | h3
    · left; rw [if_pos (by omega), inR_one]; simp only; omega
    · right; rw [if_pos (by omega), inR_one]; simp only; omega
theorem rwipe_rn {f t : Int} {l : List (Int × Int)} (h : Rn l) : Rn (rwipe f t l) := by
  unfold rwipe
  split
  · exact h
  · rename_i hn
    have hft : f ≤ t := by omega
    obtain ⟨u, s⟩ := h
    refine ⟨fun p hp => ?_, ?_⟩
    · obtain ⟨r, hr, hpr⟩ := List.mem_flatMap.1 hp
      exact (wone_sub hft (u r hr) p hpr).2.1
    · induction l with
      | nil => simp
      | cons r l ih =>
        rw [List.pairwise_cons] at s
        rw [List.flatMap_cons, List.pairwise_append]
        refine ⟨wone_rn hft (u r (by simp)), ih (fun p hp => u p (by simp [hp])) s.2, fun p hp q hq => ?_⟩
        obtain ⟨r2, hr2, hq2⟩ := List.mem_flatMap.1 hq
        have h1 := wone_sub hft (u r (by simp)) p hp
        have h2 := wone_sub hft (u r2 (by simp [hr2])) q hq2
        have h3 := s.1 r2 hr2
        omega
theorem rwipe_in0 {f t : Int} (hft : f ≤ t) (x : Int) : ∀ l : List (Int × Int), inR (l.flatMap (wone f t)) x ↔ inR l x ∧ ¬ (f ≤ x ∧ x ≤ t)
  | [] => by simp [inR]
  | r :: l => by
    rw [List.flatMap_cons, inR_app, wone_in hft, rwipe_in0 hft x l, show r :: l = [r] ++ l from rfl, inR_app, inR_one]
    constructor
    · rintro (h | h)
      · exact ⟨.inl h.1, h.2⟩
      · exact ⟨.inr h.1, h.2⟩
    · rintro ⟨h | h, k⟩
      · exact .inl ⟨h, k⟩
      · exact .inr ⟨h, k⟩
theorem rwipe_in {f t : Int} {l : List (Int × Int)} (x : Int) : inR (rwipe f t l) x ↔ inR l x ∧ ¬ (f ≤ x ∧ x ≤ t) := by
  unfold rwipe
  split
  · exact ⟨fun h => ⟨h, by omega⟩, fun h => h.1⟩
  · rename_i hn
    exact rwipe_in0 (by omega) x l
theorem wone_len (f t : Int) (r : Int × Int) : (wone f t r).length ≤ 2 := by
  unfold wone; rw [List.length_append]; split <;> split <;> simp
theorem rwipe_len (f t : Int) (l : List (Int × Int)) : (l.flatMap (wone f t)).length ≤ 2 * l.length := by
  induction l with
  | nil => simp
  | cons r l ih => rw [List.flatMap_cons, List.length_append]; have := wone_len f t r; simp only [List.length_cons]; omega
theorem wone_bnd {f t : Int} (hf : 0 ≤ f ∧ f < 65536) (ht : 0 ≤ t ∧ t < 65536) {r : Int × Int} (h : 0 ≤ r.1 ∧ r.1 < 65536 ∧ 0 ≤ r.2 ∧ r.2 < 65536) : ∀ p ∈ wone f t r, 0 ≤ p.1 ∧ p.1 < 65536 ∧ 0 ≤ p.2 ∧ p.2 < 65536 := by
  intro p hp
  unfold wone at hp
  rcases List.mem_append.1 hp with hp | hp
  · split at hp
    · simp at hp; subst hp; simp only; omega
    · simp at hp
  · split at hp
    · simp at hp; subst hp; simp only; omega
    · simp at hp
theorem rwipe_bnd {f t : Int} (hf : 0 ≤ f ∧ f < 65536) (ht : 0 ≤ t ∧ t < 65536) {l : List (Int × Int)} (h : ∀ p ∈ l, 0 ≤ p.1 ∧ p.1 < 65536 ∧ 0 ≤ p.2 ∧ p.2 < 65536) : ∀ p ∈ rwipe f t l, 0 ≤ p.1 ∧ p.1 < 65536 ∧ 0 ≤ p.2 ∧ p.2 < 65536 := by
  unfold rwipe
  split
  · exact h
  · intro p hp
    obtain ⟨r, hr, hp⟩ := List.mem_flatMap.1 hp
    exact wone_bnd hf ht (h r hr) p hp
/-- Runs of the same numbers are the same runs. -/
theorem Rn.tail {r : Int × Int} {l : List (Int × Int)} (h : Rn (r :: l)) : Rn l := ⟨fun p hp => h.up p (by simp [hp]), (List.pairwise_cons.1 h.gap).2⟩
theorem Rn.head_lt {r : Int × Int} {l : List (Int × Int)} (h : Rn (r :: l)) {x : Int} (hx : inR l x) : r.2 + 2 ≤ x := by
  obtain ⟨p, hp, h1, h2⟩ := hx
  have := (List.pairwise_cons.1 h.gap).1 p hp; omega
theorem Rn.head_end {r : Int × Int} {l : List (Int × Int)} (h : Rn (r :: l)) : ¬ inR (r :: l) (r.2 + 1) := by
  rintro ⟨p, hp, h1, h2⟩
  rcases List.mem_cons.1 hp with rfl | hp
  · omega
  · have := (List.pairwise_cons.1 h.gap).1 p hp; omega
theorem Rn.ext {a b : List (Int × Int)} (ha : Rn a) (hb : Rn b) (h : ∀ x, inR a x ↔ inR b x) : a = b := by
  induction a generalizing b with
  | nil =>
    cases b with
    | nil => rfl
    | cons y b => exact absurd ((h y.1).2 ⟨y, by simp, Int.le_refl _, hb.up y (by simp)⟩) (inR_nil _)
  | cons x a ih =>
    cases b with
    | nil => exact absurd ((h x.1).1 ⟨x, by simp, Int.le_refl _, ha.up x (by simp)⟩) (inR_nil _)
    | cons y b =>
      have hx1 := ha.up x (by simp)
      have hy1 := hb.up y (by simp)
      have k1 : ∀ z, inR (x :: a) z → x.1 ≤ z := fun z ⟨p, hp, h1, h2⟩ => by
        rcases List.mem_cons.1 hp with rfl | hp
        · exact h1
        · have := (List.pairwise_cons.1 ha.gap).1 p hp; omega
      have k2 : ∀ z, inR (y :: b) z → y.1 ≤ z := fun z ⟨p, hp, h1, h2⟩ => by
        rcases List.mem_cons.1 hp with rfl | hp
        · exact h1
        · have := (List.pairwise_cons.1 hb.gap).1 p hp; omega
      have e1 : x.1 = y.1 := by
        have h1 := k2 _ ((h x.1).1 ⟨x, by simp, Int.le_refl _, hx1⟩)
        have h2 := k1 _ ((h y.1).2 ⟨y, by simp, Int.le_refl _, hy1⟩)
        omega
      have e2 : x.2 = y.2 := by
        rcases Int.lt_trichotomy x.2 y.2 with h3 | h3 | h3
        · exact absurd ((h (x.2 + 1)).2 ⟨y, by simp, by omega, by omega⟩) ha.head_end
        · exact h3
        · exact absurd ((h (y.2 + 1)).1 ⟨x, by simp, by omega, by omega⟩) hb.head_end
      have e : x = y := Prod.ext e1 e2
      subst e
      congr 1
      refine ih ha.tail hb.tail (fun z => ?_)
      have hz := h z
      rw [show x :: a = [x] ++ a from rfl, show x :: b = [x] ++ b from rfl, inR_app, inR_app, inR_one] at hz
      constructor
      · intro h1
        have := ha.head_lt h1
        rcases hz.1 (.inr h1) with h2 | h2
        · omega
        · exact h2
      · intro h1
        have := hb.head_lt h1
        rcases hz.2 (.inr h1) with h2 | h2
        · omega
        · exact h2
end Go.Proofs.Ythcjnijggebcaaa
