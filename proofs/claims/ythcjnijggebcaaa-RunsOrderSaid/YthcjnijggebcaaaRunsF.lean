/- Runs and the document's sets (plain): what runs tell of a set is what the set tells. -/
import Derived.Test.YthcjnijggebcaaaRunsM
import Derived.Test.YthcjnijggebcaaaRuns3
import Derived.Test.YthcjnijggebcaaaRuns4
import Derived.Test.YthcjnijggebcaaaSetL
namespace Go.Proofs.Ythcjnijggebcaaa
set_option linter.unusedVariables false
theorem ok_rn {l : List (Int × Int)} : OkRuns l ↔ Rn l := by
  constructor
  · intro h
    have up : ∀ i (hi : i < l.length), l[i].1 ≤ l[i].2 := fun i hi => (h i hi l[i].1 l[i].2 (List.getElem?_eq_getElem hi)).1
    have ad : ∀ i (hi : i + 1 < l.length), l[i].2 + 2 ≤ l[i + 1].1 := fun i hi =>
      (h (i + 1) hi l[i + 1].1 l[i + 1].2 (List.getElem?_eq_getElem hi)).2 (by omega) l[i].1 l[i].2 (by rw [Nat.add_sub_cancel]; exact List.getElem?_eq_getElem (by omega))
    refine ⟨fun p hp => ?_, ?_⟩
    · obtain ⟨i, hi, rfl⟩ := List.getElem_of_mem hp
      exact up i hi
    · rw [List.pairwise_iff_getElem]
      intro i j hi hj hij
      induction j with
      | zero => omega
      | succ j ih =>
        rcases Nat.lt_or_ge i j with h1 | h1
        · have h2 := ih (by omega) h1
          have h3 := up j (by omega)
          have h4 := ad j hj
          omega
        · have : i = j := by omega
          subst this; exact ad i hj
  · intro h i hi p q hpq
    obtain ⟨h1, h2⟩ := List.getElem?_eq_some_iff.1 hpq
    refine ⟨?_, fun h0 p' q' hpq' => ?_⟩
    · have := h.up (p, q) (by rw [← h2]; exact List.getElem_mem _); exact this
    · obtain ⟨h3, h4⟩ := List.getElem?_eq_some_iff.1 hpq'
      have := List.pairwise_iff_getElem.1 h.gap (i - 1) i h3 h1 (by omega)
      rw [h2, h4] at this; exact this
theorem fromL_mem {p : Int} {n : Nat} {x : Int} : x ∈ fromL p n ↔ p ≤ x ∧ x < p + n := by
  unfold fromL
  simp only [List.mem_map, List.mem_range]
  constructor
  · rintro ⟨i, hi, rfl⟩; omega
  · rintro ⟨h1, h2⟩; exact ⟨(x - p).toNat, by omega, by omega⟩
theorem fromL_rises (p : Int) : ∀ n : Nat, (fromL p n).Pairwise (· < ·)
  | 0 => by simp [fromL]
  | n + 1 => by
    rw [fromL_step, List.pairwise_append]
    refine ⟨fromL_rises p n, by simp, fun x hx y hy => ?_⟩
    rw [fromL_mem] at hx
    simp at hy; omega
theorem rlist_nil : rlist [] = [] := rfl
theorem rlist_cons (r : Int × Int) (l : List (Int × Int)) : rlist (r :: l) = fromL r.1 (r.2 + 1 - r.1).toNat ++ rlist l := by simp [rlist]
theorem rlist_mem {x : Int} : ∀ {l : List (Int × Int)}, x ∈ rlist l ↔ inR l x
  | [] => by simp [rlist, inR]
  | r :: l => by
    rw [rlist_cons, List.mem_append, rlist_mem, show r :: l = [r] ++ l from rfl, inR_app, inR_one, fromL_mem]
    constructor
    · rintro (h | h)
      · exact .inl (by omega)
      · exact .inr h
    · rintro (h | h)
      · exact .inl (by omega)
      · exact .inr h
theorem rlist_rises : ∀ {l : List (Int × Int)}, Rn l → (rlist l).Pairwise (· < ·)
  | [], _ => by simp [rlist]
  | r :: l, h => by
    rw [rlist_cons, List.pairwise_append]
    refine ⟨fromL_rises _ _, rlist_rises h.tail, fun x hx y hy => ?_⟩
    rw [fromL_mem] at hx
    have := h.head_lt (rlist_mem.1 hy)
    omega
theorem rlen_list : ∀ {l : List (Int × Int)}, Rn l → rlen l = ((rlist l).length : Int)
  | [], _ => by simp [rlist, rlen]
  | r :: l, h => by
    have h1 := rlen_list h.tail
    have h2 := h.up r (by simp)
    rw [rlist_cons, List.length_append, fromL_len]
    unfold rlen at h1 ⊢
    rw [List.map_cons, List.sum_cons, h1]; omega
/-- The runs are the set's. -/
structure RF (l : List (Int × Int)) (f : Nat → Bool) : Prop where
  rn : Rn l
  b16 : R16 l
  mem : ∀ i : Nat, i < Most → (f i = true ↔ inR l i)
section
variable {l : List (Int × Int)} {f : Nat → Bool}
theorem RF.list (h : RF l f) : rlist l = lst f := by
  refine rise_ext (rlist_rises h.rn) lst_rises (fun x => ?_)
  rw [rlist_mem, lst_mem]
  constructor
  · intro hx
    obtain ⟨p, hp, h1, h2⟩ := id hx
    obtain ⟨b1, b2, b3, b4⟩ := h.b16 p hp
    obtain ⟨i, rfl⟩ := Int.eq_ofNat_of_zero_le (show 0 ≤ x by omega)
    exact ⟨i, by unfold Most; omega, rfl, (h.mem i (by unfold Most; omega)).2 hx⟩
  · rintro ⟨i, hi, rfl, h1⟩
    exact (h.mem i hi).1 h1
theorem RF.len (h : RF l f) : rlen l = (cntN f Most : Nat) := by
  rw [rlen_list h.rn, h.list, lst_length]
/-- Where runs begin. -/
def startF (f : Nat → Bool) (n : Nat) : Bool := f n && (n == 0 || !f (n - 1))
theorem startF_zero (f : Nat → Bool) : startF f 0 = f 0 := by simp [startF]
theorem startF_succ (f : Nat → Bool) {n : Nat} (h : 0 < n) : startF f n = (f n && !f (n - 1)) := by
  unfold startF; rw [show (n == 0) = false from by simp; omega]; simp
theorem RF.starts (h : RF l f) : l.map Prod.fst = lst (startF f) := by
  have hpw := List.pairwise_iff_getElem.1 h.rn.gap
  have hap : ∀ p ∈ l, ∀ q ∈ l, p.1 < q.1 → p.2 + 2 ≤ q.1 := by
    intro p hp q hq hpq
    obtain ⟨i, hi, rfl⟩ := List.getElem_of_mem hp
    obtain ⟨j, hj, rfl⟩ := List.getElem_of_mem hq
    rcases Nat.lt_trichotomy i j with h1 | h1 | h1
    · exact hpw i j hi hj h1
    · subst h1; omega
    · have := hpw j i hj hi h1
      have := h.rn.up l[i] (List.getElem_mem _)
      have := h.rn.up l[j] (List.getElem_mem _)
      omega
  refine rise_ext ?_ lst_rises (fun x => ?_)
  · rw [List.pairwise_map]
    refine List.Pairwise.imp_of_mem (fun {p q} hp hq hpq => ?_) h.rn.gap
    have := h.rn.up p hp
    omega
  · rw [lst_mem, List.mem_map]
    constructor
    · rintro ⟨p, hp, rfl⟩
      obtain ⟨b1, b2, b3, b4⟩ := h.b16 p hp
      obtain ⟨i, hi⟩ := Int.eq_ofNat_of_zero_le b1
      have hup := h.rn.up p hp
      have hf : f i = true := (h.mem i (by unfold Most; omega)).2 ⟨p, hp, by omega, by omega⟩
      refine ⟨i, by unfold Most; omega, hi, ?_⟩
      rcases Nat.eq_zero_or_pos i with h0 | h0
      · subst h0; rw [startF_zero]; exact hf
      · rw [startF_succ f h0, hf]
        cases hf2 : f (i - 1) with
        | false => rfl
        | true =>
          obtain ⟨q, hq, h3, h4⟩ := (h.mem (i - 1) (by unfold Most; omega)).1 hf2
          have := hap q hq p hp (by omega)
          omega
    · rintro ⟨i, hi, rfl, h1⟩
      rcases Nat.eq_zero_or_pos i with h0 | h0
      · subst h0
        rw [startF_zero] at h1
        obtain ⟨p, hp, h3, h4⟩ := (h.mem 0 hi).1 h1
        have := (h.b16 p hp).1
        exact ⟨p, hp, by omega⟩
      · rw [startF_succ f h0] at h1
        simp only [Bool.and_eq_true, Bool.not_eq_true'] at h1
        obtain ⟨h1, h2⟩ := h1
        obtain ⟨p, hp, h3, h4⟩ := (h.mem i hi).1 h1
        refine ⟨p, hp, ?_⟩
        rcases Int.lt_or_le p.1 i with h5 | h5
        · have := (h.mem (i - 1) (by omega)).2 ⟨p, hp, by omega, by omega⟩
          rw [h2] at this; cases this
        · omega
theorem RF.runs (h : RF l f) : l.length = cntN (startF f) Most := by
  rw [← lst_length, ← h.starts, List.length_map]
theorem rk_app (a b : List Int) (t : Int) : rk (a ++ b) t = rk a t + rk b t := by unfold rk; rw [List.countP_append]
theorem rk_all {a : List Int} {t : Int} (h : ∀ x ∈ a, x < t) : rk a t = a.length := by
  unfold rk; rw [List.countP_eq_length]; intro x hx; exact decide_eq_true (h x hx)
theorem rk_none {a : List Int} {t : Int} (h : ∀ x ∈ a, t ≤ x) : rk a t = 0 := by
  unfold rk; rw [List.countP_eq_zero]; intro x hx; have := h x hx; simp; omega
theorem rrank_rk (t : Int) : ∀ {l : List (Int × Int)}, Rn l → rrank t l = (rk (rlist l) t : Nat)
  | [], _ => by simp [rrank, rlist, rk]
  | r :: l, h => by
    have hup := h.up r (by simp)
    rw [rlist_cons, rk_app, rrank]
    by_cases h1 : r.2 < t
    · rw [if_pos h1, rrank_rk t h.tail, rk_all (a := fromL r.1 (r.2 + 1 - r.1).toNat) (fun x hx => by rw [fromL_mem] at hx; omega), fromL_len]; omega
    · have hz : rk (rlist l) t = 0 := rk_none (fun x hx => by have := h.head_lt (rlist_mem.1 hx); omega)
      rw [if_neg h1, hz]
      by_cases h2 : r.1 < t
      · have e : fromL r.1 (r.2 + 1 - r.1).toNat = fromL r.1 (t - r.1).toNat ++ fromL t (r.2 + 1 - t).toNat := by
          refine rise_ext (fromL_rises _ _) ?_ (fun x => ?_)
          · rw [List.pairwise_append]
            refine ⟨fromL_rises _ _, fromL_rises _ _, fun x hx y hy => ?_⟩
            rw [fromL_mem] at hx hy; omega
          · rw [List.mem_append, fromL_mem, fromL_mem, fromL_mem]; omega
        rw [if_pos h2, e, rk_app, rk_all (a := fromL r.1 (t - r.1).toNat) (fun x hx => by rw [fromL_mem] at hx; omega), rk_none (a := fromL t (r.2 + 1 - t).toNat) (fun x hx => by rw [fromL_mem] at hx; omega), fromL_len]; omega
      · rw [if_neg h2, rk_none (a := fromL r.1 (r.2 + 1 - r.1).toNat) (fun x hx => by rw [fromL_mem] at hx; omega)]; rfl
theorem RF.rank (h : RF l f) {v : Nat} (hv : v ≤ Most) : rrank v l = (cntN f v : Nat) := by
  rw [rrank_rk v h.rn, h.list, lst_rk hv]
/-- The one below which there are k. -/
def rsel : Int → List (Int × Int) → Int × Bool
  | _, [] => (0, false)
  | k, r :: l => if r.2 - r.1 + 1 ≤ k then rsel (k - (r.2 - r.1 + 1)) l else (r.1 + k, true)
theorem fromL_get {p : Int} {n k : Nat} (h : k < n) : (fromL p n).getD k 0 = p + k := by
  unfold fromL
  rw [List.getD_eq_getElem?_getD, List.getElem?_map, List.getElem?_range h]; rfl
theorem rsel_sel : ∀ {l : List (Int × Int)} {k : Int}, Rn l → 0 ≤ k → rsel k l = selL (rlist l) k
  | [], k, _, hk => by rw [rsel, rlist_nil, selL_no (by simp)]
  | r :: l, k, h, hk => by
    have hup := h.up r (by simp)
    obtain ⟨k, rfl⟩ := Int.eq_ofNat_of_zero_le hk
    rw [rsel]
    have hfl : (fromL r.1 (r.2 + 1 - r.1).toNat).length = (r.2 + 1 - r.1).toNat := fromL_len _ _
    by_cases h1 : r.2 - r.1 + 1 ≤ (k : Int)
    · rw [if_pos h1, rsel_sel h.tail (by omega)]
      obtain ⟨j, hj⟩ := Int.eq_ofNat_of_zero_le (show 0 ≤ (k : Int) - (r.2 - r.1 + 1) by omega)
      rw [hj, rlist_cons]
      rcases Nat.lt_or_ge j (rlist l).length with h2 | h2
      · rw [selL_yes h2, selL_yes (by rw [List.length_append]; omega), List.getD_eq_getElem?_getD, List.getD_eq_getElem?_getD, List.getElem?_append_right (by omega), hfl]
        rw [show k - (r.2 + 1 - r.1).toNat = j from by omega]
      · rw [selL_no (by omega), selL_no (by rw [List.length_append]; omega)]
    · rw [if_neg h1, rlist_cons, selL_yes (by rw [List.length_append]; omega), List.getD_eq_getElem?_getD, List.getElem?_append_left (by omega), ← List.getD_eq_getElem?_getD, fromL_get (by omega)]
theorem RF.sel (h : RF l f) {k : Nat} : IsSel f k (atL (rsel k l)) := by
  rw [rsel_sel h.rn (by omega), h.list]
  rcases Nat.lt_or_ge k (lst f).length with h1 | h1
  · exact lst_sel h1
  · rw [selL_no (by omega)]
    refine .inl ⟨rfl, fun j hj hf hc => ?_⟩
    have := cntN_step (show j < Most from hj) hf
    rw [lst_length] at h1; omega
theorem RF.empty : RF [] (fun _ => false) := ⟨Rn.nil_, fun p hp => by simp at hp, fun i hi => by simp [inR]⟩
theorem RF.fill (h : RF l f) {p q : Nat} (hp : p < 65536) (hq : q < 65536) : RF (rfill p q l) (fun i => if p ≤ i ∧ i ≤ q then true else f i) :=
  ⟨rfill_rn h.rn, fun r hr => by
    have := rfill_bnd (P := fun x => 0 ≤ x ∧ x < 65536) (f := (p : Int)) (t := (q : Int)) (by omega) (by omega) (l := l) (fun s hs => by have := h.b16 s hs; omega) r hr
    omega, fun i hi => by
    rw [rfill_in h.rn, ← h.mem i hi]
    by_cases hc : p ≤ i ∧ i ≤ q
    · rw [if_pos hc]; exact ⟨fun _ => .inr (by omega), fun _ => rfl⟩
    · rw [if_neg hc]; exact ⟨.inl, fun h => h.elim id (fun h => absurd h (by omega))⟩⟩
theorem RF.wipe (h : RF l f) {p q : Nat} (hp : p < 65536) (hq : q < 65536) : RF (rwipe p q l) (fun i => if p ≤ i ∧ i ≤ q then false else f i) :=
  ⟨rwipe_rn h.rn, rwipe_bnd (by omega) (by omega) h.b16, fun i hi => by
    rw [rwipe_in, ← h.mem i hi]
    by_cases hc : p ≤ i ∧ i ≤ q
    · rw [if_pos hc]; exact ⟨fun h => (by cases h), fun h => absurd h.2 (by omega)⟩
    · rw [if_neg hc]; exact ⟨fun h => ⟨h, by omega⟩, fun h => h.1⟩⟩
theorem RF.congr {g : Nat → Bool} (h : RF l f) (hfg : ∀ i, i < Most → f i = g i) : RF l g := ⟨h.rn, h.b16, fun i hi => by rw [← hfg i hi]; exact h.mem i hi⟩
/-- How many runs there can be. -/
theorem RF.short (h : RF l f) : l.length ≤ 65536 := by rw [h.runs]; exact cntN_le Most
end
/-- The place of the first run that ends there, or behind. -/
def AtR (l : List (Int × Int)) (t : Int) (i : Nat) : Prop := i ≤ l.length ∧ (∀ p r, p < i → l[p]? = some r → r.2 < t) ∧ (∀ p r, i ≤ p → l[p]? = some r → t ≤ r.2)
theorem AtR.has {l : List (Int × Int)} {t : Int} {i : Nat} (h : AtR l t i) (hr : Rn l) : inR l t ↔ ∃ r, l[i]? = some r ∧ r.1 ≤ t := by
  obtain ⟨h1, h2, h3⟩ := h
  constructor
  · rintro ⟨r, hm, k1, k2⟩
    obtain ⟨j, hj, rfl⟩ := List.getElem_of_mem hm
    rcases Nat.lt_trichotomy i j with c | c | c
    · have hi : i < l.length := by omega
      have g := List.pairwise_iff_getElem.1 hr.gap i j hi hj c
      have := h3 i l[i] (Nat.le_refl _) (by simp)
      omega
    · subst c; exact ⟨_, List.getElem?_eq_getElem hj, k1⟩
    · have := h2 j l[j] c (by simp); omega
  · rintro ⟨r, hg, k⟩
    exact ⟨r, List.mem_of_getElem? hg, k, h3 i r (Nat.le_refl _) hg⟩
/-- The least from there on. -/
theorem AtR.next {l : List (Int × Int)} {f : Nat → Bool} {t : Nat} {i : Nat} (h : AtR l t i) (hf : RF l f) :
    (i = l.length → IsNext f t (-1)) ∧ (∀ r, l[i]? = some r → IsNext f t (max (t : Int) r.1)) := by
  obtain ⟨h1, h2, h3⟩ := h
  refine ⟨fun he => .inl ⟨rfl, fun j hj1 hj2 => ?_⟩, fun r hr => ?_⟩
  · cases hb : f j with
    | false => rfl
    | true =>
      obtain ⟨r, hm, k1, k2⟩ := (hf.mem j hj2).1 hb
      obtain ⟨p, hp, rfl⟩ := List.getElem_of_mem hm
      have := h2 p l[p] (by omega) (by simp)
      omega
  · have hrm := List.mem_of_getElem? hr
    have hup := hf.rn.up r hrm
    obtain ⟨b1, b2, b3, b4⟩ := hf.b16 r hrm
    have ht := h3 i r (Nat.le_refl _) hr
    obtain ⟨x, hx⟩ := Int.eq_ofNat_of_zero_le (show 0 ≤ max (t : Int) r.1 by omega)
    refine .inr ⟨x, hx, by omega, by omega, (hf.mem x (by unfold Most; omega)).2 ⟨r, hrm, by omega, by omega⟩, fun j hj1 hj2 => ?_⟩
    cases hb : f j with
    | false => rfl
    | true =>
      obtain ⟨s, hm, k1, k2⟩ := (hf.mem j (by unfold Most; omega)).1 hb
      obtain ⟨p, hp, rfl⟩ := List.getElem_of_mem hm
      obtain ⟨hi, hir⟩ := List.getElem?_eq_some_iff.1 hr
      rcases Nat.lt_trichotomy p i with c | c | c
      · have := h2 p l[p] c (by simp); omega
      · subst c; rw [hir] at k1 k2; omega
      · have := List.pairwise_iff_getElem.1 hf.rn.gap i p hi hp c
        rw [hir] at this; omega
/-- The greatest up to there. -/
theorem AtR.prev {l : List (Int × Int)} {f : Nat → Bool} {t : Nat} (htm : t < 65536) {i : Nat} (h : AtR l t i) (hf : RF l f) :
    (∀ r, l[i]? = some r → r.1 ≤ t → IsPrev f t t) ∧ ((∀ r, l[i]? = some r → ¬ r.1 ≤ t) → (i = 0 → IsPrev f t (-1)) ∧ (∀ r, 0 < i → l[i - 1]? = some r → IsPrev f t r.2)) := by
  obtain ⟨h1, h2, h3⟩ := id h
  refine ⟨fun r hr hrt => .inr ⟨t, rfl, htm, by omega, (hf.mem t (by unfold Most; omega)).2 ((h.has hf.rn).2 ⟨r, hr, hrt⟩), fun j hj1 hj2 => by omega⟩, fun hno => ⟨fun h0 => .inl ⟨rfl, fun j hj1 hj2 => ?_⟩, fun r h0 hr => ?_⟩⟩
  · cases hb : f j with
    | false => rfl
    | true =>
      obtain ⟨s, hm, k1, k2⟩ := (hf.mem j hj2).1 hb
      obtain ⟨p, hp, rfl⟩ := List.getElem_of_mem hm
      subst h0
      have hz : 0 < l.length := by omega
      have := hno l[0] (by simp)
      rcases Nat.eq_zero_or_pos p with c | c
      · subst c; omega
      · have g := List.pairwise_iff_getElem.1 hf.rn.gap 0 p hz hp c
        have := hf.rn.up l[0] (List.getElem_mem _)
        omega
  · have hrm := List.mem_of_getElem? hr
    have hup := hf.rn.up r hrm
    obtain ⟨b1, b2, b3, b4⟩ := hf.b16 r hrm
    obtain ⟨x, hx⟩ := Int.eq_ofNat_of_zero_le b3
    have ht := h2 (i - 1) r (by omega) hr
    refine .inr ⟨x, hx, by omega, by omega, (hf.mem x (by unfold Most; omega)).2 ⟨r, hrm, by omega, by omega⟩, fun j hj1 hj2 hj3 => ?_⟩
    cases hb : f j with
    | false => rfl
    | true =>
      obtain ⟨s, hm, k1, k2⟩ := (hf.mem j (by unfold Most; omega)).1 hb
      obtain ⟨p, hp, rfl⟩ := List.getElem_of_mem hm
      obtain ⟨hi, hir⟩ := List.getElem?_eq_some_iff.1 hr
      rcases Nat.lt_trichotomy p (i - 1) with c | c | c
      · have := List.pairwise_iff_getElem.1 hf.rn.gap p (i - 1) hp hi c
        rw [hir] at this; omega
      · subst c; rw [hir] at k1 k2; omega
      · have hi2 : i < l.length := by omega
        have hno2 := hno l[i] (by simp)
        rcases Nat.lt_trichotomy p i with c2 | c2 | c2
        · omega
        · subst c2; omega
        · have := List.pairwise_iff_getElem.1 hf.rn.gap i p hi2 hp c2
          have := hf.rn.up l[i] (List.getElem_mem _)
          omega
/-- The place itself. -/
def rat (t : Int) : List (Int × Int) → Nat
  | [] => 0
  | r :: l => if r.2 < t then rat t l + 1 else 0
theorem rat_at (t : Int) : ∀ {l : List (Int × Int)}, Rn l → AtR l t (rat t l)
  | [], _ => ⟨Nat.le_refl _, fun p r h _ => by simp [rat] at h, fun p r _ h => by simp at h⟩
  | r :: l, h => by
    obtain ⟨h1, h2, h3⟩ := rat_at t h.tail
    unfold rat
    by_cases hc : r.2 < t
    · rw [if_pos hc]
      refine ⟨by simp only [List.length_cons]; omega, fun p s hp hs => ?_, fun p s hp hs => ?_⟩
      · cases p with
        | zero => simp at hs; subst hs; exact hc
        | succ p => exact h2 p s (by omega) (by simpa using hs)
      · cases p with
        | zero => omega
        | succ p => exact h3 p s (by omega) (by simpa using hs)
    · rw [if_neg hc]
      refine ⟨Nat.zero_le _, fun p s hp => by omega, fun p s _ hs => ?_⟩
      cases p with
      | zero => simp at hs; subst hs; omega
      | succ p =>
        have hm := List.mem_of_getElem? (show l[p]? = some s by simpa using hs)
        have := (List.pairwise_cons.1 h.gap).1 s hm
        have := h.up s (by simp [hm])
        omega
theorem AtR.one {l : List (Int × Int)} {t : Int} {i j : Nat} (h : AtR l t i) (k : AtR l t j) : i = j := by
  obtain ⟨h1, h2, h3⟩ := h
  obtain ⟨k1, k2, k3⟩ := k
  rcases Nat.lt_trichotomy i j with c | c | c
  · have hi : l[i]? = some l[i] := List.getElem?_eq_getElem (by omega)
    have := k2 i _ c hi; have := h3 i _ (Nat.le_refl _) hi; omega
  · exact c
  · have hi : l[j]? = some l[j] := List.getElem?_eq_getElem (by omega)
    have := h2 j _ c hi; have := k3 j _ (Nat.le_refl _) hi; omega
def nextR (t : Int) (l : List (Int × Int)) : Int × Bool :=
  match l[rat t l]? with
  | some r => (max t r.1, true)
  | none => (0, false)
open Classical in
noncomputable def prevR (t : Int) (l : List (Int × Int)) : Int × Bool :=
  if inR l t then (t, true) else if rat t l = 0 then (0, false) else
    match l[rat t l - 1]? with
    | some r => (r.2, true)
    | none => (0, false)
theorem nextR_ok {l : List (Int × Int)} {f : Nat → Bool} (hf : RF l f) {t : Nat} (ht : t < 65536) : IsNext f t (atL (nextR t l)) ∧ 0 ≤ (nextR t l).1 ∧ (nextR t l).1 < 65536 := by
  have ha := rat_at t hf.rn
  obtain ⟨h1, h2⟩ := ha.next hf
  unfold nextR
  cases hr : l[rat t l]? with
  | some r =>
    have hb := hf.b16 r (List.mem_of_getElem? hr)
    refine ⟨h2 r hr, ?_⟩
    simp only; omega
  | none =>
    have : l.length ≤ rat t l := List.getElem?_eq_none_iff.1 hr
    exact ⟨h1 (Nat.le_antisymm ha.1 this), by simp⟩
theorem prevR_ok {l : List (Int × Int)} {f : Nat → Bool} (hf : RF l f) {t : Nat} (ht : t < 65536) : IsPrev f t (atL (prevR t l)) ∧ 0 ≤ (prevR t l).1 ∧ (prevR t l).1 < 65536 := by
  have ha := rat_at t hf.rn
  obtain ⟨h1, h2⟩ := ha.prev ht hf
  have hh := ha.has hf.rn
  unfold prevR
  by_cases hi : inR l t
  · rw [if_pos hi]
    obtain ⟨r, hr, hrt⟩ := hh.1 hi
    exact ⟨h1 r hr hrt, by simp only; omega⟩
  · rw [if_neg hi]
    obtain ⟨h3, h4⟩ := h2 (fun r hr hrt => hi (hh.2 ⟨r, hr, hrt⟩))
    by_cases h0 : rat t l = 0
    · rw [if_pos h0]; exact ⟨h3 h0, by simp⟩
    · rw [if_neg h0]
      have hlt : rat t l - 1 < l.length := by have := ha.1; omega
      have hr : l[rat t l - 1]? = some l[rat t l - 1] := List.getElem?_eq_getElem hlt
      rw [hr]
      have hb := hf.b16 _ (List.mem_of_getElem? hr)
      exact ⟨h4 _ (by omega) hr, by simp only; omega⟩
theorem rsel_bnd {l : List (Int × Int)} {f : Nat → Bool} (hf : RF l f) {k : Int} (hk : 0 ≤ k) : 0 ≤ (rsel k l).1 ∧ (rsel k l).1 < 65536 := by
  rw [rsel_sel hf.rn hk]
  refine selL_bnd (fun x hx => ?_) k
  obtain ⟨p, hp, h1, h2⟩ := rlist_mem.1 hx
  have := hf.b16 p hp; omega
end Go.Proofs.Ythcjnijggebcaaa
