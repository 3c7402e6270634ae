/- A table with places in a ring: entries stand at their home or behind it, with no hole on the way. Plain Lean: finding, putting, taking out with what stands behind moved up. -/
import Derived.Test.YtnbanbfnabhjjaaFlat
namespace Go.Proofs.Ytnbanbfnabhjjaa
set_option linter.unusedVariables false
set_option linter.unusedSimpArgs false

/-- How far i is behind a, round. -/
def far (N a i : Nat) : Nat := if a ≤ i then i - a else i + N - a
/-- The place behind. -/
def nx (N i : Nat) : Nat := if i + 1 < N then i + 1 else 0
/-- The place d behind a. -/
def up (N a d : Nat) : Nat := if a + d < N then a + d else a + d - N
theorem far_spec {N a i : Nat} (ha : a < N) (hi : i < N) : far N a i < N ∧ (a + far N a i = i ∨ a + far N a i = i + N) := by unfold far; split <;> omega
theorem nx_spec {N i : Nat} (hi : i < N) : nx N i < N ∧ (nx N i = i + 1 ∨ (nx N i = 0 ∧ i + 1 = N)) := by unfold nx; split <;> omega
theorem up_spec {N a d : Nat} (ha : a < N) (hd : d < N) : up N a d < N ∧ (up N a d = a + d ∨ up N a d + N = a + d) := by unfold up; split <;> omega
theorem far_self (N a : Nat) : far N a a = 0 := by unfold far; simp
theorem far_up {N a d : Nat} (ha : a < N) (hd : d < N) : far N a (up N a d) = d := by
  have h1 := up_spec ha hd; have h2 := far_spec ha h1.1; omega
theorem up_far {N a i : Nat} (ha : a < N) (hi : i < N) : up N a (far N a i) = i := by
  have h2 := far_spec ha hi; have h1 := up_spec ha h2.1; omega
theorem nx_up {N a d : Nat} (ha : a < N) (hd : d + 1 < N) : nx N (up N a d) = up N a (d + 1) := by
  have h1 := up_spec (d := d) ha (by omega); have h2 := up_spec ha hd; have h3 := nx_spec h1.1; omega
theorem far_inj {N a i j : Nat} (ha : a < N) (hi : i < N) (hj : j < N) (h : far N a i = far N a j) : i = j := by
  have h1 := far_spec ha hi; have h2 := far_spec ha hj; omega

section
variable {κ ν : Type}
abbrev Tb (κ ν : Type) := List (Option (κ × ν))
def pl (L : Tb κ ν) (i : Nat) : Option (κ × ν) := (L[i]?).join
def ents (L : Tb κ ν) : List (κ × ν) := L.filterMap id
theorem pl_lt {L : Tb κ ν} {i : Nat} {e : κ × ν} (h : pl L i = some e) : i < L.length := by
  unfold pl at h; rcases Nat.lt_or_ge i L.length with h1 | h1
  · exact h1
  · rw [List.getElem?_eq_none h1] at h; cases h
theorem pl_get {L : Tb κ ν} {i : Nat} (h : i < L.length) : L[i]? = some (pl L i) := by
  unfold pl; rw [List.getElem?_eq_getElem h]; rfl
theorem pl_set {L : Tb κ ν} {i j : Nat} (o : Option (κ × ν)) (hi : i < L.length) : pl (L.set i o) j = if i = j then o else pl L j := by
  unfold pl; rw [List.getElem?_set]; split
  · rename_i h; subst h; simp [hi]
  · rfl
theorem mem_ents {L : Tb κ ν} {e : κ × ν} : e ∈ ents L ↔ ∃ p, pl L p = some e := by
  unfold ents; simp only [List.mem_filterMap, id]
  constructor
  · rintro ⟨o, ho, rfl⟩
    obtain ⟨p, hp⟩ := List.mem_iff_getElem?.1 ho
    exact ⟨p, by simp [pl, hp]⟩
  · rintro ⟨p, hp⟩
    have := pl_get (pl_lt hp)
    rw [hp] at this
    exact ⟨some e, List.mem_iff_getElem?.2 ⟨p, this⟩, rfl⟩
theorem ents_set {L : Tb κ ν} {i : Nat} (hi : i < L.length) (o : Option (κ × ν)) : (o.toList ++ ents L).Perm ((pl L i).toList ++ ents (L.set i o)) := by
  have h1 : L = L.take i ++ pl L i :: L.drop (i + 1) := by
    conv => lhs; rw [← List.take_append_drop i L]
    congr 1
    rw [List.drop_eq_getElem_cons hi]; congr 1
    have := pl_get hi; rw [List.getElem?_eq_getElem hi] at this; simpa using this
  have h2 : L.set i o = L.take i ++ o :: L.drop (i + 1) := by rw [List.set_eq_take_append_cons_drop, if_pos hi]
  have g : ∀ o' : Option (κ × ν), ents (L.take i ++ o' :: L.drop (i + 1)) = ents (L.take i) ++ (o'.toList ++ ents (L.drop (i + 1))) := by
    intro o'; unfold ents; rw [List.filterMap_append]; cases o' <;> simp
  rw [h2, g]
  conv => lhs; rw [h1, g]
  have hp : ∀ (A B C D : List (κ × ν)), (A ++ (B ++ (C ++ D))).Perm (C ++ (B ++ (A ++ D))) := by
    intro A B C D
    have e1 : (A ++ (B ++ (C ++ D))).Perm ((C ++ D) ++ (A ++ B)) := by rw [← List.append_assoc]; exact List.perm_append_comm
    have e2 : (C ++ (B ++ (A ++ D))).Perm (C ++ (D ++ (A ++ B))) := by
      apply List.Perm.append_left
      have : (B ++ (A ++ D)).Perm ((A ++ D) ++ B) := List.perm_append_comm
      refine this.trans ?_
      have h3 : ((A ++ D) ++ B).Perm (B ++ (A ++ D)) := List.perm_append_comm
      have h4 : (A ++ D).Perm (D ++ A) := List.perm_append_comm
      have h5 := h4.append_right B
      simpa [List.append_assoc] using h5
    refine e1.trans ?_
    rw [List.append_assoc]; exact e2.symm
  exact hp _ _ _ _

/-- No two places have one key; from each entry's home on to it no place is free. -/
structure HInv (h : κ → Nat) (L : Tb κ ν) : Prop where
  home : ∀ k, h k < L.length
  path : ∀ p e, pl L p = some e → ∀ q, q < L.length → far L.length (h e.1) q < far L.length (h e.1) p → pl L q ≠ none
  uniq : ∀ p q e e', pl L p = some e → pl L q = some e' → e.1 = e'.1 → p = q

theorem least {P : Nat → Prop} : ∀ n, P n → ∃ d, d ≤ n ∧ P d ∧ ∀ j, j < d → ¬ P j := by
  intro n
  induction n using Nat.strongRecOn with
  | _ n ih =>
    intro hn
    by_cases hx : ∃ j, j < n ∧ P j
    · obtain ⟨j, hj, hp⟩ := hx
      obtain ⟨d, h1, h2, h3⟩ := ih j hj hp
      exact ⟨d, by omega, h2, h3⟩
    · exact ⟨n, Nat.le_refl _, hn, fun j hj hp => hx ⟨j, hj, hp⟩⟩
/-- Where looking for a key stops: d places behind its home. -/
structure Stop (h : κ → Nat) (L : Tb κ ν) (k : κ) (d : Nat) : Prop where
  lt : d < L.length
  on : ∀ j, j < d → ∃ e, pl L (up L.length (h k) j) = some e ∧ e.1 ≠ k
  at_ : ∀ e, pl L (up L.length (h k) d) = some e → e.1 = k
theorem stop_exists {h : κ → Nat} {L : Tb κ ν} (hh : ∀ k, h k < L.length) {z : Nat} (hz : z < L.length) (hfree : pl L z = none) (k : κ) : ∃ d, Stop h L k d := by
  obtain ⟨d, h1, h2, h3⟩ := least (P := fun d => ∀ e, pl L (up L.length (h k) d) = some e → e.1 = k) (far L.length (h k) z) (by rw [up_far (hh k) hz, hfree]; simp)
  have hf := far_spec (hh k) hz
  refine ⟨d, ⟨by omega, fun j hj => ?_, h2⟩⟩
  have := h3 j hj
  simp only [Classical.not_forall] at this
  obtain ⟨e, he, hne⟩ := this
  exact ⟨e, he, hne⟩
/-- A free place at the stop: the key is nowhere. -/
theorem Stop.absent {h : κ → Nat} {L : Tb κ ν} (H : HInv h L) {k : κ} {d : Nat} (s : Stop h L k d) (hf : pl L (up L.length (h k) d) = none) : ∀ e ∈ ents L, e.1 ≠ k := by
  intro e he hk
  obtain ⟨p, hp⟩ := mem_ents.1 he
  have hpl := pl_lt hp
  have hu := up_spec (H.home k) s.lt
  have hpath := H.path p e hp (up L.length (h k) d) hu.1
  rw [hk, far_up (H.home k) s.lt] at hpath
  rcases Nat.lt_or_ge d (far L.length (h k) p) with hlt | hge
  · exact hpath hlt hf
  · rcases Nat.lt_or_ge (far L.length (h k) p) d with h1 | h1
    · obtain ⟨e', he', hne⟩ := s.on _ h1
      rw [up_far (H.home k) hpl, hp] at he'
      cases he'; exact hne hk
    · have : far L.length (h k) p = d := by omega
      rw [← this, up_far (H.home k) hpl, hp] at hf; cases hf
/-- A key put at the stop. -/
theorem Stop.put {h : κ → Nat} {L : Tb κ ν} (H : HInv h L) {k : κ} {d : Nat} (s : Stop h L k d) (v : ν) : HInv h (L.set (up L.length (h k) d) (some (k, v))) := by
  have hu := up_spec (H.home k) s.lt
  refine ⟨by simpa using H.home, ?_, ?_⟩
  · intro p e hp q hq hfar
    simp only [List.length_set] at hq hfar
    rw [pl_set _ hu.1]; split
    · simp
    · rename_i hqi
      rw [pl_set _ hu.1] at hp; split at hp
      · rename_i hpi; subst hpi; cases hp
        simp only at hfar
        rw [far_up (H.home k) s.lt] at hfar
        obtain ⟨e', he', _⟩ := s.on _ hfar
        rw [up_far (H.home k) hq] at he'; rw [he']; simp
      · exact H.path p e hp q hq hfar
  · intro p q e e' hp hq hk
    rw [pl_set _ hu.1] at hp hq
    by_cases hpi : up L.length (h k) d = p <;> by_cases hqi : up L.length (h k) d = q
    · omega
    · rw [if_pos hpi] at hp; rw [if_neg hqi] at hq; cases hp
      simp only at hk
      have hql := pl_lt hq
      cases hf : pl L (up L.length (h k) d) with
      | none => exact absurd hk.symm (s.absent H hf e' (mem_ents.2 ⟨q, hq⟩))
      | some e2 => exact absurd (H.uniq _ _ _ _ hf hq ((s.at_ _ hf).trans hk)) hqi
    · rw [if_pos hqi] at hq; rw [if_neg hpi] at hp; cases hq
      simp only at hk
      cases hf : pl L (up L.length (h k) d) with
      | none => exact absurd hk (s.absent H hf e (mem_ents.2 ⟨p, hp⟩))
      | some e2 => exact absurd (H.uniq _ _ _ _ hf hp ((s.at_ _ hf).trans hk.symm)) hpi
    · rw [if_neg hpi] at hp; rw [if_neg hqi] at hq; exact H.uniq p q e e' hp hq hk
theorem HInv.empty {h : κ → Nat} {N : Nat} (hh : ∀ k, h k < N) : HInv h (List.replicate N none : Tb κ ν) := by
  have hn : ∀ p, pl (List.replicate N none : Tb κ ν) p = none := by
    intro p; unfold pl; rw [List.getElem?_replicate]; split <;> rfl
  exact ⟨by simpa using hh, fun p e hp => (by rw [hn] at hp; cases hp), fun p q e e' hp => (by rw [hn] at hp; cases hp)⟩
theorem ents_empty (N : Nat) : ents (List.replicate N none : Tb κ ν) = [] := by unfold ents; induction N <;> simp_all [List.replicate_succ]

/-- Taking out: hole is free but for what it still shows; i is the next to be looked at; up to z, which is free, all is full. -/
structure DInv (h : κ → Nat) (l : List (κ × ν)) (L : Tb κ ν) (z hole i : Nat) : Prop where
  home : ∀ k, h k < L.length
  holeL : hole < L.length
  iL : i < L.length
  zL : z < L.length
  free : pl L z = none
  full : pl L hole ≠ none
  le : far L.length hole i ≤ far L.length hole z
  pos : 0 < far L.length hole i
  perm : (ents (L.set hole none)).Perm l
  uniq : ∀ p q e e', p ≠ hole → q ≠ hole → pl L p = some e → pl L q = some e' → e.1 = e'.1 → p = q
  path : ∀ p e, p ≠ hole → pl L p = some e → ∀ q, q < L.length → far L.length (h e.1) q < far L.length (h e.1) p → pl L q ≠ none
  between : ∀ p e, pl L p = some e → 0 < far L.length hole p → far L.length hole p < far L.length hole i → far L.length (h e.1) p ≤ far L.length (h e.1) hole
/-- Once the free place is met the hole may be emptied. -/
theorem DInv.done {h : κ → Nat} {l : List (κ × ν)} {L : Tb κ ν} {z hole i : Nat} (D : DInv h l L z hole i) (hi : pl L i = none) : HInv h (L.set hole none) ∧ (ents (L.set hole none)).Perm l := by
  refine ⟨⟨by simpa using D.home, ?_, ?_⟩, D.perm⟩
  · intro p e hp q hq hfar
    simp only [List.length_set] at hq hfar
    rw [pl_set _ D.holeL] at hp; split at hp
    · cases hp
    · rename_i hpn
      have hpl := pl_lt hp
      have hfull := D.path p e (Ne.symm hpn) hp q hq hfar
      rw [pl_set _ D.holeL]; split
      · rename_i hqh; subst hqh
        exfalso
        have f1 := far_spec D.holeL hpl
        have f2 := far_spec D.holeL D.iL
        have f3 := far_spec (D.home e.1) hpl
        have f4 := far_spec (D.home e.1) D.holeL
        have f5 := far_spec (D.home e.1) D.iL
        have b1 := D.iL
        have b2 := D.holeL
        have b3 := D.home e.1
        have hp0 : 0 < far L.length hole p := by omega
        rcases Nat.lt_or_ge (far L.length hole p) (far L.length hole i) with hlt | hge
        · have := D.between p e hp hp0 hlt; omega
        · have hip : i ≠ p := by rintro rfl; rw [hi] at hp; cases hp
          exact D.path p e (Ne.symm hpn) hp i D.iL (by omega) hi
      · exact hfull
  · intro p q e e' hp hq hk
    rw [pl_set _ D.holeL] at hp hq
    split at hp
    · cases hp
    · split at hq
      · cases hq
      · exact D.uniq p q e e' (by omega) (by omega) hp hq hk
/-- What stands at i stays. -/
theorem DInv.stay {h : κ → Nat} {l : List (κ × ν)} {L : Tb κ ν} {z hole i : Nat} (D : DInv h l L z hole i) {e : κ × ν} (hi : pl L i = some e) (hf : far L.length (h e.1) i < far L.length hole i) : DInv h l L z hole (nx L.length i) ∧ far L.length (nx L.length i) z + 1 = far L.length i z := by
  have n1 := nx_spec D.iL
  have f1 := far_spec D.holeL D.iL
  have f2 := far_spec D.holeL n1.1
  have f3 := far_spec D.holeL D.zL
  have f6 := far_spec D.iL D.zL
  have f7 := far_spec n1.1 D.zL
  have hiz : i ≠ z := by rintro rfl; rw [D.free] at hi; cases hi
  have hle := D.le
  have hlt : far L.length hole i < far L.length hole z := by
    rcases Nat.lt_or_ge (far L.length hole i) (far L.length hole z) with h1 | h1
    · exact h1
    · exact absurd (far_inj D.holeL D.iL D.zL (by omega)) hiz
  refine ⟨⟨D.home, D.holeL, n1.1, D.zL, D.free, D.full, by omega, by omega, D.perm, D.uniq, D.path, ?_⟩, by omega⟩
  intro p e' hp h0 hp2
  have hpl := pl_lt hp
  rcases Nat.lt_or_ge (far L.length hole p) (far L.length hole i) with h1 | h1
  · exact D.between p e' hp h0 h1
  · have f8 := far_spec D.holeL hpl
    have hpi : p = i := far_inj D.holeL hpl D.iL (by omega)
    subst hpi
    rw [hi] at hp; cases hp
    have f9 := far_spec (D.home e.1) D.iL
    have f10 := far_spec (D.home e.1) D.holeL
    omega
/-- What stands at i moves up into the hole. -/
theorem DInv.move {h : κ → Nat} {l : List (κ × ν)} {L : Tb κ ν} {z hole i : Nat} (D : DInv h l L z hole i) {e : κ × ν} (hi : pl L i = some e) (hf : far L.length hole i ≤ far L.length (h e.1) i) :
    DInv h l (L.set hole (some e)) z i (nx L.length i) ∧ far L.length (nx L.length i) z + 1 = far L.length i z := by
  have n1 := nx_spec D.iL
  have f1 := far_spec D.holeL D.iL
  have f3 := far_spec D.holeL D.zL
  have f6 := far_spec D.iL D.zL
  have f7 := far_spec n1.1 D.zL
  have f8 := far_spec D.iL n1.1
  have hpos := D.pos
  have hle := D.le
  have hhi : hole ≠ i := by rintro rfl; rw [far_self] at hpos; omega
  have hiz : i ≠ z := by rintro rfl; rw [D.free] at hi; cases hi
  have hhz : hole ≠ z := by rintro rfl; exact D.full D.free
  have hfe : far L.length (h e.1) hole ≤ far L.length (h e.1) i := by
    have f9 := far_spec (D.home e.1) D.iL
    have f10 := far_spec (D.home e.1) D.holeL
    omega
  have hlt : far L.length hole i < far L.length hole z := by
    rcases Nat.lt_or_ge (far L.length hole i) (far L.length hole z) with h1 | h1
    · exact h1
    · exact absurd (far_inj D.holeL D.iL D.zL (by omega)) hiz
  refine ⟨⟨by simpa using D.home, by simpa using D.iL, by simpa using n1.1, by simpa using D.zL, ?_, ?_, ?_, ?_, ?_, ?_, ?_, ?_⟩, by omega⟩
  · rw [pl_set _ D.holeL, if_neg hhz]; exact D.free
  · rw [pl_set _ D.holeL, if_neg hhi, hi]; simp
  · simp only [List.length_set]; omega
  · simp only [List.length_set]; omega
  · have hc : (L.set hole (some e)).set i none = ((L.set hole none).set i none).set hole (some e) := by
      apply List.ext_getElem?; intro n
      simp only [List.getElem?_set, List.length_set]; grind
    have hL1 : i < (L.set hole none).length := by simpa using D.iL
    have hL2 : hole < ((L.set hole none).set i none).length := by simpa using D.holeL
    have p1 := ents_set hL1 none
    have p2 := ents_set hL2 (some e)
    have e1 : pl (L.set hole none) i = some e := by rw [pl_set _ D.holeL, if_neg hhi, hi]
    have e2 : pl ((L.set hole none).set i none) hole = none := by rw [pl_set _ hL1, if_neg (Ne.symm hhi), pl_set _ D.holeL, if_pos rfl]
    rw [e1] at p1
    rw [e2] at p2
    simp only [Option.toList_none, Option.toList_some, List.nil_append] at p1 p2
    rw [hc]
    exact p2.symm.trans (p1.symm.trans D.perm)
  · intro p q e1 e2 hpn hqn hp hq hk
    rw [pl_set _ D.holeL] at hp hq
    by_cases h1 : hole = p <;> by_cases h2 : hole = q
    · omega
    · rw [if_pos h1] at hp; rw [if_neg h2] at hq; cases hp
      exact absurd (D.uniq i q e e2 (Ne.symm hhi) (Ne.symm h2) hi hq hk) (Ne.symm hqn)
    · rw [if_pos h2] at hq; rw [if_neg h1] at hp; cases hq
      exact absurd (D.uniq p i e1 e (Ne.symm h1) (Ne.symm hhi) hp hi hk) hpn
    · rw [if_neg h1] at hp; rw [if_neg h2] at hq; exact D.uniq p q e1 e2 (Ne.symm h1) (Ne.symm h2) hp hq hk
  · intro p e' hpn hp q hq hfar
    simp only [List.length_set] at hq hfar
    rw [pl_set _ D.holeL]; split
    · simp
    · rename_i hqn
      rw [pl_set _ D.holeL] at hp; split at hp
      · rename_i hph; subst hph; cases hp
        exact D.path i e (Ne.symm hhi) hi q hq (by omega)
      · rename_i hph; exact D.path p e' (Ne.symm hph) hp q hq hfar
  · intro p e' hp h0 h1
    simp only [List.length_set] at h0 h1 ⊢
    have hpl := pl_lt hp
    simp only [List.length_set] at hpl
    have f11 := far_spec D.iL hpl
    have : far L.length i (nx L.length i) = 1 := by omega
    omega
/-- The start: an entry's place is the hole. -/
theorem HInv.del {h : κ → Nat} {L : Tb κ ν} (H : HInv h L) {hole z : Nat} {e : κ × ν} (he : pl L hole = some e) (hz : z < L.length) (hfree : pl L z = none) {l : List (κ × ν)} (hp : (ents L).Perm (e :: l)) :
    DInv h l L z hole (nx L.length hole) := by
  have hL := pl_lt he
  have n1 := nx_spec hL
  have f1 := far_spec hL n1.1
  have f2 := far_spec hL hz
  have hhz : hole ≠ z := by rintro rfl; rw [hfree] at he; cases he
  have h0 : 0 < far L.length hole z := by omega
  refine ⟨H.home, hL, n1.1, hz, hfree, by rw [he]; simp, by omega, by omega, ?_, fun p q e e' _ _ => H.uniq p q e e', fun p e _ => H.path p e, ?_⟩
  · have p1 := ents_set hL none
    rw [he] at p1
    simp only [Option.toList_none, Option.toList_some, List.nil_append, List.singleton_append] at p1
    exact (p1.symm.trans hp).cons_inv
  · intro p e' hp' h0' h1
    have hpl := pl_lt hp'
    have f3 := far_spec hL hpl
    omega
end
end Go.Proofs.Ytnbanbfnabhjjaa
