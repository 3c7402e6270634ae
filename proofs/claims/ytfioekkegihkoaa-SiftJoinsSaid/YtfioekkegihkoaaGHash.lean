/- Texts joined: HashM, Hash0, Hash1, Hash2. -/
import Derived.Test.YtfioekkegihkoaaGLib
import Derived.Test.YtfioekkegihkoaaProg
import Derived.OpenShut
import Derived.Test.YtfioekkegihkoaaLen
set_option linter.unusedVariables false
set_option linter.unusedSimpArgs false
/- A table with places in a ring: entries stand at their home or behind it, with no hole on the way. Plain Lean: finding, putting, taking out with what stands behind moved up. -/
namespace Go.Proofs.Ytfioekkegihkoaa
set_option linter.unusedVariables false
set_option linter.unusedSimpArgs false

/-- How far i is behind a, round. -/
def far (N a i : Nat) : Nat := if a ≤ i then i - a else i + N - a
/-- The place behind. -/
def nx (N i : Nat) : Nat := if i + 1 < N then i + 1 else 0
/-- The place d behind a. -/
def up (N a d : Nat) : Nat := if a + d < N then a + d else a + d - N
theorem far_spec {N a i : Nat} (ha : a < N) (hi : i < N) : far N a i < N ∧ (a + far N a i = i ∨ a + far N a i = i + N) := by unfold far; split <;> omega
theorem nx_spec {N i : Nat} (hi : i < N) : nx N i < N ∧ (nx N i = i + 1 ∨ (nx N i = 0 ∧ i + 1 = N)) := by unfold nx; split <;> omega
theorem up_spec {N a d : Nat} (ha : a < N) (hd : d < N) : up N a d < N ∧ (up N a d = a + d ∨ up N a d + N = a + d) := by unfold up; split <;> omega
theorem far_self (N a : Nat) : far N a a = 0 := by unfold far; simp
theorem far_up {N a d : Nat} (ha : a < N) (hd : d < N) : far N a (up N a d) = d := by
  have h1 := up_spec ha hd; have h2 := far_spec ha h1.1; omega
theorem up_far {N a i : Nat} (ha : a < N) (hi : i < N) : up N a (far N a i) = i := by
  have h2 := far_spec ha hi; have h1 := up_spec ha h2.1; omega
theorem nx_up {N a d : Nat} (ha : a < N) (hd : d + 1 < N) : nx N (up N a d) = up N a (d + 1) := by
  have h1 := up_spec (d := d) ha (by omega); have h2 := up_spec ha hd; have h3 := nx_spec h1.1; omega
theorem far_inj {N a i j : Nat} (ha : a < N) (hi : i < N) (hj : j < N) (h : far N a i = far N a j) : i = j := by
  have h1 := far_spec ha hi; have h2 := far_spec ha hj; omega

section
variable {κ ν : Type}
abbrev Tb (κ ν : Type) := List (Option (κ × ν))
def pl (L : Tb κ ν) (i : Nat) : Option (κ × ν) := (L[i]?).join
def ents (L : Tb κ ν) : List (κ × ν) := L.filterMap id
theorem pl_lt {L : Tb κ ν} {i : Nat} {e : κ × ν} (h : pl L i = some e) : i < L.length := by
  unfold pl at h; rcases Nat.lt_or_ge i L.length with h1 | h1
  · exact h1
  · rw [List.getElem?_eq_none h1] at h; cases h
theorem pl_get {L : Tb κ ν} {i : Nat} (h : i < L.length) : L[i]? = some (pl L i) := by
  unfold pl; rw [List.getElem?_eq_getElem h]; rfl
theorem pl_set {L : Tb κ ν} {i j : Nat} (o : Option (κ × ν)) (hi : i < L.length) : pl (L.set i o) j = if i = j then o else pl L j := by
  unfold pl; rw [List.getElem?_set]; split
  · rename_i h; subst h; simp [hi]
  · rfl
theorem mem_ents {L : Tb κ ν} {e : κ × ν} : e ∈ ents L ↔ ∃ p, pl L p = some e := by
  unfold ents; simp only [List.mem_filterMap, id]
  constructor
  · rintro ⟨o, ho, rfl⟩
    obtain ⟨p, hp⟩ := List.mem_iff_getElem?.1 ho
    exact ⟨p, by simp [pl, hp]⟩
  · rintro ⟨p, hp⟩
    have := pl_get (pl_lt hp)
    rw [hp] at this
    exact ⟨some e, List.mem_iff_getElem?.2 ⟨p, this⟩, rfl⟩
theorem ents_set {L : Tb κ ν} {i : Nat} (hi : i < L.length) (o : Option (κ × ν)) : (o.toList ++ ents L).Perm ((pl L i).toList ++ ents (L.set i o)) := by
  have h1 : L = L.take i ++ pl L i :: L.drop (i + 1) := by
    conv => lhs; rw [← List.take_append_drop i L]
    congr 1
    rw [List.drop_eq_getElem_cons hi]; congr 1
    have := pl_get hi; rw [List.getElem?_eq_getElem hi] at this; simpa using this
  have h2 : L.set i o = L.take i ++ o :: L.drop (i + 1) := by rw [List.set_eq_take_append_cons_drop, if_pos hi]
  have g : ∀ o' : Option (κ × ν), ents (L.take i ++ o' :: L.drop (i + 1)) = ents (L.take i) ++ (o'.toList ++ ents (L.drop (i + 1))) := by
    intro o'; unfold ents; rw [List.filterMap_append]; cases o' <;> simp
  rw [h2, g]
  conv => lhs; rw [h1, g]
  have hp : ∀ (A B C D : List (κ × ν)), (A ++ (B ++ (C ++ D))).Perm (C ++ (B ++ (A ++ D))) := by
    intro A B C D
    have e1 : (A ++ (B ++ (C ++ D))).Perm ((C ++ D) ++ (A ++ B)) := by rw [← List.append_assoc]; exact List.perm_append_comm
    have e2 : (C ++ (B ++ (A ++ D))).Perm (C ++ (D ++ (A ++ B))) := by
      apply List.Perm.append_left
      have : (B ++ (A ++ D)).Perm ((A ++ D) ++ B) := List.perm_append_comm
      refine this.trans ?_
      have h3 : ((A ++ D) ++ B).Perm (B ++ (A ++ D)) := List.perm_append_comm
      have h4 : (A ++ D).Perm (D ++ A) := List.perm_append_comm
      have h5 := h4.append_right B
      simpa [List.append_assoc] using h5
    refine e1.trans ?_
    rw [List.append_assoc]; exact e2.symm
  exact hp _ _ _ _

/-- No two places have one key; from each entry's home on to it no place is free. -/
structure HInv (h : κ → Nat) (L : Tb κ ν) : Prop where
  home : ∀ k, h k < L.length
  path : ∀ p e, pl L p = some e → ∀ q, q < L.length → far L.length (h e.1) q < far L.length (h e.1) p → pl L q ≠ none
  uniq : ∀ p q e e', pl L p = some e → pl L q = some e' → e.1 = e'.1 → p = q

theorem least {P : Nat → Prop} : ∀ n, P n → ∃ d, d ≤ n ∧ P d ∧ ∀ j, j < d → ¬ P j := by
  intro n
  induction n using Nat.strongRecOn with
  | _ n ih =>
    intro hn
    by_cases hx : ∃ j, j < n ∧ P j
    · obtain ⟨j, hj, hp⟩ := hx
      obtain ⟨d, h1, h2, h3⟩ := ih j hj hp
      exact ⟨d, by omega, h2, h3⟩
    · exact ⟨n, Nat.le_refl _, hn, fun j hj hp => hx ⟨j, hj, hp⟩⟩
/-- Where looking for a key stops: d places behind its home. -/
structure Stop (h : κ → Nat) (L : Tb κ ν) (k : κ) (d : Nat) : Prop where
  lt : d < L.length
  on : ∀ j, j < d → ∃ e, pl L (up L.length (h k) j) = some e ∧ e.1 ≠ k
  at_ : ∀ e, pl L (up L.length (h k) d) = some e → e.1 = k
theorem stop_exists {h : κ → Nat} {L : Tb κ ν} (hh : ∀ k, h k < L.length) {z : Nat} (hz : z < L.length) (hfree : pl L z = none) (k : κ) : ∃ d, Stop h L k d := by
  obtain ⟨d, h1, h2, h3⟩ := least (P := fun d => ∀ e, pl L (up L.length (h k) d) = some e → e.1 = k) (far L.length (h k) z) (by rw [up_far (hh k) hz, hfree]; simp)
  have hf := far_spec (hh k) hz
  refine ⟨d, ⟨by omega, fun j hj => ?_, h2⟩⟩
  have := h3 j hj
  simp only [Classical.not_forall] at this
  obtain ⟨e, he, hne⟩ := this
  exact ⟨e, he, hne⟩
/-- A free place at the stop: the key is nowhere. -/
theorem Stop.absent {h : κ → Nat} {L : Tb κ ν} (H : HInv h L) {k : κ} {d : Nat} (s : Stop h L k d) (hf : pl L (up L.length (h k) d) = none) : ∀ e ∈ ents L, e.1 ≠ k := by
  intro e he hk
  obtain ⟨p, hp⟩ := mem_ents.1 he
  have hpl := pl_lt hp
  have hu := up_spec (H.home k) s.lt
  have hpath := H.path p e hp (up L.length (h k) d) hu.1
  rw [hk, far_up (H.home k) s.lt] at hpath
  rcases Nat.lt_or_ge d (far L.length (h k) p) with hlt | hge
  · exact hpath hlt hf
  · rcases Nat.lt_or_ge (far L.length (h k) p) d with h1 | h1
    · obtain ⟨e', he', hne⟩ := s.on _ h1
      rw [up_far (H.home k) hpl, hp] at he'
      cases he'; exact hne hk
    · have : far L.length (h k) p = d := by omega
      rw [← this, up_far (H.home k) hpl, hp] at hf; cases hf
/-- A key put at the stop. -/
theorem Stop.put {h : κ → Nat} {L : Tb κ ν} (H : HInv h L) {k : κ} {d : Nat} (s : Stop h L k d) (v : ν) : HInv h (L.set (up L.length (h k) d) (some (k, v))) := by
  have hu := up_spec (H.home k) s.lt
  refine ⟨by simpa using H.home, ?_, ?_⟩
  · intro p e hp q hq hfar
    simp only [List.length_set] at hq hfar
    rw [pl_set _ hu.1]; split
    · simp
    · rename_i hqi
      rw [pl_set _ hu.1] at hp; split at hp
      · rename_i hpi; subst hpi; cases hp
        simp only at hfar
        rw [far_up (H.home k) s.lt] at hfar
        obtain ⟨e', he', _⟩ := s.on _ hfar
        rw [up_far (H.home k) hq] at he'; rw [he']; simp
      · exact H.path p e hp q hq hfar
  · intro p q e e' hp hq hk
    rw [pl_set _ hu.1] at hp hq
    by_cases hpi : up L.length (h k) d = p <;> by_cases hqi : up L.length (h k) d = q
    · omega
    · rw [if_pos hpi] at hp; rw [if_neg hqi] at hq; cases hp
      simp only at hk
      have hql := pl_lt hq
      cases hf : pl L (up L.length (h k) d) with
      | none => exact absurd hk.symm (s.absent H hf e' (mem_ents.2 ⟨q, hq⟩))
      | some e2 => exact absurd (H.uniq _ _ _ _ hf hq ((s.at_ _ hf).trans hk)) hqi
    · rw [if_pos hqi] at hq; rw [if_neg hpi] at hp; cases hq
      simp only at hk
      cases hf : pl L (up L.length (h k) d) with
      | none => exact absurd hk (s.absent H hf e (mem_ents.2 ⟨p, hp⟩))
      | some e2 => exact absurd (H.uniq _ _ _ _ hf hp ((s.at_ _ hf).trans hk.symm)) hpi
    · rw [if_neg hpi] at hp; rw [if_neg hqi] at hq; exact H.uniq p q e e' hp hq hk
theorem HInv.empty {h : κ → Nat} {N : Nat} (hh : ∀ k, h k < N) : HInv h (List.replicate N none : Tb κ ν) := by
  have hn : ∀ p, pl (List.replicate N none : Tb κ ν) p = none := by
    intro p; unfold pl; rw [List.getElem?_replicate]; split <;> rfl
  exact ⟨by simpa using hh, fun p e hp => (by rw [hn] at hp; cases hp), fun p q e e' hp => (by rw [hn] at hp; cases hp)⟩
theorem ents_empty (N : Nat) : ents (List.replicate N none : Tb κ ν) = [] := by unfold ents; induction N <;> simp_all [List.replicate_succ]

/-- Taking out: hole is free but for what it still shows; i is the next to be looked at; up to z, which is free, all is full. -/
structure DInv (h : κ → Nat) (l : List (κ × ν)) (L : Tb κ ν) (z hole i : Nat) : Prop where
  home : ∀ k, h k < L.length
  holeL : hole < L.length
  iL : i < L.length
  zL : z < L.length
  free : pl L z = none
  full : pl L hole ≠ none
  le : far L.length hole i ≤ far L.length hole z
  pos : 0 < far L.length hole i
  perm : (ents (L.set hole none)).Perm l
  uniq : ∀ p q e e', p ≠ hole → q ≠ hole → pl L p = some e → pl L q = some e' → e.1 = e'.1 → p = q
  path : ∀ p e, p ≠ hole → pl L p = some e → ∀ q, q < L.length → far L.length (h e.1) q < far L.length (h e.1) p → pl L q ≠ none
  between : ∀ p e, pl L p = some e → 0 < far L.length hole p → far L.length hole p < far L.length hole i → far L.length (h e.1) p ≤ far L.length (h e.1) hole
/-- Once the free place is met the hole may be emptied. -/
theorem DInv.done {h : κ → Nat} {l : List (κ × ν)} {L : Tb κ ν} {z hole i : Nat} (D : DInv h l L z hole i) (hi : pl L i = none) : HInv h (L.set hole none) ∧ (ents (L.set hole none)).Perm l := by
  refine ⟨⟨by simpa using D.home, ?_, ?_⟩, D.perm⟩
  · intro p e hp q hq hfar
    simp only [List.length_set] at hq hfar
    rw [pl_set _ D.holeL] at hp; split at hp
    · cases hp
    · rename_i hpn
      have hpl := pl_lt hp
      have hfull := D.path p e (Ne.symm hpn) hp q hq hfar
      rw [pl_set _ D.holeL]; split
      · rename_i hqh; subst hqh
        exfalso
        have f1 := far_spec D.holeL hpl
        have f2 := far_spec D.holeL D.iL
        have f3 := far_spec (D.home e.1) hpl
        have f4 := far_spec (D.home e.1) D.holeL
        have f5 := far_spec (D.home e.1) D.iL
        have b1 := D.iL
        have b2 := D.holeL
        have b3 := D.home e.1
        have hp0 : 0 < far L.length hole p := by omega
        rcases Nat.lt_or_ge (far L.length hole p) (far L.length hole i) with hlt | hge
        · have := D.between p e hp hp0 hlt; omega
        · have hip : i ≠ p := by rintro rfl; rw [hi] at hp; cases hp
          exact D.path p e (Ne.symm hpn) hp i D.iL (by omega) hi
      · exact hfull
  · intro p q e e' hp hq hk
    rw [pl_set _ D.holeL] at hp hq
    split at hp
    · cases hp
    · split at hq
      · cases hq
      · exact D.uniq p q e e' (by omega) (by omega) hp hq hk
/-- What stands at i stays. -/
theorem DInv.stay {h : κ → Nat} {l : List (κ × ν)} {L : Tb κ ν} {z hole i : Nat} (D : DInv h l L z hole i) {e : κ × ν} (hi : pl L i = some e) (hf : far L.length (h e.1) i < far L.length hole i) : DInv h l L z hole (nx L.length i) ∧ far L.length (nx L.length i) z + 1 = far L.length i z := by
  have n1 := nx_spec D.iL
  have f1 := far_spec D.holeL D.iL
  have f2 := far_spec D.holeL n1.1
  have f3 := far_spec D.holeL D.zL
  have f6 := far_spec D.iL D.zL
  have f7 := far_spec n1.1 D.zL
  have hiz : i ≠ z := by rintro rfl; rw [D.free] at hi; cases hi
  have hle := D.le
  have hlt : far L.length hole i < far L.length hole z := by
    rcases Nat.lt_or_ge (far L.length hole i) (far L.length hole z) with h1 | h1
    · exact h1
    · exact absurd (far_inj D.holeL D.iL D.zL (by omega)) hiz
  refine ⟨⟨D.home, D.holeL, n1.1, D.zL, D.free, D.full, by omega, by omega, D.perm, D.uniq, D.path, ?_⟩, by omega⟩
  intro p e' hp h0 hp2
  have hpl := pl_lt hp
  rcases Nat.lt_or_ge (far L.length hole p) (far L.length hole i) with h1 | h1
  · exact D.between p e' hp h0 h1
  · have f8 := far_spec D.holeL hpl
    have hpi : p = i := far_inj D.holeL hpl D.iL (by omega)
    subst hpi
    rw [hi] at hp; cases hp
    have f9 := far_spec (D.home e.1) D.iL
    have f10 := far_spec (D.home e.1) D.holeL
    omega
/-- What stands at i moves up into the hole. -/
theorem DInv.move {h : κ → Nat} {l : List (κ × ν)} {L : Tb κ ν} {z hole i : Nat} (D : DInv h l L z hole i) {e : κ × ν} (hi : pl L i = some e) (hf : far L.length hole i ≤ far L.length (h e.1) i) :
    DInv h l (L.set hole (some e)) z i (nx L.length i) ∧ far L.length (nx L.length i) z + 1 = far L.length i z := by
  have n1 := nx_spec D.iL
  have f1 := far_spec D.holeL D.iL
  have f3 := far_spec D.holeL D.zL
  have f6 := far_spec D.iL D.zL
  have f7 := far_spec n1.1 D.zL
  have f8 := far_spec D.iL n1.1
  have hpos := D.pos
  have hle := D.le
  have hhi : hole ≠ i := by rintro rfl; rw [far_self] at hpos; omega
  have hiz : i ≠ z := by rintro rfl; rw [D.free] at hi; cases hi
  have hhz : hole ≠ z := by rintro rfl; exact D.full D.free
  have hfe : far L.length (h e.1) hole ≤ far L.length (h e.1) i := by
    have f9 := far_spec (D.home e.1) D.iL
    have f10 := far_spec (D.home e.1) D.holeL
    omega
  have hlt : far L.length hole i < far L.length hole z := by
    rcases Nat.lt_or_ge (far L.length hole i) (far L.length hole z) with h1 | h1
    · exact h1
    · exact absurd (far_inj D.holeL D.iL D.zL (by omega)) hiz
  refine ⟨⟨by simpa using D.home, by simpa using D.iL, by simpa using n1.1, by simpa using D.zL, ?_, ?_, ?_, ?_, ?_, ?_, ?_, ?_⟩, by omega⟩
  · rw [pl_set _ D.holeL, if_neg hhz]; exact D.free
  · rw [pl_set _ D.holeL, if_neg hhi, hi]; simp
  · simp only [List.length_set]; omega
  · simp only [List.length_set]; omega
  · have hc : (L.set hole (some e)).set i none = ((L.set hole none).set i none).set hole (some e) := by
      apply List.ext_getElem?; intro n
      simp only [List.getElem?_set, List.length_set]; grind
    have hL1 : i < (L.set hole none).length := by simpa using D.iL
    have hL2 : hole < ((L.set hole none).set i none).length := by simpa using D.holeL
    have p1 := ents_set hL1 none
    have p2 := ents_set hL2 (some e)
    have e1 : pl (L.set hole none) i = some e := by rw [pl_set _ D.holeL, if_neg hhi, hi]
    have e2 : pl ((L.set hole none).set i none) hole = none := by rw [pl_set _ hL1, if_neg (Ne.symm hhi), pl_set _ D.holeL, if_pos rfl]
    rw [e1] at p1
    rw [e2] at p2
    simp only [Option.toList_none, Option.toList_some, List.nil_append] at p1 p2
    rw [hc]
    exact p2.symm.trans (p1.symm.trans D.perm)
  · intro p q e1 e2 hpn hqn hp hq hk
    rw [pl_set _ D.holeL] at hp hq
    by_cases h1 : hole = p <;> by_cases h2 : hole = q
    · omega
    · rw [if_pos h1] at hp; rw [if_neg h2] at hq; cases hp
      exact absurd (D.uniq i q e e2 (Ne.symm hhi) (Ne.symm h2) hi hq hk) (Ne.symm hqn)
    · rw [if_pos h2] at hq; rw [if_neg h1] at hp; cases hq
      exact absurd (D.uniq p i e1 e (Ne.symm h1) (Ne.symm hhi) hp hi hk) hpn
    · rw [if_neg h1] at hp; rw [if_neg h2] at hq; exact D.uniq p q e1 e2 (Ne.symm h1) (Ne.symm h2) hp hq hk
  · intro p e' hpn hp q hq hfar
    simp only [List.length_set] at hq hfar
    rw [pl_set _ D.holeL]; split
    · simp
    · rename_i hqn
      rw [pl_set _ D.holeL] at hp; split at hp
      · rename_i hph; subst hph; cases hp
        exact D.path i e (Ne.symm hhi) hi q hq (by omega)
      · rename_i hph; exact D.path p e' (Ne.symm hph) hp q hq hfar
  · intro p e' hp h0 h1
    simp only [List.length_set] at h0 h1 ⊢
    have hpl := pl_lt hp
    simp only [List.length_set] at hpl
    have f11 := far_spec D.iL hpl
    have : far L.length i (nx L.length i) = 1 := by omega
    omega
/-- The start: an entry's place is the hole. -/
theorem HInv.del {h : κ → Nat} {L : Tb κ ν} (H : HInv h L) {hole z : Nat} {e : κ × ν} (he : pl L hole = some e) (hz : z < L.length) (hfree : pl L z = none) {l : List (κ × ν)} (hp : (ents L).Perm (e :: l)) :
    DInv h l L z hole (nx L.length hole) := by
  have hL := pl_lt he
  have n1 := nx_spec hL
  have f1 := far_spec hL n1.1
  have f2 := far_spec hL hz
  have hhz : hole ≠ z := by rintro rfl; rw [hfree] at he; cases he
  have h0 : 0 < far L.length hole z := by omega
  refine ⟨H.home, hL, n1.1, hz, hfree, by rw [he]; simp, by omega, by omega, ?_, fun p q e e' _ _ => H.uniq p q e e', fun p e _ => H.path p e, ?_⟩
  · have p1 := ents_set hL none
    rw [he] at p1
    simp only [Option.toList_none, Option.toList_some, List.nil_append, List.singleton_append] at p1
    exact (p1.symm.trans hp).cons_inv
  · intro p e' hp' h0' h1
    have hpl := pl_lt hp'
    have f3 := far_spec hL hpl
    omega
end
end Go.Proofs.Ytfioekkegihkoaa


/- The hash table's own arithmetic: where a key's home is. -/
namespace Go.Proofs.Ytfioekkegihkoaa
open Go.RowKit
set_option linter.unusedVariables false
set_option linter.unusedSimpArgs false

/-- A word. -/
structure U64 (x : Int) : Prop where mk :: (out : 0 ≤ x ∧ x < 18446744073709551616)
theorem U64.wrap (x : Int) : U64 (IntKind.u64.wrap x) := ⟨by rw [IntKind.wrap_u64]; omega⟩
theorem U64.bits (op : BinOp) (a b : Int) (h : ∃ n, bits op .u64 a b = IntKind.u64.wrap n) : U64 (bits op .u64 a b) := by obtain ⟨n, hn⟩ := h; rw [hn]; exact U64.wrap n
theorem U64.or (a b : Int) : U64 (Go.bits .or .u64 a b) := U64.bits _ _ _ ⟨_, rfl⟩
theorem U64.xor (a b : Int) : U64 (Go.bits .xor .u64 a b) := U64.bits _ _ _ ⟨_, rfl⟩
theorem U64.and (a b : Int) : U64 (Go.bits .and .u64 a b) := U64.bits _ _ _ ⟨_, rfl⟩
def rot0F (x : Int) : Int := bits .or .u64 x (x / 18446744073709551616)
def rot23F (x : Int) : Int := bits .or .u64 (IntKind.u64.wrap (x * 8388608)) (x / 2199023255552)
def rot41F (x : Int) : Int := bits .or .u64 (IntKind.u64.wrap (x * 2199023255552)) (x / 8388608)
def seedF (seed : Int) : Int := IntKind.u64.wrap (IntKind.u64.wrap (seed * 11400714819323198485) + 15111065706836454659)
def odd0F (seed : Int) : Int := bits .or .u64 (rot0F (seedF seed)) 1
def odd23F (seed : Int) : Int := bits .or .u64 (rot23F (seedF seed)) 1
def odd41F (seed : Int) : Int := bits .or .u64 (rot41F (seedF seed)) 1

set_option maxHeartbeats 400000 in
theorem rot0 (x : Int) (w : World) (hx : U64 x) :
    Calls Try.prog 152 #[.int .u64 x, .int .i64 0] w fun e w' => e = .returned (.int .u64 (rot0F x)) ∧ w = w' := by
  have hb0 : bits .and .u64 0 63 = 0 := by decide
  have h0 := hx.out.1
  have h1 := hx.out.2
  go_enter Try.func152, Try.ntmps152
  go_wp2
  go_ret
  exact ⟨rfl, rfl⟩
set_option maxHeartbeats 400000 in
theorem rot23 (x : Int) (w : World) (hx : U64 x) :
    Calls Try.prog 152 #[.int .u64 x, .int .i64 23] w fun e w' => e = .returned (.int .u64 (rot23F x)) ∧ w = w' := by
  have hb0 : bits .and .u64 23 63 = 23 := by decide
  have h0 := hx.out.1
  have h1 := hx.out.2
  go_enter Try.func152, Try.ntmps152
  go_wp2
  go_ret
  exact ⟨rfl, rfl⟩
set_option maxHeartbeats 400000 in
theorem rot41 (x : Int) (w : World) (hx : U64 x) :
    Calls Try.prog 152 #[.int .u64 x, .int .i64 41] w fun e w' => e = .returned (.int .u64 (rot41F x)) ∧ w = w' := by
  have hb0 : bits .and .u64 41 63 = 41 := by decide
  have h0 := hx.out.1
  have h1 := hx.out.2
  go_enter Try.func152, Try.ntmps152
  go_wp2
  go_ret
  exact ⟨rfl, rfl⟩
set_option maxHeartbeats 400000 in
theorem odd0 (tb : Nat) (seed : Int) (w : World) (h2 : w.cell? ⟨tb, 2, none⟩ = some (.int .u64 seed)) :
    Calls Try.prog 142 #[.pointer (some ⟨tb, 0, none⟩), .int .i64 0] w fun e w' => e = .returned (.int .u64 (odd0F seed)) ∧ w' = w := by
  go_enter Try.func142, Try.ntmps142
  go_wp2_with (go_at_call 152; refine (rot0 _ _ (U64.wrap _)).mono ?_; rintro e w' ⟨rfl, rfl⟩)
  go_ret
  exact ⟨rfl, rfl⟩
set_option maxHeartbeats 400000 in
theorem odd23 (tb : Nat) (seed : Int) (w : World) (h2 : w.cell? ⟨tb, 2, none⟩ = some (.int .u64 seed)) :
    Calls Try.prog 142 #[.pointer (some ⟨tb, 0, none⟩), .int .i64 23] w fun e w' => e = .returned (.int .u64 (odd23F seed)) ∧ w' = w := by
  go_enter Try.func142, Try.ntmps142
  go_wp2_with (go_at_call 152; refine (rot23 _ _ (U64.wrap _)).mono ?_; rintro e w' ⟨rfl, rfl⟩)
  go_ret
  exact ⟨rfl, rfl⟩
set_option maxHeartbeats 400000 in
theorem odd41 (tb : Nat) (seed : Int) (w : World) (h2 : w.cell? ⟨tb, 2, none⟩ = some (.int .u64 seed)) :
    Calls Try.prog 142 #[.pointer (some ⟨tb, 0, none⟩), .int .i64 41] w fun e w' => e = .returned (.int .u64 (odd41F seed)) ∧ w' = w := by
  go_enter Try.func142, Try.ntmps142
  go_wp2_with (go_at_call 152; refine (rot41 _ _ (U64.wrap _)).mono ?_; rintro e w' ⟨rfl, rfl⟩)
  go_ret
  exact ⟨rfl, rfl⟩

def oddF (seed turn : Int) : Int := if turn = 0 then odd0F seed else if turn = 23 then odd23F seed else odd41F seed
theorem odd_any (tb : Nat) (seed turn : Int) (w : World) (ht : turn = 0 ∨ turn = 23 ∨ turn = 41) (h2 : w.cell? ⟨tb, 2, none⟩ = some (.int .u64 seed)) :
    Calls Try.prog 142 #[.pointer (some ⟨tb, 0, none⟩), .int .i64 turn] w fun e w' => e = .returned (.int .u64 (oddF seed turn)) ∧ w' = w := by
  rcases ht with rfl | rfl | rfl
  · exact odd0 tb seed w h2
  · exact odd23 tb seed w h2
  · exact odd41 tb seed w h2
/-- A key, mixed with the seed. -/
def mix1F (seed l p : Int) : Int := IntKind.u64.wrap (IntKind.u64.wrap (p * oddF seed 0) + IntKind.u64.wrap (l * oddF seed 23))
def mix2F (seed x : Int) : Int := IntKind.u64.wrap (bits .xor .u64 x (x / 536870912) * oddF seed 41)
/-- The home of a key among 2 ^ b places. -/
def homeF (seed : Int) (b : Nat) (k : Int × Int) : Nat := (mix2F seed (mix1F seed k.1 k.2)).toNat / 2 ^ (64 - b)
theorem homeF_lt (seed : Int) (b : Nat) (hb : b ≤ 64) (k : Int × Int) : homeF seed b k < 2 ^ b := by
  unfold homeF
  have h := (U64.wrap (bits .xor .u64 (mix1F seed k.1 k.2) (mix1F seed k.1 k.2 / 536870912) * oddF seed 41)).out
  have e : 2 ^ b * 2 ^ (64 - b) = 2 ^ 64 := by rw [← Nat.pow_add]; congr 1; omega
  rw [Nat.div_lt_iff_lt_mul (Nat.pow_pos (by omega)), e]
  show (IntKind.u64.wrap _).toNat < _
  omega
theorem home_val (seed l p : Int) (b N : Nat) (hb : b ≤ 64) (hN : N = 2 ^ b) : mix2F seed (mix1F seed l p) / 2 ^ (64 - b) = (homeF seed b (l, p) : Nat) := by
  unfold homeF
  have h := (U64.wrap (bits .xor .u64 (mix1F seed l p) (mix1F seed l p / 536870912) * oddF seed 41)).out
  have h0 : 0 ≤ mix2F seed (mix1F seed l p) := h.1
  rw [Int.natCast_ediv, Int.toNat_of_nonneg h0]; simp
set_option maxRecDepth 100000 in
set_option maxHeartbeats 1000000 in
theorem home_any (tb pb : Nat) (seed l p : Int) (b N : Nat) (w : World) (hb : 1 ≤ b) (hb2 : b ≤ 40) (hN : N = 2 ^ b) (hp : U64 p) (hl0 : 0 ≤ l) (hl1 : l ≤ 255)
    (h1 : w.cell? ⟨tb, 1, none⟩ = some (.slice (some ⟨pb, 0, none⟩) N N)) (h2 : w.cell? ⟨tb, 2, none⟩ = some (.int .u64 seed)) (hlt : tb < w.heap.size) :
    Calls Try.prog 117 #[.pointer (some ⟨tb, 0, none⟩), .agg #[.int .u8 l, .int .u64 p]] w fun e w' => e = .returned (.int .i64 (homeF seed b (l, p))) ∧ Mod [] w w' := by
  have h2' : ∀ o, (w.alloc o).cell? ⟨tb, 2, none⟩ = some (.int .u64 seed) := fun o => by rw [World.cell?_alloc_lt _ _ _ hlt]; exact h2
  have h1' : ∀ o, (w.alloc o).cell? ⟨tb, 1, none⟩ = some (.slice (some ⟨pb, 0, none⟩) N N) := fun o => by rw [World.cell?_alloc_lt _ _ _ hlt]; exact h1
  have h2'' : ∀ o n, ((w.alloc o).drewN n).cell? ⟨tb, 2, none⟩ = some (.int .u64 seed) := fun o _ => h2' o
  have h1'' : ∀ o n, ((w.alloc o).drewN n).cell? ⟨tb, 1, none⟩ = some (.slice (some ⟨pb, 0, none⟩) N N) := fun o _ => h1' o
  have hN1 : 2 ≤ N := by rw [hN]; exact Nat.le_trans (by decide) (Nat.pow_le_pow_right (by omega) hb)
  have hN2 : N ≤ 1099511627776 := by rw [hN]; exact Nat.le_trans (Nat.pow_le_pow_right (by omega) hb2) (by decide)
  have hlen : Hidden (Lib.bitLen ((N : Int) - 1).toNat = b) := ⟨by have : ((N : Int) - 1).toNat = 2 ^ b - 1 := by omega
                                                                   rw [this]; exact bitLen_mask b (by omega)⟩
  have hval : Hidden (mix2F seed (mix1F seed l p) / 2 ^ (64 - b) = (homeF seed b (l, p) : Nat)) := ⟨home_val seed l p b N (by omega) hN⟩
  clear hN
  go_enter Try.func117, Try.ntmps117
  go_wp2_with fail
  go_quiet ((go_at_call 142; exact Calls.quiet_of_same (odd_any _ _ _ _ (by simp) (h2' _))))
  have hx0 : 0 ≤ mix1F seed l p := (U64.wrap _).out.1
  rw [show IntKind.u64.wrap (IntKind.u64.wrap (p * oddF seed 0) + IntKind.u64.wrap (l * oddF seed 23)) = mix1F seed l p from rfl]
  go_wp2_with (first | (go_at_call 142; refine (odd_any _ _ _ _ (by simp) (h2'' _ _)).mono ?_; rintro e w' ⟨rfl, rfl⟩) | (go_at_call 101; refine (bits_Len _ _ (by omega) (by omega)).mono ?_; rintro e w' ⟨rfl, rfl⟩; rw [hlen.out]))
  go_ret
  refine ⟨congrArg (fun q => Ending.returned (Value.int .i64 q)) ?_, ((Mod.refl _ w).alloc _).drewN _⟩
  have hlt' : homeF seed b (l, p) < 1099511627776 := Nat.lt_of_lt_of_le (homeF_lt seed b (by omega) (l, p)) (Nat.le_trans (Nat.pow_le_pow_right (by omega) hb2) (by decide))
  show wrap64 (mix2F seed (mix1F seed l p) / 2 ^ (64 - b)) = _
  rw [hval.out]; unfold wrap64; omega
end Go.Proofs.Ytfioekkegihkoaa

/- The hash table in memory; the place behind, how far, finding a key. -/
namespace Go.Proofs.Ytfioekkegihkoaa
open Go.RowKit
set_option linter.unusedVariables false
set_option linter.unusedSimpArgs false

theorem and_mask (n : Int) (b N : Nat) (hb : b ≤ 62) (hN : N = 2 ^ b) : bits .and .i64 n ((N : Int) - 1) = n % (N : Int) := by
  have hp : 0 < 2 ^ b := Nat.pow_pos (by omega)
  have hle : 2 ^ b ≤ 2 ^ 62 := Nat.pow_le_pow_right (by omega) hb
  have h1 : (BitVec.ofInt 64 ((N : Int) - 1)).toNat = 2 ^ b - 1 := by
    rw [BitVec.toNat_ofInt]; subst hN
    have : ((2 ^ b : Nat) : Int) - 1 = ((2 ^ b - 1 : Nat) : Int) := by omega
    rw [this]; omega
  have key : (BitVec.ofInt 64 n &&& BitVec.ofInt 64 ((N : Int) - 1)).toNat = (n % ((2 ^ 64 : Nat) : Int)).toNat % 2 ^ b := by
    rw [BitVec.toNat_and, BitVec.toNat_ofInt, h1, Nat.and_two_pow_sub_one_eq_mod]
  show IntKind.i64.wrap ((BitVec.ofInt 64 n &&& BitVec.ofInt 64 ((N : Int) - 1)).toNat : Nat) = n % (N : Int)
  rw [key, IntKind.wrap_i64, hN]
  have hd : ((2 ^ b : Nat) : Int) ∣ ((2 ^ 64 : Nat) : Int) := by
    refine Int.natCast_dvd_natCast.2 (Nat.pow_dvd_pow 2 (by omega))
  have e1 : n % ((2 ^ 64 : Nat) : Int) % ((2 ^ b : Nat) : Int) = n % ((2 ^ b : Nat) : Int) := Int.emod_emod_of_dvd n hd
  have h0 : 0 ≤ n % ((2 ^ 64 : Nat) : Int) := Int.emod_nonneg _ (by decide)
  have e2 : (((n % ((2 ^ 64 : Nat) : Int)).toNat % 2 ^ b : Nat) : Int) = n % ((2 ^ b : Nat) : Int) := by
    rw [Int.natCast_emod, Int.toNat_of_nonneg h0, e1]
  rw [e2]
  have h2 : 0 ≤ n % ((2 ^ b : Nat) : Int) := Int.emod_nonneg _ (by omega)
  have h3 : n % ((2 ^ b : Nat) : Int) < ((2 ^ b : Nat) : Int) := Int.emod_lt_of_pos _ (by omega)
  have h4 : ((2 ^ b : Nat) : Int) ≤ 4611686018427387904 := by
    have : (2 : Nat) ^ 62 = 4611686018427387904 := by decide
    omega
  omega
theorem next_val (i N b : Nat) (hb : b ≤ 62) (hN : N = 2 ^ b) (hi : i < N) : bits .and .i64 ((i : Int) + 1) ((N : Int) - 1) = (nx N i : Nat) := by
  rw [and_mask _ b N hb hN]
  have := nx_spec hi
  rcases this with ⟨h1, h2 | ⟨h2, h3⟩⟩
  · rw [h2, Int.emod_eq_of_lt (by omega) (by omega)]; omega
  · have : (i : Int) + 1 = N := by omega
    rw [this, Int.emod_self, h2]; rfl
theorem far_val (a i N b : Nat) (hb : b ≤ 62) (hN : N = 2 ^ b) (ha : a < N) (hi : i < N) : bits .and .i64 ((i : Int) - a) ((N : Int) - 1) = (far N a i : Nat) := by
  rw [and_mask _ b N hb hN]
  have := far_spec ha hi
  rcases this with ⟨h1, h2 | h2⟩
  · have : (i : Int) - a = far N a i := by omega
    rw [this, Int.emod_eq_of_lt (by omega) (by omega)]
  · have : (i : Int) - a = far N a i + (-1) * (N : Int) := by omega
    rw [this, Int.add_mul_emod_self_right, Int.emod_eq_of_lt (by omega) (by omega)]

set_option maxHeartbeats 400000 in
theorem next_any (tb pb : Nat) (i N b : Nat) (w : World) (hb : b ≤ 40) (hN : N = 2 ^ b) (hi : i < N)
    (h1 : w.cell? ⟨tb, 1, none⟩ = some (.slice (some ⟨pb, 0, none⟩) N N)) :
    Calls Try.prog 115 #[.pointer (some ⟨tb, 0, none⟩), .int .i64 i] w fun e w' => e = .returned (.int .i64 (nx N i)) ∧ w = w' := by
  have hv : Hidden (bits .and .i64 ((i : Int) + 1) ((N : Int) - 1) = (nx N i : Nat)) := ⟨next_val i N b (by omega) hN hi⟩
  have hN2 : N ≤ 1099511627776 := by rw [hN]; exact Nat.le_trans (Nat.pow_le_pow_right (by omega) hb) (by decide)
  clear hN
  go_enter Try.func115, Try.ntmps115
  go_wp2
  go_ret
  exact ⟨congrArg (fun q => Ending.returned (Value.int .i64 q)) hv.out, rfl⟩
set_option maxHeartbeats 400000 in
theorem far_any (tb pb : Nat) (a i N b : Nat) (w : World) (hb : b ≤ 40) (hN : N = 2 ^ b) (ha : a < N) (hi : i < N)
    (h1 : w.cell? ⟨tb, 1, none⟩ = some (.slice (some ⟨pb, 0, none⟩) N N)) :
    Calls Try.prog 116 #[.pointer (some ⟨tb, 0, none⟩), .int .i64 a, .int .i64 i] w fun e w' => e = .returned (.int .i64 (far N a i)) ∧ w = w' := by
  have hv : Hidden (bits .and .i64 ((i : Int) - a) ((N : Int) - 1) = (far N a i : Nat)) := ⟨far_val a i N b (by omega) hN ha hi⟩
  have hN2 : N ≤ 1099511627776 := by rw [hN]; exact Nat.le_trans (Nat.pow_le_pow_right (by omega) hb) (by decide)
  clear hN
  go_enter Try.func116, Try.ntmps116
  go_wp2
  go_ret
  exact ⟨congrArg (fun q => Ending.returned (Value.int .i64 q)) hv.out, rfl⟩
end Go.Proofs.Ytfioekkegihkoaa

/- The hash table in memory; finding a key. -/
namespace Go.Proofs.Ytfioekkegihkoaa
open Go.RowKit
set_option linter.unusedVariables false
set_option linter.unusedSimpArgs false

abbrev HK := Int × Int
abbrev HT := Tb HK Int
structure KeyOK (k : HK) : Prop where
  l0 : 0 ≤ k.1
  l1 : k.1 ≤ 255
  p : U64 k.2
def encE (o : Option (HK × Int)) : List Value := match o with
  | some e => [.int .u8 e.1.1, .int .u64 e.1.2, .int .u64 e.2, .bool true]
  | none => [.int .u8 0, .int .u64 0, .int .u64 0, .bool false]
theorem encE_len (o : Option (HK × Int)) : (encE o).length = 4 := by cases o <;> rfl
def keyV (k : HK) : Value := .agg #[.int .u8 k.1, .int .u64 k.2]
def tabCells (mb pb N : Nat) (seed : Int) (n : Nat) (pr : Int) : Array Value := #[.pointer (some ⟨mb, 0, none⟩), .slice (some ⟨pb, 0, none⟩) N N, .int .u64 seed, .int .i64 n, .int .i64 pr]
/-- The table's two blocks: its fields at tb, its places at pb. -/
structure TabIn (w : World) (tb mb pb b : Nat) (seed : Int) (L : HT) (n : Nat) (pr : Int) : Prop where
  blk : Blk w tb 130 (tabCells mb pb L.length seed n pr)
  places : Blk w pb 143 (L.flatMap encE).toArray
  len : L.length = 2 ^ b
  b3 : 3 ≤ b
  b40 : b ≤ 40
  inv : HInv (homeF seed b) L
  keys : ∀ e ∈ ents L, KeyOK e.1
section
variable {w : World} {tb mb pb b n : Nat} {seed pr : Int} {L : HT}
theorem TabIn.ne (h : TabIn w tb mb pb b seed L n pr) : tb ≠ pb := h.blk.ne h.places (by decide)
theorem TabIn.N2 (h : TabIn w tb mb pb b seed L n pr) : 8 ≤ L.length ∧ L.length ≤ 1099511627776 := by
  rw [h.len]; exact ⟨Nat.le_trans (by decide) (Nat.pow_le_pow_right (by omega) h.b3), Nat.le_trans (Nat.pow_le_pow_right (by omega) h.b40) (by decide)⟩
theorem TabIn.mod {w' : World} (h : TabIn w tb mb pb b seed L n pr) {S : List Nat} (hm : Mod S w w') (h1 : tb ∉ S) (h2 : pb ∉ S) : TabIn w' tb mb pb b seed L n pr :=
  ⟨h.blk.mod hm h1, h.places.mod hm h2, h.len, h.b3, h.b40, h.inv, h.keys⟩
theorem place_cell {pb : Nat} {L : HT} (h : Blk w pb 143 (L.flatMap encE).toArray) {i : Nat} (hi : i < L.length) (j : Nat) (hj : j < 4) : w.cell? ⟨pb, i * 4 + j, none⟩ = (encE (pl L i))[j]? := by
  rw [h.cell]
  have := flat_get encE 4 encE_len L i j hj
  simp only [List.getElem?_toArray]
  rw [this, pl_get hi]; rfl
end
theorem key_eq (a b c d : Int) (w : World) : (Op.equalIn 10000 106 (.agg #[.int .u8 a, .int .u64 b]) (.agg #[.int .u8 c, .int .u64 d])).run Try.prog w = .ok (a == c && b == d) w := by
  have hS : Try.prog.underlying 106 = some (.struct (Try.prog.fieldsOf 106)) := by kernel_rfl
  have hp : Try.prog.stoodInHeld 106 = false := by kernel_rfl
  rw [show (10000 : Nat) = 9999 + 1 from rfl, run_equalIn_agg w 9999 106 _ _ hS hp]
  simp only [Program.fieldsOf, Try.underlying106]
  go_simp
  by_cases h1 : a = c <;> by_cases h2 : b = d <;> simp [h1, h2]
theorem key_guard (op : BinOp) (A B : Operand) (x y : Array Value) (w : World) : (eqGuard op 106 A B (.agg x) (.agg y)).run Try.prog w = .ok () w := run_eqGuard_agg w op _ A B x y (by kernel_rfl)
theorem key_ne (a b c d : Int) (h : ((a, b) : HK) ≠ (c, d)) (w : World) : (Op.equalIn 10000 106 (.agg #[.int .u8 a, .int .u64 b]) (.agg #[.int .u8 c, .int .u64 d])).run Try.prog w = .ok false w := by
  rw [key_eq]; congr 1
  simp only [Bool.and_eq_false_iff, beq_eq_false_iff_ne]
  by_cases e : a = c
  · right; rintro rfl; exact h (by rw [e])
  · exact .inl e

set_option maxRecDepth 100000 in
set_option maxHeartbeats 2000000 in
theorem find_any (tb mb pb b n : Nat) (seed pr : Int) (L : HT) (k : HK) (w : World) (h : TabIn w tb mb pb b seed L n pr) (hk : KeyOK k) {z : Nat} (hz : z < L.length) (hfree : pl L z = none) :
    Calls Try.prog 113 #[.pointer (some ⟨tb, 0, none⟩), keyV k] w fun e w' => ∃ d : Nat, Stop (homeF seed b) L k d ∧ e = .returned (.tuple #[.int .i64 (up L.length (homeF seed b k) d), .bool (pl L (up L.length (homeF seed b k) d)).isSome]) ∧
      TabIn w' tb mb pb b seed L n ((d : Int) + 1) ∧ Mod [tb] w w' := by
  obtain ⟨d, hd⟩ := stop_exists h.inv.home hz hfree k
  have hN := h.N2
  obtain ⟨l, p⟩ := k
  unfold keyV
  have hb0 := h.blk
  have hp0 := h.places
  have hlt := hb0.lt
  have hplt := hp0.lt
  have hne := h.ne
  have c4 : w.cell? ⟨tb, 4, none⟩ = some (.int .i64 pr) := hb0.cell 4
  have f4 := hb0.frozen 4
  have hW : Blk ((w.setCell ⟨tb, 4, none⟩ (.int .i64 1)).alloc (.cells #[.int .u8 l, .int .u64 p] 106)) tb 130 (tabCells mb pb L.length seed n 1) := (hb0.set 4 _).alloc _
  have hP : Blk ((w.setCell ⟨tb, 4, none⟩ (.int .i64 1)).alloc (.cells #[.int .u8 l, .int .u64 p] 106)) pb 143 (L.flatMap encE).toArray := (hp0.far (p := ⟨tb, 4, none⟩) (Ne.symm hne) _).alloc _
  have hK : Blk ((w.setCell ⟨tb, 4, none⟩ (.int .i64 1)).alloc (.cells #[.int .u8 l, .int .u64 p] 106)) w.heap.size 106 #[.int .u8 l, .int .u64 p] := Blk.new' (by simp [World.setCell]) _ _
  have hM : Mod [tb] w ((w.setCell ⟨tb, 4, none⟩ (.int .i64 1)).alloc (.cells #[.int .u8 l, .int .u64 p] 106)) := ((Mod.refl _ w).set (.inl (by simp)) _).alloc _
  have hH : Hidden (TabIn w tb mb pb b seed L n pr) := ⟨h⟩
  have hD : Hidden (Stop (homeF seed b) L (l, p) d) := ⟨hd⟩
  clear h hd hfree hb0 hp0
  go_enter Try.func113, Try.ntmps113
  go_wp2_with fail
  refine (home_any tb pb seed l p b L.length _ (by have := hH.out.b3; omega) hH.out.b40 hH.out.len hk.p hk.l0 hk.l1 (hW.cell 1) (hW.cell 2) hW.lt).mono ?_
  rintro e w1 ⟨rfl, hm1⟩
  have hW1 := hW.mod hm1 (by simp)
  have hP1 := hP.mod hm1 (by simp)
  have hK1 := hK.mod hm1 (by simp)
  have hM1 := hM.trans hm1 (by simp)
  clear hW hP hK hM hm1 c4 f4
  go_wp2_with fail
  go_loopw [6] (fun i wr => ∃ j : Nat, j ≤ d ∧ i = .int .i64 (up L.length (homeF seed b (l, p)) j) ∧ Blk wr tb 130 (tabCells mb pb L.length seed n ((j : Int) + 1)) ∧ Blk wr pb 143 (L.flatMap encE).toArray ∧
      Blk wr w.heap.size 106 #[.int .u8 l, .int .u64 p] ∧ Mod [tb] w wr) (fun i _ => d - far L.length (homeF seed b (l, p)) (intOf i).toNat)
  case atStart => exact ⟨0, by omega, by have := up_spec (hH.out.inv.home (l, p)) (d := 0) (by omega); have := hH.out.inv.home (l, p); rw [show up L.length (homeF seed b (l, p)) 0 = homeF seed b (l, p) from by omega], hW1, hP1, hK1, hM1⟩
  case round =>
    clear hW1 hP1 hK1 hM1
    obtain ⟨j, hj, rfl, hW1, hP1, hK1, hM1⟩ := hrel
    have hu := up_spec (hH.out.inv.home (l, p)) (d := j) (by have := hD.out.lt; omega)
    have hud := hD.out.lt
    have c1 : wr.cell? ⟨tb, 1, none⟩ = some (.slice (some ⟨pb, 0, none⟩) L.length L.length) := hW1.cell 1
    have c4 : wr.cell? ⟨tb, 4, none⟩ = some (.int .i64 ((j : Int) + 1)) := hW1.cell 4
    have f4 := hW1.frozen 4
    have k0 : wr.cell? ⟨w.heap.size, 0, none⟩ = some (.int .u8 l) := hK1.cell 0
    have k1 : wr.cell? ⟨w.heap.size, 1, none⟩ = some (.int .u64 p) := hK1.cell 1
    have p0 := place_cell hP1 hu.1 0 (by omega)
    have p1 := place_cell hP1 hu.1 1 (by omega)
    have p3 := place_cell hP1 hu.1 3 (by omega)
    have hnx : j + 1 < L.length → nx L.length (up L.length (homeF seed b (l, p)) j) = up L.length (homeF seed b (l, p)) (j + 1) := fun hh => nx_up (hH.out.inv.home (l, p)) hh
    have hnext := fun m => next_any tb pb (up L.length (homeF seed b (l, p)) j) L.length b (wr.drewN m) hH.out.b40 hH.out.len hu.1
    have HX : Hidden (tb ≠ pb ∧ tb ≠ w.heap.size ∧ (∀ q, Blk (wr.setCell ⟨tb, 4, none⟩ (.int .i64 q)) tb 130 (tabCells mb pb L.length seed n q) ∧ Blk (wr.setCell ⟨tb, 4, none⟩ (.int .i64 q)) pb 143 (L.flatMap encE).toArray ∧
      Blk (wr.setCell ⟨tb, 4, none⟩ (.int .i64 q)) w.heap.size 106 #[.int .u8 l, .int .u64 p] ∧ Mod [tb] w (wr.setCell ⟨tb, 4, none⟩ (.int .i64 q)))) := ⟨hne, by omega, fun q => ⟨hW1.set 4 _, hP1.far (p := ⟨tb, 4, none⟩) (Ne.symm hne) _, hK1.far (p := ⟨tb, 4, none⟩) (by simp; omega) _, hM1.set (.inl (by simp)) _⟩⟩
    have HT1 : Hidden (TabIn wr tb mb pb b seed L n ((j : Int) + 1)) := ⟨⟨hW1, hP1, hH.out.len, hH.out.b3, hH.out.b40, hH.out.inv, hH.out.keys⟩⟩
    have HM1 : Hidden (Mod [tb] w wr) := ⟨hM1⟩
    have hfj : far L.length (homeF seed b (l, p)) (up L.length (homeF seed b (l, p)) j) = j := far_up (hH.out.inv.home (l, p)) (by omega)
    have hfj1 : j + 1 < L.length → far L.length (homeF seed b (l, p)) (up L.length (homeF seed b (l, p)) (j + 1)) = j + 1 := fun hh => far_up (hH.out.inv.home (l, p)) hh
    have HF : Hidden (far L.length (homeF seed b (l, p)) (up L.length (homeF seed b (l, p)) j) = j ∧ (j + 1 < L.length → far L.length (homeF seed b (l, p)) (up L.length (homeF seed b (l, p)) (j + 1)) = j + 1)) := ⟨hfj, hfj1⟩
    clear hW1 hP1 hK1 hM1 hfj hfj1
    rcases Nat.lt_or_ge j d with hjd | hjd
    · obtain ⟨e, he, hek⟩ := hD.out.on j hjd
      obtain ⟨⟨e1, e2⟩, ev⟩ := e
      rw [he] at p0 p1 p3
      simp only [encE, Nat.add_zero, List.getElem?_cons_zero, List.getElem?_cons_succ] at p0 p1 p3
      have hn' := hnx (by omega)
      rw [hn'] at hnext
      have hkn := key_ne _ _ _ _ hek
      have hkg := fun op A B x y w => key_guard op A B x y w
      clear hn' hnx he hek
      generalize hU : up L.length (homeF seed b (l, p)) j = u at *
      have HU : Hidden (up L.length (homeF seed b (l, p)) j = u) := ⟨hU⟩
      clear hU
      go_wp2_with fail
      go_quiet (fail)
      go_wp2_with (go_at_call 115; refine (hnext _ c1).mono ?_; rintro e w' ⟨rfl, rfl⟩)
      go_roundw
      case rel =>
        obtain ⟨q1, q2, q3, q4⟩ := HX.out.2.2 ((j : Int) + 1 + 1)
        have e1 : ((j : Int) + 1 + 1) = ((j + 1 : Nat) : Int) + 1 := by omega
        exact ⟨j + 1, by omega, rfl, e1 ▸ q1, q2, q3, q4.drewN _⟩
      case measure =>
        simp only [intOf, Int.toNat_natCast]
        have h1 := HF.out.1
        have h2 := HF.out.2 (by omega)
        omega
    · obtain rfl : j = d := by omega
      have hat := hD.out.at_
      cases hpl : pl L (up L.length (homeF seed b (l, p)) j) with
      | none =>
        rw [hpl] at p0 p1 p3
        simp only [encE, Nat.add_zero, List.getElem?_cons_zero, List.getElem?_cons_succ] at p0 p1 p3
        have HP : Hidden (pl L (up L.length (homeF seed b (l, p)) j) = none) := ⟨hpl⟩
        clear hat hpl hnx
        generalize hU : up L.length (homeF seed b (l, p)) j = u at *
        have HU : Hidden (up L.length (homeF seed b (l, p)) j = u) := ⟨hU⟩
        clear hU
        go_wp2_with fail
        go_quiet (fail)
        go_wp2_with fail
        go_quiet (fail)
        go_wp2_with fail
        go_ret2
        refine ⟨j, hD.out, ?_, HT1.out.mod (((Mod.refl [] wr).drewN _).drewN _) (by simp) (by simp), (HM1.out.drewN _).drewN _⟩
        rw [HU.out, HP.out]; rfl
      | some e =>
        have hke := hat e hpl
        obtain ⟨⟨e1, e2⟩, ev⟩ := e
        simp only at hke
        injection hke with hk1 hk2
        subst hk1 hk2
        rw [hpl] at p0 p1 p3
        simp only [encE, Nat.add_zero, List.getElem?_cons_zero, List.getElem?_cons_succ] at p0 p1 p3
        have HP : Hidden (pl L (up L.length (homeF seed b (e1, e2)) j) = some ((e1, e2), ev)) := ⟨hpl⟩
        have hkn : ∀ w, (Op.equalIn 10000 106 (.agg #[.int .u8 e1, .int .u64 e2]) (.agg #[.int .u8 e1, .int .u64 e2])).run Try.prog w = .ok true w := fun w => by rw [key_eq]; simp
        have hkg := fun op A B x y w => key_guard op A B x y w
        clear hat hpl hnx
        generalize hU : up L.length (homeF seed b (e1, e2)) j = u at *
        have HU : Hidden (up L.length (homeF seed b (e1, e2)) j = u) := ⟨hU⟩
        clear hU
        go_wp2_with fail
        go_quiet (fail)
        go_wp2_with fail
        go_quiet (fail)
        go_wp2_with fail
        go_ret2
        refine ⟨j, hD.out, ?_, HT1.out.mod (((Mod.refl [] wr).drewN _).drewN _) (by simp) (by simp), (HM1.out.drewN _).drewN _⟩
        rw [HU.out, HP.out]; rfl
end Go.Proofs.Ytfioekkegihkoaa
