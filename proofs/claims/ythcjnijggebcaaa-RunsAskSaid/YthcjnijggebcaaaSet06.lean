/- The document's sets (stepstoneref06): a slice of 65536 Bools; what is read of it; plain words on such sets. No program in sight. -/
import Derived.Test.YthcjnijggebcaaaPart
namespace Go.Proofs.Ythcjnijggebcaaa
open Go.RowKit
set_option linter.unusedVariables false
set_option linter.unusedSimpArgs false
/-- How many numbers there are (a name of its own). -/
def Most : Nat := 65536
theorem most_eq : Most = 65536 := rfl
/-- The slice v is the set f. -/
def BS (e : Nat) (w : World) (v : Value) (f : Nat → Bool) : Prop := ∃ b cs, v = .slice (some ⟨b, 0, none⟩) 65536 65536 ∧ Blk w b e cs ∧ cs.size = Most ∧ ∀ i, i < Most → cs[i]? = some (.bool (f i))
section
variable {e : Nat} {w w' : World} {v : Value} {f g : Nat → Bool}
theorem BS.mod (h : BS e w v f) {S : List Nat} (hm : Mod S w w') (hb : ∀ b ∈ rb v, b ∉ S) : BS e w' v f := by
  obtain ⟨b, cs, rfl, h1, h2, h3⟩ := h
  exact ⟨b, cs, rfl, h1.mod hm (hb b (by simp [rb, Value.ownBlock])), h2, h3⟩
theorem BS.news (h : BS e w v f) (hm : Mod [] w w') : BS e w' v f := h.mod hm (fun _ _ => List.not_mem_nil)
theorem BS.drewN (h : BS e w v f) (q : Nat) : BS e (w.drewN q) v f := h
theorem BS.drew (h : BS e w v f) : BS e w.drew v f := h
theorem BS.alloc (h : BS e w v f) (o : Obj) : BS e (w.alloc o) v f := h.news ((Mod.refl [] w).alloc o)
theorem BS.at_ (h : BS e w v f) : ∃ b, v = .slice (some ⟨b, 0, none⟩) 65536 65536 ∧ rb v = [b] ∧ b < w.heap.size ∧ (∀ i, i < 65536 → w.cell? ⟨b, 0 + i, none⟩ = some (.bool (f i))) ∧ (∀ i, w.frozen? ⟨b, i, none⟩ = false) := by
  obtain ⟨b, cs, rfl, h1, h2, h3⟩ := h
  exact ⟨b, rfl, by simp [rb, Value.ownBlock], h1.lt, fun i hi => by rw [Nat.zero_add, h1.cell]; exact h3 i hi, fun i => h1.frozen i⟩
theorem BS.set {b : Nat} (h : BS e w (.slice (some ⟨b, 0, none⟩) 65536 65536) f) (i : Nat) (x : Bool) : BS e (w.setCell ⟨b, i, none⟩ (.bool x)) (.slice (some ⟨b, 0, none⟩) 65536 65536) (fun j => if j = i then x else f j) := by
  obtain ⟨b', cs, he, h1, h2, h3⟩ := h
  injection he with he
  injection he with he
  injection he with he
  subst he
  refine ⟨b, _, rfl, h1.set i _, by simp [h2], fun j hj => ?_⟩
  rw [Array.getElem?_setIfInBounds]
  by_cases hji : i = j
  · subst hji
    rw [if_pos rfl, if_pos (by omega)]; simp
  · rw [if_neg hji, h3 j hj]; simp [Ne.symm hji]
theorem BS.far (h : BS e w v f) {p : Addr} (hp : p.block ∉ rb v) (u : Value) : BS e (w.setCell p u) v f :=
  h.mod ((Mod.refl [p.block] w).set (by simp) u) (fun k hk => by simp; rintro rfl; exact hp hk)
theorem BS.congr (h : BS e w v f) (hfg : ∀ i, i < Most → f i = g i) : BS e w v g := by
  obtain ⟨b, cs, rfl, h1, h2, h3⟩ := h
  exact ⟨b, cs, rfl, h1, h2, fun i hi => by rw [← hfg i hi]; exact h3 i hi⟩
theorem BS.of_row {n : Nat} {xs : List Value} (h : Row w e 1 (.slice (some ⟨n, 0, none⟩) 65536 65536) 65536 xs) (hx : ∀ i, i < Most → xs[i]? = some (.bool false)) : BS e w (.slice (some ⟨n, 0, none⟩) 65536 65536) (fun _ => false) := by
  rcases h.2 with ⟨h1, _⟩ | ⟨g, cap, cur, hv, hb, hgg, h3, h4, h5, h6⟩
  · cases h1
  · injection hv with hv hv2 hv3
    injection hv with hv
    injection hv with hv
    subst hv hv3
    refine ⟨n, cur, rfl, hgg, by rw [h5]; unfold Most; omega, fun i hi => ?_⟩
    have := hx i hi
    rw [← h6] at this
    unfold Most at hi
    rw [List.getElem?_take_of_lt (by omega)] at this
    simpa using this
end
/-- The members below n, rising. -/
def lstN (f : Nat → Bool) : Nat → List Int
  | 0 => []
  | n + 1 => if f n then lstN f n ++ [(n : Int)] else lstN f n
def lst (f : Nat → Bool) : List Int := lstN f Most
/-- How many members are below n. -/
def cntN (f : Nat → Bool) : Nat → Nat
  | 0 => 0
  | n + 1 => if f n then cntN f n + 1 else cntN f n
section
variable {f g : Nat → Bool}
theorem lstN_yes {n : Nat} (h : f n = true) : lstN f (n + 1) = lstN f n ++ [(n : Int)] := by rw [lstN, if_pos h]
theorem lstN_no {n : Nat} (h : f n = false) : lstN f (n + 1) = lstN f n := by rw [lstN, if_neg (by simp [h])]
theorem cntN_yes {n : Nat} (h : f n = true) : cntN f (n + 1) = cntN f n + 1 := by rw [cntN, if_pos h]
theorem cntN_no {n : Nat} (h : f n = false) : cntN f (n + 1) = cntN f n := by rw [cntN, if_neg (by simp [h])]
theorem lstN_length : ∀ n, (lstN f n).length = cntN f n
  | 0 => rfl
  | n + 1 => by
    cases h : f n with
    | true => rw [lstN_yes h, cntN_yes h, List.length_append, lstN_length n]; rfl
    | false => rw [lstN_no h, cntN_no h, lstN_length n]
theorem cntN_le : ∀ n, cntN f n ≤ n
  | 0 => Nat.le_refl _
  | n + 1 => by
    cases h : f n with
    | true => rw [cntN_yes h]; have := cntN_le n; omega
    | false => rw [cntN_no h]; have := cntN_le n; omega
theorem lstN_mem {x : Int} : ∀ n, x ∈ lstN f n ↔ ∃ i : Nat, i < n ∧ x = i ∧ f i = true
  | 0 => by simp [lstN]
  | n + 1 => by
    cases h : f n with
    | true =>
      rw [lstN_yes h, List.mem_append, lstN_mem n, List.mem_singleton]
      constructor
      · rintro (⟨i, h1, h2, h3⟩ | h1)
        · exact ⟨i, by omega, h2, h3⟩
        · exact ⟨n, by omega, h1, h⟩
      · rintro ⟨i, h1, h2, h3⟩
        rcases Nat.lt_or_ge i n with h4 | h4
        · exact .inl ⟨i, h4, h2, h3⟩
        · have : i = n := by omega
          subst this; exact .inr h2
    | false =>
      rw [lstN_no h, lstN_mem n]
      constructor
      · rintro ⟨i, h1, h2, h3⟩; exact ⟨i, by omega, h2, h3⟩
      · rintro ⟨i, h1, h2, h3⟩
        rcases Nat.lt_or_ge i n with h4 | h4
        · exact ⟨i, h4, h2, h3⟩
        · have : i = n := by omega
          subst this; rw [h] at h3; cases h3
theorem lstN_rises : ∀ n, (lstN f n).Pairwise (· < ·)
  | 0 => by simp [lstN]
  | n + 1 => by
    cases h : f n with
    | true =>
      rw [lstN_yes h, List.pairwise_append]
      refine ⟨lstN_rises n, by simp, fun x hx y hy => ?_⟩
      obtain ⟨i, hi, rfl, _⟩ := (lstN_mem n).1 hx
      rw [List.mem_singleton.1 hy]; omega
    | false => rw [lstN_no h]; exact lstN_rises n
theorem lst_mem {x : Int} : x ∈ lst f ↔ ∃ i : Nat, i < Most ∧ x = i ∧ f i = true := lstN_mem Most
theorem lst_rises : (lst f).Pairwise (· < ·) := lstN_rises Most
theorem lst_asc {l : List Int} (hl : ∀ x ∈ l, 0 ≤ x ∧ x < 65536) (h : ∀ i, i < Most → f i = decide ((i : Int) ∈ l)) : lst f = asc l := by
  refine rise_ext lst_rises (asc_rises l) (fun x => ?_)
  rw [lst_mem, asc_mem]
  constructor
  · rintro ⟨i, hi, rfl, h1⟩
    rw [h i hi] at h1
    exact of_decide_eq_true h1
  · intro hx
    obtain ⟨h0, h1⟩ := hl x hx
    obtain ⟨i, rfl⟩ := Int.eq_ofNat_of_zero_le h0
    exact ⟨i, by unfold Most; omega, rfl, by rw [h i (by unfold Most; omega)]; exact decide_eq_true hx⟩
end
end Go.Proofs.Ythcjnijggebcaaa
