/- Values by keys: what a pool and a table of places tell together. Plain Lean. -/
import Derived.Test.YtnbanbfnabhjjaaPoolB
import Derived.Test.YtnbanbfnabhjjaaHashB
import Derived.Test.YtnbanbfnabhjjaaHolesW
namespace Go.Proofs.Ytnbanbfnabhjjaa
set_option linter.unusedVariables false
set_option linter.unusedSimpArgs false

section
variable {α : Type}
theorem PS.get_nat (s : PS α) (i : Nat) : s.get (i : Int) = (s.cells[i]?).join := by
  have : ¬ ((i : Int) < 0) := by omega
  simp [PS.get, this]
theorem PS.get_neg (s : PS α) {i : Int} (h : i < 0) : s.get i = none := by simp [PS.get, h]
theorem PS.get_put {s : PS α} {i : Nat} (hi : i < s.cells.length) (v : α) (j : Int) : (s.put i v).get j = if j = i then some v else s.get j := by
  by_cases hj : j < 0
  · rw [PS.get_neg _ hj, PS.get_neg _ hj, if_neg (by omega)]
  · obtain ⟨j, rfl⟩ : ∃ q : Nat, j = q := ⟨j.toNat, by omega⟩
    rw [PS.get_nat, PS.get_nat]; simp only [PS.put, List.getElem?_set]
    by_cases h : i = j
    · subst h; simp [hi]
    · rw [if_neg h, if_neg (by omega)]
theorem PS.get_drop {s : PS α} {i : Nat} (hi : i < s.cells.length) (j : Int) : (s.drop i).get j = if j = i then none else s.get j := by
  by_cases hj : j < 0
  · rw [PS.get_neg _ hj, PS.get_neg _ hj, if_neg (by omega)]
  · obtain ⟨j, rfl⟩ : ∃ q : Nat, j = q := ⟨j.toNat, by omega⟩
    rw [PS.get_nat, PS.get_nat]; simp only [PS.drop, List.getElem?_set]
    by_cases h : i = j
    · subst h; simp [hi]
    · rw [if_neg h, if_neg (by omega)]
theorem PS.get_next {s : PS α} (h : s.wf) : s.get (s.nextAt : Int) = none := by
  rw [PS.get_nat]; unfold PS.nextAt
  cases hf : s.free.getLast? with
  | none => simp
  | some i => rw [Option.getD_some, (h.mem i).1 (PS.last_mem hf)]; rfl
theorem PS.get_take {s : PS α} (h : s.wf) (v : α) (j : Int) : (s.take v).get j = if j = s.nextAt then some v else s.get j := by
  by_cases hj : j < 0
  · rw [PS.get_neg _ hj, PS.get_neg _ hj, if_neg (by omega)]
  · obtain ⟨j, rfl⟩ : ∃ q : Nat, j = q := ⟨j.toNat, by omega⟩
    rw [PS.get_nat, PS.get_nat]; unfold PS.take PS.nextAt
    cases hf : s.free.getLast? with
    | none =>
      simp only [Option.getD_none, List.getElem?_append]
      by_cases hl : j < s.cells.length
      · rw [if_pos hl, if_neg (by omega)]
      · rw [if_neg hl]
        by_cases he : j = s.cells.length
        · subst he; simp
        · rw [if_neg (by omega), List.getElem?_eq_none (by simp; omega), List.getElem?_eq_none (by omega)]
    | some i =>
      have hi : i < s.cells.length := (List.getElem?_eq_some_iff.1 ((h.mem i).1 (PS.last_mem hf))).1
      simp only [Option.getD_some, List.getElem?_set]
      by_cases he : i = j
      · subst he; simp [hi]
      · rw [if_neg he, if_neg (by omega)]
theorem PS.get_lt {s : PS α} {i : Int} {v : α} (h : s.get i = some v) : i.toNat < s.cells.length ∧ 0 ≤ i := by
  obtain ⟨h0, h1⟩ := PS.get_some h
  exact ⟨(List.getElem?_eq_some_iff.1 h1).1, h0⟩
end

/-- The table's entries tell places of the pool that are taken, each its own. -/
structure SRel (s : PS Int) (l : List (HK × Int)) : Prop where
  nodup : (l.map (·.1)).Nodup
  taken : ∀ e ∈ l, ∃ v, s.get e.2 = some v
  own : ∀ e ∈ l, ∀ e' ∈ l, e.2 = e'.2 → e = e'
  count : l.length = s.live
def sval (s : PS Int) (l : List (HK × Int)) (k : Int) : Option Int := (lk l (1, k)).bind (fun i => s.get i)
theorem SRel.empty (limit : Nat) : SRel (PS.empty limit) [] := ⟨by simp, by simp, by simp, by simp [PS.live, PS.empty]⟩
theorem SRel.sval_some {s : PS Int} {l : List (HK × Int)} (h : SRel s l) {k i : Int} (hl : lk l (1, k) = some i) : ∃ v, s.get i = some v ∧ sval s l k = some v := by
  obtain ⟨v, hv⟩ := h.taken _ (lk_mem hl)
  exact ⟨v, hv, by unfold sval; rw [hl]; exact hv⟩
theorem sval_none {s : PS Int} {l : List (HK × Int)} {k : Int} (hl : lk l (1, k) = none) : sval s l k = none := by unfold sval; rw [hl]; rfl
theorem SRel.put {s : PS Int} {l : List (HK × Int)} (h : SRel s l) {k i : Int} (hl : lk l (1, k) = some i) (v : Int) :
    SRel (s.put i.toNat v) l ∧ ∀ x, sval (s.put i.toNat v) l x = if x = k then some v else sval s l x := by
  obtain ⟨u, hu⟩ := h.taken _ (lk_mem hl)
  obtain ⟨h1, h0⟩ := PS.get_lt hu
  have hs := (PS.get_some hu).2
  obtain ⟨i, rfl⟩ : ∃ q : Nat, i = q := ⟨i.toNat, by omega⟩
  simp only [Int.toNat_natCast] at h1 hs ⊢
  refine ⟨⟨h.nodup, fun e he => ?_, h.own, by rw [PS.put_live hs]; exact h.count⟩, fun x => ?_⟩
  · rw [PS.get_put h1]; split
    · exact ⟨v, rfl⟩
    · exact h.taken e he
  · unfold sval
    by_cases hx : x = k
    · subst hx; rw [hl, if_pos rfl]; simp [PS.get_put h1]
    · rw [if_neg hx]
      cases hlx : lk l (1, x) with
      | none => rfl
      | some j =>
        have hji : j ≠ (i : Int) := by
          rintro rfl
          have := h.own _ (lk_mem hl) _ (lk_mem hlx) rfl
          simp at this; exact hx this.symm
        simp [PS.get_put h1, hji]
theorem SRel.new {s : PS Int} {l : List (HK × Int)} (h : SRel s l) (hw : s.wf) {k : Int} (hl : lk l (1, k) = none) (v : Int) :
    SRel (s.take v) (putL l (1, k) s.nextAt) ∧ ∀ x, sval (s.take v) (putL l (1, k) s.nextAt) x = if x = k then some v else sval s l x := by
  have hp : putL l (1, k) s.nextAt = ((1, k), (s.nextAt : Int)) :: l := by unfold putL; rw [filter_absent hl]
  have hn := PS.get_next hw
  refine ⟨⟨?_, ?_, ?_, ?_⟩, fun x => ?_⟩
  · rw [hp, List.map_cons, List.nodup_cons]
    refine ⟨fun hm => ?_, h.nodup⟩
    obtain ⟨e, he, hk⟩ := List.mem_map.1 hm
    exact lk_none.1 hl e he hk
  · rw [hp]; intro e he
    rw [PS.get_take hw]; split
    · exact ⟨v, rfl⟩
    · rename_i hne
      rcases List.mem_cons.1 he with rfl | he
      · exact absurd rfl hne
      · exact h.taken e he
  · rw [hp]; intro e he e' he' hee
    have hno : ∀ q ∈ l, q.2 ≠ (s.nextAt : Int) := by
      intro q hq hqe
      obtain ⟨u, hu⟩ := h.taken q hq
      rw [hqe, hn] at hu; cases hu
    rcases List.mem_cons.1 he with rfl | he <;> rcases List.mem_cons.1 he' with rfl | he'
    · rfl
    · exact absurd hee.symm (hno e' he')
    · exact absurd hee (hno e he)
    · exact h.own e he e' he' hee
  · rw [hp, List.length_cons, PS.take_live hw, h.count]
  · unfold sval; rw [lk_put]
    by_cases hx : x = k
    · subst hx; rw [if_pos rfl, if_pos rfl]; simp [PS.get_take hw]
    · rw [if_neg (by simpa using hx), if_neg hx]
      cases hlx : lk l (1, x) with
      | none => rfl
      | some j =>
        obtain ⟨u, hu⟩ := h.taken _ (lk_mem hlx)
        have : j ≠ (s.nextAt : Int) := by rintro rfl; rw [hn] at hu; cases hu
        simp [PS.get_take hw, this]
theorem SRel.drop {s : PS Int} {l : List (HK × Int)} (h : SRel s l) {k i : Int} (hl : lk l (1, k) = some i) :
    SRel (s.drop i.toNat) (dropL l (1, k)) ∧ (∀ x, sval (s.drop i.toNat) (dropL l (1, k)) x = if x = k then none else sval s l x) ∧ (s.drop i.toNat).live + 1 = s.live := by
  obtain ⟨u, hu⟩ := h.taken _ (lk_mem hl)
  obtain ⟨h1, h0⟩ := PS.get_lt hu
  have hs := (PS.get_some hu).2
  obtain ⟨i, rfl⟩ : ∃ q : Nat, i = q := ⟨i.toNat, by omega⟩
  simp only [Int.toNat_natCast] at h1 hs ⊢
  have hlive := PS.drop_live hs
  have hlen := (filter_present h.nodup (lk_mem hl)).length_eq
  have hsub : ∀ e ∈ dropL l (1, k), e ∈ l ∧ e.1 ≠ (1, k) := fun e he => by
    unfold dropL at he; simpa using he
  have hne : ∀ e ∈ l, e.1 ≠ (1, k) → e.2 ≠ (i : Int) := by
    intro e he hk hi
    have := h.own e he _ (lk_mem hl) hi
    rw [this] at hk; exact hk rfl
  refine ⟨⟨?_, ?_, ?_, ?_⟩, fun x => ?_, hlive⟩
  · unfold dropL; exact (List.filter_sublist.map _).nodup h.nodup
  · intro e he
    obtain ⟨h2, h3⟩ := hsub e he
    rw [PS.get_drop h1, if_neg (hne e h2 h3)]; exact h.taken e h2
  · intro e he e' he'; exact h.own e (hsub e he).1 e' (hsub e' he').1
  · have : l.length = (dropL l (1, k)).length + 1 := by unfold dropL; simpa using hlen
    have := h.count; omega
  · unfold sval; rw [lk_drop]
    by_cases hx : x = k
    · subst hx; rw [if_pos rfl, if_pos rfl]; rfl
    · rw [if_neg (by simpa using hx), if_neg hx]
      cases hlx : lk l (1, x) with
      | none => rfl
      | some j =>
        have := hne _ (lk_mem hlx) (by simpa using hx)
        simp only at this
        simp [PS.get_drop h1, this]
end Go.Proofs.Ytnbanbfnabhjjaa
