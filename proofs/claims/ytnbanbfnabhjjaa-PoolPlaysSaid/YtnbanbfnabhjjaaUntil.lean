/- A load may be taken first though the region's own stores write its cell: the stores wait for it. -/
import Derived.Deep.RegionHeld
namespace Go.Proofs.Ytnbanbfnabhjjaa
open Go
section
variable {P : Program} {ops : Array Oper} {Q : Exit → Act → World → Prop} {md : Region.Mode} {S : World → Prop} {st : Nat → Bool}
/-- No store has come up. -/
def Calm (st : Nat → Bool) (listed : Array Bool) : Prop := ∀ j, st j = true → listed.getD j false = false
/-- Whatever order is picked from here on, and S holds behind each operation, so long as no store has come up. -/
def wpAnyU (P : Program) (md : Region.Mode) (ops : Array Oper) (Q : Exit → Act → World → Prop) (S : World → Prop) (st : Nat → Bool) : Nat → Array Bool → Act → World → Prop
  | 0, listed, a, w => Region.ready md ops listed = [] ∧ Q .normal a w
  | fuel + 1, listed, a, w =>
    (Region.ready md ops listed = [] → Q .normal a w) ∧
    ∀ i ∈ Region.ready md ops listed, wpOp P ops Q i (fun a' w' => (Calm st (listed.setIfInBounds i true) → S w') ∧ wpAnyU P md ops Q S st fuel (listed.setIfInBounds i true) a' w') a w
theorem wpAny_of_until : ∀ (fuel : Nat) (listed : Array Bool) (a : Act) (w : World), wpAnyU P md ops Q S st fuel listed a w → wpAny P md ops Q fuel listed a w
  | 0, _, _, _, h => h
  | fuel + 1, _, _, _, h => ⟨h.1, fun i hi => wpOp_mono (fun a' w' h' => wpAny_of_until fuel _ a' w' h'.2) (h.2 i hi)⟩
theorem calm_set {listed : Array Bool} {i : Nat} (h : Calm st listed) (hi : st i = false) : Calm st (listed.setIfInBounds i true) := by
  intro j hj
  have hne : i ≠ j := by rintro rfl; rw [hi] at hj; cases hj
  have := h j hj
  simpa [Array.getD_eq_getD_getElem?, Array.getElem?_setIfInBounds, hne] using this
/-- Number i waits for no store, each store waits for number i. -/
theorem wpAnyU_first {i : Nat} {oi : Oper} {v : Value} (hi : ops[i]? = some oi) (hsel : ∀ (j : Nat) (o : Oper) cs b, ops[j]? = some o → o.op ≠ .select cs b)
    (hQ : ∀ c a w, Q (.panic c) (a.put oi.dst v) w → Q (.panic c) a w) (hst : st i = false)
    (hwait : ∀ j oj, ops[j]? = some oj → st j = true → ∃ e ∈ oj.after, Region.binds md e = true ∧ e.on = i) :
    ∀ (fuel : Nat) (listed : Array Bool) (a : Act) (w : World),
      (∀ j oj, ops[j]? = some oj → j ≠ i → listed.getD j true = false → (∀ e ∈ oj.after, Region.binds md e = true → e.on ≠ i) → oi.apart ops oj = true) →
      i ∈ Region.ready md ops listed → YieldsIf P ops S oi v a → Calm st listed → S w →
      wpAnyU P md ops Q S st fuel (listed.setIfInBounds i true) (a.put oi.dst v) w → wpAnyU P md ops Q S st (fuel + 1) listed a w := by
  intro fuel
  induction fuel with
  | zero =>
    intro listed a w _ hr hy hc hS H
    refine ⟨fun h => (by rw [h] at hr; cases hr), fun j hj => ?_⟩
    by_cases hji : j = i
    · subst hji; exact hy.wpOp hi hS ⟨fun _ => hS, H⟩
    · have := ready_mono hj hji
      rw [H.1] at this
      cases this
  | succ fuel ih =>
    intro listed a w hfree hr hy hc hS H
    refine ⟨fun h => (by rw [h] at hr; cases hr), fun j hj => ?_⟩
    by_cases hji : j = i
    · subst hji; exact hy.wpOp hi hS ⟨fun _ => hS, H⟩
    · have h1 := H.2 j (ready_mono hj hji)
      obtain ⟨hjun, oj, hoj, hall⟩ := mem_ready.1 hj
      have hnot : ∀ e ∈ oj.after, Region.binds md e = true → e.on ≠ i := fun e he hb heq => by
        have h1 := hall e he hb
        have h0 := (mem_ready.1 hr).1
        rw [heq] at h1
        rcases Nat.lt_or_ge i listed.size with h' | h'
        · simp [h'] at h0 h1; rw [h0] at h1; cases h1
        · simp [Array.getElem?_eq_none h'] at h1
      have hstj : st j = false := by
        cases hsj : st j with
        | false => rfl
        | true =>
          obtain ⟨e, he, hb, heq⟩ := hwait j oj hoj hsj
          exact absurd heq (hnot e he hb)
      have hcj : Calm st (listed.setIfInBounds j true) := calm_set hc hstj
      have hcij : Calm st ((listed.setIfInBounds i true).setIfInBounds j true) := calm_set (calm_set hc hst) hstj
      have h1 := wpOp_mono (Q := Q) (fun a' w' (h : (Calm st ((listed.setIfInBounds i true).setIfInBounds j true) → S w') ∧ wpAnyU P md ops Q S st fuel ((listed.setIfInBounds i true).setIfInBounds j true) a' w') => (⟨h.1 hcij, h.2⟩ : S w' ∧ wpAnyU P md ops Q S st fuel ((listed.setIfInBounds i true).setIfInBounds j true) a' w')) h1
      have h2 := wpOp_putIf hoj (hfree j oj hoj hji hjun hnot) (fun cs b => hsel i oi cs b hi) (fun cs b => hsel j oj cs b hoj) hQ hy h1
      have hfree' : ∀ k ok, ops[k]? = some ok → k ≠ i → (listed.setIfInBounds j true).getD k true = false →
          (∀ e ∈ ok.after, Region.binds md e = true → e.on ≠ i) → oi.apart ops ok = true := fun k ok hk hki hun hno => by
        refine hfree k ok hk hki ?_ hno
        by_cases hjk : j = k
        · subst hjk; exact hjun
        · rw [getD_set_ne true hjk] at hun; exact hun
      refine wpOp_mono (fun a' w' h3 => ⟨fun _ => h3.2.1, ih (listed.setIfInBounds j true) a' w' hfree' (ready_mono hr (Ne.symm hji)) h3.1 hcj h3.2.1 ?_⟩) h2
      rw [Array.setIfInBounds_comm _ _ hji]
      exact h3.2.2
/-- Each store waits for number i, and number i is none of them. -/
def awaited (md : Region.Mode) (ops : Array Oper) (st : List Nat) (i : Nat) : Bool :=
  !st.contains i && st.all fun j => match ops[j]? with
    | some o => o.after.any fun e => Region.binds md e && e.on == i
    | none => true
theorem awaited_spec {l : List Nat} {i : Nat} (h : awaited md ops l i = true) : l.contains i = false ∧ ∀ j oj, ops[j]? = some oj → l.contains j = true → ∃ e ∈ oj.after, Region.binds md e = true ∧ e.on = i := by
  simp only [awaited, Bool.and_eq_true, Bool.not_eq_true', List.all_eq_true] at h
  refine ⟨h.1, fun j oj hj hl => ?_⟩
  have h2 := h.2 j (by simpa using hl)
  rw [hj] at h2
  simp only [Array.any_eq_true, Bool.and_eq_true, beq_iff_eq] at h2
  obtain ⟨k, hk, h3, h4⟩ := h2
  exact ⟨_, Array.getElem_mem hk, h3, h4⟩
theorem calm_of {l : List Nat} {listed : Array Bool} (h : (l.all fun j => !listed.getD j false) = true) : Calm l.contains listed := fun j hj => by
  have := List.all_eq_true.1 h j (by simpa using hj)
  simpa using this
theorem wpAnyU_take {l : List Nat} {i : Nat} {oi : Oper} {v : Value} {fuel : Nat} {listed : Array Bool} {a : Act} {w : World} (hi : ops[i]? = some oi)
    (hs : Region.noSelect ops = true) (hf : Region.free md ops listed i = true) (hr : (Region.ready md ops listed).contains i = true) (hw : awaited md ops l i = true)
    (hQ : ∀ c a w, Q (.panic c) (a.put oi.dst v) w → Q (.panic c) a w) (hy : YieldsIf P ops S oi v a) (hc : (l.all fun j => !listed.getD j false) = true) (hS : S w)
    (h : wpAnyU P md ops Q S l.contains fuel (listed.setIfInBounds i true) (a.put oi.dst v) w) : wpAnyU P md ops Q S l.contains (fuel + 1) listed a w :=
  wpAnyU_first hi (Region.noSelect_spec hs) hQ (awaited_spec hw).1 (awaited_spec hw).2 fuel listed a w (Region.free_spec hi hf) (by simpa using hr) hy (calm_of hc) hS h
/-- What yields in every world may be taken first, whoever waits for it. -/
theorem wpAnyU_pure {i : Nat} {oi : Oper} {v : Value} (hi : ops[i]? = some oi) (hsel : ∀ (j : Nat) (o : Oper) cs b, ops[j]? = some o → o.op ≠ .select cs b)
    (hQ : ∀ c a w, Q (.panic c) (a.put oi.dst v) w → Q (.panic c) a w) (hst : st i = false) :
    ∀ (fuel : Nat) (listed : Array Bool) (a : Act) (w : World),
      (∀ j oj, ops[j]? = some oj → j ≠ i → listed.getD j true = false → (∀ e ∈ oj.after, Region.binds md e = true → e.on ≠ i) → oi.apart ops oj = true) →
      i ∈ Region.ready md ops listed → YieldsIf P ops (fun _ => True) oi v a → (Calm st listed → S w) →
      wpAnyU P md ops Q S st fuel (listed.setIfInBounds i true) (a.put oi.dst v) w → wpAnyU P md ops Q S st (fuel + 1) listed a w := by
  have hback : ∀ {listed : Array Bool}, Calm st (listed.setIfInBounds i true) → Calm st listed := by
    intro listed h j hj
    have hne : i ≠ j := by rintro rfl; rw [hst] at hj; cases hj
    have := h j hj
    simpa [Array.getD_eq_getD_getElem?, Array.getElem?_setIfInBounds, hne] using this
  intro fuel
  induction fuel with
  | zero =>
    intro listed a w _ hr hy hS H
    refine ⟨fun h => (by rw [h] at hr; cases hr), fun j hj => ?_⟩
    by_cases hji : j = i
    · subst hji; exact hy.wpOp hi trivial ⟨fun hc => hS (hback hc), H⟩
    · have := ready_mono hj hji
      rw [H.1] at this
      cases this
  | succ fuel ih =>
    intro listed a w hfree hr hy hS H
    refine ⟨fun h => (by rw [h] at hr; cases hr), fun j hj => ?_⟩
    by_cases hji : j = i
    · subst hji; exact hy.wpOp hi trivial ⟨fun hc => hS (hback hc), H⟩
    · have h1 := H.2 j (ready_mono hj hji)
      obtain ⟨hjun, oj, hoj, hall⟩ := mem_ready.1 hj
      have hnot : ∀ e ∈ oj.after, Region.binds md e = true → e.on ≠ i := fun e he hb heq => by
        have h1 := hall e he hb
        have h0 := (mem_ready.1 hr).1
        rw [heq] at h1
        rcases Nat.lt_or_ge i listed.size with h' | h'
        · simp [h'] at h0 h1; rw [h0] at h1; cases h1
        · simp [Array.getElem?_eq_none h'] at h1
      have h2 := wpOp_putIf hoj (hfree j oj hoj hji hjun hnot) (fun cs b => hsel i oi cs b hi) (fun cs b => hsel j oj cs b hoj) hQ hy h1
      have hfree' : ∀ k ok, ops[k]? = some ok → k ≠ i → (listed.setIfInBounds j true).getD k true = false →
          (∀ e ∈ ok.after, Region.binds md e = true → e.on ≠ i) → oi.apart ops ok = true := fun k ok hk hki hun hno => by
        refine hfree k ok hk hki ?_ hno
        by_cases hjk : j = k
        · subst hjk; exact hjun
        · rw [getD_set_ne true hjk] at hun; exact hun
      refine wpOp_mono (fun a' w' h3 => ?_) h2
      have hS' : Calm st (listed.setIfInBounds j true) → S w' := fun hc => h3.2.1 (by
        rw [Array.setIfInBounds_comm _ _ (Ne.symm hji)]
        exact calm_set hc hst)
      refine ⟨hS', ih (listed.setIfInBounds j true) a' w' hfree' (ready_mono hr (Ne.symm hji)) h3.1 hS' ?_⟩
      rw [Array.setIfInBounds_comm _ _ hji]
      exact h3.2.2
theorem wpAnyU_take0 {l : List Nat} {i : Nat} {oi : Oper} {v : Value} {fuel : Nat} {listed : Array Bool} {a : Act} {w : World} (hi : ops[i]? = some oi)
    (hs : Region.noSelect ops = true) (hf : Region.free md ops listed i = true) (hr : (Region.ready md ops listed).contains i = true) (hw : l.contains i = false)
    (hQ : ∀ c a w, Q (.panic c) (a.put oi.dst v) w → Q (.panic c) a w) (hy : YieldsIf P ops (fun _ => True) oi v a) (hS : S w)
    (h : wpAnyU P md ops Q S l.contains fuel (listed.setIfInBounds i true) (a.put oi.dst v) w) : wpAnyU P md ops Q S l.contains (fuel + 1) listed a w :=
  wpAnyU_pure hi (Region.noSelect_spec hs) hQ hw fuel listed a w (Region.free_spec hi hf) (by simpa using hr) hy (fun _ => hS) h
theorem wpAnyU_all {rs : List Nat} {fuel : Nat} {listed : Array Bool} {a : Act} {w : World} (hr : Region.ready md ops listed = rs) (hne : rs ≠ [])
    (h : ∀ i ∈ rs, wpOp P ops Q i (fun a' w' => (Calm st (listed.setIfInBounds i true) → S w') ∧ wpAnyU P md ops Q S st fuel (listed.setIfInBounds i true) a' w') a w) : wpAnyU P md ops Q S st (fuel + 1) listed a w :=
  ⟨fun h0 => absurd (hr ▸ h0) hne, hr ▸ h⟩
/-- Each of these comes up next. -/
def AllReadyU (P : Program) (md : Region.Mode) (ops : Array Oper) (Q : Exit → Act → World → Prop) (S : World → Prop) (st : Nat → Bool) (fuel : Nat) (listed : Array Bool) (a : Act) (w : World) (rs : List Nat) : Prop :=
  ∀ i ∈ rs, wpOp P ops Q i (fun a' w' => (Calm st (listed.setIfInBounds i true) → S w') ∧ wpAnyU P md ops Q S st fuel (listed.setIfInBounds i true) a' w') a w
theorem AllReadyU.nil {fuel : Nat} {listed : Array Bool} {a : Act} {w : World} : AllReadyU P md ops Q S st fuel listed a w [] := fun _ h => by cases h
theorem AllReadyU.cons {fuel : Nat} {listed : Array Bool} {a : Act} {w : World} {i : Nat} {o : Oper} {rs : List Nat} (ho : ops[i]? = some o)
    (h : ∀ K' : Act → World → Prop, Shut (∀ a w, S w → (S w → wpAnyU P md ops Q S st fuel (listed.setIfInBounds i true) a w) → K' a w) → if Region.wanted o (yielded ops a.tmps) = true then Oper.wp P o a w K' Q else K' (a.put o.dst undef) w)
    (hs : AllReadyU P md ops Q S st fuel listed a w rs) : AllReadyU P md ops Q S st fuel listed a w (i :: rs) := fun j hj => by
  rcases List.mem_cons.1 hj with rfl | hj
  · exact wpOp_step ho (fun K' hK => h K' (fun a w hS hW => hK a w ⟨fun _ => hS, hW hS⟩))
  · exact hs j hj
theorem wpAnyU_ready {rs : List Nat} {fuel : Nat} {listed : Array Bool} {a : Act} {w : World} (hr : Region.ready md ops listed = rs) (hne : rs ≠ [])
    (h : AllReadyU P md ops Q S st fuel listed a w rs) : wpAnyU P md ops Q S st (fuel + 1) listed a w := wpAnyU_all hr hne h
theorem wpAnyU_done {listed : Array Bool} {a : Act} {w : World} (hr : Region.ready md ops listed = []) (h : Q .normal a w) : ∀ fuel, wpAnyU P md ops Q S st fuel listed a w
  | 0 => ⟨hr, h⟩
  | _ + 1 => ⟨fun _ => h, by rw [hr]; simp⟩
/-- Once a store has come, nothing of S is asked. -/
theorem wpAnyU_rest {j : Nat} (hj : st j = true) : ∀ {fuel : Nat} {listed : Array Bool} {a : Act} {w : World}, listed.getD j false = true → wpAny P md ops Q fuel listed a w → wpAnyU P md ops Q S st fuel listed a w
  | 0, _, _, _, _, h => h
  | fuel + 1, listed, a, w, hl, h => ⟨h.1, fun i hi => wpOp_mono (fun a' w' h' => by
      have hl' : (listed.setIfInBounds i true).getD j false = true := by
        simp only [Array.getD_eq_getD_getElem?] at hl ⊢
        rw [Array.getElem?_setIfInBounds]
        split
        · split <;> simp_all
        · exact hl
      exact ⟨fun hc => (by rw [hc j hj] at hl'; cases hl'), wpAnyU_rest hj hl' h'⟩) (h.2 i hi)⟩
/-- Where whatever comes next is one of the stores, nothing of S is asked from here on. -/
theorem wpAnyU_free {listed : Array Bool} {a : Act} {w : World} (hst : ∀ i ∈ Region.ready md ops listed, st i = true ∧ i < listed.size) : ∀ {fuel : Nat}, wpAny P md ops Q fuel listed a w → wpAnyU P md ops Q S st fuel listed a w
  | 0, h => h
  | fuel + 1, h => ⟨h.1, fun i hi => wpOp_mono (fun a' w' h' => by
      have hl' : (listed.setIfInBounds i true).getD i false = true := by
        have := (hst i hi).2
        simp [Array.getD_eq_getD_getElem?, this]
      exact ⟨fun hc => (by rw [hc i (hst i hi).1] at hl'; cases hl'), wpAnyU_rest (hst i hi).1 hl' h'⟩) (h.2 i hi)⟩
theorem wp_region_until {l : List Nat} {id : Nat} {a : Act} {w : World} (hm : P.follows .mixedOrders = true)
    (h : wpAnyU P .any ops Q S l.contains ops.size (Array.replicate ops.size false) a w.drew) : (Code.region id ops true).wp P Q a w :=
  wp_region_any hm (wpAny_of_until _ _ _ _ h)
end
end Go.Proofs.Ytnbanbfnabhjjaa
