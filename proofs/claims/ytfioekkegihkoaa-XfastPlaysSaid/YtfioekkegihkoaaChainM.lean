/- Links in their order: the places of a pool that point to one another. Plain Lean. -/
import Derived.Test.YtfioekkegihkoaaGLib
import Derived.Test.YtfioekkegihkoaaPoolL2
namespace Go.Proofs.Ytfioekkegihkoaa
set_option linter.unusedVariables false
set_option linter.unusedSimpArgs false
/-- Places and keys, in their order. -/
abbrev CL := List (Nat × Int)
def hdC (L : CL) (n : Int) : Int := match L with
  | [] => n
  | e :: _ => (e.1 : Int)
def lsC : CL → Int → Int
  | [], p => p
  | e :: L, _ => lsC L (e.1 : Int)
def Seg (g : Int → Option VL) : Int → CL → Int → Prop
  | _, [], _ => True
  | p, e :: L, n => g (e.1 : Int) = some (e.2, p, hdC L n) ∧ Seg g (e.1 : Int) L n
theorem hdC_app (A B : CL) (n : Int) : hdC (A ++ B) n = hdC A (hdC B n) := by cases A <;> rfl
theorem lsC_app (A B : CL) (p : Int) : lsC (A ++ B) p = lsC B (lsC A p) := by
  induction A generalizing p with
  | nil => rfl
  | cons e A ih => exact ih _
theorem lsC_snoc (A : CL) (e : Nat × Int) (p : Int) : lsC (A ++ [e]) p = e.1 := by rw [lsC_app]; rfl
theorem hdC_ne {A : CL} (h : A ≠ []) (n n' : Int) : hdC A n = hdC A n' := by cases A with
  | nil => exact absurd rfl h
  | cons e A => rfl
theorem lsC_ne {A : CL} (h : A ≠ []) (n n' : Int) : lsC A n = lsC A n' := by cases A with
  | nil => exact absurd rfl h
  | cons e A => rfl
theorem hdC_mem {A : CL} (h : A ≠ []) (n : Int) : ∃ e ∈ A, hdC A n = (e.1 : Int) := by cases A with
  | nil => exact absurd rfl h
  | cons e A => exact ⟨e, by simp, rfl⟩
theorem lsC_mem {A : CL} (h : A ≠ []) (p : Int) : ∃ e ∈ A, lsC A p = (e.1 : Int) := by
  obtain ⟨B, e, rfl⟩ : ∃ B e, A = B ++ [e] := ⟨A.dropLast, A.getLast h, (List.dropLast_concat_getLast h).symm⟩
  exact ⟨e, by simp, lsC_snoc B e p⟩
theorem hdC_neg {A : CL} : hdC A (-1) = -1 ↔ A = [] := by cases A with
  | nil => simp [hdC]
  | cons e A => simp [hdC]
theorem lsC_neg {A : CL} : lsC A (-1) = -1 ↔ A = [] := by
  constructor
  · intro h
    by_cases hA : A = []
    · exact hA
    · obtain ⟨e, _, he⟩ := lsC_mem hA (-1); omega
  · rintro rfl; rfl
section
variable {g g' : Int → Option VL}
theorem Seg.app {A B : CL} {p n : Int} : Seg g p (A ++ B) n ↔ Seg g p A (hdC B n) ∧ Seg g (lsC A p) B n := by
  induction A generalizing p with
  | nil => simp [Seg, lsC]
  | cons e A ih =>
    simp only [List.cons_append, Seg, ih, lsC, hdC_app, and_assoc]
theorem Seg.congr {L : CL} {p n : Int} (h : Seg g p L n) (hg : ∀ e ∈ L, g' (e.1 : Int) = g (e.1 : Int)) : Seg g' p L n := by
  induction L generalizing p with
  | nil => trivial
  | cons e L ih => exact ⟨(hg e (by simp)).trans h.1, ih h.2 (fun x hx => hg x (by simp [hx]))⟩
theorem Seg.get {L : CL} {p n : Int} (h : Seg g p L n) {e : Nat × Int} (he : e ∈ L) : ∃ a b, g (e.1 : Int) = some (e.2, a, b) := by
  induction L generalizing p with
  | nil => simp at he
  | cons x L ih =>
    rcases List.mem_cons.1 he with rfl | he
    · exact ⟨_, _, h.1⟩
    · exact ih h.2 he
def setNext (z : Int) (v : VL) : VL := (v.1, v.2.1, z)
def setPrev (z : Int) (v : VL) : VL := (v.1, z, v.2.2)
theorem Seg.setNext {L : CL} {p n n' : Int} (h : Seg g p L n) (hd : (L.map (·.1)).Nodup) (hg : ∀ e ∈ L, g' (e.1 : Int) = if (e.1 : Int) = lsC L p then (g (e.1 : Int)).map (setNext n') else g (e.1 : Int)) : Seg g' p L n' := by
  induction L generalizing p with
  | nil => trivial
  | cons e L ih =>
    obtain ⟨h1, h2⟩ := h
    simp only [List.map_cons, List.nodup_cons] at hd
    have he := hg e (by simp)
    refine ⟨?_, ih h2 hd.2 (fun x hx => hg x (by simp [hx]))⟩
    by_cases hL : L = []
    · subst hL
      rw [he, if_pos (show (e.1 : Int) = lsC [e] p from rfl), h1]; rfl
    · obtain ⟨x, hx, hxe⟩ := lsC_mem hL (e.1 : Int)
      have : (e.1 : Int) ≠ lsC (e :: L) p := by
        show (e.1 : Int) ≠ lsC L e.1
        rw [hxe]; intro hh
        exact hd.1 (List.mem_map.2 ⟨x, hx, by omega⟩)
      rw [he, if_neg this, h1, hdC_ne hL n n']
theorem Seg.setPrev {L : CL} {p p' n : Int} (h : Seg g p L n) (hd : (L.map (·.1)).Nodup) (hg : ∀ e ∈ L, g' (e.1 : Int) = if (e.1 : Int) = hdC L n then (g (e.1 : Int)).map (setPrev p') else g (e.1 : Int)) : Seg g' p' L n := by
  cases L with
  | nil => trivial
  | cons e L =>
    obtain ⟨h1, h2⟩ := h
    simp only [List.map_cons, List.nodup_cons] at hd
    refine ⟨?_, h2.congr (fun x hx => ?_)⟩
    · rw [hg e (by simp), if_pos (show (e.1 : Int) = hdC (e :: L) n from rfl), h1]; rfl
    · rw [hg x (by simp [hx]), if_neg]
      intro hh
      have : (x.1 : Int) = e.1 := hh
      exact hd.1 (List.mem_map.2 ⟨x, hx, by omega⟩)
end
/-- What change does to the pool. -/
def chg (s : PS VL) (i : Int) (f : VL → VL) : PS VL := match s.get i with
  | some v => s.put i.toNat (f v)
  | none => s
section
variable {s : PS VL} {i : Int} {f : VL → VL}
theorem chg_none (h : s.get i = none) : chg s i f = s := by unfold chg; rw [h]
theorem chg_some {v : VL} (h : s.get i = some v) : chg s i f = s.put i.toNat (f v) := by unfold chg; rw [h]
theorem chg_get (j : Int) : (chg s i f).get j = if j = i then (s.get i).map f else s.get j := by
  cases h : s.get i with
  | none =>
    rw [chg_none h]; by_cases hj : j = i
    · subst hj; simp [h]
    · rw [if_neg hj]
  | some v =>
    obtain ⟨h1, h2⟩ := PS.get_lt h
    rw [chg_some h, PS.get_put h1]
    have : ((i.toNat : Nat) : Int) = i := by omega
    rw [this]; rfl
theorem chg_live : (chg s i f).live = s.live := by
  cases h : s.get i with
  | none => rw [chg_none h]
  | some v => rw [chg_some h]; exact PS.put_live (PS.get_some h).2
theorem chg_limit : (chg s i f).limit = s.limit := by
  unfold chg; split <;> rfl
theorem chg_free : (chg s i f).free = s.free := by
  unfold chg; split <;> rfl
theorem chg_len : (chg s i f).cells.length = s.cells.length := by
  unfold chg; split <;> simp [PS.put]
theorem chg_wf (hw : s.wf) : (chg s i f).wf := by
  cases h : s.get i with
  | none => rw [chg_none h]; exact hw
  | some v => rw [chg_some h]; exact PS.put_wf hw (PS.get_some h).2
end
structure Linked (s : PS VL) (L : CL) : Prop where
  seg : Seg s.get (-1) L (-1)
  nodup : (L.map (·.1)).Nodup
  live : s.live = L.length
section
variable {s : PS VL} {A B L : CL} {k : Int} {a : Nat}
theorem Linked.empty (limit : Nat) : Linked (PS.empty limit) [] := ⟨trivial, by simp, by simp [PS.empty, PS.live]⟩
theorem Linked.not_in (h : Linked s L) {x : Int} (hx : s.get x = none) : ∀ e ∈ L, (e.1 : Int) ≠ x := by
  intro e he hh
  obtain ⟨p, n, h1⟩ := h.seg.get he
  rw [hh, hx] at h1; cases h1
theorem Linked.fresh (h : Linked s L) (hw : s.wf) : ∀ e ∈ L, e.1 ≠ s.nextAt := by
  intro e he hh
  exact h.not_in (PS.get_next hw) e he (by rw [hh])
/-- A link more, between A and B. -/
theorem Linked.put (h : Linked s (A ++ B)) (hw : s.wf) :
    Linked (chg (chg (s.take (k, lsC A (-1), hdC B (-1))) (lsC A (-1)) (setNext s.nextAt)) (hdC B (-1)) (setPrev s.nextAt)) (A ++ (s.nextAt, k) :: B) := by
  obtain ⟨h1, h2⟩ := Seg.app.1 h.seg
  have hnd := h.nodup
  rw [List.map_append, List.nodup_append] at hnd
  obtain ⟨n1, n2, n3⟩ := hnd
  have hf := h.fresh hw
  have hfA : ∀ e ∈ A, e.1 ≠ s.nextAt := fun e he => hf e (by simp [he])
  have hfB : ∀ e ∈ B, e.1 ≠ s.nextAt := fun e he => hf e (by simp [he])
  have hAB : ∀ e ∈ A, (e.1 : Int) ≠ hdC B (-1) := by
    intro e he hh
    by_cases hB : B = []
    · subst hB; simp [hdC] at hh
    · obtain ⟨x, hx, hxe⟩ := hdC_mem hB (-1)
      exact n3 e.1 (List.mem_map.2 ⟨e, he, rfl⟩) x.1 (List.mem_map.2 ⟨x, hx, rfl⟩) (by omega)
  have hBA : ∀ e ∈ B, (e.1 : Int) ≠ lsC A (-1) := by
    intro e he hh
    by_cases hA : A = []
    · subst hA; simp [lsC] at hh
    · obtain ⟨x, hx, hxe⟩ := lsC_mem hA (-1)
      exact n3 x.1 (List.mem_map.2 ⟨x, hx, rfl⟩) e.1 (List.mem_map.2 ⟨e, he, rfl⟩) (by omega)
  have hatA : (s.nextAt : Int) ≠ lsC A (-1) := by
    intro hh
    by_cases hA : A = []
    · subst hA; simp [lsC] at hh
    · obtain ⟨x, hx, hxe⟩ := lsC_mem hA (-1)
      exact hfA x hx (by omega)
  have hatB : (s.nextAt : Int) ≠ hdC B (-1) := by
    intro hh
    by_cases hB : B = []
    · subst hB; simp [hdC] at hh
    · obtain ⟨x, hx, hxe⟩ := hdC_mem hB (-1)
      exact hfB x hx (by omega)
  refine ⟨Seg.app.2 ⟨?_, ?_, ?_⟩, ?_, ?_⟩
  · refine Seg.setNext (n' := s.nextAt) h1 n1 (fun e he => ?_)
    have h3 : (e.1 : Int) ≠ s.nextAt := fun hh => hfA e he (by omega)
    rw [chg_get, if_neg (hAB e he), chg_get]
    by_cases hl : (e.1 : Int) = lsC A (-1)
    · rw [if_pos hl, if_pos hl, PS.get_take hw, if_neg (by rw [← hl]; exact h3), hl]
    · rw [if_neg hl, if_neg hl, PS.get_take hw, if_neg h3]
  · show _ = some (k, lsC A (-1), hdC B (-1))
    rw [chg_get, if_neg hatB, chg_get, if_neg hatA, PS.get_take hw, if_pos rfl]
  · refine Seg.setPrev (p' := s.nextAt) h2 n2 (fun e he => ?_)
    have h3 : (e.1 : Int) ≠ s.nextAt := fun hh => hfB e he (by omega)
    rw [chg_get]
    by_cases hl : (e.1 : Int) = hdC B (-1)
    · rw [if_pos hl, if_pos hl, chg_get, if_neg (by rw [← hl]; exact hBA e he), PS.get_take hw, if_neg (by rw [← hl]; exact h3), hl]
    · rw [if_neg hl, if_neg hl, chg_get, if_neg (hBA e he), PS.get_take hw, if_neg h3]
  · rw [List.map_append, List.map_cons, List.nodup_append, List.nodup_cons]
    refine ⟨n1, ⟨fun hm => ?_, n2⟩, fun x hx y hy => ?_⟩
    · obtain ⟨e, he, hh⟩ := List.mem_map.1 hm; exact hfB e he hh
    · rcases List.mem_cons.1 hy with rfl | hy
      · obtain ⟨e, he, hh⟩ := List.mem_map.1 hx; rw [← hh]; exact hfA e he
      · exact n3 x hx y hy
  · rw [chg_live, chg_live, PS.take_live hw, h.live]; simp; omega
/-- A link less. -/
theorem Linked.drop (h : Linked s (A ++ (a, k) :: B)) :
    Linked ((chg (chg s (lsC A (-1)) (setNext (hdC B (-1)))) (hdC B (-1)) (setPrev (lsC A (-1)))).drop a) (A ++ B) ∧ s.get (a : Int) = some (k, lsC A (-1), hdC B (-1)) ∧
      (chg (chg s (lsC A (-1)) (setNext (hdC B (-1)))) (hdC B (-1)) (setPrev (lsC A (-1)))).get (a : Int) = some (k, lsC A (-1), hdC B (-1)) := by
  obtain ⟨h1, h2⟩ := Seg.app.1 h.seg
  obtain ⟨h2, h3⟩ := h2
  have hnd := h.nodup
  rw [List.map_append, List.map_cons, List.nodup_append, List.nodup_cons] at hnd
  obtain ⟨n1, ⟨n4, n2⟩, n3⟩ := hnd
  have hAa : ∀ e ∈ A, e.1 ≠ a := fun e he => n3 e.1 (List.mem_map.2 ⟨e, he, rfl⟩) a (by simp)
  have hBa : ∀ e ∈ B, e.1 ≠ a := fun e he hh => n4 (List.mem_map.2 ⟨e, he, hh⟩)
  have hAB : ∀ e ∈ A, (e.1 : Int) ≠ hdC B (-1) := by
    intro e he hh
    by_cases hB : B = []
    · subst hB; simp [hdC] at hh
    · obtain ⟨x, hx, hxe⟩ := hdC_mem hB (-1)
      exact n3 e.1 (List.mem_map.2 ⟨e, he, rfl⟩) x.1 (by simp; right; exact ⟨x.2, hx⟩) (by omega)
  have hBA : ∀ e ∈ B, (e.1 : Int) ≠ lsC A (-1) := by
    intro e he hh
    by_cases hA : A = []
    · subst hA; simp [lsC] at hh
    · obtain ⟨x, hx, hxe⟩ := lsC_mem hA (-1)
      exact n3 x.1 (List.mem_map.2 ⟨x, hx, rfl⟩) e.1 (by simp; right; exact ⟨e.2, he⟩) (by omega)
  have haA : (a : Int) ≠ lsC A (-1) := by
    intro hh
    by_cases hA : A = []
    · subst hA; simp [lsC] at hh
    · obtain ⟨x, hx, hxe⟩ := lsC_mem hA (-1)
      exact hAa x hx (by omega)
  have haB : (a : Int) ≠ hdC B (-1) := by
    intro hh
    by_cases hB : B = []
    · subst hB; simp [hdC] at hh
    · obtain ⟨x, hx, hxe⟩ := hdC_mem hB (-1)
      exact hBa x hx (by omega)
  have hgone : (chg (chg s (lsC A (-1)) (setNext (hdC B (-1)))) (hdC B (-1)) (setPrev (lsC A (-1)))).get (a : Int) = some (k, lsC A (-1), hdC B (-1)) := by
    rw [chg_get, if_neg haB, chg_get, if_neg haA]; exact h2
  have halt := (PS.get_lt hgone).1
  simp only [Int.toNat_natCast] at halt
  refine ⟨⟨Seg.app.2 ⟨?_, ?_⟩, ?_, ?_⟩, h2, hgone⟩
  · refine Seg.setNext (n' := hdC B (-1)) h1 n1 (fun e he => ?_)
    have h3 : (e.1 : Int) ≠ a := fun hh => hAa e he (by omega)
    rw [PS.get_drop halt, if_neg h3, chg_get, if_neg (hAB e he), chg_get]
    by_cases hl : (e.1 : Int) = lsC A (-1)
    · rw [if_pos hl, if_pos hl, hl]
    · rw [if_neg hl, if_neg hl]
  · refine Seg.setPrev (p' := lsC A (-1)) h3 n2 (fun e he => ?_)
    have h3 : (e.1 : Int) ≠ a := fun hh => hBa e he (by omega)
    rw [PS.get_drop halt, if_neg h3, chg_get]
    by_cases hl : (e.1 : Int) = hdC B (-1)
    · rw [if_pos hl, if_pos hl, chg_get, if_neg (by rw [← hl]; exact hBA e he), hl]
    · rw [if_neg hl, if_neg hl, chg_get, if_neg (hBA e he)]
  · rw [List.map_append, List.nodup_append]
    exact ⟨n1, n2, fun x hx y hy => n3 x hx y (by simp at hy ⊢; exact .inr hy)⟩
  · have := PS.drop_live (PS.get_some hgone).2
    rw [chg_live, chg_live, h.live] at this
    simp only [Int.toNat_natCast] at this
    simp at this ⊢; omega
end
end Go.Proofs.Ytfioekkegihkoaa
