/- The pool's model: places that hold a value or none, the freed ones in order, a limit; and how it lies in memory. -/
import Derived.Test.YtnbanbfnabhjjaaFlat
import Derived.Test.YtnbanbfnabhjjaaCount
namespace Go.Proofs.Ytnbanbfnabhjjaa
open Go.RowKit

structure PS (α : Type) where
  cells : List (Option α)
  free : List Nat
  limit : Nat
section
variable {α : Type}
def PS.live (s : PS α) : Nat := s.cells.countP Option.isSome
def PS.get (s : PS α) (i : Int) : Option α := if i < 0 then none else (s.cells[i.toNat]?).join
def PS.empty (limit : Nat) : PS α := ⟨[], [], limit⟩
/-- The place that is taken next. -/
def PS.nextAt (s : PS α) : Nat := (s.free.getLast?).getD s.cells.length
def PS.take (s : PS α) (v : α) : PS α :=
  match s.free.getLast? with
  | some i => { s with cells := s.cells.set i (some v), free := s.free.dropLast }
  | none => { s with cells := s.cells ++ [some v] }
def PS.drop (s : PS α) (i : Nat) : PS α := { s with cells := s.cells.set i none, free := s.free ++ [i] }
def PS.put (s : PS α) (i : Nat) (v : α) : PS α := { s with cells := s.cells.set i (some v) }
def PS.alloc (s : PS α) (v : α) : PS α × Nat × Bool := if s.live < s.limit then (s.take v, s.nextAt, true) else (s, 0, false)
def PS.give (s : PS α) (i : Int) : PS α × Bool := if (s.get i).isSome then (s.drop i.toNat, true) else (s, false)
def PS.store (s : PS α) (i : Int) (v : α) : PS α × Bool := if (s.get i).isSome then (s.put i.toNat v, true) else (s, false)
structure PS.wf (s : PS α) : Prop where
  lim : s.limit ≤ 1048576
  len : s.cells.length ≤ s.limit
  nodup : s.free.Nodup
  mem : ∀ i, i ∈ s.free ↔ s.cells[i]? = some none
  count : s.live + s.free.length = s.cells.length

theorem PS.empty_wf (limit : Nat) (h : limit ≤ 1048576) : (PS.empty (α := α) limit).wf := ⟨h, by simp [PS.empty], by simp [PS.empty], by simp [PS.empty], by simp [PS.empty, PS.live]⟩
theorem PS.wf.live_le {s : PS α} (h : s.wf) : s.live ≤ s.limit := by have := h.count; have := h.len; omega
theorem countP_set {β : Type} (p : β → Bool) (l : List β) (i : Nat) (x y : β) (h : l[i]? = some x) : (l.set i y).countP p + (if p x then 1 else 0) = l.countP p + (if p y then 1 else 0) := by
  induction l generalizing i with
  | nil => simp at h
  | cons a l ih =>
    cases i with
    | zero => simp at h; subst h; simp only [List.set_cons_zero, List.countP_cons]; omega
    | succ i => simp at h; have := ih i h; simp only [List.set_cons_succ, List.countP_cons]; omega
theorem PS.last_mem {s : PS α} {i : Nat} (h : s.free.getLast? = some i) : i ∈ s.free := List.mem_of_getLast? h
theorem PS.take_live {s : PS α} (h : s.wf) (v : α) : (s.take v).live = s.live + 1 := by
  unfold PS.take
  cases hl : s.free.getLast? with
  | none => simp [PS.live]
  | some i =>
    have h1 := (h.mem i).1 (PS.last_mem hl)
    have := countP_set Option.isSome s.cells i none (some v) h1
    simp [PS.live] at this ⊢; omega
theorem PS.take_wf {s : PS α} (h : s.wf) (hl : s.live < s.limit) (v : α) : (s.take v).wf := by
  have hlive := PS.take_live h v
  have hc := h.count
  cases hf : s.free.getLast? with
  | none =>
    have hnil : s.free = [] := by simpa using hf
    have e : s.take v = { s with cells := s.cells ++ [some v] } := by unfold PS.take; rw [hf]
    rw [hnil] at hc; simp at hc
    refine ⟨by rw [e]; exact h.lim, by rw [e]; simp; omega, by rw [e]; exact h.nodup, fun i => ?_, ?_⟩
    · rw [e]; simp only [hnil, List.not_mem_nil, false_iff]
      have := h.mem i; rw [hnil] at this; simp at this
      rw [List.getElem?_append]; split
      · exact this
      · intro hh; have := List.mem_of_getElem? hh; simp at this
    · rw [hlive, e]; simp [hnil]; omega
  | some i =>
    have h1 := (h.mem i).1 (PS.last_mem hf)
    have e : s.take v = { s with cells := s.cells.set i (some v), free := s.free.dropLast } := by unfold PS.take; rw [hf]
    have hd : s.free = s.free.dropLast ++ [i] := by
      obtain ⟨ys, hy⟩ := List.getLast?_eq_some_iff.1 hf
      rw [hy]; simp
    have hnd := h.nodup
    rw [hd] at hnd
    have hni : i ∉ s.free.dropLast := fun hm => by
      rw [List.nodup_append] at hnd; exact hnd.2.2 i hm i (by simp) rfl
    refine ⟨by rw [e]; exact h.lim, by rw [e]; simpa using h.len, by rw [e]; rw [List.nodup_append] at hnd; exact hnd.1, fun j => ?_, ?_⟩
    · rw [e]; simp only
      have hj := h.mem j; rw [hd] at hj; simp at hj
      rw [List.getElem?_set]
      by_cases hij : i = j
      · subst hij; simp only [if_true]
        constructor
        · intro hm; exact absurd hm hni
        · split <;> simp
      · rw [if_neg hij]
        constructor
        · intro hm; exact hj.1 (.inl hm)
        · intro hm; rcases hj.2 hm with hm | hm
          · exact hm
          · exact absurd hm.symm hij
    · rw [hlive, e]; simp
      have : s.free.length = s.free.dropLast.length + 1 := by conv => lhs; rw [hd]
                                                              simp
      simp at this; omega
theorem PS.get_some {s : PS α} {i : Int} {v : α} (h : s.get i = some v) : 0 ≤ i ∧ s.cells[i.toNat]? = some (some v) := by
  unfold PS.get at h; split at h
  · cases h
  · refine ⟨by omega, ?_⟩
    cases hc : s.cells[i.toNat]? with
    | none => rw [hc] at h; cases h
    | some o => rw [hc] at h; simp at h; rw [h]
theorem PS.drop_live {s : PS α} {i : Nat} {v : α} (hi : s.cells[i]? = some (some v)) : (s.drop i).live + 1 = s.live := by
  have := countP_set Option.isSome s.cells i (some v) none hi
  simp [PS.live, PS.drop] at this ⊢; omega
theorem PS.drop_wf {s : PS α} (h : s.wf) {i : Nat} {v : α} (hi : s.cells[i]? = some (some v)) : (s.drop i).wf := by
  have hl := PS.drop_live hi
  have hn : i ∉ s.free := fun hm => by have := (h.mem i).1 hm; rw [hi] at this; simp at this
  have hlt : i < s.cells.length := (List.getElem?_eq_some_iff.1 hi).1
  refine ⟨h.lim, by simpa [PS.drop] using h.len, ?_, fun j => ?_, ?_⟩
  · simp only [PS.drop, List.nodup_append, h.nodup, true_and]
    refine ⟨by simp, fun a ha b hb => by simp at hb; subst hb; rintro rfl; exact hn ha⟩
  · simp only [PS.drop, List.mem_append, List.mem_singleton, List.getElem?_set]
    by_cases hij : i = j
    · subst hij; simp [hlt]
    · have hji : ¬ j = i := fun e => hij e.symm
      rw [if_neg hij]; simp [hji, h.mem j]
  · have := h.count; simp only [PS.drop, List.length_append, List.length_set, List.length_cons, List.length_nil] at *; omega
theorem PS.put_live {s : PS α} {i : Nat} {v u : α} (hi : s.cells[i]? = some (some u)) : (s.put i v).live = s.live := by
  have := countP_set Option.isSome s.cells i (some u) (some v) hi
  simp [PS.live, PS.put] at this ⊢; omega
theorem PS.put_wf {s : PS α} (h : s.wf) {i : Nat} {v u : α} (hi : s.cells[i]? = some (some u)) : (s.put i v).wf := by
  have hl := PS.put_live (v := v) hi
  have hlt : i < s.cells.length := (List.getElem?_eq_some_iff.1 hi).1
  refine ⟨h.lim, by simpa [PS.put] using h.len, h.nodup, fun j => ?_, ?_⟩
  · simp only [PS.put, List.getElem?_set]
    by_cases hij : i = j
    · subst hij; simp [hlt]; rw [h.mem i, hi]; simp
    · rw [if_neg hij]; exact h.mem j
  · have := h.count; rw [hl]; simpa [PS.put] using this
end

/-- How a pool's element type lies in memory: the pool's, the cell's types; how many cells; the zero value. -/
structure PT (α : Type) where
  tp : Nat
  tc : Nat
  sz : Nat
  enc : α → List Value
  zero : α
  len : ∀ x, (enc x).length = sz
  one : ∀ x, ∀ u ∈ enc x, u.oneCell' = true
  n1 : tp ≠ tc
  n2 : tp ≠ 3
  n3 : tc ≠ 3
section
variable {α : Type} (T : PT α)
def PT.cell (o : Option α) : List Value := match o with
  | some v => T.enc v ++ [.bool true]
  | none => T.enc T.zero ++ [.bool false]
theorem PT.cell_len (o : Option α) : (T.cell o).length = T.sz + 1 := by cases o <;> simp [PT.cell, T.len]
theorem PT.cell_one (o : Option α) : ∀ u ∈ T.cell o, u.oneCell' = true := by
  intro u hu
  cases o <;> simp only [PT.cell, List.mem_append, List.mem_singleton] at hu <;> rcases hu with hu | rfl <;> first | exact T.one _ u hu | rfl
def PT.row (s : PS α) : List Value := s.cells.flatMap T.cell
def poolCells (mb : Nat) (cv fv : Value) (live limit : Nat) : Array Value := #[.pointer (some ⟨mb, 0, none⟩), cv, fv, .int .i64 live, .int .i64 limit]
/-- The pool at block pb, with its rows' blocks. -/
structure PoolIn (w : World) (pb mb : Nat) (cv fv : Value) (s : PS α) : Prop where
  blk : Blk w pb T.tp (poolCells mb cv fv s.live s.limit)
  cells : Row w T.tc (T.sz + 1) cv s.cells.length (T.row s)
  free : Row w 3 1 fv s.free.length (s.free.map fun i => .int .i64 (i : Nat))
  wf : s.wf
def PoolAt (w : World) (pb mb : Nat) (F : List Nat) (s : PS α) : Prop := ∃ cv fv, F = pb :: (rb cv ++ rb fv) ∧ PoolIn T w pb mb cv fv s
variable {T}
theorem PoolIn.mod {w w' : World} {pb mb : Nat} {cv fv : Value} {s : PS α} (h : PoolIn T w pb mb cv fv s) {S : List Nat} (hm : Mod S w w') (hS : ∀ k ∈ S, k ∉ pb :: (rb cv ++ rb fv)) : PoolIn T w' pb mb cv fv s :=
  ⟨h.blk.mod hm (fun hk => hS _ hk (by simp)), h.cells.mod hm (fun k hk hk' => hS k hk' (by simp [hk])), h.free.mod hm (fun k hk hk' => hS k hk' (by simp [hk])), h.wf⟩
theorem PoolAt.mod {w w' : World} {pb mb : Nat} {F : List Nat} {s : PS α} (h : PoolAt T w pb mb F s) {S : List Nat} (hm : Mod S w w') (hS : ∀ k ∈ S, k ∉ F) : PoolAt T w' pb mb F s := by
  obtain ⟨cv, fv, rfl, h⟩ := h
  exact ⟨cv, fv, rfl, h.mod hm hS⟩
theorem PoolAt.lt {w : World} {pb mb : Nat} {F : List Nat} {s : PS α} (h : PoolAt T w pb mb F s) : ∀ k ∈ F, k < w.heap.size := by
  obtain ⟨cv, fv, rfl, h⟩ := h
  intro k hk
  simp only [List.mem_cons, List.mem_append] at hk
  rcases hk with rfl | hk | hk
  · exact h.blk.lt
  · exact h.cells.lt hk
  · exact h.free.lt hk
theorem PoolAt.wf {w : World} {pb mb : Nat} {F : List Nat} {s : PS α} (h : PoolAt T w pb mb F s) : s.wf := by
  obtain ⟨cv, fv, rfl, h⟩ := h; exact h.wf
theorem PoolAt.head {w : World} {pb mb : Nat} {F : List Nat} {s : PS α} (h : PoolAt T w pb mb F s) : pb ∈ F := by
  obtain ⟨cv, fv, rfl, h⟩ := h; simp
theorem PoolIn.c0 {w : World} {pb mb : Nat} {cv fv : Value} {s : PS α} (h : PoolIn T w pb mb cv fv s) : w.cell? ⟨pb, 0, none⟩ = some (.pointer (some ⟨mb, 0, none⟩)) := h.blk.cell 0
theorem PoolIn.c1 {w : World} {pb mb : Nat} {cv fv : Value} {s : PS α} (h : PoolIn T w pb mb cv fv s) : w.cell? ⟨pb, 1, none⟩ = some cv := h.blk.cell 1
theorem PoolIn.c2 {w : World} {pb mb : Nat} {cv fv : Value} {s : PS α} (h : PoolIn T w pb mb cv fv s) : w.cell? ⟨pb, 2, none⟩ = some fv := h.blk.cell 2
theorem PoolIn.c3 {w : World} {pb mb : Nat} {cv fv : Value} {s : PS α} (h : PoolIn T w pb mb cv fv s) : w.cell? ⟨pb, 3, none⟩ = some (.int .i64 s.live) := h.blk.cell 3
theorem PoolIn.c4 {w : World} {pb mb : Nat} {cv fv : Value} {s : PS α} (h : PoolIn T w pb mb cv fv s) : w.cell? ⟨pb, 4, none⟩ = some (.int .i64 s.limit) := h.blk.cell 4
/-- Where the cells lie, if there is one. -/
theorem PoolIn.at_ {w : World} {pb mb : Nat} {cv fv : Value} {s : PS α} (h : PoolIn T w pb mb cv fv s) (hn : 0 < s.cells.length) :
    ∃ g cap, cv = .slice (some ⟨g, 0, none⟩) s.cells.length cap ∧ rb cv = [g] ∧ s.cells.length ≤ cap ∧ cap ≤ 9223372036854775807 ∧ g < w.heap.size ∧ g ≠ pb ∧
      (∀ i j o, s.cells[i]? = some o → j < T.sz + 1 → w.cell? ⟨g, i * (T.sz + 1) + j, none⟩ = (T.cell o)[j]?) ∧ (∀ j, w.frozen? ⟨g, j, none⟩ = false) := by
  obtain ⟨g, cap, hv, h1, h2, h3, h4, h5, h6⟩ := h.cells.at_ hn
  refine ⟨g, cap, hv, h1, h2, h3, h4, ?_, fun i j o hi hj => ?_, h6⟩
  · intro e
    have := h.cells.ty h.blk T.n1
    rw [h1, e] at this; simp at this
  · have hlt : i < s.cells.length := (List.getElem?_eq_some_iff.1 hi).1
    have hb : i * (T.sz + 1) + j < s.cells.length * (T.sz + 1) := by
      have : (i + 1) * (T.sz + 1) ≤ s.cells.length * (T.sz + 1) := Nat.mul_le_mul_right _ hlt
      rw [Nat.add_mul] at this; omega
    rw [h5 _ hb]; unfold PT.row; rw [flat_get T.cell (T.sz + 1) T.cell_len _ _ _ hj, hi]; rfl
end
end Go.Proofs.Ytnbanbfnabhjjaa
