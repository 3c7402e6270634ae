/- append of whatever slice, nil or not, to an owned row. -/
import Derived.Test.YthcjnijggebcaaaLib
namespace Go.Proofs.Ythcjnijggebcaaa
open Go.RowKit
set_option linter.unusedVariables false
set_option linter.unusedSimpArgs false
/-- What append takes: a slice, nil or not, whose elements' cells are news. -/
def Holds (w : World) (x : Value) (m sz : Nat) (news : List Value) : Prop := (x = .slice none 0 0 ∧ m = 0 ∧ news = []) ∨ ∃ ad c, x = .slice (some ad) m c ∧ news.length = m * sz ∧ ∀ j u, news[j]? = some u → w.cell? (ad.add j) = some u
theorem append_nothing {P : Program} {w : World} (t ty e : TypeId) (i : TypeInfo) (ht : P.underlying t = some (.slice e)) (hi : P.info? e = some i) (b : Option Addr) (n cap : Nat) (hn : n ≤ cap) :
    (Builtin.append_ #[t, t] ty #[.slice b n cap, .slice none 0 0]).run P w = .ok (.slice b n cap) w := by
  cases b with
  | none => simp [Builtin.append_, run_underlying ht, sizeOf, typeInfo, hi, Builtin.lenOf, hn, Builtin.firstCells, storeCells]
  | some a => simp [Builtin.append_, run_underlying ht, sizeOf, typeInfo, hi, Builtin.lenOf, hn, Builtin.firstCells, storeCells]
theorem append_any {P : Program} {w : World} (t ty e : TypeId) (i : TypeInfo) (z : Value) (size bytes : Nat) (ht : P.underlying t = some (.slice e)) (hi : P.info? e = some i) (hz : i.zero = some z)
    (hsize : i.size = size) (hby : i.bytes = bytes) (hzs : z.cells.size = size) (hsz : 0 < size)
    (v : Value) (n : Nat) (xs : List Value) (hown : Row w e size v n xs) (x : Value) (m : Nat) (news : List Value) (hx : Holds w x m size news) (h1 : ∀ u ∈ news, u.oneCell' = true)
    (h63 : n + m ≤ 9223372036854775807) (hbytes : (n + m) * bytes ≤ 140737488355328) :
    ∃ b cap w', (Builtin.append_ #[t, t] ty #[v, x]).run P w = .ok (.slice b (n + m) cap) w' ∧ Row w' e size (.slice b (n + m) cap) (n + m) (xs ++ news) ∧ Mod (rb v) w w' ∧
      (∀ k ∈ rb (.slice b (n + m) cap), k ∈ rb v ∨ w.heap.size ≤ k) := by
  rcases hx with ⟨rfl, rfl, rfl⟩ | ⟨ad, c, rfl, hl, hnews⟩
  · obtain ⟨b, cap, rfl, hc, _⟩ := hown.slice_
    refine ⟨b, cap, w, append_nothing t ty e i ht hi b n cap hc, by simpa using hown, Mod.refl _ w, fun k hk => .inl ?_⟩
    simpa [rb, Value.ownBlock] using hk
  · obtain ⟨v', w', hr, h2, h3, h4⟩ := append_where (P := P) (w := w) t ty e i z size bytes ht hi hz hsize hby hzs hsz v n xs hown ad m c news hl hnews h1 h63 hbytes
    obtain ⟨b, cap, rfl, _⟩ := h2.slice_
    exact ⟨b, cap, w', hr, h2, h3, h4⟩
theorem wpList_any {P : Program} {w : World} {ops : Array Oper} {rest : List Oper} {o : Oper} {a : Act} {Q : Exit → Act → World → Prop} (hgd : o.guard = none) (s x : Operand) (t : TypeId)
    (ho : o.op = .call { callee := .builtin .append, args := #[s, x], argTypes := #[t, t] })
    (e : TypeId) (z : Value) (size bytes : Nat) (ht : P.underlying t = some (.slice e)) (hi : (P.info? e).map (fun i => (i.zero, i.size, i.bytes)) = some (some z, size, bytes))
    (hzs : z.cells.size = size) (hsz : 0 < size)
    (v : Value) (n : Nat) (xs : List Value) (hs : a.eval s = v) (hown : Row w e size v n xs)
    (y : Value) (m : Nat) (news : List Value) (hy : a.eval x = y) (hx : Holds w y m size news) (h1 : ∀ u ∈ news, u.oneCell' = true)
    (h63 : n + m ≤ 9223372036854775807) (hbytes : (n + m) * bytes ≤ 140737488355328)
    (h : ∀ b cap w', Row w' e size (.slice b (n + m) cap) (n + m) (xs ++ news) → Mod (rb v) w w' → (∀ k ∈ rb (.slice b (n + m) cap), k ∈ rb v ∨ w.heap.size ≤ k) → wpList P ops Q rest (a.put o.dst (.slice b (n + m) cap)) w') : wpList P ops Q (o :: rest) a w := by
  obtain ⟨i, hi', hz, hsize, hby⟩ := info_parts hi
  obtain ⟨b, cap, w', hr, h2, h3, h4⟩ := append_any (P := P) (w := w) t o.type e i z size bytes ht hi' hz hsize hby hzs hsz v n xs hown y m news hx h1 h63 hbytes
  refine wpList_plain hgd (fun K hK => ?_)
  unfold Oper.wp execOp
  simp only [ho, resolve, invoke, builtin, Sem.run_bind, Sem.run_pure, Result.andThen_ok, List.map_toArray, List.map_cons, List.map_nil, hs, hy, hr]
  exact hK _ _ (h b cap w' h2 h3 h4)
theorem step_any {P : Program} {w : World} {ops : Array Oper} {o : Oper} {a : Act} {K : Act → World → Prop} {Q : Exit → Act → World → Prop} {E : Prop} (hgd : o.guard = none) (s x : Operand) (t : TypeId)
    (ho : o.op = .call { callee := .builtin .append, args := #[s, x], argTypes := #[t, t] })
    (e : TypeId) (z : Value) (size bytes : Nat) (ht : P.underlying t = some (.slice e)) (hi : (P.info? e).map (fun i => (i.zero, i.size, i.bytes)) = some (some z, size, bytes))
    (hzs : z.cells.size = size) (hsz : 0 < size)
    (v : Value) (n : Nat) (xs : List Value) (hs : a.eval s = v) (hown : Row w e size v n xs)
    (y : Value) (m : Nat) (news : List Value) (hy : a.eval x = y) (hx : Holds w y m size news) (h1 : ∀ u ∈ news, u.oneCell' = true)
    (h63 : n + m ≤ 9223372036854775807) (hbytes : (n + m) * bytes ≤ 140737488355328)
    (h : ∀ b cap w', Row w' e size (.slice b (n + m) cap) (n + m) (xs ++ news) → Mod (rb v) w w' → (∀ k ∈ rb (.slice b (n + m) cap), k ∈ rb v ∨ w.heap.size ≤ k) → K (a.put o.dst (.slice b (n + m) cap)) w') :
    if Region.wanted o (yielded ops a.tmps) = true then Oper.wp P o a w K Q else E := by
  obtain ⟨i, hi', hz, hsize, hby⟩ := info_parts hi
  obtain ⟨b, cap, w', hr, h2, h3, h4⟩ := append_any (P := P) (w := w) t o.type e i z size bytes ht hi' hz hsize hby hzs hsz v n xs hown y m news hx h1 h63 hbytes
  have hw : Region.wanted o (yielded ops a.tmps) = true := by simp [Region.wanted, hgd]
  rw [if_pos hw]
  unfold Oper.wp execOp
  simp only [ho, resolve, invoke, builtin, Sem.run_bind, Sem.run_pure, Result.andThen_ok, List.map_toArray, List.map_cons, List.map_nil, hs, hy, hr]
  exact h b cap w' h2 h3 h4
/-- An empty slice that is not nil is an owned row of none. -/
theorem Row.empty_ {w : World} {e sz g : Nat} (h : w.heap[g]? = some (.cells #[] e)) : Row w e sz (.slice (some ⟨g, 0, none⟩) 0 0) 0 [] := by
  refine ⟨by simp, .inr ⟨g, 0, #[], rfl, Nat.zero_le _, h, Nat.le_refl _, Nat.zero_le _, by simp, by simp⟩⟩
/-- A part of a row, as append takes it. -/
theorem Row.holds_take {w : World} {e sz n cap : Nat} {a : Option Addr} {xs : List Value} (h : Row w e sz (.slice a n cap) n xs) (i : Nat) (hi : i ≤ n) (c : Nat) (hc : a = none → c = 0) : Holds w (.slice a i c) i sz (xs.take (i * sz)) := by
  have hl := h.1
  rcases h.2 with ⟨hv, hn⟩ | ⟨g, cap', cur, hv, _⟩
  · injection hv with e1 e2 e3; subst e1 e2
    have : i = 0 := by omega
    subst this; exact .inl ⟨by rw [hc rfl], rfl, by simp⟩
  · injection hv with e1 e2 e3; subst e1
    refine .inr ⟨_, _, rfl, ?_, fun j u hj => ?_⟩
    · rw [List.length_take, hl]; have := Nat.mul_le_mul_right sz hi; omega
    · have hj2 : j < i * sz := by have := (List.getElem?_eq_some_iff.1 hj).1; rw [List.length_take] at this; omega
      rw [List.getElem?_take_of_lt hj2] at hj
      exact World.ownsRow.cells h rfl j u hj
theorem Row.holds_drop {w : World} {e sz n cap g : Nat} {xs : List Value} (h : Row w e sz (.slice (some ⟨g, 0, none⟩) n cap) n xs) (i : Nat) (hi : i ≤ n) (c : Nat) : Holds w (.slice (some ⟨g, i * sz, none⟩) (n - i) c) (n - i) sz (xs.drop (i * sz)) := by
  have hl := h.1
  refine .inr ⟨_, _, rfl, ?_, fun j u hj => ?_⟩
  · rw [List.length_drop, hl, Nat.sub_mul]
  · rw [List.getElem?_drop] at hj
    have := World.ownsRow.cells h rfl _ u hj
    rw [show (⟨g, 0, none⟩ : Addr).add (i * sz + j) = (⟨g, i * sz, none⟩ : Addr).add j from by unfold Addr.add; by_cases h1 : i * sz = 0 <;> by_cases h2 : j = 0 <;> simp [h1, h2]] at this
    exact this
theorem Row.holds_drop0 {w : World} {e sz n cap g : Nat} {xs : List Value} (h : Row w e sz (.slice (some ⟨g, 0, none⟩) n cap) n xs) (i : Nat) (hi : i = n) (c : Nat) : Holds w (.slice (some ⟨g, 0, none⟩) (n - i) c) (n - i) sz (xs.drop (i * sz)) := by
  have hl := h.1
  have hx : xs.drop (i * sz) = [] := by rw [List.drop_eq_nil_iff, hl, hi]; omega
  rw [hx]
  exact .inr ⟨_, _, rfl, by subst hi; simp, fun j u hj => by simp at hj⟩
end Go.Proofs.Ythcjnijggebcaaa
