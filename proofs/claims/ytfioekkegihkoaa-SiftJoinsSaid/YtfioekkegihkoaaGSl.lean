/- Texts joined: App, Args, Sl. -/
import Derived.Test.YtfioekkegihkoaaGLib
import Derived.ProofKit
import Derived.OpenShut
import Derived.SizedLaws
import Derived.ChangeSlices
import Derived.Test.YtfioekkegihkoaaProg
set_option linter.unusedVariables false
set_option linter.unusedSimpArgs false
/- append of whatever slice, nil or not, to an owned row. -/
namespace Go.Proofs.Ytfioekkegihkoaa
open Go.RowKit
set_option linter.unusedVariables false
set_option linter.unusedSimpArgs false
/-- What append takes: a slice, nil or not, whose elements' cells are news. -/
def Holds (w : World) (x : Value) (m sz : Nat) (news : List Value) : Prop := (x = .slice none 0 0 ∧ m = 0 ∧ news = []) ∨ ∃ ad c, x = .slice (some ad) m c ∧ news.length = m * sz ∧ ∀ j u, news[j]? = some u → w.cell? (ad.add j) = some u
theorem append_nothing {P : Program} {w : World} (t ty e : TypeId) (i : TypeInfo) (ht : P.underlying t = some (.slice e)) (hi : P.info? e = some i) (b : Option Addr) (n cap : Nat) (hn : n ≤ cap) :
    (Builtin.append_ #[t, t] ty #[.slice b n cap, .slice none 0 0]).run P w = .ok (.slice b n cap) w := by
  cases b with
  | none => simp [Builtin.append_, run_underlying ht, sizeOf, typeInfo, hi, Builtin.lenOf, hn, Builtin.firstCells, storeCells]
  | some a => simp [Builtin.append_, run_underlying ht, sizeOf, typeInfo, hi, Builtin.lenOf, hn, Builtin.firstCells, storeCells]
theorem append_any {P : Program} {w : World} (t ty e : TypeId) (i : TypeInfo) (z : Value) (size bytes : Nat) (ht : P.underlying t = some (.slice e)) (hi : P.info? e = some i) (hz : i.zero = some z)
    (hsize : i.size = size) (hby : i.bytes = bytes) (hzs : z.cells.size = size) (hsz : 0 < size)
    (v : Value) (n : Nat) (xs : List Value) (hown : Row w e size v n xs) (x : Value) (m : Nat) (news : List Value) (hx : Holds w x m size news) (h1 : ∀ u ∈ news, u.oneCell' = true)
    (h63 : n + m ≤ 9223372036854775807) (hbytes : (n + m) * bytes ≤ 140737488355328) :
    ∃ b cap w', (Builtin.append_ #[t, t] ty #[v, x]).run P w = .ok (.slice b (n + m) cap) w' ∧ Row w' e size (.slice b (n + m) cap) (n + m) (xs ++ news) ∧ Mod (rb v) w w' ∧
      (∀ k ∈ rb (.slice b (n + m) cap), k ∈ rb v ∨ w.heap.size ≤ k) := by
  rcases hx with ⟨rfl, rfl, rfl⟩ | ⟨ad, c, rfl, hl, hnews⟩
  · obtain ⟨b, cap, rfl, hc, _⟩ := hown.slice_
    refine ⟨b, cap, w, append_nothing t ty e i ht hi b n cap hc, by simpa using hown, Mod.refl _ w, fun k hk => .inl ?_⟩
    simpa [rb, Value.ownBlock] using hk
  · obtain ⟨v', w', hr, h2, h3, h4⟩ := append_where (P := P) (w := w) t ty e i z size bytes ht hi hz hsize hby hzs hsz v n xs hown ad m c news hl hnews h1 h63 hbytes
    obtain ⟨b, cap, rfl, _⟩ := h2.slice_
    exact ⟨b, cap, w', hr, h2, h3, h4⟩
theorem wpList_any {P : Program} {w : World} {ops : Array Oper} {rest : List Oper} {o : Oper} {a : Act} {Q : Exit → Act → World → Prop} (hgd : o.guard = none) (s x : Operand) (t : TypeId)
    (ho : o.op = .call { callee := .builtin .append, args := #[s, x], argTypes := #[t, t] })
    (e : TypeId) (z : Value) (size bytes : Nat) (ht : P.underlying t = some (.slice e)) (hi : (P.info? e).map (fun i => (i.zero, i.size, i.bytes)) = some (some z, size, bytes))
    (hzs : z.cells.size = size) (hsz : 0 < size)
    (v : Value) (n : Nat) (xs : List Value) (hs : a.eval s = v) (hown : Row w e size v n xs)
    (y : Value) (m : Nat) (news : List Value) (hy : a.eval x = y) (hx : Holds w y m size news) (h1 : ∀ u ∈ news, u.oneCell' = true)
    (h63 : n + m ≤ 9223372036854775807) (hbytes : (n + m) * bytes ≤ 140737488355328)
    (h : ∀ b cap w', Row w' e size (.slice b (n + m) cap) (n + m) (xs ++ news) → Mod (rb v) w w' → (∀ k ∈ rb (.slice b (n + m) cap), k ∈ rb v ∨ w.heap.size ≤ k) → wpList P ops Q rest (a.put o.dst (.slice b (n + m) cap)) w') : wpList P ops Q (o :: rest) a w := by
  obtain ⟨i, hi', hz, hsize, hby⟩ := info_parts hi
  obtain ⟨b, cap, w', hr, h2, h3, h4⟩ := append_any (P := P) (w := w) t o.type e i z size bytes ht hi' hz hsize hby hzs hsz v n xs hown y m news hx h1 h63 hbytes
  refine wpList_plain hgd (fun K hK => ?_)
  unfold Oper.wp execOp
  simp only [ho, resolve, invoke, builtin, Sem.run_bind, Sem.run_pure, Result.andThen_ok, List.map_toArray, List.map_cons, List.map_nil, hs, hy, hr]
  exact hK _ _ (h b cap w' h2 h3 h4)
theorem step_any {P : Program} {w : World} {ops : Array Oper} {o : Oper} {a : Act} {K : Act → World → Prop} {Q : Exit → Act → World → Prop} {E : Prop} (hgd : o.guard = none) (s x : Operand) (t : TypeId)
    (ho : o.op = .call { callee := .builtin .append, args := #[s, x], argTypes := #[t, t] })
    (e : TypeId) (z : Value) (size bytes : Nat) (ht : P.underlying t = some (.slice e)) (hi : (P.info? e).map (fun i => (i.zero, i.size, i.bytes)) = some (some z, size, bytes))
    (hzs : z.cells.size = size) (hsz : 0 < size)
    (v : Value) (n : Nat) (xs : List Value) (hs : a.eval s = v) (hown : Row w e size v n xs)
    (y : Value) (m : Nat) (news : List Value) (hy : a.eval x = y) (hx : Holds w y m size news) (h1 : ∀ u ∈ news, u.oneCell' = true)
    (h63 : n + m ≤ 9223372036854775807) (hbytes : (n + m) * bytes ≤ 140737488355328)
    (h : ∀ b cap w', Row w' e size (.slice b (n + m) cap) (n + m) (xs ++ news) → Mod (rb v) w w' → (∀ k ∈ rb (.slice b (n + m) cap), k ∈ rb v ∨ w.heap.size ≤ k) → K (a.put o.dst (.slice b (n + m) cap)) w') :
    if Region.wanted o (yielded ops a.tmps) = true then Oper.wp P o a w K Q else E := by
  obtain ⟨i, hi', hz, hsize, hby⟩ := info_parts hi
  obtain ⟨b, cap, w', hr, h2, h3, h4⟩ := append_any (P := P) (w := w) t o.type e i z size bytes ht hi' hz hsize hby hzs hsz v n xs hown y m news hx h1 h63 hbytes
  have hw : Region.wanted o (yielded ops a.tmps) = true := by simp [Region.wanted, hgd]
  rw [if_pos hw]
  unfold Oper.wp execOp
  simp only [ho, resolve, invoke, builtin, Sem.run_bind, Sem.run_pure, Result.andThen_ok, List.map_toArray, List.map_cons, List.map_nil, hs, hy, hr]
  exact h b cap w' h2 h3 h4
/-- An empty slice that is not nil is an owned row of none. -/
theorem Row.empty_ {w : World} {e sz g : Nat} (h : w.heap[g]? = some (.cells #[] e)) : Row w e sz (.slice (some ⟨g, 0, none⟩) 0 0) 0 [] := by
  refine ⟨by simp, .inr ⟨g, 0, #[], rfl, Nat.zero_le _, h, Nat.le_refl _, Nat.zero_le _, by simp, by simp⟩⟩
/-- A part of a row, as append takes it. -/
theorem Row.holds_take {w : World} {e sz n cap : Nat} {a : Option Addr} {xs : List Value} (h : Row w e sz (.slice a n cap) n xs) (i : Nat) (hi : i ≤ n) (c : Nat) (hc : a = none → c = 0) : Holds w (.slice a i c) i sz (xs.take (i * sz)) := by
  have hl := h.1
  rcases h.2 with ⟨hv, hn⟩ | ⟨g, cap', cur, hv, _⟩
  · injection hv with e1 e2 e3; subst e1 e2
    have : i = 0 := by omega
    subst this; exact .inl ⟨by rw [hc rfl], rfl, by simp⟩
  · injection hv with e1 e2 e3; subst e1
    refine .inr ⟨_, _, rfl, ?_, fun j u hj => ?_⟩
    · rw [List.length_take, hl]; have := Nat.mul_le_mul_right sz hi; omega
    · have hj2 : j < i * sz := by have := (List.getElem?_eq_some_iff.1 hj).1; rw [List.length_take] at this; omega
      rw [List.getElem?_take_of_lt hj2] at hj
      exact World.ownsRow.cells h rfl j u hj
theorem Row.holds_drop {w : World} {e sz n cap g : Nat} {xs : List Value} (h : Row w e sz (.slice (some ⟨g, 0, none⟩) n cap) n xs) (i : Nat) (hi : i ≤ n) (c : Nat) : Holds w (.slice (some ⟨g, i * sz, none⟩) (n - i) c) (n - i) sz (xs.drop (i * sz)) := by
  have hl := h.1
  refine .inr ⟨_, _, rfl, ?_, fun j u hj => ?_⟩
  · rw [List.length_drop, hl, Nat.sub_mul]
  · rw [List.getElem?_drop] at hj
    have := World.ownsRow.cells h rfl _ u hj
    rw [show (⟨g, 0, none⟩ : Addr).add (i * sz + j) = (⟨g, i * sz, none⟩ : Addr).add j from by unfold Addr.add; by_cases h1 : i * sz = 0 <;> by_cases h2 : j = 0 <;> simp [h1, h2]] at this
    exact this
theorem Row.holds_drop0 {w : World} {e sz n cap g : Nat} {xs : List Value} (h : Row w e sz (.slice (some ⟨g, 0, none⟩) n cap) n xs) (i : Nat) (hi : i = n) (c : Nat) : Holds w (.slice (some ⟨g, 0, none⟩) (n - i) c) (n - i) sz (xs.drop (i * sz)) := by
  have hl := h.1
  have hx : xs.drop (i * sz) = [] := by rw [List.drop_eq_nil_iff, hl, hi]; omega
  rw [hx]
  exact .inr ⟨_, _, rfl, by subst hi; simp, fun j u hj => by simp at hj⟩
end Go.Proofs.Ytfioekkegihkoaa

/- Arguments that are slices of whole numbers: what their cells hold. -/
namespace Go.Proofs.Ytfioekkegihkoaa
open Go.RowKit Go.ChangeShapes Go.WideShapes
/-- The slice argument (a, len, cap) holds zs up to its capacity. -/
def IntRow (k : IntKind) (w : World) (a : Option Addr) (len cap : Nat) (zs : List Int) : Prop :=
  (a = none ∧ len = 0 ∧ cap = 0 ∧ zs = []) ∨
  ∃ x, a = some x ∧ len ≤ cap ∧ cap ≤ maxLen ∧ zs.length = cap ∧ (∀ i, i < zs.length → w.cell? (x.add i) = some (.int k (zs.getD i 0))) ∧ ∀ n ∈ zs, (Lit.int k n).wf = true
theorem IntRow.le {k : IntKind} {w : World} {a : Option Addr} {len cap : Nat} {zs : List Int} (h : IntRow k w a len cap zs) : len ≤ cap ∧ cap ≤ 9223372036854775807 := by
  rcases h with ⟨_, h1, h2, _⟩ | ⟨x, _, h1, h2, _⟩
  · omega
  · unfold maxLen at h2; omega
theorem IntRow.at_ {k : IntKind} {w : World} {a : Option Addr} {len cap : Nat} {zs : List Int} (h : IntRow k w a len cap zs) (hn : 0 < len) :
    ∃ b off, a = some ⟨b, off, none⟩ ∧ b < w.heap.size ∧ ∀ j, j < len → w.cell? ⟨b, off + j, none⟩ = some (.int k (zs.getD j 0)) ∧ (Lit.int k (zs.getD j 0)).wf = true := by
  rcases h with ⟨_, h1, h2, _⟩ | ⟨x, rfl, h1, h2, h3, h4, h5⟩
  · omega
  · obtain ⟨b, off, spot⟩ := x
    have h0 := h4 0 (by omega)
    have hs : spot = none := by
      rw [show (⟨b, off, spot⟩ : Addr).add 0 = ⟨b, off, spot⟩ from rfl] at h0
      unfold World.cell? at h0
      cases spot with
      | none => rfl
      | some q => simp only at h0; split at h0 <;> simp at h0
    subst hs
    have ha : ∀ j, (⟨b, off, none⟩ : Addr).add j = ⟨b, off + j, none⟩ := by intro j; unfold Addr.add; split <;> simp_all
    refine ⟨b, off, rfl, World.block_lt_of_cell? w _ h0, fun j hj => ?_⟩
    have := h4 j (by omega)
    rw [ha] at this
    refine ⟨this, h5 _ ?_⟩
    rw [List.getD_eq_getElem?_getD, List.getElem?_eq_getElem (by omega)]; exact List.getElem_mem _
/-- How long a slice of whole numbers may be: what its weight in the row's reading allows. -/
theorem sized_row {H : Type} {enc : TypeId × Value → H} {P : Program} {W : World} {base : Nat} {sp : Nat → Bool} {vd : Bool} {t e : TypeId} {k : IntKind} {a : Option Addr} {n c : Nat} {d : DataW H} {p : List MemPlace} {ts : List TypeId} {ds : List (DataW H)} {j : Nat}
    (hsz : (DataW.weightsEach P ts ds).all (· ≤ reachBytes) = true) (ht : ts[j]? = some t) (hd : ds[j]? = some d) (hu : P.underlying t = some (.slice e)) (he : P.underlying e = some (.int k)) (hc : P.cellsOf e = 1) {B : Nat} (hB : P.bytesOf e = B)
    (h : DataW.Trod enc P W base sp vd t (.slice a n c) d p) : n * B ≤ 140737488351232 := by
  obtain ⟨fuel, hf⟩ := h
  rcases open_ints hu he hc hf with ⟨hcs, _⟩ | ⟨x, l, m, zs, hcs, _, hl, _, hz, hx, _, _⟩
  · simp [Value.cells] at hcs
    obtain ⟨rfl, rfl, rfl⟩ := hcs
    simp
  · simp [Value.cells] at hcs
    obtain ⟨rfl, rfl, rfl⟩ := hcs
    obtain ⟨hx, _⟩ := Prod.mk.inj hx
    subst hx
    have hw := sized_slice hsz ht hd hu
    rw [hB] at hw
    have hn : n ≤ zs.length := by rw [hz]; split <;> omega
    have hs : (lits (H := H) k (zs.take n)).length + (lits (H := H) k (zs.drop n)).length = zs.length := by simp [lits]; omega
    rw [hs] at hw
    exact Nat.le_trans (Nat.mul_le_mul_right _ hn) hw
end Go.Proofs.Ytfioekkegihkoaa

/- Slices of whole numbers: what is read of them, whichever they are; rows under way. No program in sight. -/
namespace Go.Proofs.Ytfioekkegihkoaa
open Go.RowKit
set_option linter.unusedVariables false
set_option linter.unusedSimpArgs false
def icells (k : IntKind) (l : List Int) : List Value := l.map (Value.int k)
theorem icells_len (k : IntKind) (l : List Int) : (icells k l).length = l.length := by simp [icells]
theorem icells_get {k : IntKind} {l : List Int} {i : Nat} {x : Int} (h : l[i]? = some x) : (icells k l)[i]? = some (.int k x) := by simp [icells, h]
theorem icells_one (k : IntKind) (l : List Int) : ∀ u ∈ icells k l, u.oneCell' = true := by
  intro u hu; obtain ⟨x, _, rfl⟩ := List.mem_map.1 hu; rfl
/-- The slice v reads as l. -/
def ISl (k : IntKind) (w : World) (v : Value) (l : List Int) : Prop := ∃ a cap, v = .slice a l.length cap ∧ l.length ≤ cap ∧ cap ≤ 9223372036854775807 ∧ (a = none → cap = 0) ∧
  (l = [] ∨ ∃ b off, a = some ⟨b, off, none⟩ ∧ ∀ i x, l[i]? = some x → w.cell? ⟨b, off + i, none⟩ = some (.int k x))
section
variable {k : IntKind} {w w' : World} {v : Value} {l : List Int}
theorem ISl.nil_ (k : IntKind) (w : World) : ISl k w (.slice none 0 0) [] := ⟨none, 0, rfl, Nat.le_refl _, by omega, fun _ => rfl, .inl rfl⟩
theorem ISl.mod (h : ISl k w v l) {S : List Nat} (hm : Mod S w w') (hb : ∀ b ∈ rb v, b ∉ S) : ISl k w' v l := by
  obtain ⟨a, cap, rfl, h1, h2, h3, h4⟩ := h
  refine ⟨a, cap, rfl, h1, h2, h3, h4.imp id ?_⟩
  rintro ⟨b, off, rfl, h5⟩
  refine ⟨b, off, rfl, fun i x hx => ?_⟩
  have h6 := h5 i x hx
  have hlt : b < w.heap.size := by simpa using World.block_lt_of_cell? w _ h6
  have e := hm.block b hlt (hb b (by simp [rb, Value.ownBlock]))
  rw [← h6]; unfold World.cell?; simp only [e]
theorem ISl.below (h : ISl k w v l) {B : Nat} (hB : Below B w w') (hb : ∀ b ∈ rb v, b < B) : ISl k w' v l := by
  obtain ⟨a, cap, rfl, h1, h2, h3, h4⟩ := h
  refine ⟨a, cap, rfl, h1, h2, h3, h4.imp id ?_⟩
  rintro ⟨b, off, rfl, h5⟩
  exact ⟨b, off, rfl, fun i x hx => (hB.cell (p := ⟨b, off + i, none⟩) (hb b (by simp [rb, Value.ownBlock]))).trans (h5 i x hx)⟩
theorem ISl.slice_ (h : ISl k w v l) : ∃ a cap, v = .slice a l.length cap ∧ l.length ≤ cap ∧ cap ≤ 9223372036854775807 := by
  obtain ⟨a, cap, rfl, h1, h2, _⟩ := h; exact ⟨a, cap, rfl, h1, h2⟩
theorem ISl.at_ (h : ISl k w v l) (hn : 0 < l.length) : ∃ b off cap, v = .slice (some ⟨b, off, none⟩) l.length cap ∧ l.length ≤ cap ∧ cap ≤ 9223372036854775807 ∧ b < w.heap.size ∧ ∀ i x, l[i]? = some x → w.cell? ⟨b, off + i, none⟩ = some (.int k x) := by
  obtain ⟨a, cap, rfl, h1, h2, h3, h4⟩ := h
  rcases h4 with rfl | ⟨b, off, rfl, h5⟩
  · simp at hn
  · have h0 : l[0]? = some l[0] := List.getElem?_eq_getElem hn
    exact ⟨b, off, cap, rfl, h1, h2, by simpa using World.block_lt_of_cell? w _ (h5 0 _ h0), h5⟩
/-- The same, of a slice that is taken apart already. -/
theorem ISl.get {a : Option Addr} {n cap : Nat} (h : ISl k w (.slice a n cap) l) {i : Nat} (hi : i < n) : ∃ b off x, a = some ⟨b, off, none⟩ ∧ b < w.heap.size ∧ l[i]? = some x ∧ w.cell? ⟨b, off + i, none⟩ = some (.int k x) := by
  obtain ⟨a', cap', he, h1, h2, h3, h4⟩ := h
  injection he with e1 e2 e3; subst e1 e2
  rcases h4 with rfl | ⟨b, off, rfl, h5⟩
  · simp at hi
  · have h0 : l[i]? = some l[i] := List.getElem?_eq_getElem hi
    exact ⟨b, off, _, rfl, by simpa using World.block_lt_of_cell? w _ (h5 i _ h0), h0, h5 i _ h0⟩
theorem ISl.len {a : Option Addr} {n cap : Nat} (h : ISl k w (.slice a n cap) l) : l.length = n := by
  obtain ⟨a', cap', he, _⟩ := h; injection he with e1 e2 e3; exact e2.symm
theorem ISl.alloc (h : ISl k w v l) (o : Obj) : ISl k (w.alloc o) v l := h.mod ((Mod.refl [] w).alloc o) (by simp)
theorem ISl.drew (h : ISl k w v l) : ISl k w.drew v l := h.mod (Mod.refl [] w).drew (by simp)
theorem ISl.drewN (h : ISl k w v l) (n : Nat) : ISl k (w.drewN n) v l := h.mod ((Mod.refl [] w).drewN n) (by simp)
theorem ISl.holds (h : ISl k w v l) : Holds w v l.length 1 (icells k l) := by
  obtain ⟨a, cap, rfl, h1, h2, h3, h4⟩ := h
  cases a with
  | none =>
    have hc := h3 rfl
    have hl : l = [] := List.eq_nil_of_length_eq_zero (by omega)
    subst hl; subst hc
    exact .inl ⟨rfl, rfl, rfl⟩
  | some ad =>
    refine .inr ⟨ad, cap, rfl, by simp [icells], fun j u hj => ?_⟩
    rcases h4 with rfl | ⟨b, off, hab, h5⟩
    · simp [icells] at hj
    · injection hab with hab; subst hab
      simp only [icells, List.getElem?_map, Option.map_eq_some_iff] at hj
      obtain ⟨x, hx, rfl⟩ := hj
      rw [show (⟨b, off, none⟩ : Addr).add j = ⟨b, off + j, none⟩ from by unfold Addr.add; by_cases h : j = 0 <;> simp [h]]
      exact h5 j x hx
end
theorem Row.isl {k : IntKind} {w : World} {e n : Nat} {v : Value} {l : List Int} (h : Row w e 1 v n (icells k l)) : n = l.length ∧ ISl k w v l := by
  have hl : n = l.length := by have := h.1; simp [icells] at this; omega
  subst hl
  refine ⟨rfl, ?_⟩
  rcases h.2 with ⟨rfl, h2⟩ | ⟨g, cap, cur, rfl, _, hgg, h3, h4, _⟩
  · have : l = [] := List.eq_nil_of_length_eq_zero h2
    subst this; exact ISl.nil_ k w
  · refine ⟨_, cap, rfl, h3, by unfold maxLen at h4; exact h4, by simp, .inr ⟨g, 0, rfl, fun i x hx => ?_⟩⟩
    have hi : i < l.length := (List.getElem?_eq_some_iff.1 hx).1
    rw [Nat.zero_add, World.ownsRow.cellAt h i (by omega)]
    exact icells_get hx
theorem IntRow.isl {k : IntKind} {w : World} {a : Option Addr} {len cap : Nat} {zs : List Int} (h : IntRow k w a len cap zs) : ISl k w (.slice a len cap) (zs.take len) ∧ (zs.take len).length = len := by
  rcases h with ⟨rfl, rfl, rfl, rfl⟩ | ⟨x, rfl, h1, h2, h3, h4, h5⟩
  · exact ⟨by simpa using ISl.nil_ k w, rfl⟩
  · have hlen : (zs.take len).length = len := by simp; omega
    refine ⟨⟨some x, cap, by rw [hlen], by omega, by unfold maxLen at h2; omega, by simp, ?_⟩, hlen⟩
    rcases Nat.eq_zero_or_pos len with rfl | hn
    · exact .inl (by simp)
    · obtain ⟨b, off, e1, hb, hc⟩ := IntRow.at_ (k := k) (.inr ⟨x, rfl, h1, h2, h3, h4, h5⟩) hn
      injection e1 with e1
      subst e1
      refine .inr ⟨b, off, rfl, fun i y hy => ?_⟩
      have hi : i < len := by have := (List.getElem?_eq_some_iff.1 hy).1; omega
      have hg : zs.getD i 0 = y := by rw [List.getElem?_take_of_lt hi] at hy; simp [List.getD_eq_getElem?_getD, hy]
      rw [(hc i hi).1, hg]
theorem IntRow.bnds {k : IntKind} {w : World} {a : Option Addr} {len cap : Nat} {zs : List Int} (h : IntRow k w a len cap zs) : ∀ x ∈ zs, (Lit.int k x).wf = true := by
  rcases h with ⟨rfl, rfl, rfl, rfl⟩ | ⟨x, rfl, h1, h2, h3, h4, h5⟩
  · simp
  · exact h5
theorem IntRow.rblt {k : IntKind} {w : World} {a : Option Addr} {len cap : Nat} {zs : List Int} (h : IntRow k w a len cap zs) (hn : 0 < len) : ∀ b ∈ rb (.slice a len cap), b < w.heap.size := by
  obtain ⟨b, off, rfl, hb, _⟩ := h.at_ hn
  intro x hx; simp [rb, Value.ownBlock] at hx; omega
/-- A row of whole numbers under way: all its blocks are new since w, all else is as it was. -/
structure WayI (k : IntKind) (e : Nat) (w w' : World) (v : Value) (n : Nat) (l : List Int) : Prop where
  row : Row w' e 1 v n (icells k l)
  mod : Mod [] w w'
  ge : ∀ b ∈ rb v, w.heap.size ≤ b
section
variable {k : IntKind} {e : Nat} {w w' w2 : World} {v v2 : Value} {l m : List Int} {n0 n : Nat} {xs : List Value}
theorem WayI.next (h : WayI k e w w' v n0 l) (hr : Row w2 e 1 v2 n xs) (hm : Mod (rb v) w' w2) (hf : ∀ q ∈ rb v2, q ∈ rb v ∨ w'.heap.size ≤ q) (hx : xs = icells k m) : WayI k e w w2 v2 n m := by
  subst hx
  refine ⟨hr, h.mod.trans hm (fun x hx => .inr (h.ge x hx)), fun b hb => ?_⟩
  rcases hf b hb with h1 | h1
  · exact h.ge b h1
  · have := h.mod.size; omega
theorem WayI.alloc (h : WayI k e w w' v n l) (o : Obj) : WayI k e w (w'.alloc o) v n l := ⟨h.row.alloc o, h.mod.alloc o, h.ge⟩
theorem WayI.drew (h : WayI k e w w' v n l) : WayI k e w w'.drew v n l := ⟨h.row.drew, h.mod.drew, h.ge⟩
theorem WayI.drewN (h : WayI k e w w' v n l) (q : Nat) : WayI k e w (w'.drewN q) v n l := ⟨h.row.drewN q, h.mod.drewN q, h.ge⟩
theorem WayI.nil_ (h : Mod [] w w') : WayI k e w w' (.slice none 0 0) 0 [] := ⟨Row.nil_ _ _ _, h, fun b hb => by simp [rb, Value.ownBlock] at hb⟩
theorem WayI.isl (h : WayI k e w w' v n l) : n = l.length ∧ ISl k w' v l := Row.isl h.row
theorem WayI.empty (h : Mod [] w w') : WayI k e w (w'.alloc (.cells #[] e)) (.slice (some ⟨w'.heap.size, 0, none⟩) 0 0) 0 [] :=
  ⟨Row.empty_ (Blk.new w' _ _), h.alloc _, fun b hb => by simp [rb, Value.ownBlock] at hb; subst hb; exact h.size⟩
end
theorem holds_one (w : World) (a : Value) (t : Nat) {q : Nat} (hq : w.heap.size = q) : Holds (w.alloc (.cells #[a] t)) (.slice (some ⟨q, 0, none⟩) 1 1) 1 1 [a] := by
  subst hq
  refine .inr ⟨_, _, rfl, rfl, fun j u hj => ?_⟩
  have hb := Blk.new w t #[a]
  have hj2 : j < 1 := (List.getElem?_eq_some_iff.1 hj).1
  obtain rfl : j = 0 := by omega
  rw [show (⟨w.heap.size, 0, none⟩ : Addr).add 0 = ⟨w.heap.size, 0, none⟩ from by unfold Addr.add; simp]
  refine (hb.cell 0).trans ?_
  simpa using hj
theorem icells_snoc (k : IntKind) (l : List Int) (x : Int) : icells k l ++ [.int k x] = icells k (l ++ [x]) := by simp [icells]
end Go.Proofs.Ytfioekkegihkoaa
