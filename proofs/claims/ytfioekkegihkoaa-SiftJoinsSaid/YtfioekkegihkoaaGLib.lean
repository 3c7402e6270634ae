/- Texts joined: Lib, Flat, Count, PoolM, PoolG. -/
import Derived.WalkKit
import Derived.WalkSpells
import Derived.WalkLawsBesides
import Derived.Deep.QuietTactic
import Derived.BigQuiet
import Derived.StillTailTactics
import Derived.Deep.RegionLaw
import Derived.Test.YtfioekkegihkoaaProg
set_option linter.unusedVariables false
set_option linter.unusedSimpArgs false
/- Blocks of cells in the model's heap; what a call may turn; owned rows and the append law, with where a grown row lies. No program in sight. -/
namespace Go.Proofs.Ytfioekkegihkoaa
open Go.RowKit

/-- A fact kept from the walk. -/
structure Hidden (p : Prop) : Prop where mk :: (out : p)

/-- Of the blocks that were there only those of S may have turned. -/
structure Mod (S : List Nat) (w w' : World) : Prop where
  os : w'.os = w.os
  tape : w'.tape = w.tape
  output : w'.output = w.output
  size : w.heap.size ≤ w'.heap.size
  block : ∀ k, k < w.heap.size → k ∉ S → w'.heap[k]? = w.heap[k]?

theorem Mod.refl (S : List Nat) (w : World) : Mod S w w := ⟨rfl, rfl, rfl, Nat.le_refl _, fun _ _ _ => rfl⟩
theorem Mod.trans {S T : List Nat} {a b c : World} (h : Mod S a b) (k : Mod T b c) (hs : ∀ x ∈ T, x ∈ S ∨ a.heap.size ≤ x) : Mod S a c :=
  ⟨k.os.trans h.os, k.tape.trans h.tape, k.output.trans h.output, Nat.le_trans h.size k.size, fun i hi hn =>
    (k.block i (Nat.lt_of_lt_of_le hi h.size) (fun hm => (hs i hm).elim hn (by omega))).trans (h.block i hi hn)⟩
theorem Mod.mono {S T : List Nat} {a b : World} (h : Mod S a b) (hs : ∀ x ∈ S, x ∈ T ∨ a.heap.size ≤ x) : Mod T a b :=
  ⟨h.os, h.tape, h.output, h.size, fun i hi hn => h.block i hi (fun hm => (hs i hm).elim hn (by omega))⟩
theorem Mod.set {S : List Nat} {a w : World} (h : Mod S a w) {p : Addr} (hp : p.block ∈ S ∨ a.heap.size ≤ p.block) (u : Value) : Mod S a (w.setCell p u) :=
  h.trans (T := [p.block]) ⟨rfl, rfl, rfl, by simp [World.setCell], fun k _ hn => Below.heap_setCell _ _ _ _ (by simpa using hn)⟩ (by simpa using hp)
theorem Mod.alloc {S : List Nat} {a w : World} (h : Mod S a w) (o : Obj) : Mod S a (w.alloc o) :=
  h.trans (T := []) ⟨rfl, rfl, rfl, by simp, fun k hk _ => Below.heap_alloc _ _ _ hk⟩ (by simp)
theorem Mod.drew {S : List Nat} {a w : World} (h : Mod S a w) : Mod S a w.drew := ⟨h.os, h.tape, h.output, h.size, h.block⟩
theorem Mod.drewN {S : List Nat} {a w : World} (h : Mod S a w) (n : Nat) : Mod S a (w.drewN n) := ⟨h.os, h.tape, h.output, h.size, h.block⟩
theorem Mod.of_grown {w w' : World} {row : Option Nat} (h : w.grownBy w' row) : Mod row.toList w w' :=
  ⟨h.os, h.tape, h.output, h.size, fun k hk hn => h.block k hk (fun e => hn (by rw [← e]; simp))⟩
theorem Mod.of_below {w w' : World} (h : Below w.heap.size w w') : Mod [] w w' := ⟨h.os, h.tape, h.output, h.size, fun k hk _ => h.block k hk⟩
theorem Mod.below {S : List Nat} {w w' : World} (h : Mod S w w') {B : Nat} (hB : B ≤ w.heap.size) (hs : ∀ x ∈ S, B ≤ x) : Below B w w' :=
  ⟨h.os, h.tape, h.output, h.size, fun k hk => h.block k (by omega) (fun hm => by have := hs k hm; omega)⟩
theorem Mod.below' {w w' : World} (h : Mod [] w w') : Below w.heap.size w w' := h.below (Nat.le_refl _) (by simp)

/-- Block b is these cells, of this element type, none frozen. -/
def Blk (w : World) (b : Nat) (t : TypeId) (cs : Array Value) : Prop := w.heap[b]? = some (.cells cs t (0, 0))
section
variable {w w' : World} {b t : Nat} {cs : Array Value}
theorem Blk.lt (h : Blk w b t cs) : b < w.heap.size := (Array.getElem?_eq_some_iff.1 h).1
theorem Blk.cell (h : Blk w b t cs) (i : Nat) : w.cell? ⟨b, i, none⟩ = cs[i]? := cell_of_row w b i cs t (0, 0) h
theorem Blk.frozen (h : Blk w b t cs) (i : Nat) : w.frozen? ⟨b, i, none⟩ = false := by unfold Blk at h; simp [World.frozen?, h]
theorem Blk.set (h : Blk w b t cs) (i : Nat) (u : Value) : Blk (w.setCell ⟨b, i, none⟩ u) b t (cs.setIfInBounds i u) := by
  unfold Blk at h ⊢; simp [World.setCell, Array.getElem?_modify, h]
theorem Blk.far (h : Blk w b t cs) {p : Addr} (hp : b ≠ p.block) (u : Value) : Blk (w.setCell p u) b t cs := by
  unfold Blk at h ⊢; rw [Below.heap_setCell _ _ _ _ hp]; exact h
theorem Blk.alloc (h : Blk w b t cs) (o : Obj) : Blk (w.alloc o) b t cs := by
  unfold Blk at h ⊢; rw [Below.heap_alloc _ _ _ (Array.getElem?_eq_some_iff.1 h).1]; exact h
theorem Blk.new (w : World) (t : Nat) (cs : Array Value) : Blk (w.alloc (.cells cs t)) w.heap.size t cs := heap_alloc_new w _
theorem Blk.new' {w : World} {b : Nat} (hb : w.heap.size = b) (t : Nat) (cs : Array Value) : Blk (w.alloc (.cells cs t)) b t cs := by subst hb; exact Blk.new w t cs
theorem Blk.news (h : Blk w b t cs) : ∀ j u, cs.toList[j]? = some u → w.cell? ((⟨b, 0, none⟩ : Addr).add j) = some u := by
  intro j u hu
  have : (⟨b, 0, none⟩ : Addr).add j = ⟨b, j, none⟩ := by unfold Addr.add; split <;> simp_all
  rw [this, h.cell]; simpa using hu
theorem Blk.drew (h : Blk w b t cs) : Blk w.drew b t cs := h
theorem Blk.drewN (h : Blk w b t cs) (n : Nat) : Blk (w.drewN n) b t cs := h
theorem Blk.mod (h : Blk w b t cs) {S : List Nat} (hm : Mod S w w') (hb : b ∉ S) : Blk w' b t cs := (hm.block b h.lt hb).trans h
theorem Blk.ne (h : Blk w b t cs) {b' t' : Nat} {cs' : Array Value} (h' : Blk w b' t' cs') (hne : t ≠ t') : b ≠ b' := by
  rintro rfl; unfold Blk at h h'; rw [h] at h'; injection h' with h'; injection h' with _ h'; exact hne h'
end

/-- The block of an owned row, if there is one. -/
def rb (v : Value) : List Nat := v.ownBlock.toList
/-- Slice value v is the row xs of n elements, each of sz cells, in a block of its own. -/
abbrev Row (w : World) (e sz : Nat) (v : Value) (n : Nat) (xs : List Value) : Prop := w.ownsRow 0 e sz v n xs
section
variable {w w' : World} {e sz n : Nat} {v : Value} {xs : List Value}
theorem Row.nil_ (w : World) (e sz : Nat) : Row w e sz (.slice none 0 0) 0 [] := ⟨by simp, .inl ⟨rfl, rfl⟩⟩
theorem Row.lt (h : Row w e sz v n xs) {k : Nat} (hk : k ∈ rb v) : k < w.heap.size := (World.ownsRow.lt h k (by simpa [rb] using hk)).2
theorem Row.mod (h : Row w e sz v n xs) {S : List Nat} (hm : Mod S w w') (hb : ∀ k ∈ rb v, k ∉ S) : Row w' e sz v n xs := by
  refine ⟨h.1, ?_⟩
  rcases h.2 with hn | ⟨g, cap, cur, rfl, hb', hgg, rest⟩
  · exact .inl hn
  · exact .inr ⟨g, cap, cur, rfl, hb', (hm.block g (Array.getElem?_eq_some_iff.1 hgg).1 (hb g (by simp [rb, Value.ownBlock]))).trans hgg, rest⟩
theorem Row.drew (h : Row w e sz v n xs) : Row w.drew e sz v n xs := h.mod (Mod.refl [] w).drew (by simp)
theorem Row.drewN (h : Row w e sz v n xs) (m : Nat) : Row (w.drewN m) e sz v n xs := h.mod ((Mod.refl [] w).drewN m) (by simp)
theorem Row.alloc (h : Row w e sz v n xs) (o : Obj) : Row (w.alloc o) e sz v n xs := h.mod ((Mod.refl [] w).alloc o) (by simp)
theorem Row.far (h : Row w e sz v n xs) {p : Addr} (hp : p.block ∉ rb v) (u : Value) : Row (w.setCell p u) e sz v n xs :=
  h.mod ((Mod.refl [p.block] w).set (by simp) u) (fun k hk => by simp; rintro rfl; exact hp hk)
theorem Row.ty (h : Row w e sz v n xs) {b t : Nat} {cs : Array Value} (hb : Blk w b t cs) (ht : t ≠ e) : b ∉ rb v := by
  intro hm
  rcases h.2 with ⟨rfl, _⟩ | ⟨g, cap, cur, rfl, _, hgg, _⟩
  · simp [rb, Value.ownBlock] at hm
  · simp [rb, Value.ownBlock] at hm; subst hm; exact (hb.ne (b' := b) hgg ht) rfl
theorem Row.ty2 (h : Row w e sz v n xs) {e' sz' n' : Nat} {v' : Value} {xs' : List Value} (h' : Row w e' sz' v' n' xs') (ht : e' ≠ e) : ∀ k ∈ rb v', k ∉ rb v := by
  intro k hk
  rcases h'.2 with ⟨rfl, _⟩ | ⟨g, cap, cur, rfl, _, hgg, _⟩
  · simp [rb, Value.ownBlock] at hk
  · simp [rb, Value.ownBlock] at hk; subst hk; exact h.ty (b := k) (t := e') hgg ht
/-- A row that isn't empty: where it lies. -/
theorem Row.at_ (h : Row w e sz v n xs) (hn : 0 < n) : ∃ g cap, v = .slice (some ⟨g, 0, none⟩) n cap ∧ rb v = [g] ∧ n ≤ cap ∧ cap ≤ 9223372036854775807 ∧ g < w.heap.size ∧
    (∀ j, j < n * sz → w.cell? ⟨g, j, none⟩ = xs[j]?) ∧ (∀ j, w.frozen? ⟨g, j, none⟩ = false) := by
  have h0 := h
  rcases h.2 with ⟨rfl, h2⟩ | ⟨g, cap, cur, rfl, _, hgg, h3, h4, _⟩
  · omega
  · exact ⟨g, cap, rfl, by simp [rb, Value.ownBlock], h3, by unfold maxLen at h4; exact h4, (Array.getElem?_eq_some_iff.1 hgg).1, fun j hj => World.ownsRow.cellAt h0 j hj, fun j => World.ownsRow.frozenAt h0 j⟩
theorem Row.slice_ (h : Row w e sz v n xs) : ∃ a cap, v = .slice a n cap ∧ n ≤ cap ∧ cap ≤ 9223372036854775807 := by
  rcases h.2 with ⟨rfl, h2⟩ | ⟨g, cap, cur, rfl, _, _, h3, h4, _⟩
  · subst h2; exact ⟨_, _, rfl, by omega, by omega⟩
  · exact ⟨_, _, rfl, h3, by unfold maxLen at h4; exact h4⟩
theorem Row.stored {g cap : Nat} (h : Row w e sz (.slice (some ⟨g, 0, none⟩) n cap) n xs) (j : Nat) (u : Value) :
    Row (w.setCell ⟨g, j, none⟩ u) e sz (.slice (some ⟨g, 0, none⟩) n cap) n (xs.set j u) := (World.ownsRow.stored h j u).1
/-- The first k of a row's elements are a row. -/
theorem Row.cut {g cap : Nat} (h : Row w e sz (.slice (some ⟨g, 0, none⟩) n cap) n xs) {k : Nat} (hk : k ≤ n) :
    Row w e sz (.slice (some ⟨g, 0, none⟩) k cap) k (xs.take (k * sz)) := by
  obtain ⟨h1, h2⟩ := h
  rcases h2 with ⟨h2, _⟩ | ⟨g', cap', cur, hv, hb, hgg, h3, h4, h5, h6⟩
  · cases h2
  · injection hv with hv hv2 hv3; injection hv with hv; injection hv with hv; subst hv hv3
    have hks : k * sz ≤ n * sz := Nat.mul_le_mul_right _ hk
    refine ⟨by rw [List.length_take, h1]; omega, .inr ⟨g, cap, cur, rfl, hb, hgg, by omega, h4, h5, ?_⟩⟩
    rw [← h6, List.take_take, Nat.min_eq_left hks]
end

theorem append_where {P : Program} {w : World} (t ty e : TypeId) (i : TypeInfo) (z : Value) (size bytes : Nat) (ht : P.underlying t = some (.slice e)) (hi : P.info? e = some i) (hz : i.zero = some z)
    (hsize : i.size = size) (hby : i.bytes = bytes) (hzs : z.cells.size = size) (hsz : 0 < size)
    (v : Value) (n : Nat) (xs : List Value) (hown : Row w e size v n xs)
    (a : Addr) (m c : Nat) (news : List Value) (hl : news.length = m * size) (hnews : ∀ j u, news[j]? = some u → w.cell? (a.add j) = some u) (h1 : ∀ u ∈ news, u.oneCell' = true)
    (h63 : n + m ≤ 9223372036854775807) (hbytes : (n + m) * bytes ≤ 140737488355328) :
    ∃ v' w', (Builtin.append_ #[t, t] ty #[v, .slice (some a) m c]).run P w = .ok v' w' ∧ Row w' e size v' (n + m) (xs ++ news) ∧ Mod (rb v) w w' ∧
      (∀ k ∈ rb v', k ∈ rb v ∨ w.heap.size ≤ k) := by
  have h63' : n + m ≤ maxLen := h63
  obtain ⟨v', w', hr, h2, h3, h4⟩ := run_append_own (P := P) (w := w) 0 t ty e i z size bytes ht hi hz hsize hby hzs hsz v n xs hown a m c news hl hnews h1 h63' hbytes (Nat.zero_le _)
  refine ⟨v', w', hr, h2, Mod.of_grown h3, ?_⟩
  subst hsize hby
  rcases hown.2 with ⟨rfl, rfl⟩ | ⟨g, cap, cur, rfl, _, hg, hnc, hcm, hcs, htake⟩
  · have hx : xs = [] := List.eq_nil_of_length_eq_zero (by simpa using hown.1)
    subst hx
    by_cases hm : m = 0
    · subst hm
      rw [h4.2 ⟨rfl, rfl⟩]; simp [rb, Value.ownBlock]
    · have hr' := run_append_nil (P := P) w t ty e i z ht hi hz a m c news hl hnews (by omega) (by omega) (by have hb := hbytes; simp only [Nat.zero_add] at hb; omega)
      rw [hr] at hr'; injection hr' with hv _; subst hv
      simp [rb, Value.ownBlock]
  · by_cases hroom : n + m ≤ cap
    · have hfit : n * i.size + news.length ≤ cur.size := by rw [hl, hcs, ← Nat.add_mul]; exact Nat.mul_le_mul_right _ hroom
      have hr' := run_append_room (P := P) w t ty e i ht hi g n cap cur hg a m c news hl hnews h1 hroom hfit
      rw [hr] at hr'; injection hr' with hv _; subst hv
      simp [rb, Value.ownBlock]
    · have holds : ∀ j u, xs[j]? = some u → w.cell? ((⟨g, 0, none⟩ : Addr).add j) = some u := World.ownsRow.cells hown (g := g) rfl
      have hr' := run_append_grow (P := P) w t ty e i z ht hi hz ⟨g, 0, none⟩ n cap xs hown.1 holds a m c news hl hnews (by omega) (by omega) (growslice_fits (by omega) hbytes)
      rw [hr] at hr'; injection hr' with hv _; subst hv
      simp [rb, Value.ownBlock]

/-- append of elements that lie at some address, to a row: the row then, what has turned, where it lies. -/
theorem wpList_app {P : Program} {w : World} {ops : Array Oper} {rest : List Oper} {o : Oper} {a : Act} {Q : Exit → Act → World → Prop} (hgd : o.guard = none) (s x : Operand) (t : TypeId)
    (ho : o.op = .call { callee := .builtin .append, args := #[s, x], argTypes := #[t, t] })
    (e : TypeId) (z : Value) (size bytes : Nat) (ht : P.underlying t = some (.slice e)) (hi : (P.info? e).map (fun i => (i.zero, i.size, i.bytes)) = some (some z, size, bytes))
    (hzs : z.cells.size = size) (hsz : 0 < size)
    (v : Value) (n : Nat) (xs : List Value) (hs : a.eval s = v) (hown : Row w e size v n xs)
    (ad : Addr) (m c : Nat) (news : List Value) (hx : a.eval x = .slice (some ad) m c) (hl : news.length = m * size) (hnews : ∀ j u, news[j]? = some u → w.cell? (ad.add j) = some u) (h1 : ∀ u ∈ news, u.oneCell' = true)
    (h63 : n + m ≤ 9223372036854775807) (hbytes : (n + m) * bytes ≤ 140737488355328)
    (h : ∀ b cap w', Row w' e size (.slice b (n + m) cap) (n + m) (xs ++ news) → Mod (rb v) w w' → (∀ k ∈ rb (.slice b (n + m) cap), k ∈ rb v ∨ w.heap.size ≤ k) → wpList P ops Q rest (a.put o.dst (.slice b (n + m) cap)) w') : wpList P ops Q (o :: rest) a w := by
  obtain ⟨i, hi', hz, hsize, hby⟩ := info_parts hi
  obtain ⟨v', w', hr, h2, h3, h4⟩ := append_where (P := P) (w := w) t o.type e i z size bytes ht hi' hz hsize hby hzs hsz v n xs hown ad m c news hl hnews h1 h63 hbytes
  obtain ⟨b, cap, rfl, _⟩ := h2.slice_
  refine wpList_plain hgd (fun K hK => ?_)
  unfold Oper.wp execOp
  simp only [ho, resolve, invoke, builtin, Sem.run_bind, Sem.run_pure, Result.andThen_ok, List.map_toArray, List.map_cons, List.map_nil, hs, hx, hr]
  exact hK _ _ (h b cap w' h2 h3 h4)

/-- The same, as one step of a region in an open order. -/
theorem step_app {P : Program} {w : World} {ops : Array Oper} {o : Oper} {a : Act} {K : Act → World → Prop} {Q : Exit → Act → World → Prop} {E : Prop} (hgd : o.guard = none) (s x : Operand) (t : TypeId)
    (ho : o.op = .call { callee := .builtin .append, args := #[s, x], argTypes := #[t, t] })
    (e : TypeId) (z : Value) (size bytes : Nat) (ht : P.underlying t = some (.slice e)) (hi : (P.info? e).map (fun i => (i.zero, i.size, i.bytes)) = some (some z, size, bytes))
    (hzs : z.cells.size = size) (hsz : 0 < size)
    (v : Value) (n : Nat) (xs : List Value) (hs : a.eval s = v) (hown : Row w e size v n xs)
    (ad : Addr) (m c : Nat) (news : List Value) (hx : a.eval x = .slice (some ad) m c) (hl : news.length = m * size) (hnews : ∀ j u, news[j]? = some u → w.cell? (ad.add j) = some u) (h1 : ∀ u ∈ news, u.oneCell' = true)
    (h63 : n + m ≤ 9223372036854775807) (hbytes : (n + m) * bytes ≤ 140737488355328)
    (h : ∀ b cap w', Row w' e size (.slice b (n + m) cap) (n + m) (xs ++ news) → Mod (rb v) w w' → (∀ k ∈ rb (.slice b (n + m) cap), k ∈ rb v ∨ w.heap.size ≤ k) → K (a.put o.dst (.slice b (n + m) cap)) w') :
    if Region.wanted o (yielded ops a.tmps) = true then Oper.wp P o a w K Q else E := by
  obtain ⟨i, hi', hz, hsize, hby⟩ := info_parts hi
  obtain ⟨v', w', hr, h2, h3, h4⟩ := append_where (P := P) (w := w) t o.type e i z size bytes ht hi' hz hsize hby hzs hsz v n xs hown ad m c news hl hnews h1 h63 hbytes
  have hw : Region.wanted o (yielded ops a.tmps) = true := by simp [Region.wanted, hgd]
  rw [if_pos hw]
  obtain ⟨b, cap, rfl, _⟩ := h2.slice_
  unfold Oper.wp execOp
  simp only [ho, resolve, invoke, builtin, Sem.run_bind, Sem.run_pure, Result.andThen_ok, List.map_toArray, List.map_cons, List.map_nil, hs, hx, hr]
  exact h b cap w' h2 h3 h4
/-- A region in an open order: reads first, then a forced tail. -/
theorem wp_tail {P : Program} {id : Nat} {Q : Exit → Act → World → Prop} {a : Act} {w : World} {l : List Oper} (n : Nat) (hm : P.follows .mixedOrders = true) (hB : Region.lexTailB .any l.toArray n = true)
    (h : wpStill P l.toArray w.drew (fun a' => wpList P l.toArray Q (l.drop n) a' w.drew) (l.take n) a) : (Code.region id l.toArray true).wp P Q a w :=
  wp_region_still_tail n hm hB h
/-- A region in an open order that only reads. -/
theorem wp_reads {P : Program} {id : Nat} {Q : Exit → Act → World → Prop} {a : Act} {w : World} {l : List Oper} (hm : P.follows .mixedOrders = true) (hB : Region.lexB .any l.toArray = true)
    (h : wpStill P l.toArray w.drew (fun a' => Q .normal a' w.drew) l a) : (Code.region id l.toArray true).wp P Q a w :=
  wp_region_still_lit hm hB h
end Go.Proofs.Ytfioekkegihkoaa

/- Lists laid flat: elements of k cells each. Plain Lean. -/
namespace Go.Proofs.Ytfioekkegihkoaa

section
variable {α β : Type} (f : α → List β) (k : Nat) (hk : ∀ x, (f x).length = k)
include hk
theorem flat_len (l : List α) : (l.flatMap f).length = l.length * k := by
  induction l with
  | nil => simp
  | cons a l ih => simp only [List.flatMap_cons, List.length_append, hk, ih, List.length_cons, Nat.add_mul]; omega
theorem flat_drop (l : List α) (i : Nat) : (l.flatMap f).drop (i * k) = (l.drop i).flatMap f := by
  induction l generalizing i with
  | nil => simp
  | cons a l ih =>
    cases i with
    | zero => simp
    | succ i =>
      simp only [List.flatMap_cons, List.drop_succ_cons, ← ih i]
      have : (i + 1) * k = (f a).length + i * k := by rw [hk, Nat.add_mul]; omega
      rw [this, List.drop_append, List.drop_of_length_le (by omega)]; simp
theorem flat_take (l : List α) (i : Nat) : (l.flatMap f).take (i * k) = (l.take i).flatMap f := by
  induction l generalizing i with
  | nil => simp
  | cons a l ih =>
    cases i with
    | zero => simp
    | succ i =>
      simp only [List.flatMap_cons, List.take_succ_cons, ← ih i]
      have : (i + 1) * k = (f a).length + i * k := by rw [hk, Nat.add_mul]; omega
      rw [this, List.take_append, List.take_of_length_le (by omega)]; simp
theorem flat_get (l : List α) (i j : Nat) (hj : j < k) : (l.flatMap f)[i * k + j]? = (l[i]?).bind (fun x => (f x)[j]?) := by
  rw [← List.getElem?_drop, flat_drop f k hk]
  cases h : l.drop i with
  | nil => have : l[i]? = none := by rw [List.getElem?_eq_none]; simpa using h
           simp [this]
  | cons a m =>
    have ha : l[i]? = some a := by
      have := congrArg List.head? h; simpa [List.head?_drop] using this
    simp only [ha, List.flatMap_cons, Option.bind_some]
    rw [List.getElem?_append_left (by rw [hk]; exact hj)]
theorem flat_put (l : List α) (i : Nat) (hi : i < l.length) (y : α) : (l.set i y).flatMap f = (l.flatMap f).take (i * k) ++ f y ++ (l.flatMap f).drop (i * k + k) := by
  have e : i * k + k = (i + 1) * k := by rw [Nat.add_mul]; omega
  rw [e, flat_drop f k hk, flat_take f k hk, List.set_eq_take_append_cons_drop, if_pos hi]
  simp [List.flatMap_append]
end

theorem set1_eq {β : Type} (xs : List β) (p : Nat) (a : β) (h : p + 1 ≤ xs.length) : xs.set p a = xs.take p ++ [a] ++ xs.drop (p + 1) := by
  rw [List.set_eq_take_append_cons_drop, if_pos (by omega)]; simp
theorem set_app {β : Type} (xs ys : List β) (p : Nat) (a : β) (h : p = xs.length) (b : β) (zs : List β) (hy : ys = b :: zs) : (xs ++ ys).set p a = xs ++ [a] ++ zs := by
  subst h hy; simp
theorem set2_eq {β : Type} (xs : List β) (p : Nat) (a b : β) (h : p + 2 ≤ xs.length) : (xs.set p a).set (p + 1) b = xs.take p ++ [a, b] ++ xs.drop (p + 2) := by
  apply List.ext_getElem?
  intro n
  simp only [List.getElem?_set, List.getElem?_append, List.getElem?_take, List.getElem?_drop, List.length_append, List.length_take, List.length_cons, List.length_nil, List.length_set]
  grind
theorem set4_eq {β : Type} (xs : List β) (p : Nat) (a b c d : β) (h : p + 4 ≤ xs.length) : (((xs.set p a).set (p + 1) b).set (p + 2) c).set (p + 3) d = xs.take p ++ [a, b, c, d] ++ xs.drop (p + 4) := by
  apply List.ext_getElem?
  intro n
  simp only [List.getElem?_set, List.getElem?_append, List.getElem?_take, List.getElem?_drop, List.length_append, List.length_take, List.length_cons, List.length_nil, List.length_set]
  grind
theorem set5_eq {β : Type} (xs : List β) (p : Nat) (a b c d e : β) (h : p + 5 ≤ xs.length) : ((((xs.set p a).set (p + 1) b).set (p + 2) c).set (p + 3) d).set (p + 4) e = xs.take p ++ [a, b, c, d, e] ++ xs.drop (p + 5) := by
  apply List.ext_getElem?
  intro n
  simp only [List.getElem?_set, List.getElem?_append, List.getElem?_take, List.getElem?_drop, List.length_append, List.length_take, List.length_cons, List.length_nil, List.length_set]
  grind
end Go.Proofs.Ytfioekkegihkoaa

/- The meter: what each of its calls does. -/
namespace Go.Proofs.Ytfioekkegihkoaa
open Go.RowKit

structure Mt where
  reads : Int
  calls : Int
  taken : Int
  peak : Int
  starts : Int
def Mt.step (m : Mt) : Mt := { m with taken := wrap64 (m.taken + 1), peak := max m.peak (wrap64 (m.taken + 1)) }
def Mt.read (m : Mt) : Mt := { m with reads := wrap64 (m.reads + 1) }.step
def Mt.call (m : Mt) : Mt := { m with calls := wrap64 (m.calls + 1) }.step
def Mt.start (m : Mt) : Mt := { m with taken := 0, starts := wrap64 (m.starts + 1) }
def Mt.zero : Mt := ⟨0, 0, 0, 0, 0⟩
def mtCells (m : Mt) : Array Value := #[.int .i64 m.reads, .int .i64 m.calls, .int .i64 m.taken, .int .i64 m.peak, .int .i64 m.starts]
/-- The meter at block b. -/
def MeterAt (w : World) (b : Nat) (m : Mt) : Prop := Blk w b 115 (mtCells m)
theorem MeterAt.mod {w w' : World} {b : Nat} {m : Mt} (h : MeterAt w b m) {S : List Nat} (hm : Mod S w w') (hb : b ∉ S) : MeterAt w' b m := Blk.mod h hm hb
theorem MeterAt.lt {w : World} {b : Nat} {m : Mt} (h : MeterAt w b m) : b < w.heap.size := Blk.lt h
theorem MeterAt.c0 {w : World} {b : Nat} {m : Mt} (h : MeterAt w b m) : w.cell? ⟨b, 0, none⟩ = some (.int .i64 m.reads) := Blk.cell h 0
theorem MeterAt.c1 {w : World} {b : Nat} {m : Mt} (h : MeterAt w b m) : w.cell? ⟨b, 1, none⟩ = some (.int .i64 m.calls) := Blk.cell h 1
theorem MeterAt.c2 {w : World} {b : Nat} {m : Mt} (h : MeterAt w b m) : w.cell? ⟨b, 2, none⟩ = some (.int .i64 m.taken) := Blk.cell h 2
theorem MeterAt.c3 {w : World} {b : Nat} {m : Mt} (h : MeterAt w b m) : w.cell? ⟨b, 3, none⟩ = some (.int .i64 m.peak) := Blk.cell h 3
theorem MeterAt.c4 {w : World} {b : Nat} {m : Mt} (h : MeterAt w b m) : w.cell? ⟨b, 4, none⟩ = some (.int .i64 m.starts) := Blk.cell h 4
theorem MeterAt.fr {w : World} {b : Nat} {m : Mt} (h : MeterAt w b m) (i : Nat) : w.frozen? ⟨b, i, none⟩ = false := Blk.frozen h i

set_option maxRecDepth 100000 in
set_option maxHeartbeats 400000 in
theorem meter_step (mb : Nat) (m : Mt) (w : World) (h : MeterAt w mb m) :
    Calls Try.prog 144 #[.pointer (some ⟨mb, 0, none⟩)] w fun e w' => e = .returned (.tuple #[]) ∧ MeterAt w' mb m.step ∧ Mod [mb] w w' := by
  have h2 := h.c2
  have h3 := h.c3
  have f2 := h.fr 2
  have f3 := h.fr 3
  have key : ∀ q : Int, q = max m.peak (wrap64 (m.taken + 1)) → MeterAt (((w.setCell ⟨mb, 2, none⟩ (.int .i64 (wrap64 (m.taken + 1)))).setCell ⟨mb, 3, none⟩ (.int .i64 q)).drew) mb m.step := by
    rintro q rfl
    exact ((Blk.set h 2 _).set 3 _).drew
  have kmod : ∀ q : Int, Mod [mb] w (((w.setCell ⟨mb, 2, none⟩ (.int .i64 (wrap64 (m.taken + 1)))).setCell ⟨mb, 3, none⟩ (.int .i64 q)).drew) := fun q => (((Mod.refl _ w).set (.inl (by simp)) _).set (.inl (by simp)) _).drew
  clear h
  go_enter Try.func144, Try.ntmps144
  go_wp2
  refine wp_tail 12 (by kernel_rfl) (by kernel_rfl) ?_
  simp only [List.take_succ_cons, List.take_zero, List.drop_succ_cons, List.drop_zero]
  repeat still_step
  refine wpStill_nil ?_
  go_wp2
  all_goals
    go_end0
    exact ⟨rfl, key _ (by omega), kmod _⟩

set_option maxHeartbeats 400000 in
theorem meter_read (mb : Nat) (m : Mt) (w : World) (h : MeterAt w mb m) :
    Calls Try.prog 145 #[.pointer (some ⟨mb, 0, none⟩)] w fun e w' => e = .returned (.tuple #[]) ∧ MeterAt w' mb m.read ∧ Mod [mb] w w' := by
  have h0 := h.c0
  have f0 := h.fr 0
  have key : MeterAt (w.setCell ⟨mb, 0, none⟩ (.int .i64 (wrap64 (m.reads + 1)))) mb { m with reads := wrap64 (m.reads + 1) } := Blk.set h 0 _
  have kmod : Mod [mb] w (w.setCell ⟨mb, 0, none⟩ (.int .i64 (wrap64 (m.reads + 1)))) := (Mod.refl _ w).set (.inl (by simp)) _
  have st := meter_step mb _ _ key
  clear h
  go_enter Try.func145, Try.ntmps145
  go_wp2_with (go_at_call 144; refine st.mono ?_; clear st; rintro e w' ⟨rfl, h2, h3⟩)
  go_end0
  exact ⟨rfl, h2, kmod.trans h3 (by simp)⟩

set_option maxHeartbeats 400000 in
theorem meter_call (mb : Nat) (m : Mt) (w : World) (h : MeterAt w mb m) :
    Calls Try.prog 125 #[.pointer (some ⟨mb, 0, none⟩)] w fun e w' => e = .returned (.tuple #[]) ∧ MeterAt w' mb m.call ∧ Mod [mb] w w' := by
  have h0 := h.c1
  have f0 := h.fr 1
  have key : MeterAt (w.setCell ⟨mb, 1, none⟩ (.int .i64 (wrap64 (m.calls + 1)))) mb { m with calls := wrap64 (m.calls + 1) } := Blk.set h 1 _
  have kmod : Mod [mb] w (w.setCell ⟨mb, 1, none⟩ (.int .i64 (wrap64 (m.calls + 1)))) := (Mod.refl _ w).set (.inl (by simp)) _
  have st := meter_step mb _ _ key
  clear h
  go_enter Try.func125, Try.ntmps125
  go_wp2_with (go_at_call 144; refine st.mono ?_; clear st; rintro e w' ⟨rfl, h2, h3⟩)
  go_end0
  exact ⟨rfl, h2, kmod.trans h3 (by simp)⟩

set_option maxHeartbeats 400000 in
theorem meter_new (w : World) :
    Calls Try.prog 52 #[] w fun e w' => e = .returned (.pointer (some ⟨w.heap.size, 0, none⟩)) ∧ w.alloc (.cells (mtCells Mt.zero) 115) = w' := by
  go_enter Try.func52, Try.ntmps52
  go_wp2
  go_ret
  exact ⟨rfl, rfl⟩
theorem MeterAt.new (w : World) : MeterAt (w.alloc (.cells (mtCells Mt.zero) 115)) w.heap.size Mt.zero := Blk.new w _ _

set_option maxHeartbeats 400000 in
theorem meter_see (mb : Nat) (m : Mt) (w : World) (h : MeterAt w mb m) :
    Calls Try.prog 94 #[.pointer (some ⟨mb, 0, none⟩)] w fun e w' => e = .returned (.agg (mtCells m)) ∧ Mod [] w w' := by
  have h0 := h.c0
  have h1 := h.c1
  have h2 := h.c2
  have h3 := h.c3
  have h4 := h.c4
  have hlt := h.lt
  clear h
  go_enter Try.func94, Try.ntmps94
  go_wp2
  refine bodyPost_ret (v := .agg (mtCells m)) (by simp [results, Try.results94, go_sem, mtCells]) rfl ⟨rfl, ?_⟩
  exact ((Mod.refl _ w).alloc _)





set_option maxRecDepth 100000 in
set_option maxHeartbeats 400000 in
theorem meter_Taken (mb : Nat) (m : Mt) (w : World) (h : MeterAt w mb m) :
    Calls Try.prog 50 #[.pointer (some ⟨mb, 0, none⟩)] w fun e w' => e = .returned (.int .i64 m.taken) ∧ Mod [] w w' := by
  have st := meter_see mb _ _ h
  unfold mtCells at st
  have hfl : ∀ W, (Instr.field 115 (.agg #[.int .i64 m.reads, .int .i64 m.calls, .int .i64 m.taken, .int .i64 m.peak, .int .i64 m.starts]) 2).run Try.prog W = .ok (.int .i64 m.taken) W := fun _ => by kernel_rfl
  clear h
  go_enter Try.func50, Try.ntmps50
  go_wp2_with (go_at_call 94; refine st.mono ?_; clear st; rintro e w' ⟨rfl, h3⟩)
  go_ret
  exact ⟨rfl, h3⟩



end Go.Proofs.Ytfioekkegihkoaa

/- The pool's model: places that hold a value or none, the freed ones in order, a limit; and how it lies in memory. -/
namespace Go.Proofs.Ytfioekkegihkoaa
open Go.RowKit

structure PS (α : Type) where
  cells : List (Option α)
  free : List Nat
  limit : Nat
section
variable {α : Type}
def PS.live (s : PS α) : Nat := s.cells.countP Option.isSome
def PS.get (s : PS α) (i : Int) : Option α := if i < 0 then none else (s.cells[i.toNat]?).join
def PS.empty (limit : Nat) : PS α := ⟨[], [], limit⟩
/-- The place that is taken next. -/
def PS.nextAt (s : PS α) : Nat := (s.free.getLast?).getD s.cells.length
def PS.take (s : PS α) (v : α) : PS α :=
  match s.free.getLast? with
  | some i => { s with cells := s.cells.set i (some v), free := s.free.dropLast }
  | none => { s with cells := s.cells ++ [some v] }
def PS.drop (s : PS α) (i : Nat) : PS α := { s with cells := s.cells.set i none, free := s.free ++ [i] }
def PS.put (s : PS α) (i : Nat) (v : α) : PS α := { s with cells := s.cells.set i (some v) }
def PS.alloc (s : PS α) (v : α) : PS α × Nat × Bool := if s.live < s.limit then (s.take v, s.nextAt, true) else (s, 0, false)
def PS.give (s : PS α) (i : Int) : PS α × Bool := if (s.get i).isSome then (s.drop i.toNat, true) else (s, false)
def PS.store (s : PS α) (i : Int) (v : α) : PS α × Bool := if (s.get i).isSome then (s.put i.toNat v, true) else (s, false)
structure PS.wf (s : PS α) : Prop where
  lim : s.limit ≤ 1048576
  len : s.cells.length ≤ s.limit
  nodup : s.free.Nodup
  mem : ∀ i, i ∈ s.free ↔ s.cells[i]? = some none
  count : s.live + s.free.length = s.cells.length

theorem PS.empty_wf (limit : Nat) (h : limit ≤ 1048576) : (PS.empty (α := α) limit).wf := ⟨h, by simp [PS.empty], by simp [PS.empty], by simp [PS.empty], by simp [PS.empty, PS.live]⟩
theorem PS.wf.live_le {s : PS α} (h : s.wf) : s.live ≤ s.limit := by have := h.count; have := h.len; omega
theorem countP_set {β : Type} (p : β → Bool) (l : List β) (i : Nat) (x y : β) (h : l[i]? = some x) : (l.set i y).countP p + (if p x then 1 else 0) = l.countP p + (if p y then 1 else 0) := by
  induction l generalizing i with
  | nil => simp at h
  | cons a l ih =>
    cases i with
    | zero => simp at h; subst h; simp only [List.set_cons_zero, List.countP_cons]; omega
    | succ i => simp at h; have := ih i h; simp only [List.set_cons_succ, List.countP_cons]; omega
theorem PS.last_mem {s : PS α} {i : Nat} (h : s.free.getLast? = some i) : i ∈ s.free := List.mem_of_getLast? h
theorem PS.take_live {s : PS α} (h : s.wf) (v : α) : (s.take v).live = s.live + 1 := by
  unfold PS.take
  cases hl : s.free.getLast? with
  | none => simp [PS.live]
  | some i =>
    have h1 := (h.mem i).1 (PS.last_mem hl)
    have := countP_set Option.isSome s.cells i none (some v) h1
    simp [PS.live] at this ⊢; omega
theorem PS.take_wf {s : PS α} (h : s.wf) (hl : s.live < s.limit) (v : α) : (s.take v).wf := by
  have hlive := PS.take_live h v
  have hc := h.count
  cases hf : s.free.getLast? with
  | none =>
    have hnil : s.free = [] := by simpa using hf
    have e : s.take v = { s with cells := s.cells ++ [some v] } := by unfold PS.take; rw [hf]
    rw [hnil] at hc; simp at hc
    refine ⟨by rw [e]; exact h.lim, by rw [e]; simp; omega, by rw [e]; exact h.nodup, fun i => ?_, ?_⟩
    · rw [e]; simp only [hnil, List.not_mem_nil, false_iff]
      have := h.mem i; rw [hnil] at this; simp at this
      rw [List.getElem?_append]; split
      · exact this
      · intro hh; have := List.mem_of_getElem? hh; simp at this
    · rw [hlive, e]; simp [hnil]; omega
  | some i =>
    have h1 := (h.mem i).1 (PS.last_mem hf)
    have e : s.take v = { s with cells := s.cells.set i (some v), free := s.free.dropLast } := by unfold PS.take; rw [hf]
    have hd : s.free = s.free.dropLast ++ [i] := by
      obtain ⟨ys, hy⟩ := List.getLast?_eq_some_iff.1 hf
      rw [hy]; simp
    have hnd := h.nodup
    rw [hd] at hnd
    have hni : i ∉ s.free.dropLast := fun hm => by
      rw [List.nodup_append] at hnd; exact hnd.2.2 i hm i (by simp) rfl
    refine ⟨by rw [e]; exact h.lim, by rw [e]; simpa using h.len, by rw [e]; rw [List.nodup_append] at hnd; exact hnd.1, fun j => ?_, ?_⟩
    · rw [e]; simp only
      have hj := h.mem j; rw [hd] at hj; simp at hj
      rw [List.getElem?_set]
      by_cases hij : i = j
      · subst hij; simp only [if_true]
        constructor
        · intro hm; exact absurd hm hni
        · split <;> simp
      · rw [if_neg hij]
        constructor
        · intro hm; exact hj.1 (.inl hm)
        · intro hm; rcases hj.2 hm with hm | hm
          · exact hm
          · exact absurd hm.symm hij
    · rw [hlive, e]; simp
      have : s.free.length = s.free.dropLast.length + 1 := by conv => lhs; rw [hd]
                                                              simp
      simp at this; omega
theorem PS.get_some {s : PS α} {i : Int} {v : α} (h : s.get i = some v) : 0 ≤ i ∧ s.cells[i.toNat]? = some (some v) := by
  unfold PS.get at h; split at h
  · cases h
  · refine ⟨by omega, ?_⟩
    cases hc : s.cells[i.toNat]? with
    | none => rw [hc] at h; cases h
    | some o => rw [hc] at h; simp at h; rw [h]
theorem PS.drop_live {s : PS α} {i : Nat} {v : α} (hi : s.cells[i]? = some (some v)) : (s.drop i).live + 1 = s.live := by
  have := countP_set Option.isSome s.cells i (some v) none hi
  simp [PS.live, PS.drop] at this ⊢; omega
theorem PS.drop_wf {s : PS α} (h : s.wf) {i : Nat} {v : α} (hi : s.cells[i]? = some (some v)) : (s.drop i).wf := by
  have hl := PS.drop_live hi
  have hn : i ∉ s.free := fun hm => by have := (h.mem i).1 hm; rw [hi] at this; simp at this
  have hlt : i < s.cells.length := (List.getElem?_eq_some_iff.1 hi).1
  refine ⟨h.lim, by simpa [PS.drop] using h.len, ?_, fun j => ?_, ?_⟩
  · simp only [PS.drop, List.nodup_append, h.nodup, true_and]
    refine ⟨by simp, fun a ha b hb => by simp at hb; subst hb; rintro rfl; exact hn ha⟩
  · simp only [PS.drop, List.mem_append, List.mem_singleton, List.getElem?_set]
    by_cases hij : i = j
    · subst hij; simp [hlt]
    · have hji : ¬ j = i := fun e => hij e.symm
      rw [if_neg hij]; simp [hji, h.mem j]
  · have := h.count; simp only [PS.drop, List.length_append, List.length_set, List.length_cons, List.length_nil] at *; omega
theorem PS.put_live {s : PS α} {i : Nat} {v u : α} (hi : s.cells[i]? = some (some u)) : (s.put i v).live = s.live := by
  have := countP_set Option.isSome s.cells i (some u) (some v) hi
  simp [PS.live, PS.put] at this ⊢; omega
theorem PS.put_wf {s : PS α} (h : s.wf) {i : Nat} {v u : α} (hi : s.cells[i]? = some (some u)) : (s.put i v).wf := by
  have hl := PS.put_live (v := v) hi
  have hlt : i < s.cells.length := (List.getElem?_eq_some_iff.1 hi).1
  refine ⟨h.lim, by simpa [PS.put] using h.len, h.nodup, fun j => ?_, ?_⟩
  · simp only [PS.put, List.getElem?_set]
    by_cases hij : i = j
    · subst hij; simp [hlt]; rw [h.mem i, hi]; simp
    · rw [if_neg hij]; exact h.mem j
  · have := h.count; rw [hl]; simpa [PS.put] using this
end

/-- How a pool's element type lies in memory: the pool's, the cell's types; how many cells; the zero value. -/
structure PT (α : Type) where
  tp : Nat
  tc : Nat
  sz : Nat
  enc : α → List Value
  zero : α
  len : ∀ x, (enc x).length = sz
  one : ∀ x, ∀ u ∈ enc x, u.oneCell' = true
  n1 : tp ≠ tc
  n2 : tp ≠ 3
  n3 : tc ≠ 3
section
variable {α : Type} (T : PT α)
def PT.cell (o : Option α) : List Value := match o with
  | some v => T.enc v ++ [.bool true]
  | none => T.enc T.zero ++ [.bool false]
theorem PT.cell_len (o : Option α) : (T.cell o).length = T.sz + 1 := by cases o <;> simp [PT.cell, T.len]
theorem PT.cell_one (o : Option α) : ∀ u ∈ T.cell o, u.oneCell' = true := by
  intro u hu
  cases o <;> simp only [PT.cell, List.mem_append, List.mem_singleton] at hu <;> rcases hu with hu | rfl <;> first | exact T.one _ u hu | rfl
def PT.row (s : PS α) : List Value := s.cells.flatMap T.cell
def poolCells (mb : Nat) (cv fv : Value) (live limit : Nat) : Array Value := #[.pointer (some ⟨mb, 0, none⟩), cv, fv, .int .i64 live, .int .i64 limit]
/-- The pool at block pb, with its rows' blocks. -/
structure PoolIn (w : World) (pb mb : Nat) (cv fv : Value) (s : PS α) : Prop where
  blk : Blk w pb T.tp (poolCells mb cv fv s.live s.limit)
  cells : Row w T.tc (T.sz + 1) cv s.cells.length (T.row s)
  free : Row w 3 1 fv s.free.length (s.free.map fun i => .int .i64 (i : Nat))
  wf : s.wf
def PoolAt (w : World) (pb mb : Nat) (F : List Nat) (s : PS α) : Prop := ∃ cv fv, F = pb :: (rb cv ++ rb fv) ∧ PoolIn T w pb mb cv fv s
variable {T}
theorem PoolIn.mod {w w' : World} {pb mb : Nat} {cv fv : Value} {s : PS α} (h : PoolIn T w pb mb cv fv s) {S : List Nat} (hm : Mod S w w') (hS : ∀ k ∈ S, k ∉ pb :: (rb cv ++ rb fv)) : PoolIn T w' pb mb cv fv s :=
  ⟨h.blk.mod hm (fun hk => hS _ hk (by simp)), h.cells.mod hm (fun k hk hk' => hS k hk' (by simp [hk])), h.free.mod hm (fun k hk hk' => hS k hk' (by simp [hk])), h.wf⟩
theorem PoolAt.mod {w w' : World} {pb mb : Nat} {F : List Nat} {s : PS α} (h : PoolAt T w pb mb F s) {S : List Nat} (hm : Mod S w w') (hS : ∀ k ∈ S, k ∉ F) : PoolAt T w' pb mb F s := by
  obtain ⟨cv, fv, rfl, h⟩ := h
  exact ⟨cv, fv, rfl, h.mod hm hS⟩
theorem PoolAt.lt {w : World} {pb mb : Nat} {F : List Nat} {s : PS α} (h : PoolAt T w pb mb F s) : ∀ k ∈ F, k < w.heap.size := by
  obtain ⟨cv, fv, rfl, h⟩ := h
  intro k hk
  simp only [List.mem_cons, List.mem_append] at hk
  rcases hk with rfl | hk | hk
  · exact h.blk.lt
  · exact h.cells.lt hk
  · exact h.free.lt hk
theorem PoolAt.wf {w : World} {pb mb : Nat} {F : List Nat} {s : PS α} (h : PoolAt T w pb mb F s) : s.wf := by
  obtain ⟨cv, fv, rfl, h⟩ := h; exact h.wf
theorem PoolAt.head {w : World} {pb mb : Nat} {F : List Nat} {s : PS α} (h : PoolAt T w pb mb F s) : pb ∈ F := by
  obtain ⟨cv, fv, rfl, h⟩ := h; simp
theorem PoolIn.c0 {w : World} {pb mb : Nat} {cv fv : Value} {s : PS α} (h : PoolIn T w pb mb cv fv s) : w.cell? ⟨pb, 0, none⟩ = some (.pointer (some ⟨mb, 0, none⟩)) := h.blk.cell 0
theorem PoolIn.c1 {w : World} {pb mb : Nat} {cv fv : Value} {s : PS α} (h : PoolIn T w pb mb cv fv s) : w.cell? ⟨pb, 1, none⟩ = some cv := h.blk.cell 1
theorem PoolIn.c2 {w : World} {pb mb : Nat} {cv fv : Value} {s : PS α} (h : PoolIn T w pb mb cv fv s) : w.cell? ⟨pb, 2, none⟩ = some fv := h.blk.cell 2
theorem PoolIn.c3 {w : World} {pb mb : Nat} {cv fv : Value} {s : PS α} (h : PoolIn T w pb mb cv fv s) : w.cell? ⟨pb, 3, none⟩ = some (.int .i64 s.live) := h.blk.cell 3
theorem PoolIn.c4 {w : World} {pb mb : Nat} {cv fv : Value} {s : PS α} (h : PoolIn T w pb mb cv fv s) : w.cell? ⟨pb, 4, none⟩ = some (.int .i64 s.limit) := h.blk.cell 4
/-- Where the cells lie, if there is one. -/
theorem PoolIn.at_ {w : World} {pb mb : Nat} {cv fv : Value} {s : PS α} (h : PoolIn T w pb mb cv fv s) (hn : 0 < s.cells.length) :
    ∃ g cap, cv = .slice (some ⟨g, 0, none⟩) s.cells.length cap ∧ rb cv = [g] ∧ s.cells.length ≤ cap ∧ cap ≤ 9223372036854775807 ∧ g < w.heap.size ∧ g ≠ pb ∧
      (∀ i j o, s.cells[i]? = some o → j < T.sz + 1 → w.cell? ⟨g, i * (T.sz + 1) + j, none⟩ = (T.cell o)[j]?) ∧ (∀ j, w.frozen? ⟨g, j, none⟩ = false) := by
  obtain ⟨g, cap, hv, h1, h2, h3, h4, h5, h6⟩ := h.cells.at_ hn
  refine ⟨g, cap, hv, h1, h2, h3, h4, ?_, fun i j o hi hj => ?_, h6⟩
  · intro e
    have := h.cells.ty h.blk T.n1
    rw [h1, e] at this; simp at this
  · have hlt : i < s.cells.length := (List.getElem?_eq_some_iff.1 hi).1
    have hb : i * (T.sz + 1) + j < s.cells.length * (T.sz + 1) := by
      have : (i + 1) * (T.sz + 1) ≤ s.cells.length * (T.sz + 1) := Nat.mul_le_mul_right _ hlt
      rw [Nat.add_mul] at this; omega
    rw [h5 _ hb]; unfold PT.row; rw [flat_get T.cell (T.sz + 1) T.cell_len _ _ _ hj, hi]; rfl
end
end Go.Proofs.Ytfioekkegihkoaa

/- What a pool's model holds at a place, behind each of its changes. Plain Lean. -/
namespace Go.Proofs.Ytfioekkegihkoaa
set_option linter.unusedVariables false
set_option linter.unusedSimpArgs false
section
variable {α : Type}
theorem PS.get_nat (s : PS α) (i : Nat) : s.get (i : Int) = (s.cells[i]?).join := by
  have : ¬ ((i : Int) < 0) := by omega
  simp [PS.get, this]
theorem PS.get_neg (s : PS α) {i : Int} (h : i < 0) : s.get i = none := by simp [PS.get, h]
theorem PS.get_put {s : PS α} {i : Nat} (hi : i < s.cells.length) (v : α) (j : Int) : (s.put i v).get j = if j = i then some v else s.get j := by
  by_cases hj : j < 0
  · rw [PS.get_neg _ hj, PS.get_neg _ hj, if_neg (by omega)]
  · obtain ⟨j, rfl⟩ : ∃ q : Nat, j = q := ⟨j.toNat, by omega⟩
    rw [PS.get_nat, PS.get_nat]; simp only [PS.put, List.getElem?_set]
    by_cases h : i = j
    · subst h; simp [hi]
    · rw [if_neg h, if_neg (by omega)]
theorem PS.get_drop {s : PS α} {i : Nat} (hi : i < s.cells.length) (j : Int) : (s.drop i).get j = if j = i then none else s.get j := by
  by_cases hj : j < 0
  · rw [PS.get_neg _ hj, PS.get_neg _ hj, if_neg (by omega)]
  · obtain ⟨j, rfl⟩ : ∃ q : Nat, j = q := ⟨j.toNat, by omega⟩
    rw [PS.get_nat, PS.get_nat]; simp only [PS.drop, List.getElem?_set]
    by_cases h : i = j
    · subst h; simp [hi]
    · rw [if_neg h, if_neg (by omega)]
theorem PS.get_next {s : PS α} (h : s.wf) : s.get (s.nextAt : Int) = none := by
  rw [PS.get_nat]; unfold PS.nextAt
  cases hf : s.free.getLast? with
  | none => simp
  | some i => rw [Option.getD_some, (h.mem i).1 (PS.last_mem hf)]; rfl
theorem PS.get_take {s : PS α} (h : s.wf) (v : α) (j : Int) : (s.take v).get j = if j = s.nextAt then some v else s.get j := by
  by_cases hj : j < 0
  · rw [PS.get_neg _ hj, PS.get_neg _ hj, if_neg (by omega)]
  · obtain ⟨j, rfl⟩ : ∃ q : Nat, j = q := ⟨j.toNat, by omega⟩
    rw [PS.get_nat, PS.get_nat]; unfold PS.take PS.nextAt
    cases hf : s.free.getLast? with
    | none =>
      simp only [Option.getD_none, List.getElem?_append]
      by_cases hl : j < s.cells.length
      · rw [if_pos hl, if_neg (by omega)]
      · rw [if_neg hl]
        by_cases he : j = s.cells.length
        · subst he; simp
        · rw [if_neg (by omega), List.getElem?_eq_none (by simp; omega), List.getElem?_eq_none (by omega)]
    | some i =>
      have hi : i < s.cells.length := (List.getElem?_eq_some_iff.1 ((h.mem i).1 (PS.last_mem hf))).1
      simp only [Option.getD_some, List.getElem?_set]
      by_cases he : i = j
      · subst he; simp [hi]
      · rw [if_neg he, if_neg (by omega)]
theorem PS.get_lt {s : PS α} {i : Int} {v : α} (h : s.get i = some v) : i.toNat < s.cells.length ∧ 0 ≤ i := by
  obtain ⟨h0, h1⟩ := PS.get_some h
  exact ⟨(List.getElem?_eq_some_iff.1 h1).1, h0⟩
end
end Go.Proofs.Ytfioekkegihkoaa
